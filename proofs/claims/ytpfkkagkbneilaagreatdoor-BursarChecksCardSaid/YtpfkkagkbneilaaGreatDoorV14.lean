/- Texts K10, K11, K12, K13 of the proof of BursarChecks, joined. -/
import Derived.Test.YtpfkkagkbneilaaGreatDoorV13
import Derived.Deep.RegionLaw
namespace Go.Proofs.YtpfkkagkbneilaaGreatDoor
open Go.RowKit
set_option linter.unusedVariables false
set_option linter.unusedSimpArgs false
set_option maxRecDepth 100000
set_option maxHeartbeats 25600000
def biCells (cs:Array Value) (p n s:Str) (k:Nat):Array Value:=
 ((((((((cs.setIfInBounds 0 (.int .i64 14)).setIfInBounds 2 (.string (sb p))).setIfInBounds 3 (.string (sb n))).setIfInBounds 19 (.string (sb p))).setIfInBounds 20 (.string (sb n))).setIfInBounds 21 (.string (sb s))).setIfInBounds 22 (.int .i64 0)).setIfInBounds 22 (.int .i64 (k:Int)))
def bindM (cs:Array Value):List Str → Option (Array Value × List Str)
 | p :: n :: s :: v :: r=>(verbS v).map fun k=>(biCells cs p n s k,r)
 | _=>none
theorem verbS_eq (v:Str):verbS v = if v = verbsT.getD 0 [] then some 0 else if v = verbsT.getD 1 [] then some 1 else if v = verbsT.getD 2 [] then some 2 else if v = verbsT.getD 3 [] then some 3 else none:=rfl
theorem verb_hit {v:Str} {i:Nat} (hi:i < 4) (h:v = verbsT.getD i []):verbS v = some i:=by
 subst h
 match i,hi with
 | 0,_=>rfl
 | 1,_=>rfl
 | 2,_=>rfl
 | 3,_=>rfl
theorem verb_no {v:Str} (h:∀ j,j < 4 → v ≠ verbsT.getD j []):verbS v = none:=by
 rw [verbS_eq,if_neg (h 0 (by decide)),if_neg (h 1 (by decide)),if_neg (h 2 (by decide)),if_neg (h 3 (by decide))]
def BdLoop (v:Str) (v30:Value):Prop := ∃ (i:Nat) (k:Int),i ≤ 4 ∧ k = i ∧ v30 = .int .i64 k ∧ (∀ j,j < i → v ≠ verbsT.getD j [])
theorem arr4 (F0 F1 F2 F3:ByteArray) (W:World):(Instr.index 167 (.agg #[.string F0,.string F1,.string F2,.string F3]) (.int .i64 0)).run Tryz.prog W = .ok (.string F0) W ∧ (Instr.index 167 (.agg #[.string F0,.string F1,.string F2,.string F3]) (.int .i64 1)).run Tryz.prog W = .ok (.string F1) W ∧ (Instr.index 167 (.agg #[.string F0,.string F1,.string F2,.string F3]) (.int .i64 2)).run Tryz.prog W = .ok (.string F2) W ∧ (Instr.index 167 (.agg #[.string F0,.string F1,.string F2,.string F3]) (.int .i64 3)).run Tryz.prog W = .ok (.string F3) W:=⟨by kernel_rfl,by kernel_rfl,by kernel_rfl,by kernel_rfl⟩
theorem cell_far (W:World) (i:Nat) (v:Value) {g b o:Nat} (h:b ≠ g ∨ o ≠ i):(W.setCell ⟨g,i,none⟩ v).cell? ⟨b,o,none⟩ = W.cell? ⟨b,o,none⟩:=World.cell?_setCell_other W _ _ v (by intro e;simp only [Addr.mk.injEq] at e;omega)
theorem bind_calls {g gq:Nat} {q:Nat → Prop} {line:Str} {w0:World} (w:World) (G:∀ W,FQ g gq w0 W → Glob W) (l:List Str) (cs:Array Value) (h:RS g gq q line w0 w l cs) (sd:Sd g gq q) :
  Calls Tryz.prog 60 #[.pointer (some ⟨g,0,none⟩),.pointer (some ⟨gq,0,none⟩)] w (MtQ g gq q line w0 (bindM cs l)):=by
 have Hsd:=hIh sd;have HG:=hIh G;obtain ⟨v0,c0, -,f0⟩:=h.cell 0 (by omega);have h1:=h.set sd 0 (.int .i64 14)
 have Hn:Hid (∀ W,W = w.setCell ⟨gq,0,none⟩ (.int .i64 14) → Calls Tryz.prog 55 #[.pointer (some ⟨g,0,none⟩),.pointer (some ⟨gq,0,none⟩)] W (MtQ g gq q line w0 (namedM (cs.setIfInBounds 0 (.int .i64 14)) l))):=fun W hW=>by rw [hW];exact h1.named sd
 clear h h1 sd G;go_enter Tryz.func60,Tryz.ntmps60;go_wp2_with fail
 with_reducible refine (Hn.out _ rfl).mono ?_
 rintro e w3 (⟨x,hx,rfl,hR⟩ | ⟨hx,rfl,hF⟩)
 case inr=>
  have hn:bindM cs l = none:=by
   cases l with
   | nil=>rfl
   | cons p r=>cases r with
    | nil=>rfl
    | cons n r=>cases hx
  have Hp:Hid (MtQ g gq q line w0 (bindM cs l) (.panicked [{ v:=.iface 74 (.agg #[]),recovered:=false }]) w3):=.inr ⟨hn,rfl,hF⟩;clear hn;clear hx hF;go_wp2;exact ⟨rfl,Hp.out⟩
 match l,hx with
 | p :: n :: r,hx=>
 cases hx
 have HR:Hid (RS g gq q line w0 w3 r (((cs.setIfInBounds 0 (.int .i64 14)).setIfInBounds 2 (.string (sb p))).setIfInBounds 3 (.string (sb n)))):=hR;clear hR;generalize hCS:(((cs.setIfInBounds 0 (.int .i64 14)).setIfInBounds 2 (.string (sb p))).setIfInBounds 3 (.string (sb n))) = CS at HR;have HCS:=hIh hCS;obtain ⟨x2,y2,z2, -⟩:=HR.out.cell 2 (by omega);obtain ⟨x3,y3,z3, -⟩:=HR.out.cell 3 (by omega)
 have hsz:cs.size = 29:=by have:=HR.out.sz;rw [← hCS] at this;simpa using this
 have e2:x2 = .string (sb p):=by rw [← hCS] at z2;simp [hsz] at z2;exact z2.symm
 have e3:x3 = .string (sb n):=by rw [← hCS] at z3;simp [hsz] at z3;exact z3.symm
 subst e2 e3;have HRd:=hIh HR.out.drew
 cases r with
 | nil=>
  have Hw:=hIh HRd.out.wordN;have Hp:Hid (MtQ g gq q line w0 (bindM cs [p,n]) (.panicked [{ v:=.iface 74 (.agg #[]),recovered:=false }]) w3.drew):=.inr ⟨rfl,rfl,HRd.out.fr⟩;clear hCS z2 z3 hsz;go_wp2;go_region_dies
  all_goals (with_reducible refine Hw.out.mono ?_;rintro e w8 ⟨rfl,hw8⟩;obtain rfl:=hw8.symm;exact pan_end Hp.out)
 | cons s r=>
  have Hw:=hIh (HRd.out.word Hsd.out)
  have HS:Hid (∀ W l',RS g gq q line w0 W l' CS → W.cell? ⟨gq,2,none⟩ = some (.string (sb p)) ∧ W.cell? ⟨gq,3,none⟩ = some (.string (sb n))):=fun W l' h=>by
   obtain ⟨u2,a2,b2, -⟩:=h.cell 2 (by omega);obtain ⟨u3,a3,b3, -⟩:=h.cell 3 (by omega);rw [z2] at b2;rw [z3] at b3
   cases b2;cases b3
   exact ⟨a2,a3⟩
  have HS5:Hid (∀ (W:World) (v1 v2 v3 v4:Value),W.cell? ⟨gq,2,none⟩ = some (.string (sb p)) ∧ W.cell? ⟨gq,3,none⟩ = some (.string (sb n)) → ((((W.setCell ⟨gq,19,none⟩ v1).setCell ⟨gq,20,none⟩ v2).setCell ⟨gq,21,none⟩ v3).setCell ⟨gq,22,none⟩ v4).cell? ⟨gq,2,none⟩ = some (.string (sb p)) ∧ ((((W.setCell ⟨gq,19,none⟩ v1).setCell ⟨gq,20,none⟩ v2).setCell ⟨gq,21,none⟩ v3).setCell ⟨gq,22,none⟩ v4).cell? ⟨gq,3,none⟩ = some (.string (sb n))):=fun W v1 v2 v3 v4 h=>by
   refine ⟨?_,?_⟩ <;> (rw [cell_far _ 22 _ (.inr (by omega)),cell_far _ 21 _ (.inr (by omega)),cell_far _ 20 _ (.inr (by omega)),cell_far _ 19 _ (.inr (by omega))])
   ·exact h.1
   ·exact h.2
  clear hCS z2 z3 hsz y2 y3;go_wp2
  go_region_held3 (fun W=>W.cell? ⟨gq,2,none⟩ = some (.string (sb p)) ∧ W.cell? ⟨gq,3,none⟩ = some (.string (sb n))) (first | exact HS.out _ _ HRd.out | with_reducible exact HS.out _ _ Hafter.out | exact HS5.out _ _ _ _ _ (HS.out _ _ Hafter.out))
   ((go_at_call 31;with_reducible refine Hw.out.mono ?_;rintro e w4 ⟨rfl,hR4⟩;have Hafter:=hIh hR4;obtain ⟨x19,u19, -,f19⟩:=hR4.cell 19 (by omega);obtain ⟨x20,u20, -,f20⟩:=hR4.cell 20 (by omega);obtain ⟨x21,u21, -,f21⟩:=hR4.cell 21 (by omega);obtain ⟨x22,u22, -,f22⟩:=hR4.cell 22 (by omega);clear hR4))
  have HR6:=hIh ((((Hafter.out.set Hsd.out 19 (.string (sb p))).set Hsd.out 20 (.string (sb n))).set Hsd.out 21 (.string (sb s))).set Hsd.out 22 (.int .i64 0))
  have HCC:Hid (∀ k:Nat,biCells cs p n s k = ((((CS.setIfInBounds 19 (.string (sb p))).setIfInBounds 20 (.string (sb n))).setIfInBounds 21 (.string (sb s))).setIfInBounds 22 (.int .i64 0)).setIfInBounds 22 (.int .i64 (k:Int))):=fun k=>by rw [← HCS.out];rfl
  obtain ⟨W5,hW5⟩ : ∃ W5,W5 = ((((w4.setCell ⟨gq,19,none⟩ (.string (sb p))).setCell ⟨gq,20,none⟩ (.string (sb n))).setCell ⟨gq,21,none⟩ (.string (sb s))).setCell ⟨gq,22,none⟩ (.int .i64 0)):=⟨_,rfl⟩;rw [← hW5] at HR6;have HW5:=hIh hW5;generalize hCT:((((CS.setIfInBounds 19 (.string (sb p))).setIfInBounds 20 (.string (sb n))).setIfInBounds 21 (.string (sb s))).setIfInBounds 22 (.int .i64 0)) = CT at HR6 HCC;rw [← hW5];clear hW5 hCT u19 u20 u21 u22 f19 f20 f21 f22 Hafter HRd Hw HS HS5
  cases r with
  | nil=>
   have Hw:=hIh HR6.out.wordN;have Hp:Hid (MtQ g gq q line w0 (bindM cs [p,n,s]) (.panicked [{ v:=.iface 74 (.agg #[]),recovered:=false }]) W5):=.inr ⟨rfl,rfl,HR6.out.fr⟩;go_wp2_with fail;(with_reducible refine Hw.out.mono ?_);rintro e w8 ⟨rfl,hw8⟩;obtain rfl:=hw8.symm;go_wp2;exact ⟨rfl,Hp.out⟩
  | cons v r=>
   have Hw:=hIh (HR6.out.word Hsd.out);go_wp2_with fail;(with_reducible refine Hw.out.mono ?_);rintro e w6 ⟨rfl,hR6⟩;have HR7:=hIh hR6;have G6:=HG.out w6 hR6.fr;have t0:=G6.vrb 0 (by decide);have t1:=G6.vrb 1 (by decide);have t2:=G6.vrb 2 (by decide);have t3:=G6.vrb 3 (by decide);change w6.cell? ⟨1,0,none⟩ = some (.string (sb (verbsT.getD 0 []))) at t0;change w6.cell? ⟨1,1,none⟩ = some (.string (sb (verbsT.getD 1 []))) at t1;change w6.cell? ⟨1,2,none⟩ = some (.string (sb (verbsT.getD 2 []))) at t2;change w6.cell? ⟨1,3,none⟩ = some (.string (sb (verbsT.getD 3 []))) at t3;have Heq:Hid (∀ j,v = verbsT.getD j [] → ((sb (verbsT.getD j [])).toList == (sb v).toList) = true):=fun j h=>(by rw [h];exact beqT' _);have Hne:Hid (∀ j,v ≠ verbsT.getD j [] → ((sb (verbsT.getD j [])).toList == (sb v).toList) = false):=fun j h=>beqF' (fun e=>h (sb_inj.1 e).symm);have he0:=Heq.out 0;have hn0:=Hne.out 0
   have he1:=Heq.out 1;have hn1:=Hne.out 1;have he2:=Heq.out 2;have hn2:=Hne.out 2;have he3:=Heq.out 3;have hn3:=Hne.out 3;generalize sb (verbsT.getD 0 []) = F0 at t0 he0 hn0;generalize sb (verbsT.getD 1 []) = F1 at t1 he1 hn1;generalize sb (verbsT.getD 2 []) = F2 at t2 he2 hn2;generalize sb (verbsT.getD 3 []) = F3 at t3 he3 hn3;generalize hSV:sb v = SV at he0 hn0 he1 hn1 he2 hn2 he3 hn3;have He0:=hIh he0;have Hn0:=hIh hn0;have He1:=hIh he1;have Hn1:=hIh hn1;have He2:=hIh he2;have Hn2:=hIh hn2;have He3:=hIh he3;have Hn3:=hIh hn3;have Hst:Hid (BdLoop v (.int .i64 0)):=⟨0,0,by omega,rfl,rfl,fun j h=>by omega⟩;clear hR6 G6 hSV he0 hn0 he1 hn1 he2 hn2 he3 hn3 Heq Hne;have ha0:=fun W=>(arr4 F0 F1 F2 F3 W).1;have ha1:=fun W=>(arr4 F0 F1 F2 F3 W).2.1;have ha2:=fun W=>(arr4 F0 F1 F2 F3 W).2.2.1;have ha3:=fun W=>(arr4 F0 F1 F2 F3 W).2.2.2;obtain ⟨x22,u22, -,f22⟩:=HR7.out.cell 22 (by omega)
   go_wp2
   go_loop [30] (fun v30=>BdLoop v v30) (fun i=>4 - (intOf i).toNat)
   case atStart=>exact Hst.out
   case round=>
    clear Hst;obtain ⟨i,k,hi,hk,rfl,hno⟩:=hrel;have Hno:=hIh hno;clear hno;have hcs:i = 0 ∨ i = 1 ∨ i = 2 ∨ i = 3 ∨ i = 4:=(by omega);rcases hcs with rfl | rfl | rfl | rfl | rfl
    ·obtain rfl:k = 0:=hk
     clear hi
     by_cases hv:v = verbsT.getD 0 []
     ·have hb:=He0.out hv
      have Hp:Hid (MtQ g gq q line w0 (bindM cs (p :: n :: s :: v :: r)) (.returned (.tuple #[])) (w6.setCell ⟨gq,22,none⟩ (.int .i64 ((0:Nat):Int)))):=.inl ⟨(biCells cs p n s 0,r),by
       show (verbS v).map _ = _
       rw [verb_hit (by omega) hv];rfl,rfl,by rw [HCC.out];exact HR7.out.set Hsd.out 22 _⟩
      clear hv;go_wp2;go_end0;exact Hp.out
     ·have hb:=Hn0.out hv
      have Hk:Hid (BdLoop v (.int .i64 (0 + 1))):=⟨1,1,by omega,rfl,rfl,fun j h1=>by
       by_cases e:j = 0
       ·subst e;exact hv
       ·exact Hno.out j (by omega)⟩
      clear hv;go_wp2;go_round
      case rel=>exact Hk.out
      case measure=>decide
    ·obtain rfl:k = 1:=hk
     clear hi
     by_cases hv:v = verbsT.getD 1 []
     ·have hb:=He1.out hv
      have Hp:Hid (MtQ g gq q line w0 (bindM cs (p :: n :: s :: v :: r)) (.returned (.tuple #[])) (w6.setCell ⟨gq,22,none⟩ (.int .i64 ((1:Nat):Int)))):=.inl ⟨(biCells cs p n s 1,r),by
       show (verbS v).map _ = _
       rw [verb_hit (by omega) hv];rfl,rfl,by rw [HCC.out];exact HR7.out.set Hsd.out 22 _⟩
      clear hv;go_wp2;go_end0;exact Hp.out
     ·have hb:=Hn1.out hv
      have Hk:Hid (BdLoop v (.int .i64 (1 + 1))):=⟨2,2,by omega,rfl,rfl,fun j h1=>by
       by_cases e:j = 1
       ·subst e;exact hv
       ·exact Hno.out j (by omega)⟩
      clear hv;go_wp2;go_round
      case rel=>exact Hk.out
      case measure=>decide
    ·obtain rfl:k = 2:=hk
     clear hi
     by_cases hv:v = verbsT.getD 2 []
     ·have hb:=He2.out hv
      have Hp:Hid (MtQ g gq q line w0 (bindM cs (p :: n :: s :: v :: r)) (.returned (.tuple #[])) (w6.setCell ⟨gq,22,none⟩ (.int .i64 ((2:Nat):Int)))):=.inl ⟨(biCells cs p n s 2,r),by
       show (verbS v).map _ = _
       rw [verb_hit (by omega) hv];rfl,rfl,by rw [HCC.out];exact HR7.out.set Hsd.out 22 _⟩
      clear hv;go_wp2;go_end0;exact Hp.out
     ·have hb:=Hn2.out hv
      have Hk:Hid (BdLoop v (.int .i64 (2 + 1))):=⟨3,3,by omega,rfl,rfl,fun j h1=>by
       by_cases e:j = 2
       ·subst e;exact hv
       ·exact Hno.out j (by omega)⟩
      clear hv;go_wp2;go_round
      case rel=>exact Hk.out
      case measure=>decide
    ·obtain rfl:k = 3:=hk
     clear hi
     by_cases hv:v = verbsT.getD 3 []
     ·have hb:=He3.out hv
      have Hp:Hid (MtQ g gq q line w0 (bindM cs (p :: n :: s :: v :: r)) (.returned (.tuple #[])) (w6.setCell ⟨gq,22,none⟩ (.int .i64 ((3:Nat):Int)))):=.inl ⟨(biCells cs p n s 3,r),by
       show (verbS v).map _ = _
       rw [verb_hit (by omega) hv];rfl,rfl,by rw [HCC.out];exact HR7.out.set Hsd.out 22 _⟩
      clear hv;go_wp2;go_end0;exact Hp.out
     ·have hb:=Hn3.out hv
      have Hk:Hid (BdLoop v (.int .i64 (3 + 1))):=⟨4,4,by omega,rfl,rfl,fun j h1=>by
       by_cases e:j = 3
       ·subst e;exact hv
       ·exact Hno.out j (by omega)⟩
      clear hv;go_wp2;go_round
      case rel=>exact Hk.out
      case measure=>decide
    ·obtain rfl:k = 4:=hk
     have Hp:Hid (MtQ g gq q line w0 (bindM cs (p :: n :: s :: v :: r)) (.panicked [{ v:=.iface 74 (.agg #[]),recovered:=false }]) w6):=.inr ⟨by
      show (verbS v).map _ = _
      rw [verb_no (fun j hj=>Hno.out j hj)];rfl,rfl,HR7.out.fr⟩
     clear hi;go_wp2_with (go_at_call 29;with_reducible refine (needF_calls _ _).mono ?_;rintro e wz ⟨rfl,hwz⟩;obtain rfl:=hwz.symm);exact ⟨rfl,Hp.out⟩
section
variable {g gq:Nat} {q:Nat → Prop} {line:Str} {w0 w w1:World} {l r:List Str} {cs:Array Value}
theorem RS.away (h:RS g gq q line w0 w l cs) {S:Nat → Prop} (hf:Fr S w w1) (hS:∀ k,S k → q k ∧ k ≠ g ∧ k ≠ gq ∧ w0.heap.size ≤ k):RS g gq q line w0 w1 l cs:=by
 obtain ⟨⟨v,h1,h2,h3⟩,h4,h5,h6⟩:=h;exact ⟨⟨v,hf.blk h1 (fun e=>(hS g e).2.1 rfl),RdS.keep strC_len (by decide) h2 hf (fun hl k hk e=>(h3 hl k hk).2 (hS k e).1),h3⟩,hf.blk h4 (fun e=>(hS gq e).2.2.1 rfl),h5,h6.trans hf (fun k hk=>.inr (hS k hk).2.2.2) (fun _ _ e=>(hS gq e).2.2.1 rfl)⟩
theorem RS.more (h:RS g gq q line w0 w l cs):RS g gq (fun k=>q k ∨ w.heap.size ≤ k) line w0 w l cs:=⟨h.rd.more,h.rq,h.sz,h.fr⟩
theorem RS.mono {q' : Nat → Prop} (h:RS g gq q line w0 w l cs) (hq:∀ k,q' k → q k):RS g gq q' line w0 w l cs:=⟨h.rd.mono hq,h.rq,h.sz,h.fr⟩
theorem Sd.more (sd:Sd g gq q) {n:Nat} (h:g < n):Sd g gq (fun k=>q k ∨ n ≤ k):=⟨sd.ne,.inl sd.hq,fun e=>e.elim sd.hg (fun e=>by omega)⟩
theorem RS.glt (h:RS g gq q line w0 w l cs):g < w.heap.size:=h.rd.lt
theorem RS.qlt (h:RS g gq q line w0 w l cs):gq < w.heap.size:=blk_lt h.rq
theorem RS.isTL {t:Str} (h:RS g gq q line w0 w (t :: r) cs) (sd:Sd g gq q) (S:ByteArray) (hS:sb t = S):Calls Tryz.prog 96 #[.pointer (some ⟨g,0,none⟩),.string S] w fun e w'=>e = .returned (.bool true) ∧ RS g gq q line w0 w' r cs ∧ Fr (fun k=>k = g) w w':=by
 rw [← hS];refine (isT_calls w t r h.rd).mono ?_;rintro e w' ⟨h1,h2,h3⟩;exact ⟨h1,h.go sd h2 h3,h3⟩
theorem RS.wordL {t:Str} (h:RS g gq q line w0 w (t :: r) cs) (sd:Sd g gq q):Calls Tryz.prog 31 #[.pointer (some ⟨g,0,none⟩)] w fun e w'=>e = .returned (.string (sb t)) ∧ RS g gq q line w0 w' r cs ∧ Fr (fun k=>k = g) w w':=by
 refine (wordC_calls w t r h.rd).mono ?_;rintro e w' ⟨h1,h2,h3⟩;exact ⟨h1,h.go sd h2 h3,h3⟩
theorem RS.optN (h:RS g gq q line w0 w l cs) (sd:Sd g gq q) (n:Str) (hn:n.length ≤ 100) (ho:(optS n l).1 = none):Calls Tryz.prog 99 #[.pointer (some ⟨g,0,none⟩),.string (sb n)] w fun e w' => ∃ x:ByteArray,e = .returned (.tuple #[.string x,.bool false]) ∧ RS g gq q line w0 w' (optS n l).2 cs ∧ Fr (fun k=>k = g) w w':=by
 refine (option_calls w n l h.rd hn).mono ?_;rintro e w' ⟨x,h1,h2,h3,h4⟩;rw [ho] at h1;exact ⟨x,h1,h.go sd h3 h4,h4⟩
theorem RS.optY (h:RS g gq q line w0 w l cs) (sd:Sd g gq q) (n:Str) (hn:n.length ≤ 100) {v:Str} (ho:(optS n l).1 = some v):Calls Tryz.prog 99 #[.pointer (some ⟨g,0,none⟩),.string (sb n)] w fun e w'=>e = .returned (.tuple #[.string (sb v),.bool true]) ∧ RS g gq q line w0 w' (optS n l).2 cs ∧ Fr (fun k=>k = g) w w':=by
 refine (option_calls w n l h.rd hn).mono ?_;rintro e w' ⟨x,h1,h2,h3,h4⟩;rw [ho,h2 v ho] at h1;exact ⟨h1,h.go sd h3 h4,h4⟩
theorem RS.rebase {w2:World} (h:RS g gq q line w0 w l cs) (hf:FQ g gq w2 w0):RS g gq q line w2 w l cs:=⟨h.rd,h.rq,h.sz,hf.then h.fr⟩
theorem RS.base (h:RS g gq q line w0 w l cs):RS g gq q line w w l cs:=⟨h.rd,h.rq,h.sz,FQ.refl h.rq h.sz h.fr.ne⟩
theorem RS.isNoL (h:RS g gq q line w0 w l cs) (s:Str) (hs:l.head? ≠ some s) (S:ByteArray) (hS:sb s = S):Calls Tryz.prog 96 #[.pointer (some ⟨g,0,none⟩),.string S] w fun e w'=>e = .returned (.bool false) ∧ w' = w:=by rw [← hS];exact h.isNo s hs
end
theorem alloc_size (w:World) (o:Obj):(w.alloc o).heap.size = w.heap.size + 1:=by show (w.heap.push o).size = _;simp
theorem blk_new2 (w:World) (o o2:Obj):((w.alloc o).alloc o2).heap[w.heap.size + 1]? = some o2:=by rw [← alloc_size w o];exact blk_new _ _
theorem quantityT (w:World) (G:Glob w) (p:Value) (s:Str) (hs:s.length ≤ 1048576) {x:Nat} (hq:qparse s = some x):Calls Tryz.prog 100 #[p,.string (sb s)] w fun e w'=>e = .returned (.int .i64 (x:Int)) ∧ Below w.heap.size w w':=by
 refine (quantity_calls w G p s hs).mono ?_;rintro e w' ⟨⟨v,h1,h2⟩ | ⟨h1,h2⟩,h3⟩
 ·rw [hq] at h1;cases h1;exact ⟨h2,h3⟩
 ·rw [hq] at h1;cases h1
theorem quantityF (w:World) (G:Glob w) (p:Value) (s:Str) (hs:s.length ≤ 1048576) (hq:qparse s = none):Calls Tryz.prog 100 #[p,.string (sb s)] w fun e w'=>e = (.panicked [{ v:=.iface 74 (.agg #[]),recovered:=false }]) ∧ Below w.heap.size w w':=by
 refine (quantity_calls w G p s hs).mono ?_;rintro e w' ⟨⟨v,h1,h2⟩ | ⟨h1,h2⟩,h3⟩
 ·rw [hq] at h1;cases h1
 ·exact ⟨h2,h3⟩
theorem cutPre_sub {n t v:Str} (h:cutPre n t = some v):v.length ≤ t.length:=cutPre_len h
theorem optS_sub (n:Str) (l:List Str):(∀ t ∈ (optS n l).2,t ∈ l) ∧ ∀ v,(optS n l).1 = some v → ∃ t ∈ l,v.length ≤ t.length:=by
 cases l with
 | nil=>simp [optS]
 | cons t r=>
  simp only [optS]
  cases h:cutPre (n ++ [61]) t with
  | none=>simp
  | some v=>
   refine ⟨fun u hu=>List.mem_cons_of_mem _ hu,fun u hu=>?_⟩
   cases hu
   exact ⟨t,by simp,cutPre_sub h⟩
theorem setS_no {n:Str} {l:List Str} (h:(optS n l).1 = none):setS n l = some (-1,(optS n l).2):=by
 unfold setS
 cases ho:optS n l with
 | mk a b=>rw [ho] at h;cases h;rfl
theorem setS_yes {n v:Str} {l:List Str} (h:(optS n l).1 = some v):setS n l = (qparse v).map fun (x:Nat)=>((x:Int),(optS n l).2):=by
 unfold setS
 cases ho:optS n l with
 | mk a b=>rw [ho] at h;cases h;rfl
def ruN:List Str := [[109,105,110], [109,97,120], [100,101,102,97,117,108,116], [114,101,113,117,101,115,116], [114,97,116,105,111]]
def upd (f:Nat → Int) (i:Nat) (x:Int):Nat → Int:=fun j=>if j = i then x else f j
def setsS (res:Str):Nat → List Str → (Nat → Int) → List Str → Option (Rl × List Str)
 | _, [],f,l=>some (⟨res,f 0,f 1,f 2,f 3,f 4⟩,l)
 | i,n :: ns,f,l=>(setS n l).bind fun a=>setsS res (i + 1) ns (upd f i a.1) a.2
theorem setsS_rule (res:Str) (f:Nat → Int) (l:List Str):setsS res 0 ruN f l = ruleS res l:=by
 unfold ruleS;simp only [ruN,setsS]
 cases setS [109,105,110] l with
 | none=>rfl
 | some a=>
  simp only [Option.bind_some]
  cases setS [109,97,120] a.2 with
  | none=>rfl
  | some b=>
   simp only [Option.bind_some]
   cases setS [100,101,102,97,117,108,116] b.2 with
   | none=>rfl
   | some c=>
    simp only [Option.bind_some]
    cases setS [114,101,113,117,101,115,116] c.2 with
    | none=>rfl
    | some d=>
     simp only [Option.bind_some]
     cases setS [114,97,116,105,111] d.2 with
     | none=>rfl
     | some e=>rfl
def ruCells (res:Str) (f:Nat → Int):Array Value := #[.string (sb res),.int .i64 (f 0),.int .i64 (f 1),.int .i64 (f 2),.int .i64 (f 3),.int .i64 (f 4)]
theorem ruCells_set (res:Str) (f:Nat → Int) (x:Int) {i:Nat} (hi:i < 5):(ruCells res f).setIfInBounds (i + 1) (.int .i64 x) = ruCells res (upd f i x):=by
 match i,hi with
 | 0,_=>rfl
 | 1,_=>rfl
 | 2,_=>rfl
 | 3,_=>rfl
 | 4,_=>rfl
def arCells (ub:Nat):Array Value := #[.string (ByteArray.mk #[109,105,110]),.pointer (some ⟨ub,1,none⟩),.string (ByteArray.mk #[109,97,120]),.pointer (some ⟨ub,2,none⟩),.string (ByteArray.mk #[100,101,102,97,117,108,116]),.pointer (some ⟨ub,3,none⟩),
 .string (ByteArray.mk #[114,101,113,117,101,115,116]),.pointer (some ⟨ub,4,none⟩),.string (ByteArray.mk #[114,97,116,105,111]),.pointer (some ⟨ub,5,none⟩)]
theorem ar_cell {w:World} {ab ub:Nat} {T:TypeId} (h:w.heap[ab]? = some (.cells (arCells ub) T (0,0))) {i:Nat} (hi:i < 5):w.cell? ⟨ab,i * 2,none⟩ = some (.string (sb (ruN.getD i []))) ∧ w.cell? ⟨ab,i * 2 + 1,none⟩ = some (.pointer (some ⟨ub,i + 1,none⟩)):=by
 match i,hi with
 | 0,_=>exact ⟨(cellsN (i:=0) h (show _ < 10 by decide)).1,(cellsN (i:=1) h (show _ < 10 by decide)).1⟩
 | 1,_=>exact ⟨(cellsN (i:=2) h (show _ < 10 by decide)).1,(cellsN (i:=3) h (show _ < 10 by decide)).1⟩
 | 2,_=>exact ⟨(cellsN (i:=4) h (show _ < 10 by decide)).1,(cellsN (i:=5) h (show _ < 10 by decide)).1⟩
 | 3,_=>exact ⟨(cellsN (i:=6) h (show _ < 10 by decide)).1,(cellsN (i:=7) h (show _ < 10 by decide)).1⟩
 | 4,_=>exact ⟨(cellsN (i:=8) h (show _ < 10 by decide)).1,(cellsN (i:=9) h (show _ < 10 by decide)).1⟩
structure RuW (g gq:Nat) (q:Nat → Prop) (line:Str) (w0 W8:World) (cs:Array Value) (n:Str) (r:List Str) (ub ab:Nat) (i:Nat) (f:Nat → Int) (l3:List Str) (wr:World):Prop where
 eq:ruleS n r = setsS n i (ruN.drop i) f l3
 rs:RS g gq q line w0 wr l3 cs
 ublk:wr.heap[ub]? = some (.cells (ruCells n f) 56 (0,0))
 ablk:wr.heap[ab]? = some (.cells (arCells ub) 161 (0,0))
 fr:Fr (fun k=>k = g ∨ k = ub) W8 wr
 sub:∀ t ∈ l3,t ∈ r
 len:l3.length ≤ r.length
def RuLoop (g gq:Nat) (q:Nat → Prop) (line:Str) (w0 W8:World) (cs:Array Value) (n:Str) (r:List Str) (ub ab:Nat) (v:Value) (wr:World):Prop := ∃ (i:Nat) (f:Nat → Int) (l3:List Str),v = .int .i64 i ∧ i ≤ 5 ∧ RuW g gq q line w0 W8 cs n r ub ab i f l3 wr
theorem ruN_drop {i:Nat} (hi:i < 5):ruN.drop i = ruN.getD i [] :: ruN.drop (i + 1):=by
 match i,hi with
 | 0,_=>rfl
 | 1,_=>rfl
 | 2,_=>rfl
 | 3,_=>rfl
 | 4,_=>rfl
theorem ruN_small {i:Nat} (hi:i < 5):(ruN.getD i []).length ≤ 100:=by
 match i,hi with
 | 0,_=>decide
 | 1,_=>decide
 | 2,_=>decide
 | 3,_=>decide
 | 4,_=>decide
section
variable {g gq:Nat} {q:Nat → Prop} {line:Str} {w0 W8 wr w' : World} {cs:Array Value} {n:Str} {r:List Str} {ub ab i:Nat} {f:Nat → Int} {l3 l4:List Str}
theorem RuW.next (h:RuW g gq q line w0 W8 cs n r ub ab i f l3 wr) (hi:i < 5) {x:Int} (hset:setS (ruN.getD i []) l3 = some (x,l4)) (hsub:∀ t ∈ l4,t ∈ l3) (hrs:RS g gq q line w0 w' l4 cs) (hub:w'.heap[ub]? = some (.cells (ruCells n (upd f i x)) 56 (0,0))) (hF:Fr (fun k=>k = g ∨ k = ub) wr w') (ha:ab ≠ g ∧ ab ≠ ub) :
  RuW g gq q line w0 W8 cs n r ub ab (i + 1) (upd f i x) l4 w':=by
 refine ⟨?_,hrs,hub,hF.blk h.ablk (fun e=>e.elim ha.1 ha.2),h.fr.trans hF (fun k hk=>.inl hk),fun t ht=>h.sub t (hsub t ht),Nat.le_trans (setS_len hset) h.len⟩;rw [h.eq,ruN_drop hi];show (setS _ _).bind _ = _;rw [hset];rfl
theorem RuW.bad (h:RuW g gq q line w0 W8 cs n r ub ab i f l3 wr) (hi:i < 5) (hset:setS (ruN.getD i []) l3 = none):ruleS n r = none:=by
 rw [h.eq,ruN_drop hi];show (setS _ _).bind _ = _;rw [hset];rfl
theorem RuW.done (h:RuW g gq q line w0 W8 cs n r ub ab 5 f l3 wr):ruleS n r = some (⟨n,f 0,f 1,f 2,f 3,f 4⟩,l3):=h.eq
end
def ruC (u:Rl):List Value := [.string (sb u.res),.int .i64 u.mn,.int .i64 u.mx,.int .i64 u.df,.int .i64 u.rq,.int .i64 u.rt]
theorem ruC_len (u:Rl):(ruC u).length = 6:=rfl
theorem infoRu:(Tryz.prog.info? 56).map (fun i=>(i.zero,i.size,i.bytes)) = some (some (.agg #[.string ⟨#[]⟩,.int .i64 0,.int .i64 0,.int .i64 0,.int .i64 0,.int .i64 0]),6,56):=by kernel_rfl
theorem rd_ru (w:World) (t:TypeId) (u:Rl):Rd (w.alloc (.cells #[.string (sb u.res),.int .i64 u.mn,.int .i64 u.mx,.int .i64 u.df,.int .i64 u.rq,.int .i64 u.rt] t)) 6 (.slice (some ⟨w.heap.size,0,none⟩) 1 1) 1 ([u].flatMap ruC):=by
 refine ⟨rfl,_,_,rfl,Nat.le_refl _,(fun h=>by cases h),fun ad hA j u hu=>?_⟩
 cases hA
 match j,hu with
 | 0,hu=>cases hu;rw [show (⟨w.heap.size,0,none⟩ : Addr).add 0 = ⟨w.heap.size,0,none⟩ from rfl];simp only [World.cell?,blk_new];rfl
 | 1,hu=>cases hu;rw [show (⟨w.heap.size,0,none⟩ : Addr).add 1 = ⟨w.heap.size,1,none⟩ from rfl];simp only [World.cell?,blk_new];rfl
 | 2,hu=>cases hu;rw [show (⟨w.heap.size,0,none⟩ : Addr).add 2 = ⟨w.heap.size,2,none⟩ from rfl];simp only [World.cell?,blk_new];rfl
 | 3,hu=>cases hu;rw [show (⟨w.heap.size,0,none⟩ : Addr).add 3 = ⟨w.heap.size,3,none⟩ from rfl];simp only [World.cell?,blk_new];rfl
 | 4,hu=>cases hu;rw [show (⟨w.heap.size,0,none⟩ : Addr).add 4 = ⟨w.heap.size,4,none⟩ from rfl];simp only [World.cell?,blk_new];rfl
 | 5,hu=>cases hu;rw [show (⟨w.heap.size,0,none⟩ : Addr).add 5 = ⟨w.heap.size,5,none⟩ from rfl];simp only [World.cell?,blk_new];rfl
theorem ru_one (u:Rl):∀ x ∈ [u].flatMap ruC,x.oneCell' = true:=by
 intro x hx
 have hx2:x ∈ ruC u:=by simpa using hx
 simp only [ruC,List.mem_cons,List.not_mem_nil,or_false] at hx2;rcases hx2 with rfl | rfl | rfl | rfl | rfl | rfl <;> rfl
structure GrW {α : Type} (E:TypeId) (size:Nat) (f : α → List Value) (B:Nat) (w:World) (v:Value) (done:List α):Prop where
 own:w.ownsRow 0 E size v done.length (done.flatMap f)
 new:∀ k,v.ownBlock = some k → B ≤ k
section
variable {α : Type} {E:TypeId} {size:Nat} {f : α → List Value} {B:Nat} {w w1:World} {v v' : Value} {done:List α}
theorem GrW.nil (E:TypeId) (size:Nat) (f : α → List Value) (B:Nat) (w:World):GrW E size f B w (.slice none 0 0) []:=⟨World.ownsRow_nil _ _ _ _,fun k hk=>by cases hk⟩
theorem GrW.fr (h:GrW E size f B w v done) {S:Nat → Prop} (hf:Fr S w w1) (hS:∀ k,B ≤ k → k < w.heap.size → v.ownBlock = some k → ¬ S k):GrW E size f B w1 v done:=
 ⟨hf.owns h.own (fun k hk=>hS k (h.new k hk) (h.own.lt k hk).2 hk),h.new⟩
theorem GrW.below (h:GrW E size f B w v done) (hb:Below w.heap.size w w1):GrW E size f B w1 v done:=⟨own_below h.own hb,h.new⟩
theorem GrW.next (h:GrW E size f B w v done) {x : α} {ob:Obj} (hB:B ≤ w.heap.size) (ho:w1.ownsRow 0 E size v' (done.length + 1) (done.flatMap f ++ [x].flatMap f)) (hn:∀ k,v'.ownBlock = some k → v.ownBlock = some k ∨ w.heap.size + 1 ≤ k):GrW E size f B w1 v' (done ++ [x]):=
 ⟨by rw [List.length_append,flat_app];exact ho,fun k hk=>(hn k hk).elim (h.new k) (fun e=>by omega)⟩
theorem GrW.rd (h:GrW E size f B w v done):RdS f size w v done:=RdS.of_own h.own
end
theorem drew_cell (W:World) (a:Addr):W.drew.cell? a = W.cell? a:=rfl
theorem rulesS_nil:rulesS [] = some ([], []):=by unfold rulesS;rfl
theorem rulesS_stop {l:List Str} (h:l.head? ≠ some wRule):rulesS l = some ([],l):=by
 cases l with
 | nil=>exact rulesS_nil
 | cons t l=>
  have ht:¬ t = wRule:=fun e=>h (by rw [e];rfl);unfold rulesS;simp only [ht,if_false]
theorem rulesS_one:rulesS [wRule] = none:=by unfold rulesS;rfl
theorem rulesS_bad {n:Str} {r:List Str} (h:ruleS n r = none):rulesS (wRule :: n :: r) = none:=by
 unfold rulesS;simp only [if_true]
 split
 ·rfl
 ·rename_i h2;rw [h] at h2;cases h2
theorem rulesS_go {n:Str} {r r' : List Str} {u:Rl} (h:ruleS n r = some (u,r')):rulesS (wRule :: n :: r) = (rulesS r').map fun x=>(u :: x.1,x.2):=by
 conv=>lhs;unfold rulesS
 simp only [if_true]
 split
 ·rename_i h2;rw [h] at h2;cases h2
 ·rename_i h2;rw [h] at h2;cases h2;rfl
def liBase (cs:Array Value) (p n:Str):Array Value:=((((cs.setIfInBounds 0 (.int .i64 5)).setIfInBounds 2 (.string (sb p))).setIfInBounds 3 (.string (sb n))).setIfInBounds 16 (.string (sb p))).setIfInBounds 17 (.string (sb n))
def LiP (g gq:Nat) (q:Nat → Prop) (line:Str) (w0:World) (cs:Array Value) (l:List Str) (e:Ending) (w' : World):Prop:=
 (∃ p n r x hv,l = wSet :: p :: n :: r ∧ rulesS r = some x ∧ e = .returned (.tuple #[]) ∧ RS g gq q line w0 w' x.2 ((liBase cs p n).setIfInBounds 18 hv) ∧ RdS ruC 6 w' hv x.1 ∧ (∀ k,hv.ownBlock = some k → w0.heap.size ≤ k)) ∨
 (l.head? = some wDrop ∧ ∃ x,namedM (cs.setIfInBounds 0 (.int .i64 6)) l.tail = some x ∧ e = .returned (.tuple #[]) ∧ RS g gq q line w0 w' x.2 x.1) ∨
 (limitD l = none ∧ e = (.panicked [{ v:=.iface 74 (.agg #[]),recovered:=false }]) ∧ FQ g gq w0 w')
def liSet:List Str → Option ReqD
 | p :: n :: r=>(rulesS r).bind fun x=>ended { ReqD.zero with op:=5,path:=p,name:=n,lim:=⟨p,n,x.1⟩ } x.2
 | _=>none
theorem limitD_set (r:List Str):limitD (wSet :: r) = liSet r:=by
 have h:¬ wSet = wDrop:=by decide
 cases r with
 | nil=>simp [limitD,liSet,h]
 | cons p r=>cases r with
  | nil=>simp [limitD,liSet,h]
  | cons n r=>simp [limitD,liSet,h]
structure LiW (g gq:Nat) (q:Nat → Prop) (line:Str) (w0:World) (B:Nat) (base:Array Value) (o:Option (List Rl × List Str)) (v:Value) (wr:World) (done:List Rl) (l:List Str):Prop where
 eq:o = (rulesS l).map fun x=>(done ++ x.1,x.2)
 rs:RS g gq (fun k=>q k ∨ B ≤ k) line w0 wr l (base.setIfInBounds 18 v)
 row:GrW 56 6 ruC B wr v done
 small:∀ t ∈ l,t.length ≤ 1048576
 num:done.length + l.length ≤ 1048577
def LiLoop (g gq:Nat) (q:Nat → Prop) (line:Str) (w0:World) (B:Nat) (base:Array Value) (o:Option (List Rl × List Str)) (wr:World):Prop := ∃ v done l,LiW g gq q line w0 B base o v wr done l
theorem LiW.next {g gq:Nat} {q:Nat → Prop} {line:Str} {w0 wr w' : World} {B:Nat} {base:Array Value} {o:Option (List Rl × List Str)} {v v' : Value} {done:List Rl} {n:Str} {r l3:List Str} {u:Rl} (h:LiW g gq q line w0 B base o v wr done (wRule :: n :: r)) (hr:ruleS n r = some (u,l3)) (hsub:∀ t ∈ l3,t ∈ r) (hlen:l3.length ≤ r.length)
  (hrs:RS g gq (fun k=>q k ∨ B ≤ k) line w0 w' l3 (base.setIfInBounds 18 v')) (hrow:GrW 56 6 ruC B w' v' (done ++ [u])):LiW g gq q line w0 B base o v' w' (done ++ [u]) l3:=by
 refine ⟨?_,hrs,hrow,fun t ht=>h.small t (List.mem_cons_of_mem _ (List.mem_cons_of_mem _ (hsub t ht))),?_⟩
 ·rw [h.eq,rulesS_go hr,Option.map_map]
  congr 1
  funext y
  simp
 ·have:=h.num
  simp only [List.length_append,List.length_cons,List.length_nil] at this ⊢;omega
theorem limit_calls {g gq:Nat} {q:Nat → Prop} {line:Str} {w0:World} (w:World) (G:∀ W,FQ g gq w0 W → Glob W) (l:List Str) (cs:Array Value) (h:RS g gq q line w0 w l cs) (sd:Sd g gq q) (hsm:∀ t ∈ l,t.length ≤ 1048576) (hln:l.length ≤ 1048577) :
  Calls Tryz.prog 48 #[.pointer (some ⟨g,0,none⟩),.pointer (some ⟨gq,0,none⟩)] w (LiP g gq q line w0 cs l):=by
 have Hsd:=hIh sd;have HG:=hIh G
 by_cases hd:l.head? = some wDrop
 ·obtain ⟨r,rfl⟩ : ∃ r,l = wDrop :: r:=by cases l with
   | nil=>cases hd
   | cons t r=>exact ⟨r,by cases hd;rfl⟩
  have His:Hid (Calls Tryz.prog 96 #[.pointer (some ⟨g,0,none⟩),.string (ByteArray.mk #[100,114,111,112])] w fun e w'=>e = .returned (.bool true) ∧ RS g gq q line w0 w' r cs):=h.isT sd
  have Hpost:Hid (∀ e W,MtQ g gq q line w0 (namedM (cs.setIfInBounds 0 (.int .i64 6)) r) e W → LiP g gq q line w0 cs (wDrop :: r) e W):=fun e W hm=>by
   rcases hm with ⟨x,h1,h2,h3⟩ | ⟨h1,h2,h3⟩
   ·exact .inr (.inl ⟨rfl,x,h1,h2,h3⟩)
   ·refine .inr (.inr ⟨?_,h2,h3⟩)
    have e2:limitD (wDrop :: r) = namedD 6 r:=(by simp [limitD]);rw [e2]
    cases r with
    | nil=>rfl
    | cons p r=>cases r with
     | nil=>rfl
     | cons n r=>cases h1
  clear h sd G hd hsm hln;go_enter Tryz.func48,Tryz.ntmps48;go_wp2_with fail
  with_reducible refine His.out.mono ?_
  rintro e w2 ⟨rfl,hR⟩;obtain ⟨v0,c0, -,f0⟩:=hR.cell 0 (by omega);have h1:=hR.set Hsd.out 0 (.int .i64 6)
  have Hn:Hid (∀ W,W = w2.setCell ⟨gq,0,none⟩ (.int .i64 6) → Calls Tryz.prog 55 #[.pointer (some ⟨g,0,none⟩),.pointer (some ⟨gq,0,none⟩)] W (MtQ g gq q line w0 (namedM (cs.setIfInBounds 0 (.int .i64 6)) r))):=fun W hW=>by rw [hW];exact h1.named Hsd.out
  clear hR h1;go_wp2_with fail
  with_reducible refine (Hn.out _ rfl).mono ?_
  rintro e w3 hm;have Hp:=hIh (Hpost.out e w3 hm);rcases hm with ⟨x,hx,rfl,hR⟩ | ⟨hx,rfl,hF⟩
  ·clear hx hR
   go_wp2;refine bodyPost_ret (v:=.tuple #[]) (by simp [results,go_sem]) rfl ?_;exact Hp.out
  ·clear hx hF
   go_wp2;exact ⟨rfl,Hp.out⟩
 have Hnd:Hid (Calls Tryz.prog 96 #[.pointer (some ⟨g,0,none⟩),.string (ByteArray.mk #[100,114,111,112])] w fun e w'=>e = .returned (.bool false) ∧ w' = w):=h.isNo wDrop hd
 by_cases ha:l.head? = some wSet
 case neg=>
  have Hns:Hid (Calls Tryz.prog 96 #[.pointer (some ⟨g,0,none⟩),.string (ByteArray.mk #[115,101,116])] w fun e w'=>e = .returned (.bool false) ∧ w' = w):=h.isNo wSet ha
  have Hp:Hid (LiP g gq q line w0 cs l (.panicked [{ v:=.iface 74 (.agg #[]),recovered:=false }]) w):=.inr (.inr ⟨by
   cases l with
   | nil=>rfl
   | cons t r=>
    unfold limitD;simp only
    rw [if_neg (fun e=>hd (by rw [e];rfl)),if_neg (fun e=>ha (by rw [e];rfl))],rfl,h.fr⟩)
  clear h sd G hd ha hsm hln;go_enter Tryz.func48,Tryz.ntmps48;go_wp2_with fail
  with_reducible refine Hnd.out.mono ?_
  rintro e wx ⟨rfl,hwx⟩;obtain rfl:=hwx.symm;go_wp2_with fail
  with_reducible refine Hns.out.mono ?_
  rintro e wy ⟨rfl,hwy⟩;obtain rfl:=hwy.symm;go_wp2_with (go_at_call 29;with_reducible refine (needF_calls _ _).mono ?_;rintro e wz ⟨rfl,hwz⟩;obtain rfl:=hwz.symm);exact ⟨rfl,Hp.out⟩
 obtain ⟨r,rfl⟩ : ∃ r,l = wSet :: r:=by cases l with
  | nil=>cases ha
  | cons t r=>exact ⟨r,by cases ha;rfl⟩
 have hqd:=limitD_set r;have Hqd:=hIh hqd;have His:Hid (Calls Tryz.prog 96 #[.pointer (some ⟨g,0,none⟩),.string (ByteArray.mk #[115,101,116])] w fun e w'=>e = .returned (.bool true) ∧ RS g gq q line w0 w' r cs):=h.isT sd;have Hsm:Hid (∀ t ∈ r,t.length ≤ 1048576):=fun t ht=>hsm t (List.mem_cons_of_mem _ ht)
 have Hln:Hid (r.length ≤ 1048577):=by show _ ≤ _;simp only [List.length_cons] at hln;omega
 clear h sd G hd ha hqd hsm hln;go_enter Tryz.func48,Tryz.ntmps48;go_wp2_with fail
 with_reducible refine Hnd.out.mono ?_
 rintro e wx ⟨rfl,hwx⟩;obtain rfl:=hwx.symm;go_wp2_with fail
 with_reducible refine His.out.mono ?_
 rintro e w2 ⟨rfl,hR⟩;obtain ⟨v0,c0, -,f0⟩:=hR.cell 0 (by omega);have h1:=hR.set Hsd.out 0 (.int .i64 5)
 have Hn:Hid (∀ W,W = w2.setCell ⟨gq,0,none⟩ (.int .i64 5) → Calls Tryz.prog 55 #[.pointer (some ⟨g,0,none⟩),.pointer (some ⟨gq,0,none⟩)] W (MtQ g gq q line w0 (namedM (cs.setIfInBounds 0 (.int .i64 5)) r))):=fun W hW=>by rw [hW];exact h1.named Hsd.out
 clear hR h1;go_wp2_with (go_at_call 29;with_reducible refine (needT_calls _ _).mono ?_;rintro e wz ⟨rfl,hwz⟩;obtain rfl:=hwz.symm)
 with_reducible refine (Hn.out _ rfl).mono ?_
 rintro e w3 (⟨x,hx,rfl,hR⟩ | ⟨hx,rfl,hF⟩)
 case inr=>
  have e5:limitD (wSet :: r) = none:=by
   rw [Hqd.out]
   cases r with
   | nil=>rfl
   | cons p r=>cases r with
    | nil=>rfl
    | cons n r=>cases hx
  have Hp:Hid (LiP g gq q line w0 cs (wSet :: r) (.panicked [{ v:=.iface 74 (.agg #[]),recovered:=false }]) w3):=.inr (.inr ⟨e5,rfl,hF⟩);clear hx hF;go_wp2;exact ⟨rfl,Hp.out⟩
 match r,hx with
 | p :: n :: r,hx=>
 cases hx
 have HR:Hid (RS g gq q line w0 w3 r (((cs.setIfInBounds 0 (.int .i64 5)).setIfInBounds 2 (.string (sb p))).setIfInBounds 3 (.string (sb n)))):=hR;clear hR;generalize hCS:(((cs.setIfInBounds 0 (.int .i64 5)).setIfInBounds 2 (.string (sb p))).setIfInBounds 3 (.string (sb n))) = CS at HR;have HCS:=hIh hCS;obtain ⟨x2,y2,z2, -⟩:=HR.out.cell 2 (by omega);obtain ⟨x3,y3,z3, -⟩:=HR.out.cell 3 (by omega)
 have hsz:cs.size = 29:=by have:=HR.out.sz;rw [← hCS] at this;simpa using this
 have e2:x2 = .string (sb p):=by rw [← hCS] at z2;simp [hsz] at z2;exact z2.symm
 have e3:x3 = .string (sb n):=by rw [← hCS] at z3;simp [hsz] at z3;exact z3.symm
 subst e2 e3;have HRd:=hIh HR.out.drew
 have HS:Hid (∀ W l',RS g gq q line w0 W l' CS → W.cell? ⟨gq,2,none⟩ = some (.string (sb p)) ∧ W.cell? ⟨gq,3,none⟩ = some (.string (sb n))):=fun W l' h=>by
  obtain ⟨u2,a2,b2, -⟩:=h.cell 2 (by omega);obtain ⟨u3,a3,b3, -⟩:=h.cell 3 (by omega);rw [z2] at b2;rw [z3] at b3
  cases b2;cases b3
  exact ⟨a2,a3⟩
 have HS5:Hid (∀ (W:World) (v1 v2 v3:Value),W.cell? ⟨gq,2,none⟩ = some (.string (sb p)) ∧ W.cell? ⟨gq,3,none⟩ = some (.string (sb n)) → (((W.setCell ⟨gq,16,none⟩ v1).setCell ⟨gq,17,none⟩ v2).setCell ⟨gq,18,none⟩ v3).cell? ⟨gq,2,none⟩ = some (.string (sb p)) ∧ (((W.setCell ⟨gq,16,none⟩ v1).setCell ⟨gq,17,none⟩ v2).setCell ⟨gq,18,none⟩ v3).cell? ⟨gq,3,none⟩ = some (.string (sb n))):=fun W v1 v2 v3 h=>by
  refine ⟨?_,?_⟩ <;> (rw [cell_far _ 18 _ (.inr (by omega)),cell_far _ 17 _ (.inr (by omega)),cell_far _ 16 _ (.inr (by omega))])
  ·exact h.1
  ·exact h.2
 obtain ⟨x16,u16, -,f16⟩:=HR.out.cell 16 (by omega);obtain ⟨x17,u17, -,f17⟩:=HR.out.cell 17 (by omega);obtain ⟨x18,u18, -,f18⟩:=HR.out.cell 18 (by omega);clear hCS z2 z3 hsz y2 y3;go_wp2_with (go_at_call 29;with_reducible refine (needT_calls _ _).mono ?_;rintro e wz ⟨rfl,hwz⟩;obtain rfl:=hwz.symm);go_region_held3 (fun W=>W.cell? ⟨gq,2,none⟩ = some (.string (sb p)) ∧ W.cell? ⟨gq,3,none⟩ = some (.string (sb n))) (first | exact HS.out _ _ HRd.out | exact ⟨(drew_cell _ _).trans (HS5.out w3 _ _ _ (HS.out _ _ HR.out)).1,(drew_cell _ _).trans (HS5.out w3 _ _ _ (HS.out _ _ HR.out)).2⟩) (fail);have hR6:=(((HR.out.set Hsd.out 16 (.string (sb p))).set Hsd.out 17 (.string (sb n))).set Hsd.out 18 (.slice none 0 0)).drew;have hbs:CS = ((cs.setIfInBounds 0 (.int .i64 5)).setIfInBounds 2 (.string (sb p))).setIfInBounds 3 (.string (sb n)):=HCS.out.symm;rw [hbs] at hR6;have HR6:Hid (RS g gq q line w0 ((((w3.setCell ⟨gq,16,none⟩ (.string (sb p))).setCell ⟨gq,17,none⟩ (.string (sb n))).setCell ⟨gq,18,none⟩ (.slice none 0 0)).drew) r ((liBase cs p n).setIfInBounds 18 (.slice none 0 0))):=hR6
 obtain ⟨W6,hW6⟩ : ∃ W6,W6 = ((((w3.setCell ⟨gq,16,none⟩ (.string (sb p))).setCell ⟨gq,17,none⟩ (.string (sb n))).setCell ⟨gq,18,none⟩ (.slice none 0 0)).drew):=⟨_,rfl⟩;rw [← hW6] at HR6;rw [← hW6];obtain ⟨base,hbase⟩ : ∃ base,base = liBase cs p n:=⟨_,rfl⟩;rw [← hbase] at HR6;have Hbase:=hIh hbase;have Hqd2:Hid (limitD (wSet :: p :: n :: r) = (rulesS r).bind fun x=>ended { ReqD.zero with op:=5,path:=p,name:=n,lim:=⟨p,n,x.1⟩ } x.2):=Hqd.out;have Hbad:Hid (∀ W,rulesS r = none → FQ g gq w0 W → LiP g gq q line w0 cs (wSet :: p :: n :: r) (.panicked [{ v:=.iface 74 (.agg #[]),recovered:=false }]) W):=fun W h1 h2=>.inr (.inr ⟨by rw [Hqd2.out,h1];rfl,rfl,h2⟩);have Hgood:Hid (∀ W x hv,rulesS r = some x → RS g gq q line w0 W x.2 (base.setIfInBounds 18 hv) → RdS ruC 6 W hv x.1 → (∀ k,hv.ownBlock = some k → w0.heap.size ≤ k) → LiP g gq q line w0 cs (wSet :: p :: n :: r) (.returned (.tuple #[])) W):=fun W x hv h1 h2 h3 h4=>.inl ⟨p,n,r,x,hv,rfl,h1,rfl,by rw [← Hbase.out];exact h2,h3,h4⟩
 have Hsm3:Hid (∀ t ∈ r,t.length ≤ 1048576):=fun t ht=>Hsm.out t (List.mem_cons_of_mem _ (List.mem_cons_of_mem _ ht))
 have Hln3:Hid (r.length ≤ 1048577):=by have:=Hln.out;show _ ≤ _;simp only [List.length_cons] at this;omega
 clear hW6 hbs hR6 hbase u16 u17 u18 f16 f17 f18 HS HS5 HRd HR HCS Hqd Hqd2 Hsm Hln Hbase His Hnd hx c0 f0 Hn;obtain ⟨B,hB⟩ : ∃ B,B = W6.heap.size:=⟨_,rfl⟩;have Hsd1:Hid (Sd g gq (fun k=>q k ∨ B ≤ k)):=Hsd.out.more (by rw [hB];exact HR6.out.glt)
 have Hgl:Hid (g < B):=by rw [hB];exact HR6.out.glt
 have Hql:Hid (gq < B):=by rw [hB];exact HR6.out.qlt
 have HB0:Hid (w0.heap.size ≤ B):=by rw [hB];exact HR6.out.fr.size
 have Hst:Hid (LiLoop g gq q line W6 B base (rulesS r) W6):=⟨.slice none 0 0, [],r,⟨by simp,by rw [hB];exact HR6.out.more.base,GrW.nil _ _ _ _ _,Hsm3.out,by simpa using Hln3.out⟩⟩;have HBs:Hid (B = W6.heap.size):=hB;have HF6:=hIh HR6.out.fr;clear hB;go_wp2
 go_loopw [] (fun wr=>LiLoop g gq q line W6 B base (rulesS r) wr) (fun wr=>rdLen g wr)
 case atStart=>exact Hst.out
 case round=>
  clear Hst HR6;obtain ⟨v,done,l',hA⟩:=hrel;obtain ⟨wo,rfl⟩ : ∃ wo:World,wo = wr:=⟨_,rfl⟩;have HA:=hIh hA;clear hA
  by_cases hh:l'.head? = some wRule
  case neg=>
   have His:=hIh (HA.out.rs.isNoL wRule hh (ByteArray.mk #[114,117,108,101]) rfl);have Hres:rulesS r = some (done,l'):=(by rw [HA.out.eq,rulesS_stop hh];simp);have Hp:=hIh (Hgood.out wo (done,l') v Hres ((HA.out.rs.mono (fun k hk=>.inl hk)).rebase HF6.out) HA.out.row.rd (fun k hk=>Nat.le_trans HB0.out (HA.out.row.new k hk)));clear hh Hres;go_wp2_with fail;(with_reducible refine His.out.mono ?_);rintro e wx ⟨rfl,hwx⟩;obtain rfl:=hwx.symm;go_wp2;go_end0;exact Hp.out
  obtain ⟨l2,rfl⟩ : ∃ l2,l' = wRule :: l2:=by cases l' with
   | nil=>cases hh
   | cons t l2=>exact ⟨l2,by cases hh;rfl⟩
  have His:=hIh (HA.out.rs.isTL Hsd1.out (ByteArray.mk #[114,117,108,101]) rfl);clear hh;go_wp2_with fail
  with_reducible refine His.out.mono ?_
  rintro e w4 ⟨rfl,hR4,hF4⟩;have HR4:=hIh hR4;have HF4:=hIh hF4;clear hR4 His hF4
  cases l2 with
  | nil=>
   have Hw:=hIh HR4.out.wordN;have Hp:=hIh (Hbad.out w4 (by rw [HA.out.eq,rulesS_one];rfl) (HR4.out.rebase HF6.out).fr);go_wp2_with fail;(with_reducible refine Hw.out.mono ?_);rintro e w8 ⟨rfl,hw8⟩;obtain rfl:=hw8.symm;go_wp2;exact ⟨rfl,Hp.out⟩
  | cons nm r2=>
   have Hw:=hIh (HR4.out.wordL Hsd1.out);go_wp2_with fail;(with_reducible refine Hw.out.mono ?_);rintro e w5 ⟨rfl,hR5,hF5⟩;have HR5:=hIh hR5;have HF5:=hIh (HF4.out.trans hF5 (fun k hk=>.inl hk));clear hR5 Hw hF5;obtain ⟨A0,cp,hv⟩:=own_slice HA.out.row.own;subst hv;obtain ⟨m,hm⟩ : ∃ m,m = done.length:=⟨_,rfl⟩;obtain ⟨T,hT⟩ : ∃ T,T = done.flatMap ruC:=⟨_,rfl⟩;have HA2:=HA.out;rw [← hm] at HR5 HA2;have HAm:=hIh HA2;have Hm:=hIh hm;have HT:=hIh hT;have Hmb:Hid (m ≤ 1048577):=(by show _ ≤ _;have:=HA.out.num;omega);have HBw:Hid (B ≤ w5.heap.size):=(by show _ ≤ _;rw [HBs.out];exact HR5.out.fr.size);have Hrow5:Hid (GrW 56 6 ruC B w5 (.slice A0 m cp) done):=HAm.out.row.fr HF5.out (fun k h1 h2 h3 h4=>by have:=Hgl.out;omega);obtain ⟨W8,hW8⟩ : ∃ W8,W8 = ((w5.alloc (.cells #[.string (sb nm),.int .i64 0,.int .i64 0,.int .i64 0,.int .i64 0,.int .i64 0] 56)).alloc (.cells (arCells w5.heap.size) 161)):=⟨_,rfl⟩
   obtain ⟨ub,hub⟩ : ∃ ub,ub = w5.heap.size:=⟨_,rfl⟩;have HW8:=hIh hW8
   have hRW:RuW g gq (fun k=>q k ∨ B ≤ k) line W6 W8 (base.setIfInBounds 18 (.slice A0 m cp)) nm r2 ub (ub + 1) 0 (fun _=>0) r2 W8:=by
    have b1:=bel_alloc w5 (.cells #[.string (sb nm),.int .i64 0,.int .i64 0,.int .i64 0,.int .i64 0,.int .i64 0] 56);have b2:=bel_alloc (w5.alloc (.cells #[.string (sb nm),.int .i64 0,.int .i64 0,.int .i64 0,.int .i64 0,.int .i64 0] 56)) (.cells (arCells w5.heap.size) 161);rw [hW8];refine ⟨(setsS_rule nm (fun _=>0) r2).symm,(HR5.out.below b1).below b2,?_,?_,Fr.refl _ _,fun t ht=>ht,Nat.le_refl _⟩
    ·rw [hub];exact blk_alloc (blk_new _ _) _
    ·rw [hub];exact blk_new2 _ _ _
   have Hst2:Hid (RuLoop g gq (fun k=>q k ∨ B ≤ k) line W6 W8 (base.setIfInBounds 18 (.slice A0 m cp)) nm r2 ub (ub + 1) (.int .i64 0) W8):=⟨0,fun _=>0,r2,rfl,by omega,hRW⟩
   have Hub:Hid (ub ≠ g ∧ ub ≠ gq ∧ B ≤ ub ∧ ub + 1 ≠ g):=by
    have h1:=HR5.out.glt;have h2:=HR5.out.qlt;have h3:=HBw.out;rw [hub];exact ⟨by omega,by omega,h3,by omega⟩
   have Hs8:Hid (W8.heap.size = ub + 2):=(by show _ = _;rw [hW8,hub,alloc_size,alloc_size]);have hub2:w5.heap.size = ub:=hub.symm;have HubE:=hIh hub;have HW8y:=hIh hW8;rw [hub2] at hW8;unfold arCells at hW8;have HW8x:=hIh hW8;clear hm hT hRW hW8 hub HA2 HW8;go_wp2;rw [← HW8x.out];clear hub2
   go_loopw [56] (fun v56 wq=>RuLoop g gq (fun k=>q k ∨ B ≤ k) line W6 W8 (base.setIfInBounds 18 (.slice A0 m cp)) nm r2 ub (ub + 1) v56 wq) (fun v56 _=>5 - (intOf v56).toNat)
   case atStart=>exact Hst2.out
   case round=>
    clear Hst2;obtain ⟨i,f,l3,rfl,hi,hU⟩:=hrel;have HU:=hIh hU;clear hU
    by_cases h5:i < 5
    ·obtain ⟨a0,a1⟩:=ar_cell HU.out.ablk h5
     have hi5:decide ((i:Int) < 5) = true:=decide_eq_true (by omega);have hi5' : (i:Int) < 5:=(by omega);obtain ⟨N,hN⟩ : ∃ N,N = sb (ruN.getD i []):=⟨_,rfl⟩;rw [← hN] at a0;obtain ⟨c1,g1⟩:=cellsN (i:=i + 1) (blk_alloc HU.out.ublk (.cells #[.string N,.pointer (some ⟨ub,i + 1,none⟩)] 161)) (show i + 1 < 6 by omega);generalize (ruCells nm f)[i + 1]'_ = X at c1;obtain ⟨W9,hW9⟩ : ∃ W9,W9 = (wr.alloc (.cells #[.string N,.pointer (some ⟨ub,i + 1,none⟩)] 161)).setCell ⟨ub,i + 1,none⟩ (.int .i64 (-1)):=⟨_,rfl⟩;have hults:=blk_lt HU.out.ublk;have hablt:=blk_lt HU.out.ablk;have hub:=Hub.out
     have hR9:RS g gq (fun k=>q k ∨ B ≤ k) line W6 W9 l3 (base.setIfInBounds 18 (.slice A0 m cp)):=by
      rw [hW9];refine (HU.out.rs.below (bel_alloc _ _)).away (S:=fun k=>k = ub) ((Fr.refl (fun k=>k = ub) _).setCell (p:=⟨ub,i + 1,none⟩) (.inl rfl) _) (fun k hk=>?_);subst hk;exact ⟨.inr hub.2.2.1,hub.1,hub.2.1,by rw [← HBs.out];exact hub.2.2.1⟩
     have hu9:W9.heap[ub]? = some (.cells (ruCells nm (upd f i (-1))) 56 (0,0)):=by
      rw [hW9,← ruCells_set _ _ _ h5];exact blk_setCell (blk_alloc HU.out.ublk _) (i + 1) _
     have ht9:W9.heap[wr.heap.size]? = some (.cells #[.string N,.pointer (some ⟨ub,i + 1,none⟩)] 161 (0,0)):=by
      rw [hW9];exact blk_far (blk_new _ _) (by show wr.heap.size ≠ ub;omega) _
     have hF9:Fr (fun k=>k = g ∨ k = ub) wr W9:=by
      rw [hW9];exact ((Fr.refl (fun k=>k = g ∨ k = ub) _).alloc _).setCell (p:=⟨ub,i + 1,none⟩) (.inl (.inr rfl)) _
     have htg:wr.heap.size ≠ g:=(by have:=HU.out.rs.glt;omega)
     cases ho:(optS (ruN.getD i []) l3).1 with
     | none=>
      have Ho:Hid (Calls Tryz.prog 99 #[.pointer (some ⟨g,0,none⟩),.string N] W9 fun e w' => ∃ x:ByteArray,e = .returned (.tuple #[.string x,.bool false]) ∧ RS g gq (fun k=>q k ∨ B ≤ k) line W6 w' (optS (ruN.getD i []) l3).2 (base.setIfInBounds 18 (.slice A0 m cp)) ∧ Fr (fun k=>k = g) W9 w'):=by
       rw [hN];exact hR9.optN Hsd1.out _ (ruN_small h5) ho
      have Hk:Hid (∀ w',RS g gq (fun k=>q k ∨ B ≤ k) line W6 w' (optS (ruN.getD i []) l3).2 (base.setIfInBounds 18 (.slice A0 m cp)) → Fr (fun k=>k = g) W9 w' → RuLoop g gq (fun k=>q k ∨ B ≤ k) line W6 W8 (base.setIfInBounds 18 (.slice A0 m cp)) nm r2 ub (ub + 1) (.int .i64 ((i:Int) + 1)) w'):=fun w' h1 h2=>
       ⟨i + 1,_,_,by simp,by omega,HU.out.next h5 (setS_no ho) (optS_sub _ _).1 h1 (h2.blk hu9 hub.1) (hF9.trans h2 (fun k hk=>.inl (.inl hk))) ⟨hub.2.2.2,by omega⟩⟩
      have HW9:=hIh hW9;clear hR9 hu9 ht9 hF9 ho hN hW9 hults hablt hub htg;go_wp2_with fail;rw [← HW9.out];(with_reducible refine Ho.out.mono ?_);rintro e w10 ⟨x,rfl,hR10,hF10⟩;have Hk2:=hIh (Hk.out w10 hR10 hF10);clear Hk Ho hR10 hF10 c1 g1 a0 a1;go_wp2;go_roundw
      case rel=>exact Hk2.out
      case measure=>simp [intOf];omega
     | some v=>
      have Ho:Hid (Calls Tryz.prog 99 #[.pointer (some ⟨g,0,none⟩),.string N] W9 fun e w'=>e = .returned (.tuple #[.string (sb v),.bool true]) ∧ RS g gq (fun k=>q k ∨ B ≤ k) line W6 w' (optS (ruN.getD i []) l3).2 (base.setIfInBounds 18 (.slice A0 m cp)) ∧ Fr (fun k=>k = g) W9 w'):=by
       rw [hN];exact hR9.optY Hsd1.out _ (ruN_small h5) ho
      have Hst':=hIh (setS_yes ho)
      have hvs:v.length ≤ 1048576:=by
       obtain ⟨t,ht,hl⟩:=(optS_sub (ruN.getD i []) l3).2 v ho;have:=HA.out.small t (List.mem_cons_of_mem _ (List.mem_cons_of_mem _ (HU.out.sub t ht)));omega
      have Hvs:=hIh hvs;have HW9:=hIh hW9;have H5:=hIh h5;have Hr9:=hIh (show W9.heap[ub]? = some (.cells (ruCells nm (upd f i (-1))) 56 (0,0)) ∧ W9.heap[wr.heap.size]? = some (.cells #[.string N,.pointer (some ⟨ub,i + 1,none⟩)] 161 (0,0)) ∧ Fr (fun k=>k = g ∨ k = ub) wr W9 ∧ wr.heap.size ≠ g ∧ wr.heap.size ≠ ub from ⟨hu9,ht9,hF9,htg,by omega⟩);clear hR9 hu9 ht9 hF9 ho hN hW9 hults hablt hub htg hvs;go_wp2_with fail;rw [← HW9.out];(with_reducible refine Ho.out.mono ?_);rintro e w10 ⟨rfl,hR10,hF10⟩;have HR10:=hIh hR10;have HF10:=hIh hF10;have Hb10:Hid (w10.heap[ub]? = some (.cells (ruCells nm (upd f i (-1))) 56 (0,0)) ∧ w10.heap[wr.heap.size]? = some (.cells #[.string N,.pointer (some ⟨ub,i + 1,none⟩)] 161 (0,0)) ∧ wr.heap.size ≠ ub):=⟨hF10.blk Hr9.out.1 Hub.out.1,hF10.blk Hr9.out.2.1 Hr9.out.2.2.2.1,Hr9.out.2.2.2.2⟩;have Hg10:Hid (Glob w10.drew):=(HG.out _ (HR10.out.rebase HF6.out).fr).below (drewB (Below.refl _ _) 1)
      have hc10:=(cells2 Hb10.out.2.1).2.1;clear Ho hR10 hF10 c1 g1 a0 a1
      cases hq:qparse v with
      | none=>
       have Hq:=hIh (quantityF w10.drew Hg10.out (.pointer (some ⟨g,0,none⟩)) v Hvs.out hq)
       have Hp:Hid (∀ W,Below w10.drew.heap.size w10.drew W → LiP g gq q line w0 cs (wSet :: p :: n :: r) (.panicked [{ v:=.iface 74 (.agg #[]),recovered:=false }]) W):=fun W h=>Hbad.out W (by
        rw [HA.out.eq,rulesS_bad (HU.out.bad H5.out (by rw [Hst'.out,hq];rfl))];rfl) ((HR10.out.rebase HF6.out).fr.below (w2:=W) ((drewB (Below.refl _ _) 1).trans h))
       clear hq;go_wp2;go_region_dies
       all_goals (with_reducible refine Hq.out.mono ?_;rintro e w8 ⟨rfl,hF8⟩;have Hp2:=hIh (Hp.out _ hF8);clear hF8;go_wp2;exact pan_end Hp2.out)
      | some y=>
       have Hq:=hIh (quantityT w10.drew Hg10.out (.pointer (some ⟨g,0,none⟩)) v Hvs.out hq);have HS:Hid (∀ W,Below w10.drew.heap.size w10.drew W → W.cell? ⟨wr.heap.size,1,none⟩ = some (.pointer (some ⟨ub,i + 1,none⟩))):=fun W h=>(cells2 (blk_below (w:=w10.drew) Hb10.out.2.1 h)).2.1;have Hne:=hIh (show wr.heap.size ≠ ub ∨ (1:Nat) ≠ i + 1 from .inl Hb10.out.2.2);have HSz:=hIh (show i + 1 < (ruCells nm (upd f i (-1))).size from by have:=H5.out;show i + 1 < 6;omega);have Hset:=hIh (show setS (ruN.getD i []) l3 = some ((y:Int),(optS (ruN.getD i []) l3).2) by rw [Hst'.out,hq];rfl);clear hq;go_wp2
       go_region_held3 (fun W=>W.cell? ⟨wr.heap.size,1,none⟩ = some (.pointer (some ⟨ub,i + 1,none⟩))) (first | exact hc10 | exact HS.out _ Hb11.out | exact (cell_far _ _ _ Hne.out).trans (HS.out _ Hb11.out))
        ((go_at_call 100;with_reducible refine Hq.out.mono ?_;rintro e w11 ⟨rfl,hw11⟩;have Hb11:=hIh hw11;obtain ⟨c1,g1⟩:=cellsN (i:=i + 1) (blk_below (w:=w10.drew) Hb10.out.1 hw11) HSz.out;generalize (ruCells nm (upd f i (-1)))[i + 1]'_ = X2 at c1;clear hw11))
       have Hk2:Hid (RuLoop g gq (fun k=>q k ∨ B ≤ k) line W6 W8 (base.setIfInBounds 18 (.slice A0 m cp)) nm r2 ub (ub + 1) (.int .i64 ((i:Int) + 1)) (w11.setCell ⟨ub,i + 1,none⟩ (.int .i64 (y:Int)))):=by
        have hub:=Hub.out;have b11:Below w10.heap.size w10 w11:=(drewB (Below.refl _ _) 1).trans Hb11.out
        have hu11:(w11.setCell ⟨ub,i + 1,none⟩ (.int .i64 (y:Int))).heap[ub]? = some (.cells (ruCells nm (upd (upd f i (-1)) i (y:Int))) 56 (0,0)):=by
         rw [← ruCells_set _ _ _ H5.out];exact blk_setCell (blk_below Hb10.out.1 b11) (i + 1) _
        have hf:upd (upd f i (-1)) i (y:Int) = upd f i (y:Int):=(by funext j;unfold upd;split <;> rfl);rw [hf] at hu11;refine ⟨i + 1,_,_,by simp,by have:=H5.out;omega,HU.out.next H5.out Hset.out (optS_sub _ _).1 ?_ hu11 ?_ ⟨hub.2.2.2,by omega⟩⟩
        ·refine (HR10.out.below b11).away (S:=fun k=>k = ub) ((Fr.refl (fun k=>k = ub) _).setCell (p:=⟨ub,i + 1,none⟩) (.inl rfl) _) (fun k hk=>?_)
         subst hk;exact ⟨.inr hub.2.2.1,hub.1,hub.2.1,by rw [← HBs.out];exact hub.2.2.1⟩
        ·exact ((Hr9.out.2.2.1.trans HF10.out (fun k hk=>.inl (.inl hk))).below b11).setCell (p:=⟨ub,i + 1,none⟩) (.inl (.inr rfl)) _
       clear c1 g1;go_wp2;go_roundw
       case rel=>exact Hk2.out
       case measure=>have:=H5.out;simp [intOf];omega
    ·obtain rfl:i = 5:=by omega
     have Hdone:=hIh HU.out.done;have hub:=Hub.out;have c0:=(cellsN (i:=0) HU.out.ublk (show 0 < 6 by omega)).1;have c1:=(cellsN (i:=1) HU.out.ublk (show 1 < 6 by omega)).1;have c2:=(cellsN (i:=2) HU.out.ublk (show 2 < 6 by omega)).1;have c3:=(cellsN (i:=3) HU.out.ublk (show 3 < 6 by omega)).1;have c4:=(cellsN (i:=4) HU.out.ublk (show 4 < 6 by omega)).1;have c5:=(cellsN (i:=5) HU.out.ublk (show 5 < 6 by omega)).1;change wr.cell? ⟨ub,0,none⟩ = some (.string (sb nm)) at c0;change wr.cell? ⟨ub,1,none⟩ = some (.int .i64 (f 0)) at c1;change wr.cell? ⟨ub,2,none⟩ = some (.int .i64 (f 1)) at c2;change wr.cell? ⟨ub,3,none⟩ = some (.int .i64 (f 2)) at c3;change wr.cell? ⟨ub,4,none⟩ = some (.int .i64 (f 3)) at c4;change wr.cell? ⟨ub,5,none⟩ = some (.int .i64 (f 4)) at c5;obtain ⟨x18,d18,z18, -⟩:=HU.out.rs.cell 18 (by omega);have hsz18:base.size = 29:=(by have:=HU.out.rs.sz;simpa using this);have e18:x18 = .slice A0 m cp:=(by simp [hsz18] at z18;exact z18.symm)
     subst e18;obtain ⟨XC,hXC⟩ : ∃ XC,XC = [(⟨nm,f 0,f 1,f 2,f 3,f 4⟩ : Rl)].flatMap ruC:=⟨_,rfl⟩;have hs8:=Hs8.out;have hue:=HubE.out
     have hRow:GrW 56 6 ruC B wr (.slice A0 m cp) done:=by
      have b:Below w5.heap.size w5 W8:=(by rw [HW8y.out];exact (bel_alloc _ _).trans ((bel_alloc _ _).mono (by rw [alloc_size];omega)));refine (Hrow5.out.below b).fr HU.out.fr (fun k h1 h2 h3 h4=>?_);have h6:=(Hrow5.out.own.lt k h3).2;have:=Hgl.out;rcases h4 with h4 | h4 <;> omega
     have Hrow:=hIh hRow;have Hown:Hid (wr.ownsRow 0 56 6 (.slice A0 m cp) m T):=(by have:=hRow.own;rw [← Hm.out,← HT.out] at this;exact this)
     have Hc1:Hid (Rd (wr.alloc (.cells #[.string (sb nm),.int .i64 (f 0),.int .i64 (f 1),.int .i64 (f 2),.int .i64 (f 3),.int .i64 (f 4)] 56)) 6 (.slice (some ⟨wr.heap.size,0,none⟩) 1 1) 1 XC):=by
      show Rd _ _ _ _ _;rw [hXC];exact rd_ru wr 56 ⟨nm,f 0,f 1,f 2,f 3,f 4⟩
     have Hc4:Hid (∀ u ∈ XC,u.oneCell' = true):=(by rw [hXC];exact ru_one _);have Hc2:Hid (m + 1 ≤ maxLen):=(by show _ ≤ _;have:=Hmb.out;unfold maxLen;omega);have Hc3:Hid ((m + 1) * 56 ≤ 140737488355328):=(by show _ ≤ _;have:=Hmb.out;omega)
     have Haway:Hid (∀ (w1:World) (o:Obj),((wr.alloc o).drew).grownBy w1 (Value.slice A0 m cp).ownBlock → RS g gq (fun k=>q k ∨ B ≤ k) line W6 w1 l3 (base.setIfInBounds 18 (.slice A0 m cp))):=fun w1 o hg1=>by
      refine ((HU.out.rs.below (bel_alloc _ o)).drew).away (S:=fun k=>(Value.slice A0 m cp).ownBlock = some k) ((Fr.refl _ _).grown hg1 (fun k hk=>.inl hk)) (fun k hk=>?_);have h1:=Hrow.out.new k hk;have:=Hgl.out;have:=Hql.out;exact ⟨.inr h1,by omega,by omega,by rw [← HBs.out];exact h1⟩
     have HXC:=hIh hXC;have d18a:(wr.alloc (.cells #[.string (sb nm),.int .i64 (f 0),.int .i64 (f 1),.int .i64 (f 2),.int .i64 (f 3),.int .i64 (f 4)] 56)).cell? ⟨gq,18,none⟩ = some (.slice A0 m cp):=(World.cell?_alloc_lt wr _ _ HU.out.rs.qlt).trans d18;clear hXC hRow hs8 hue z18 hsz18 hub h5 hi;go_wp2;go_region_law ((refine step_append2 _ rfl (.tmp 83) (.tmp 85) 31 rfl 56 (.agg #[.string ⟨#[]⟩,.int .i64 0,.int .i64 0,.int .i64 0,.int .i64 0,.int .i64 0]) 6 56 Tryz.underlying31 infoRu rfl (by decide) (.slice A0 m cp) m T rfl (Hown.out.alloc _) _ 1 XC rfl Hc1.out Hc4.out Hc2.out Hc3.out ?_);(intro v1 w1 ho1 hg1 hn1);(obtain ⟨A2,k2,rfl⟩:=own_slice ho1);(have hR12:=Haway.out w1 _ hg1);(obtain ⟨x18,d18, -,e18⟩:=hR12.cell 18 (by omega));(have HR12:=hIh hR12);(have Ho1:=hIh ho1);(have Hg1:=hIh hg1);(have Hn1:=hIh hn1);(clear hR12 ho1 hg1 hn1))
     all_goals
      have hset:=HR12.out.set Hsd1.out 18 (.slice A2 (m + 1) k2);rw [Array.setIfInBounds_setIfInBounds] at hset
      have hrow1:GrW 56 6 ruC B w1 (.slice A2 (m + 1) k2) (done ++ [⟨nm,f 0,f 1,f 2,f 3,f 4⟩]):=by
       refine Hrow.out.next (by have:=HBw.out;have:=HU.out.fr.size;have:=Hs8.out;have:=HubE.out;omega) (v':=.slice A2 (m + 1) k2) (ob:=.cells #[] 0) ?_ ?_
       ·rw [← Hm.out,← HT.out,← HXC.out];exact Ho1.out
       ·intro k hk
        refine (Hn1.out k hk).imp id (fun h=>?_);have h2:=alloc_size wr (.cells #[.string (sb nm),.int .i64 (f 0),.int .i64 (f 1),.int .i64 (f 2),.int .i64 (f 3),.int .i64 (f 4)] 56);rw [← h2];exact h
      have hrow2:GrW 56 6 ruC B (w1.setCell ⟨gq,18,none⟩ (.slice A2 (m + 1) k2)) (.slice A2 (m + 1) k2) (done ++ [⟨nm,f 0,f 1,f 2,f 3,f 4⟩]):=
       hrow1.fr ((Fr.refl (fun k=>k = gq) _).setCell (p:=⟨gq,18,none⟩) (.inl rfl) _) (fun k h1 h2 h3 h4=>by have:=Hql.out;omega)
      have Hk:Hid (LiLoop g gq q line W6 B base (rulesS r) (w1.setCell ⟨gq,18,none⟩ (.slice A2 (m + 1) k2)) ∧ rdLen g (w1.setCell ⟨gq,18,none⟩ (.slice A2 (m + 1) k2)) < rdLen g wo):=by
       have h9:=HA.out.next Hdone.out HU.out.sub HU.out.len hset hrow2;refine ⟨⟨_,_,_,h9⟩,?_⟩;rw [h9.rs.rd.len,HA.out.rs.rd.len];have:=HU.out.len;simp only [List.length_cons];omega
      clear hset hrow1 hrow2 d18 e18;go_wp2;go_roundw
      case rel=>exact Hk.out.1
      case measure=>exact Hk.out.2
section
variable {g gq:Nat} {q:Nat → Prop} {line:Str} {w0 w w1:World} {l r:List Str} {cs:Array Value}
theorem RS.smallT (h:RS g gq q line w0 w l cs) (sd:Sd g gq q) (name:Str) (other:Int) (hn:name.length ≤ 100) (S:ByteArray) (hS:sb name = S) {x:Int × List Str} (hx:smallS name other l = some x) :
  Calls Tryz.prog 101 #[.pointer (some ⟨g,0,none⟩),.string S,.int .i64 other] w fun e w'=>e = .returned (.int .i64 x.1) ∧ RS g gq q line w0 w' x.2 cs ∧ Fr (fun k=>k = g) w w':=by
 rw [← hS];refine (small_calls w name other l h.rd hn).mono ?_;rintro e w' (⟨y,h1,h2,h3,h4⟩ | ⟨h1,h2,h3⟩)
 ·rw [hx] at h1;cases h1;exact ⟨h2,h.go sd h3 h4,h4⟩
 ·rw [hx] at h1;cases h1
theorem RS.smallF (h:RS g gq q line w0 w l cs) (name:Str) (other:Int) (hn:name.length ≤ 100) (S:ByteArray) (hS:sb name = S) (hx:smallS name other l = none) :
  Calls Tryz.prog 101 #[.pointer (some ⟨g,0,none⟩),.string S,.int .i64 other] w fun e w'=>e = (.panicked [{ v:=.iface 74 (.agg #[]),recovered:=false }]) ∧ FQ g gq w0 w':=by
 rw [← hS];refine (small_calls w name other l h.rd hn).mono ?_;rintro e w' (⟨y,h1,h2,h3,h4⟩ | ⟨h1,h2,h3⟩)
 ·rw [hx] at h1;cases h1
 ·exact ⟨h2,h.fr.trans h3 (fun k hk=>.inl (.inl hk))⟩
theorem RS.mustT (h:RS g gq q line w0 w l cs) (sd:Sd g gq q) {x:Nat × List Str} (hx:mustS l = some x) :
  Calls Tryz.prog 102 #[.pointer (some ⟨g,0,none⟩)] w fun e w'=>e = .returned (.int .i64 (x.1:Int)) ∧ RS g gq q line w0 w' x.2 cs ∧ Fr (fun k=>k = g) w w':=by
 refine (must_calls w l h.rd).mono ?_;rintro e w' (⟨y,h1,h2,h3,h4⟩ | ⟨h1,h2,h3⟩)
 ·rw [hx] at h1;cases h1;exact ⟨h2,h.go sd h3 h4,h4⟩
 ·rw [hx] at h1;cases h1
theorem RS.mustF (h:RS g gq q line w0 w l cs) (hx:mustS l = none) :
  Calls Tryz.prog 102 #[.pointer (some ⟨g,0,none⟩)] w fun e w'=>e = (.panicked [{ v:=.iface 74 (.agg #[]),recovered:=false }]) ∧ FQ g gq w0 w':=by
 refine (must_calls w l h.rd).mono ?_;rintro e w' (⟨y,h1,h2,h3,h4⟩ | ⟨h1,h2,h3⟩)
 ·rw [hx] at h1;cases h1
 ·exact ⟨h2,h.fr.trans h3 (fun k hk=>.inl (.inl hk))⟩
theorem RS.amtT (h:RS g gq q line w0 w l cs) (sd:Sd g gq q) (G:Glob w) (hg:4 ≤ g) (hsm:∀ t ∈ l,t.length ≤ 1048576) (hln:l.length ≤ 1048577) {x:List Amt × List Str} (hx:amountsS l = some x) :
  Calls Tryz.prog 98 #[.pointer (some ⟨g,0,none⟩)] w fun e w' => ∃ A c,e = .returned (.slice A x.1.length c) ∧ RdS amtC 2 w' (.slice A x.1.length c) x.1 ∧ (∀ k,(Value.slice A x.1.length c).ownBlock = some k → w.heap.size ≤ k) ∧ RS g gq q line w0 w' x.2 cs ∧ Fr (fun k=>k = g) w w':=
 (h.amounts sd G hg hsm hln hx).mono fun e w' h=>h
end
theorem smallS_sub {n:Str} {o:Int} {l:List Str} {x:Int × List Str} (h:smallS n o l = some x):(∀ t ∈ x.2,t ∈ l) ∧ x.2.length ≤ l.length:=by
 unfold smallS at h;have h1:=(optS_sub n l).1;have h2:=optS_len n l
 split at h
 ·rename_i v r e
  obtain ⟨y,hy,rfl⟩:=Option.map_eq_some_iff.1 h;rw [e] at h1 h2;exact ⟨h1,h2⟩
 ·rename_i r e
  cases h;rw [e] at h1 h2;exact ⟨h1,h2⟩
theorem mustS_sub {l:List Str} {x:Nat × List Str} (h:mustS l = some x):(∀ t ∈ x.2,t ∈ l) ∧ x.2.length ≤ l.length:=by
 unfold mustS at h;have h1:=(optS_sub [109,117,115,116] l).1;have h2:=optS_len [109,117,115,116] l
 split at h
 ·rename_i v r e
  obtain ⟨y,hy,rfl⟩:=Option.map_eq_some_iff.1 h;rw [e] at h1 h2;exact ⟨h1,h2⟩
 ·rename_i r e
  cases h;rw [e] at h1 h2;exact ⟨h1,h2⟩
theorem amountsS_sub:∀ {l:List Str} {x:List Amt × List Str},amountsS l = some x → (∀ t ∈ x.2,t ∈ l) ∧ x.1.length + x.2.length = l.length
 | [],x,h=>by cases h;simp
 | t :: r,x,h=>by
  unfold amountsS at h
  split at h
  ·cases h;exact ⟨fun u hu=>hu,by simp⟩
  ·split at h
   ·cases h
   ·obtain ⟨y,hy,rfl⟩:=Option.map_eq_some_iff.1 h
    obtain ⟨h1,h2⟩:=amountsS_sub hy;exact ⟨fun u hu=>List.mem_cons_of_mem _ (h1 u hu),by simp only [List.length_cons];omega⟩
def lbC (x:Str × Str):List Value := [.string (sb x.1),.string (sb x.2)]
theorem lbC_len (x:Str × Str):(lbC x).length = 2:=rfl
theorem infoLb:(Tryz.prog.info? 95).map (fun i=>(i.zero,i.size,i.bytes)) = some (some (.agg #[.string ⟨#[]⟩,.string ⟨#[]⟩]),2,32):=by kernel_rfl
theorem rd_lb (w:World) (t:TypeId) (x:Str × Str):Rd (w.alloc (.cells #[.string (sb x.1),.string (sb x.2)] t)) 2 (.slice (some ⟨w.heap.size,0,none⟩) 1 1) 1 ([x].flatMap lbC):=by
 refine ⟨rfl,_,_,rfl,Nat.le_refl _,(fun h=>by cases h),fun ad hA j u hu=>?_⟩
 cases hA
 match j,hu with
 | 0,hu=>cases hu;rw [show (⟨w.heap.size,0,none⟩ : Addr).add 0 = ⟨w.heap.size,0,none⟩ from rfl];simp only [World.cell?,blk_new];rfl
 | 1,hu=>cases hu;rw [show (⟨w.heap.size,0,none⟩ : Addr).add 1 = ⟨w.heap.size,1,none⟩ from rfl];simp only [World.cell?,blk_new];rfl
theorem lb_one (x:Str × Str):∀ u ∈ [x].flatMap lbC,u.oneCell' = true:=by
 intro u hu
 have hu2:u ∈ lbC x:=by simpa using hu
 simp only [lbC,List.mem_cons,List.not_mem_nil,or_false] at hu2;rcases hu2 with rfl | rfl <;> rfl
theorem labelsS_stop {l:List Str} (h:l.head? ≠ some wLabel):labelsS l = some ([],l):=by
 cases l with
 | nil=>rfl
 | cons t l=>
  have ht:¬ t = wLabel:=fun e=>h (by rw [e];rfl)
  cases l with
  | nil=>simp only [labelsS,ht,if_false]
  | cons u r=>simp only [labelsS,ht,if_false]
theorem labelsS_one:labelsS [wLabel] = none:=by simp only [labelsS,if_true]
theorem labelsS_bad {u:Str} {r:List Str} (h:cutAt [61] u = none):labelsS (wLabel :: u :: r) = none:=by simp only [labelsS,if_true,h]
theorem labelsS_go {u k v:Str} {r:List Str} (h:cutAt [61] u = some (k,v)):labelsS (wLabel :: u :: r) = (labelsS r).map fun x=>((k,v) :: x.1,x.2):=by simp only [labelsS,if_true,h]
abbrev PtV:=Ptt × Value × Value
def ptC (e:PtV):List Value := [.string (sb e.1.name),e.2.1,e.2.2]
theorem ptC_len (e:PtV):(ptC e).length = 3:=rfl
theorem infoPt:(Tryz.prog.info? 118).map (fun i=>(i.zero,i.size,i.bytes)) = some (some (.agg #[.string ⟨#[]⟩,.slice none 0 0,.slice none 0 0]),3,64):=by kernel_rfl
def PRow (w:World) (v:Value) (l:List PtV):Prop:=RdS ptC 3 w v l ∧ ∀ e ∈ l,RdS amtC 2 w e.2.1 e.1.reqs ∧ RdS amtC 2 w e.2.2 e.1.lims
structure POwn (B:Nat) (w:World) (v:Value) (l:List PtV):Prop where
 own:w.ownsRow 0 118 3 v l.length (l.flatMap ptC)
 new:∀ k,v.ownBlock = some k → B ≤ k
 els:∀ e ∈ l,(RdS amtC 2 w e.2.1 e.1.reqs ∧ (∀ k,e.2.1.ownBlock = some k → B ≤ k) ∧ (e.1.reqs ≠ [] → ∀ k,e.2.1.ownBlock = some k → v.ownBlock ≠ some k)) ∧
  (RdS amtC 2 w e.2.2 e.1.lims ∧ (∀ k,e.2.2.ownBlock = some k → B ≤ k) ∧ (e.1.lims ≠ [] → ∀ k,e.2.2.ownBlock = some k → v.ownBlock ≠ some k))
theorem POwn.nil (B:Nat) (w:World):POwn B w (.slice none 0 0) []:=⟨World.ownsRow_nil _ _ _ _,(fun k hk=>by cases hk),(fun e he=>by cases he)⟩
theorem POwn.row {B:Nat} {w:World} {v:Value} {l:List PtV} (h:POwn B w v l):PRow w v l:=⟨RdS.of_own h.own,fun e he=>⟨(h.els e he).1.1,(h.els e he).2.1⟩⟩
theorem POwn.fr {B:Nat} {w w1:World} {v:Value} {l:List PtV} (h:POwn B w v l) {S:Nat → Prop} (hf:Fr S w w1) (hS:∀ k,B ≤ k → k < w.heap.size → ¬ S k):POwn B w1 v l:=by
 refine ⟨hf.owns h.own (fun k hk=>hS k (h.new k hk) (h.own.lt k hk).2),h.new,fun e he=>?_⟩;obtain ⟨⟨a1,a2,a3⟩,b1,b2,b3⟩:=h.els e he;exact ⟨⟨RdS.keep amtC_len (by decide) a1 hf (fun hl k hk=>hS k (a2 k hk) (RdS.lt amtC_len (by decide) a1 hl k hk)),a2,a3⟩,RdS.keep amtC_len (by decide) b1 hf (fun hl k hk=>hS k (b2 k hk) (RdS.lt amtC_len (by decide) b1 hl k hk)),b2,b3⟩
theorem POwn.below {B:Nat} {w w1:World} {v:Value} {l:List PtV} (h:POwn B w v l) (hb:Below w.heap.size w w1):POwn B w1 v l:=h.fr (Fr.of_below hb (fun _=>False)) (fun _ _ _ h=>h)
theorem POwn.next {B:Nat} {wr wp w4:World} {v v1:Value} {l:List PtV} {e:PtV} {o:Obj} (h:POwn B wr v l) (hB:B ≤ wr.heap.size) {S:Nat → Prop} (hwp:Fr S wr wp) (hS:∀ k,S k → ¬ B ≤ k) (he1:RdS amtC 2 wp e.2.1 e.1.reqs) (hen1:∀ k,e.2.1.ownBlock = some k → wr.heap.size ≤ k)
  (he2:RdS amtC 2 wp e.2.2 e.1.lims) (hen2:∀ k,e.2.2.ownBlock = some k → wr.heap.size ≤ k)
  (ho:w4.ownsRow 0 118 3 v1 (l.length + 1) (l.flatMap ptC ++ [e].flatMap ptC)) (hg:(wp.alloc o).grownBy w4 v.ownBlock) (hn:∀ k,v1.ownBlock = some k → v.ownBlock = some k ∨ wp.heap.size + 1 ≤ k):POwn B w4 v1 (l ++ [e]):=by
 have hs:=hwp.size;have hvl:∀ k,v.ownBlock = some k → k < wr.heap.size:=fun k hk=>(h.own.lt k hk).2
 have hF:∀ {x:Value} {n:List Amt},RdS amtC 2 wp x n → (n ≠ [] → ∀ k,x.ownBlock = some k → v.ownBlock ≠ some k) → RdS amtC 2 w4 x n:=by
  intro x n hr hne;have h1:RdS amtC 2 (wp.alloc o) x n:=RdS.below hr ((Below.refl _ _).alloc (Nat.le_refl _) o);exact RdS.keep amtC_len (by decide) h1 ((Fr.refl (fun k=>v.ownBlock = some k) (wp.alloc o)).grown hg (fun k hk=>.inl hk)) (fun hn k hk e=>hne hn k hk e)
 have hold:∀ {x:Value} {n:List Amt},RdS amtC 2 wr x n → (∀ k,x.ownBlock = some k → B ≤ k) → (n ≠ [] → ∀ k,x.ownBlock = some k → v.ownBlock ≠ some k) → RdS amtC 2 w4 x n ∧ (∀ k,x.ownBlock = some k → B ≤ k) ∧ (n ≠ [] → ∀ k,x.ownBlock = some k → v1.ownBlock ≠ some k):=by
  intro x n h1 h2 h3;have h1' : RdS amtC 2 wp x n:=RdS.keep amtC_len (by decide) h1 hwp (fun hl k hk hs=>hS k hs (h2 k hk));refine ⟨hF h1' h3,h2,fun hne k hk hv=>?_⟩;rcases hn k hv with h4 | h4
  ·exact h3 hne k hk h4
  ·have:=RdS.lt amtC_len (by decide) h1 hne k hk;omega
 have hnew:∀ {x:Value} {n:List Amt},RdS amtC 2 wp x n → (∀ k,x.ownBlock = some k → wr.heap.size ≤ k) → RdS amtC 2 w4 x n ∧ (∀ k,x.ownBlock = some k → B ≤ k) ∧ (n ≠ [] → ∀ k,x.ownBlock = some k → v1.ownBlock ≠ some k):=by
  intro x n h1 h2;refine ⟨hF h1 (fun hne k hk hv=>?_),fun k hk=>Nat.le_trans hB (h2 k hk),fun hne k hk hv=>?_⟩
  ·have:=h2 k hk;have:=hvl k hv;omega
  ·rcases hn k hv with h4 | h4
   ·have:=h2 k hk;have:=hvl k h4;omega
   ·have:=RdS.lt amtC_len (by decide) h1 hne k hk;omega
 refine ⟨by rw [List.length_append,flat_app];exact ho,fun k hk=>?_,fun x hx=>?_⟩
 ·rcases hn k hk with h3 | h3
  ·exact h.new k h3
  ·omega
 ·rcases List.mem_append.1 hx with hx | hx
  ·obtain ⟨⟨a1,a2,a3⟩,b1,b2,b3⟩:=h.els x hx
   exact ⟨hold a1 a2 a3,hold b1 b2 b3⟩
  ·rw [List.mem_singleton.1 hx]
   exact ⟨hnew he1 hen1,hnew he2 hen2⟩
theorem rd_pt (w:World) (t:TypeId) (e:PtV):Rd (w.alloc (.cells #[.string (sb e.1.name),e.2.1,e.2.2] t)) 3 (.slice (some ⟨w.heap.size,0,none⟩) 1 1) 1 ([e].flatMap ptC):=by
 refine ⟨rfl,_,_,rfl,Nat.le_refl _,(fun h=>by cases h),fun ad hA j u hu=>?_⟩
 cases hA
 match j,hu with
 | 0,hu=>cases hu;rw [show (⟨w.heap.size,0,none⟩ : Addr).add 0 = ⟨w.heap.size,0,none⟩ from rfl];simp only [World.cell?,blk_new];rfl
 | 1,hu=>cases hu;rw [show (⟨w.heap.size,0,none⟩ : Addr).add 1 = ⟨w.heap.size,1,none⟩ from rfl];simp only [World.cell?,blk_new];rfl
 | 2,hu=>cases hu;rw [show (⟨w.heap.size,0,none⟩ : Addr).add 2 = ⟨w.heap.size,2,none⟩ from rfl];simp only [World.cell?,blk_new];rfl
theorem pt_one (e:PtV) {A1 A2:Option Addr} {n1 c1 n2 c2:Nat} (h1:e.2.1 = .slice A1 n1 c1) (h2:e.2.2 = .slice A2 n2 c2):∀ u ∈ [e].flatMap ptC,u.oneCell' = true:=by
 intro u hu
 have hu2:u ∈ ptC e:=by simpa using hu
 simp only [ptC,List.mem_cons,List.not_mem_nil,or_false,h1,h2] at hu2;rcases hu2 with rfl | rfl | rfl <;> rfl
theorem partsS_stop {l:List Str} (h:l.head? ≠ some wPart):partsS l = some ([],l):=by
 cases l with
 | nil=>unfold partsS;rfl
 | cons t l=>
  have ht:¬ t = wPart:=fun e=>h (by rw [e];rfl);unfold partsS;simp only [ht,if_false]
theorem partsS_one:partsS [wPart] = none:=by unfold partsS;rfl
theorem partsS_bad {n:Str} {r:List Str} (h:partS n r = none):partsS (wPart :: n :: r) = none:=by
 unfold partsS;simp only [if_true]
 split
 ·rfl
 ·rename_i h2;rw [h] at h2;cases h2
theorem partsS_go {n:Str} {r r' : List Str} {u:Ptt} (h:partS n r = some (u,r')):partsS (wPart :: n :: r) = (partsS r').map fun x=>(u :: x.1,x.2):=by
 conv=>lhs;unfold partsS
 simp only [if_true]
 split
 ·rename_i h2;rw [h] at h2;cases h2
 ·rename_i h2;rw [h] at h2;cases h2;rfl
theorem amountsIf_no {w:Str} {l:List Str} (h:l.head? ≠ some w):amountsIf w l = some ([],l):=by
 cases l with
 | nil=>rfl
 | cons t r=>simp only [amountsIf];rw [if_neg (fun e=>h (by rw [e];rfl))]
theorem amountsIf_yes (w:Str) (r:List Str):amountsIf w (w :: r) = amountsS r:=by simp only [amountsIf,if_true]
theorem amountsIf_sub {w:Str} {l:List Str} {x:List Amt × List Str} (h:amountsIf w l = some x):(∀ t ∈ x.2,t ∈ l) ∧ x.1.length + x.2.length ≤ l.length:=by
 cases l with
 | nil=>cases h;simp
 | cons t r=>
  simp only [amountsIf] at h
  split at h
  ·obtain ⟨h1,h2⟩:=amountsS_sub h
   exact ⟨fun u hu=>List.mem_cons_of_mem _ (h1 u hu),by simp only [List.length_cons];omega⟩
  ·cases h;exact ⟨fun u hu=>hu,by simp⟩
end Go.Proofs.YtpfkkagkbneilaaGreatDoor
