/- Texts K14, K15 of the proof of BursarChecks, joined. -/
import Derived.Test.YtpfkkagkbneilaaGreatDoorV14
import Derived.Deep.DeepCutAuto
import Derived.IntWalk
namespace Go.Proofs.YtpfkkagkbneilaaGreatDoor
open Go.RowKit
set_option linter.unusedVariables false
set_option linter.unusedSimpArgs false
set_option maxRecDepth 100000
set_option maxHeartbeats 25600000
def obCells (p n:Str) (lv:Value) (a b:Int) (pv:Value):Array Value := #[.string (sb p),.string (sb n),lv,.int .i64 a,.int .i64 b,pv,.int .i64 0]
def obFin (cs:Array Value) (op:Int) (p n:Str) (ver:Nat) (lv:Value) (a b:Int) (pv:Value):Array Value:=
 ((((((((((cs.setIfInBounds 0 (.int .i64 op)).setIfInBounds 2 (.string (sb p))).setIfInBounds 3 (.string (sb n))).setIfInBounds 24 (.int .i64 (ver:Int))).setIfInBounds 4 (.string (sb p))).setIfInBounds 5 (.string (sb n))).setIfInBounds 6 lv).setIfInBounds 7 (.int .i64 a)).setIfInBounds 8 (.int .i64 b)).setIfInBounds 9 pv).setIfInBounds 10 (.int .i64 0)
def RNew (B:Nat) (lv pv:Value) (pl:List PtV):Prop:=(∀ k,lv.ownBlock = some k → B ≤ k) ∧ (∀ k,pv.ownBlock = some k → B ≤ k) ∧ ∀ e ∈ pl,(∀ k,e.2.1.ownBlock = some k → B ≤ k) ∧ ∀ k,e.2.2.ownBlock = some k → B ≤ k
def ObP (g gq:Nat) (q:Nat → Prop) (line:Str) (w0:World) (cs:Array Value) (op:Nat) (l:List Str) (e:Ending) (w' : World):Prop:=
 (∃ p n r a b c d x lv pv pl,l = p :: n :: r ∧ smallS [112,114,105,111] 0 r = some a ∧ smallS [101,110,100,115] 0 a.2 = some b ∧ mustS b.2 = some c ∧ labelsS c.2 = some d ∧ partsS d.2 = some x ∧ pl.map Prod.fst = x.1 ∧ e = .returned (.tuple #[]) ∧
  RS g gq q line w0 w' x.2 (obFin cs op p n c.1 lv a.1 b.1 pv) ∧ RdS lbC 2 w' lv d.1 ∧ PRow w' pv pl ∧ RNew w0.heap.size lv pv pl) ∨
 (objectD op l = none ∧ e = (.panicked [{ v:=.iface 74 (.agg #[]),recovered:=false }]) ∧ FQ g gq w0 w')
structure ObS (g gq:Nat) (q:Nat → Prop) (line:Str) (w3:World) (ob:Nat) (p n:Str) (CS:Array Value) (lv:Value) (a b:Int) (pv:Value) (l:List Str) (w:World):Prop where
 rs:RS g gq (fun k=>q k ∨ ob ≤ k) line w3 w l CS
 blk:w.heap[ob]? = some (.cells (obCells p n lv a b pv) 25 (0,0))
structure ObN (g gq ob:Nat) (w3:World):Prop where
 g:g < ob
 q:gq < ob
 s:w3.heap.size = ob
section
variable {g gq:Nat} {q:Nat → Prop} {line:Str} {w3 w w' : World} {ob:Nat} {p n:Str} {CS CS' : Array Value} {lv pv:Value} {a b:Int} {l l' : List Str}
theorem ObS.step (h:ObS g gq q line w3 ob p n CS lv a b pv l w) (N:ObN g gq ob w3) (hrs:RS g gq (fun k=>q k ∨ ob ≤ k) line w3 w' l' CS') (hf:Fr (fun k=>k = g ∨ k = gq) w w'):ObS g gq q line w3 ob p n CS' lv a b pv l' w':=
 ⟨hrs,hf.blk h.blk (fun e=>by have:=N.g;have:=N.q;omega)⟩
theorem ObS.stepG (h:ObS g gq q line w3 ob p n CS lv a b pv l w) (N:ObN g gq ob w3) (hrs:RS g gq (fun k=>q k ∨ ob ≤ k) line w3 w' l' CS') (hf:Fr (fun k=>k = g) w w'):ObS g gq q line w3 ob p n CS' lv a b pv l' w':=
 h.step N hrs (hf.mono (fun k hk=>.inl hk))
theorem ObS.below (h:ObS g gq q line w3 ob p n CS lv a b pv l w) (hb:Below w.heap.size w w'):ObS g gq q line w3 ob p n CS lv a b pv l w':=⟨h.rs.below hb,blk_below h.blk hb⟩
theorem ObS.away (h:ObS g gq q line w3 ob p n CS lv a b pv l w) (N:ObN g gq ob w3) {S:Nat → Prop} (hf:Fr S w w') (hS:∀ k,S k → ob + 1 ≤ k):ObS g gq q line w3 ob p n CS lv a b pv l w':=
 ⟨h.rs.away hf (fun k hk=>by have:=hS k hk;have:=N.g;have:=N.q;have:=N.s;exact ⟨.inr (by omega),by omega,by omega,by omega⟩),hf.blk h.blk (fun e=>by have:=hS _ e;omega)⟩
theorem ObS.rsSet (h:ObS g gq q line w3 ob p n CS lv a b pv l w) (N:ObN g gq ob w3) (i:Nat) (v:Value):RS g gq (fun k=>q k ∨ ob ≤ k) line w3 (w.setCell ⟨ob,i,none⟩ v) l CS:=by
 refine h.rs.away (S:=fun k=>k = ob) ((Fr.refl (fun k=>k = ob) _).setCell (p:=⟨ob,i,none⟩) (.inl rfl) _) (fun k hk=>?_);have:=N.g;have:=N.q;have:=N.s;exact ⟨.inr (by omega),by omega,by omega,by omega⟩
theorem ObS.set2 (h:ObS g gq q line w3 ob p n CS lv a b pv l w) (N:ObN g gq ob w3) (x:Value):ObS g gq q line w3 ob p n CS x a b pv l (w.setCell ⟨ob,2,none⟩ x):=⟨h.rsSet N 2 x,blk_setCell h.blk 2 x⟩
theorem ObS.set3 (h:ObS g gq q line w3 ob p n CS lv a b pv l w) (N:ObN g gq ob w3) (x:Int):ObS g gq q line w3 ob p n CS lv x b pv l (w.setCell ⟨ob,3,none⟩ (.int .i64 x)):=⟨h.rsSet N 3 _,blk_setCell h.blk 3 _⟩
theorem ObS.set4 (h:ObS g gq q line w3 ob p n CS lv a b pv l w) (N:ObN g gq ob w3) (x:Int):ObS g gq q line w3 ob p n CS lv a x pv l (w.setCell ⟨ob,4,none⟩ (.int .i64 x)):=⟨h.rsSet N 4 _,blk_setCell h.blk 4 _⟩
theorem ObS.set5 (h:ObS g gq q line w3 ob p n CS lv a b pv l w) (N:ObN g gq ob w3) (x:Value):ObS g gq q line w3 ob p n CS lv a b x l (w.setCell ⟨ob,5,none⟩ x):=⟨h.rsSet N 5 x,blk_setCell h.blk 5 x⟩
theorem ObS.cell (h:ObS g gq q line w3 ob p n CS lv a b pv l w):(w.cell? ⟨ob,0,none⟩ = some (.string (sb p)) ∧ w.cell? ⟨ob,1,none⟩ = some (.string (sb n)) ∧ w.cell? ⟨ob,2,none⟩ = some lv ∧ w.cell? ⟨ob,3,none⟩ = some (.int .i64 a) ∧ w.cell? ⟨ob,4,none⟩ = some (.int .i64 b) ∧ w.cell? ⟨ob,5,none⟩ = some pv ∧ w.cell? ⟨ob,6,none⟩ = some (.int .i64 0)) ∧
  w.frozen? ⟨ob,2,none⟩ = false ∧ w.frozen? ⟨ob,3,none⟩ = false ∧ w.frozen? ⟨ob,4,none⟩ = false ∧ w.frozen? ⟨ob,5,none⟩ = false:=by
 have k:=fun i (hi:i < 7)=>cellsN (i:=i) h.blk hi;exact ⟨⟨(k 0 (by omega)).1,(k 1 (by omega)).1,(k 2 (by omega)).1,(k 3 (by omega)).1,(k 4 (by omega)).1,(k 5 (by omega)).1,(k 6 (by omega)).1⟩,(k 2 (by omega)).2,(k 3 (by omega)).2,(k 4 (by omega)).2,(k 5 (by omega)).2⟩
end
structure LaW (g gq:Nat) (q:Nat → Prop) (line:Str) (w3:World) (ob:Nat) (p n:Str) (CS:Array Value) (a b:Int) (o:Option (List (Str × Str) × List Str)) (v:Value) (wr:World) (done:List (Str × Str)) (l:List Str):Prop where
 eq:o = (labelsS l).map fun x=>(done ++ x.1,x.2)
 st:ObS g gq q line w3 ob p n CS v a b (.slice none 0 0) l wr
 row:GrW 95 2 lbC (ob + 1) wr v done
 small:∀ t ∈ l,t.length ≤ 1048576
 num:done.length + l.length ≤ 1048577
def LaLoop (g gq:Nat) (q:Nat → Prop) (line:Str) (w3:World) (ob:Nat) (p n:Str) (CS:Array Value) (a b:Int) (o:Option (List (Str × Str) × List Str)) (wr:World):Prop := ∃ v done l,LaW g gq q line w3 ob p n CS a b o v wr done l
structure LpW (g gq:Nat) (q:Nat → Prop) (line:Str) (w3:World) (ob:Nat) (p n:Str) (CS:Array Value) (lv:Value) (dl:List (Str × Str)) (a b:Int) (B:Nat) (o:Option (List Ptt × List Str)) (v:Value) (wr:World) (done:List PtV) (l:List Str):Prop where
 eq:o = (partsS l).map fun x=>(done.map Prod.fst ++ x.1,x.2)
 st:ObS g gq q line w3 ob p n CS lv a b v l wr
 lrow:RdS lbC 2 wr lv dl
 row:POwn B wr v done
 small:∀ t ∈ l,t.length ≤ 1048576
 num:done.length + l.length ≤ 1048577
 le:B ≤ wr.heap.size
def LpLoop (g gq:Nat) (q:Nat → Prop) (line:Str) (w3:World) (ob:Nat) (p n:Str) (CS:Array Value) (lv:Value) (dl:List (Str × Str)) (a b:Int) (B:Nat) (o:Option (List Ptt × List Str)) (wr:World):Prop := ∃ v done l,LpW g gq q line w3 ob p n CS lv dl a b B o v wr done l
structure PbS (g gq:Nat) (q:Nat → Prop) (line:Str) (w3:World) (ob:Nat) (p n:Str) (CS:Array Value) (lv:Value) (a b:Int) (v:Value) (pb:Nat) (nm:Str) (wr:World) (rq lm:List Amt) (v1 v2:Value) (l:List Str) (w:World):Prop where
 st:ObS g gq q line w3 ob p n CS lv a b v l w
 blk:w.heap[pb]? = some (.cells #[.string (sb nm),v1,v2] 118 (0,0))
 fr:Fr (fun k=>k = g) wr w
 hp:wr.heap.size ≤ pb ∧ g < wr.heap.size ∧ ob + 1 ≤ pb
 r1:RdS amtC 2 w v1 rq ∧ ∀ k,v1.ownBlock = some k → wr.heap.size ≤ k ∧ k ≠ pb
 r2:RdS amtC 2 w v2 lm ∧ ∀ k,v2.ownBlock = some k → wr.heap.size ≤ k ∧ k ≠ pb
section
variable {g gq:Nat} {q:Nat → Prop} {line:Str} {w3 wr w w' : World} {ob pb:Nat} {p n nm:Str} {CS:Array Value} {lv v v1 v2:Value} {a b:Int} {l l' : List Str} {rq lm:List Amt}
theorem PbS.stepG (h:PbS g gq q line w3 ob p n CS lv a b v pb nm wr rq lm v1 v2 l w) (N:ObN g gq ob w3) (hrs:RS g gq (fun k=>q k ∨ ob ≤ k) line w3 w' l' CS) (hf:Fr (fun k=>k = g) w w'):PbS g gq q line w3 ob p n CS lv a b v pb nm wr rq lm v1 v2 l' w':=by
 have hp:=h.hp;have hs:=h.fr.size;exact ⟨h.st.stepG N hrs hf,hf.blk h.blk (by omega),h.fr.trans hf (fun k hk=>.inl hk),hp,⟨RdS.fr h.r1.1 hf (fun k hk e=>by have:=(h.r1.2 k hk).1;omega),h.r1.2⟩,RdS.fr h.r2.1 hf (fun k hk e=>by have:=(h.r2.2 k hk).1;omega),h.r2.2⟩
theorem PbS.set1 (h:PbS g gq q line w3 ob p n CS lv a b v pb nm wr rq lm v1 v2 l w) (N:ObN g gq ob w3) {x:Value} {rq' : List Amt} (hx:RdS amtC 2 w x rq') (hn:∀ k,x.ownBlock = some k → wr.heap.size ≤ k ∧ k ≠ pb):PbS g gq q line w3 ob p n CS lv a b v pb nm wr rq' lm x v2 l (w.setCell ⟨pb,1,none⟩ x):=by
 have hf:Fr (fun k=>k = pb) w (w.setCell ⟨pb,1,none⟩ x):=(Fr.refl (fun k=>k = pb) _).setCell (p:=⟨pb,1,none⟩) (.inl rfl) _;have hp:=h.hp;exact ⟨h.st.away N hf (fun k hk=>by omega),blk_setCell h.blk 1 x,h.fr.trans hf (fun k hk=>.inr (by omega)),hp,⟨RdS.fr hx hf (fun k hk e=>(hn k hk).2 e),hn⟩,RdS.fr h.r2.1 hf (fun k hk e=>(h.r2.2 k hk).2 e),h.r2.2⟩
theorem PbS.set2 (h:PbS g gq q line w3 ob p n CS lv a b v pb nm wr rq lm v1 v2 l w) (N:ObN g gq ob w3) {x:Value} {lm' : List Amt} (hx:RdS amtC 2 w x lm') (hn:∀ k,x.ownBlock = some k → wr.heap.size ≤ k ∧ k ≠ pb):PbS g gq q line w3 ob p n CS lv a b v pb nm wr rq lm' v1 x l (w.setCell ⟨pb,2,none⟩ x):=by
 have hf:Fr (fun k=>k = pb) w (w.setCell ⟨pb,2,none⟩ x):=(Fr.refl (fun k=>k = pb) _).setCell (p:=⟨pb,2,none⟩) (.inl rfl) _;have hp:=h.hp;exact ⟨h.st.away N hf (fun k hk=>by omega),blk_setCell h.blk 2 x,h.fr.trans hf (fun k hk=>.inr (by omega)),hp,⟨RdS.fr h.r1.1 hf (fun k hk e=>(h.r1.2 k hk).2 e),h.r1.2⟩,RdS.fr hx hf (fun k hk e=>(hn k hk).2 e),hn⟩
theorem PbS.cell (h:PbS g gq q line w3 ob p n CS lv a b v pb nm wr rq lm v1 v2 l w):w.cell? ⟨pb,0,none⟩ = some (.string (sb nm)) ∧ w.cell? ⟨pb,1,none⟩ = some v1 ∧ w.cell? ⟨pb,2,none⟩ = some v2 ∧ w.frozen? ⟨pb,1,none⟩ = false ∧ w.frozen? ⟨pb,2,none⟩ = false:=by
 obtain ⟨a0,a1,a2, -,b1,b2⟩:=cells3 h.blk;exact ⟨a0,a1,a2,b1,b2⟩
end
theorem partS_eq {nm:Str} {r l3 l4:List Str} {rq lm:List Amt} (h1:amountsIf wReq r = some (rq,l3)) (h2:amountsIf wLim l3 = some (lm,l4)):partS nm r = some (⟨nm,rq,lm⟩,l4):=by
 unfold partS;rw [h1];show (amountsIf wLim l3).map _ = _;rw [h2];rfl
theorem object_calls {g gq:Nat} {q:Nat → Prop} {line:Str} {w0:World} (op:Nat) (w:World) (G:∀ W,FQ g gq w0 W → Glob W) (l:List Str) (cs:Array Value) (h:RS g gq q line w0 w l cs) (sd:Sd g gq q) (hg:4 ≤ g) (hsm:∀ t ∈ l,t.length ≤ 1048576) (hln:l.length ≤ 1048577) :
  Calls Tryz.prog 50 #[.pointer (some ⟨g,0,none⟩),.pointer (some ⟨gq,0,none⟩),.int .i64 (op:Int)] w (ObP g gq q line w0 cs op l):=by
 have Hsd:=hIh sd;have HG:=hIh G;have Hg16:=hIh hg;obtain ⟨v0,c0, -,f0⟩:=h.cell 0 (by omega);have h1:=h.set sd 0 (.int .i64 (op:Int))
 have Hn:Hid (∀ W,W = w.setCell ⟨gq,0,none⟩ (.int .i64 (op:Int)) → Calls Tryz.prog 55 #[.pointer (some ⟨g,0,none⟩),.pointer (some ⟨gq,0,none⟩)] W (MtQ g gq q line w0 (namedM (cs.setIfInBounds 0 (.int .i64 (op:Int))) l))):=fun W hW=>by rw [hW];exact h1.named sd
 have Hsm:=hIh hsm;have Hln:=hIh hln;clear h h1 sd G hg hsm hln;go_enter Tryz.func50,Tryz.ntmps50;go_wp2_with fail
 with_reducible refine (Hn.out _ rfl).mono ?_
 rintro e w3 (⟨x,hx,rfl,hR⟩ | ⟨hx,rfl,hF⟩)
 case inr=>
  have hn:objectD op l = none:=by
   cases l with
   | nil=>rfl
   | cons p r=>cases r with
    | nil=>rfl
    | cons n r=>cases hx
  have Hp:Hid (ObP g gq q line w0 cs op l (.panicked [{ v:=.iface 74 (.agg #[]),recovered:=false }]) w3):=.inr ⟨hn,rfl,hF⟩;clear hn hx hF;go_wp2;exact ⟨rfl,Hp.out⟩
 match l,hx with
 | p :: n :: r,hx=>
 cases hx
 have HR:Hid (RS g gq q line w0 w3 r (((cs.setIfInBounds 0 (.int .i64 (op:Int))).setIfInBounds 2 (.string (sb p))).setIfInBounds 3 (.string (sb n)))):=hR;clear hR;have HF0:=hIh HR.out.fr;have Hod:Hid (objectD op (p :: n :: r) = (smallS [112,114,105,111] 0 r).bind fun a=>(smallS [101,110,100,115] 0 a.2).bind fun b=>(mustS b.2).bind fun c=>(labelsS c.2).bind fun d=>(partsS d.2).bind fun e=>ended { ReqD.zero with op:=op,path:=p,name:=n,obj:=⟨p,n,d.1,a.1,b.1,e.1⟩,ver:=c.1 } e.2):=rfl;have Hbad:Hid (∀ W,objectD op (p :: n :: r) = none → FQ g gq w3 W → ObP g gq q line w0 cs op (p :: n :: r) (.panicked [{ v:=.iface 74 (.agg #[]),recovered:=false }]) W):=fun W h1 h2=>.inr ⟨h1,rfl,HF0.out.then h2⟩;have Hsm3:Hid (∀ t ∈ r,t.length ≤ 1048576):=fun t ht=>Hsm.out t (List.mem_cons_of_mem _ (List.mem_cons_of_mem _ ht))
 have Hln3:Hid (r.length ≤ 1048577):=by have:=Hln.out;show _ ≤ _;simp only [List.length_cons] at this;omega
 generalize hCS:(((cs.setIfInBounds 0 (.int .i64 (op:Int))).setIfInBounds 2 (.string (sb p))).setIfInBounds 3 (.string (sb n))) = CS at HR;have HCS:=hIh hCS;obtain ⟨x2,y2,z2, -⟩:=HR.out.cell 2 (by omega);obtain ⟨x3,y3,z3, -⟩:=HR.out.cell 3 (by omega)
 have hsz:cs.size = 29:=by have:=HR.out.sz;rw [← hCS] at this;simpa using this
 have e2:x2 = .string (sb p):=by rw [← hCS] at z2;simp [hsz] at z2;exact z2.symm
 have e3:x3 = .string (sb n):=by rw [← hCS] at z3;simp [hsz] at z3;exact z3.symm
 subst e2 e3;obtain ⟨ob,hob⟩ : ∃ ob,ob = w3.heap.size:=⟨_,rfl⟩;have HN:Hid (ObN g gq ob w3):=⟨by rw [hob];exact HR.out.glt,by rw [hob];exact HR.out.qlt,hob.symm⟩;have Hsd1:Hid (Sd g gq (fun k=>q k ∨ ob ≤ k)):=Hsd.out.more HN.out.g
 have hR1:RS g gq (fun k=>q k ∨ ob ≤ k) line w3 w3 r CS:=by rw [hob];exact HR.out.more.base
 obtain ⟨W4,hW4⟩ : ∃ W4,W4 = (w3.alloc (.cells #[.string (sb p),.string (sb n),.slice none 0 0,.int .i64 0,.int .i64 0,.slice none 0 0,.int .i64 0] 25)).drew:=⟨_,rfl⟩
 have H4:Hid (ObS g gq q line w3 ob p n CS (.slice none 0 0) 0 0 (.slice none 0 0) r W4):=by
  rw [hW4];refine ⟨(hR1.below (bel_alloc _ _)).drew,?_⟩;rw [hob];exact blk_new _ _
 have Hlt:Hid (gq < w3.heap.size):=HR.out.qlt;clear hCS z2 z3 hsz hR1 hx;go_wp2;go_region_held3 (fun W=>W.cell? ⟨gq,2,none⟩ = some (.string (sb p)) ∧ W.cell? ⟨gq,3,none⟩ = some (.string (sb n))) (first | exact ⟨y2,y3⟩ | exact ⟨(drew_cell _ _).trans ((World.cell?_alloc_lt w3 _ _ Hlt.out).trans y2),(drew_cell _ _).trans ((World.cell?_alloc_lt w3 _ _ Hlt.out).trans y3)⟩) (fail);rw [← hob];rw [← hW4];have HW4:=hIh hW4;have Hob:=hIh hob;clear hW4 hob y2 y3 Hlt Hn c0 f0
 cases ha:smallS [112,114,105,111] 0 r with
 | none=>
  have Hs:=hIh (H4.out.rs.smallF [112,114,105,111] 0 (by decide) (ByteArray.mk #[112,114,105,111]) rfl ha);have Hp:=hIh (fun W=>Hbad.out W (by rw [Hod.out,ha];rfl));clear ha;go_wp2_with fail
  with_reducible refine Hs.out.mono ?_
  rintro e w5 ⟨rfl,hF5⟩;have Hp2:=hIh (Hp.out w5 hF5);clear hF5;go_wp2;exact pan_end Hp2.out
 | some a=>
 have Ha:=hIh ha;have Has:=hIh (smallS_sub ha);have Hs:=hIh (H4.out.rs.smallT Hsd1.out [112,114,105,111] 0 (by decide) (ByteArray.mk #[112,114,105,111]) rfl ha);clear ha;go_wp2_with fail
 with_reducible refine Hs.out.mono ?_
 rintro e w5 ⟨rfl,hR5,hF5⟩;have h5:=H4.out.stepG HN.out hR5 hF5;obtain ⟨⟨-, -, -,c3, -, -, -⟩, -,f3, -, -⟩:=h5.cell;have H6:=hIh (h5.set3 HN.out a.1);clear hR5 hF5 h5 Hs
 cases hb:smallS [101,110,100,115] 0 a.2 with
 | none=>
  have Hs:Hid (∀ W,W = w5.setCell ⟨ob,3,none⟩ (.int .i64 a.1) → Calls Tryz.prog 101 #[.pointer (some ⟨g,0,none⟩),.string (ByteArray.mk #[101,110,100,115]),.int .i64 0] W fun e w'=>e = (.panicked [{ v:=.iface 74 (.agg #[]),recovered:=false }]) ∧ FQ g gq w3 w'):=fun W hW=>by rw [hW];exact H6.out.rs.smallF [101,110,100,115] 0 (by decide) (ByteArray.mk #[101,110,100,115]) rfl hb
  have Hp:=hIh (fun W=>Hbad.out W (by rw [Hod.out,Ha.out];show (smallS [101,110,100,115] 0 a.2).bind _ = none;rw [hb];rfl));clear hb;go_wp2_with fail
  with_reducible refine (Hs.out _ rfl).mono ?_
  rintro e w7 ⟨rfl,hF7⟩;have Hp2:=hIh (Hp.out w7 hF7);clear hF7;go_wp2;exact pan_end Hp2.out
 | some b=>
 have Hb:=hIh hb;have Hbs:=hIh (smallS_sub hb)
 have Hs:Hid (∀ W,W = w5.setCell ⟨ob,3,none⟩ (.int .i64 a.1) → Calls Tryz.prog 101 #[.pointer (some ⟨g,0,none⟩),.string (ByteArray.mk #[101,110,100,115]),.int .i64 0] W fun e w'=>e = .returned (.int .i64 b.1) ∧ ObS g gq q line w3 ob p n CS (.slice none 0 0) a.1 0 (.slice none 0 0) b.2 w'):=fun W hW=>by
  rw [hW];refine (H6.out.rs.smallT Hsd1.out [101,110,100,115] 0 (by decide) (ByteArray.mk #[101,110,100,115]) rfl hb).mono ?_;rintro e w' ⟨h1,h2,h3⟩;exact ⟨h1,H6.out.stepG HN.out h2 h3⟩
 clear hb;go_wp2_with fail
 with_reducible refine (Hs.out _ rfl).mono ?_
 rintro e w7 ⟨rfl,h7⟩;obtain ⟨⟨-, -, -, -,c4, -, -⟩, -, -,f4, -⟩:=h7.cell;have H8:=hIh (h7.set4 HN.out b.1);clear h7 Hs H6 c3 f3
 cases hc:mustS b.2 with
 | none=>
  have Hs:Hid (∀ W,W = w7.setCell ⟨ob,4,none⟩ (.int .i64 b.1) → Calls Tryz.prog 102 #[.pointer (some ⟨g,0,none⟩)] W fun e w'=>e = (.panicked [{ v:=.iface 74 (.agg #[]),recovered:=false }]) ∧ FQ g gq w3 w'):=fun W hW=>by rw [hW];exact H8.out.rs.mustF hc
  have Hp:=hIh (fun W=>Hbad.out W (by rw [Hod.out,Ha.out];show (smallS [101,110,100,115] 0 a.2).bind _ = none;rw [Hb.out];show (mustS b.2).bind _ = none;rw [hc];rfl));clear hc;go_wp2_with fail
  with_reducible refine (Hs.out _ rfl).mono ?_
  rintro e w9 ⟨rfl,hF9⟩;have Hp2:=hIh (Hp.out w9 hF9);clear hF9;go_wp2;exact pan_end Hp2.out
 | some c=>
 have Hc:=hIh hc;have Hcs:=hIh (mustS_sub hc)
 have Hs:Hid (∀ W,W = w7.setCell ⟨ob,4,none⟩ (.int .i64 b.1) → Calls Tryz.prog 102 #[.pointer (some ⟨g,0,none⟩)] W fun e w'=>e = .returned (.int .i64 (c.1:Int)) ∧ ObS g gq q line w3 ob p n CS (.slice none 0 0) a.1 b.1 (.slice none 0 0) c.2 w'):=fun W hW=>by
  rw [hW];refine (H8.out.rs.mustT Hsd1.out hc).mono ?_;rintro e w' ⟨h1,h2,h3⟩;exact ⟨h1,H8.out.stepG HN.out h2 h3⟩
 clear hc;go_wp2_with fail
 with_reducible refine (Hs.out _ rfl).mono ?_
 rintro e w9 ⟨rfl,h9⟩;obtain ⟨v24,c24, -,f24⟩:=h9.rs.cell 24 (by omega);obtain ⟨W10,hW10⟩ : ∃ W10,W10 = w9.setCell ⟨gq,24,none⟩ (.int .i64 (c.1:Int)):=⟨_,rfl⟩
 have h10:ObS g gq q line w3 ob p n (CS.setIfInBounds 24 (.int .i64 (c.1:Int))) (.slice none 0 0) a.1 b.1 (.slice none 0 0) c.2 W10:=by
  rw [hW10];exact h9.step HN.out (h9.rs.set Hsd1.out 24 _) ((Fr.refl (fun k=>k = g ∨ k = gq) _).setCell (p:=⟨gq,24,none⟩) (.inl (.inr rfl)) _)
 obtain ⟨CT,hCT⟩ : ∃ CT,CT = CS.setIfInBounds 24 (.int .i64 (c.1:Int)):=⟨_,rfl⟩;rw [← hCT] at h10;have HCT:=hIh hCT;have HW10:=hIh hW10
 have Hbad2:Hid (∀ W,(labelsS c.2).bind (fun d=>(partsS d.2).bind fun e=>ended { ReqD.zero with op:=op,path:=p,name:=n,obj:=⟨p,n,d.1,a.1,b.1,e.1⟩,ver:=c.1 } e.2) = none → FQ g gq w3 W → ObP g gq q line w0 cs op (p :: n :: r) (.panicked [{ v:=.iface 74 (.agg #[]),recovered:=false }]) W):=fun W h1 h2=>Hbad.out W (by
  rw [Hod.out,Ha.out];show (smallS [101,110,100,115] 0 a.2).bind _ = none;rw [Hb.out];show (mustS b.2).bind _ = none;rw [Hc.out];exact h1) h2
 have Hsm4:Hid (∀ t ∈ c.2,t.length ≤ 1048576):=fun t ht=>Hsm3.out t (Has.out.1 t (Hbs.out.1 t (Hcs.out.1 t ht)));have Hln4:Hid (c.2.length ≤ 1048577):=Nat.le_trans Hcs.out.2 (Nat.le_trans Hbs.out.2 (Nat.le_trans Has.out.2 Hln3.out));have Hgood:Hid (∀ W d x lv pv pl,labelsS c.2 = some d → partsS d.2 = some x → pl.map Prod.fst = x.1 → RS g gq q line w0 W x.2 (obFin cs op p n c.1 lv a.1 b.1 pv) → RdS lbC 2 W lv d.1 → PRow W pv pl → RNew w0.heap.size lv pv pl → ObP g gq q line w0 cs op (p :: n :: r) (.returned (.tuple #[])) W):=fun W d x lv pv pl h1 h2 h3 h4 h5 h6 h7=>.inl ⟨p,n,r,a,b,c,d,x,lv,pv,pl,rfl,Ha.out,Hb.out,Hc.out,h1,h2,h3,rfl,h4,h5,h6,h7⟩;have Hst:Hid (LaLoop g gq q line w3 ob p n CT a.1 b.1 (labelsS c.2) W10):=⟨.slice none 0 0, [],c.2,⟨by simp,h10,GrW.nil _ _ _ _ _,Hsm4.out,by simpa using Hln4.out⟩⟩;clear h9 h10 hCT hW10 c4 f4 Hs H8;go_wp2;rw [← HW10.out];clear c24 f24
 go_loopw [] (fun wr=>LaLoop g gq q line w3 ob p n CT a.1 b.1 (labelsS c.2) wr) (fun wr=>rdLen g wr)
 case atStart=>exact Hst.out
 case round=>
  clear Hst;obtain ⟨v,done,l',hA⟩:=hrel;obtain ⟨wo,rfl⟩ : ∃ wo:World,wo = wr:=⟨_,rfl⟩;have HA:=hIh hA;clear hA
  by_cases hh:l'.head? = some wLabel
  case pos=>
   obtain ⟨l2,rfl⟩ : ∃ l2,l' = wLabel :: l2:=by cases l' with
    | nil=>cases hh
    | cons t l2=>exact ⟨l2,by cases hh;rfl⟩
   have His:=hIh (HA.out.st.rs.isTL Hsd1.out (ByteArray.mk #[108,97,98,101,108]) rfl);clear hh;go_wp2_with fail;(with_reducible refine His.out.mono ?_);rintro e w4 ⟨rfl,hR4,hF4⟩;have H4:=hIh (HA.out.st.stepG HN.out hR4 hF4);have HF4:=hIh hF4;clear hR4 hF4 His
   cases l2 with
   | nil=>
    have Hw:=hIh H4.out.rs.wordN;have Hp:=hIh (Hbad2.out w4 (by rw [HA.out.eq,labelsS_one];rfl) H4.out.rs.fr);go_wp2_with fail;(with_reducible refine Hw.out.mono ?_);rintro e w8 ⟨rfl,hw8⟩;obtain rfl:=hw8.symm;go_wp2;exact pan_end Hp.out
   | cons u r2=>
    have Hw:=hIh (H4.out.rs.wordL Hsd1.out);go_wp2_with fail;(with_reducible refine Hw.out.mono ?_);rintro e w5 ⟨rfl,hR5,hF5⟩;have H5:=hIh (H4.out.stepG HN.out hR5 hF5);have HF5:=hIh (HF4.out.trans hF5 (fun k hk=>.inl hk));have Hg5:=hIh (HG.out w5 (HF0.out.then hR5.fr));clear hR5 hF5 Hw;have hul:u.length ≤ 1048576:=HA.out.small u (by simp)
    cases hcut:cutAt [61] u with
    | none=>
     have Hcut:Hid (Calls Tryz.prog 11 #[.string (sb u),.string (ByteArray.mk #[61])] w5 fun e w'=>e = .returned (.tuple #[.string (sb u),.string (sb []),.bool false]) ∧ Below w5.heap.size w5 w'):=lcutN_calls w5 Hg5.out u [61] (by omega) (by decide) hcut;have Hp:=hIh (fun W (hb:Below w5.heap.size w5 W)=>Hbad2.out W (by rw [HA.out.eq,labelsS_bad hcut];rfl) (H5.out.rs.below hb).fr);generalize sb u = US at Hcut;generalize sb [] = E0 at Hcut;clear hcut hul;go_wp2_with fail;(with_reducible refine Hcut.out.mono ?_);rintro e w6 ⟨rfl,hw6⟩;have Hp2:=hIh (Hp.out w6 hw6);clear hw6;go_wp2_with (go_at_call 29;with_reducible refine (needF_calls _ _).mono ?_;rintro e wz ⟨rfl,hwz⟩;obtain rfl:=hwz.symm);exact pan_end Hp2.out
    | some y=>
     obtain ⟨nm,uv⟩:=y;have Hcut:Hid (Calls Tryz.prog 11 #[.string (sb u),.string (ByteArray.mk #[61])] w5 fun e w'=>e = .returned (.tuple #[.string (sb nm),.string (sb uv),.bool true]) ∧ Below w5.heap.size w5 w'):=lcutS_calls w5 Hg5.out u [61] nm uv (by omega) (by decide) hcut;have Hgo:=hIh (labelsS_go (r:=r2) hcut);obtain ⟨A0,cp,hv⟩:=own_slice HA.out.row.own;subst hv;obtain ⟨m,hm⟩ : ∃ m,m = done.length:=⟨_,rfl⟩;obtain ⟨T,hT⟩ : ∃ T,T = done.flatMap lbC:=⟨_,rfl⟩;have HAm:=HA.out;have H5m:=H5.out;rw [← hm] at HAm H5m;have HA1:=hIh HAm;have H5:=hIh H5m;have Hm:=hIh hm;have HT:=hIh hT;have Hmb:Hid (m ≤ 1048577):=(by show _ ≤ _;have:=HA.out.num;omega);generalize sb u = US at Hcut;clear hcut hul hm hT HAm H5m;go_wp2_with fail;(with_reducible refine Hcut.out.mono ?_);rintro e w6 ⟨rfl,hw6⟩;have H6:=hIh (H5.out.below hw6);have Hb6:=hIh hw6;obtain ⟨⟨-, -,c2, -, -, -, -⟩,f2, -, -, -⟩:=H6.out.cell
     obtain ⟨XC,hXC⟩ : ∃ XC,XC = [(nm,uv)].flatMap lbC:=⟨_,rfl⟩;have HXC:=hIh hXC;have Hrow6:Hid (GrW 95 2 lbC (ob + 1) w6 (.slice A0 m cp) done):=(HA1.out.row.fr HF5.out (fun k h1 h2 h3 h4=>by have:=HN.out.g;omega)).below hw6;have Hown:Hid (w6.ownsRow 0 95 2 (.slice A0 m cp) m T):=(by have:=Hrow6.out.own;rw [← Hm.out,← HT.out] at this;exact this)
     have Hc1:Hid (Rd (w6.alloc (.cells #[.string (sb nm),.string (sb uv)] 95)) 2 (.slice (some ⟨w6.heap.size,0,none⟩) 1 1) 1 XC):=by
      show Rd _ _ _ _ _;rw [hXC];exact rd_lb w6 95 (nm,uv)
     have Hc4:Hid (∀ u ∈ XC,u.oneCell' = true):=(by rw [hXC];exact lb_one _);clear hXC hw6;go_wp2_with (first | (go_at_call 29;with_reducible refine (needT_calls _ _).mono ?_;rintro e wz ⟨rfl,hwz⟩;obtain rfl:=hwz.symm) | (at_builtin;refine wpList_append2 _ rfl (.tmp 51) (.tmp 55) 22 rfl 95 (.agg #[.string ⟨#[]⟩,.string ⟨#[]⟩]) 2 32 Tryz.underlying22 infoLb rfl (by decide) _ m T rfl (Hown.out.alloc _) _ 1 XC rfl ?c1 ?c4 ?c2 ?c3 ?_))
     case c1=>exact Hc1.out
     case c4=>exact Hc4.out
     case c2=>have:=Hmb.out;unfold maxLen;omega
     case c3=>have:=Hmb.out;omega
     intro v' w7 ho7 hg7 hn7 _;obtain ⟨A',c',rfl⟩:=own_slice ho7;have h7:ObS g gq q line w3 ob p n CT (.slice A0 m cp) a.1 b.1 (.slice none 0 0) r2 w7:=(H6.out.below (bel_alloc _ _)).away HN.out (S:=fun k=>(Value.slice A0 m cp).ownBlock = some k) ((Fr.refl _ _).grown hg7 (fun k hk=>.inl hk)) (fun k hk=>Hrow6.out.new k hk)
     have hrow7:GrW 95 2 lbC (ob + 1) w7 (.slice A' (m + 1) c') (done ++ [(nm,uv)]):=by
      refine Hrow6.out.next (ob:=.cells #[] 0) (v':=.slice A' (m + 1) c') ?_ ?_ ?_
      ·have:=H6.out.rs.fr.size;have:=HN.out.s;have:=blk_lt H6.out.blk;omega
      ·rw [← Hm.out,← HT.out,← HXC.out];exact ho7
      ·intro k hk
       exact hn7 k hk
     obtain ⟨⟨-, -,d2, -, -, -, -⟩,g2, -, -, -⟩:=h7.cell
     have Hk:Hid (LaLoop g gq q line w3 ob p n CT a.1 b.1 (labelsS c.2) (w7.setCell ⟨ob,2,none⟩ (.slice A' (m + 1) c')) ∧ rdLen g (w7.setCell ⟨ob,2,none⟩ (.slice A' (m + 1) c')) < rdLen g wo):=by
      have h9:LaW g gq q line w3 ob p n CT a.1 b.1 (labelsS c.2) (.slice A' (m + 1) c') (w7.setCell ⟨ob,2,none⟩ (.slice A' (m + 1) c')) (done ++ [(nm,uv)]) r2:=by
       refine ⟨?_,h7.set2 HN.out _,hrow7.fr ((Fr.refl (fun k=>k = ob) _).setCell (p:=⟨ob,2,none⟩) (.inl rfl) _) (fun k h1 h2 h3 h4=>by omega),fun t ht=>HA.out.small t (List.mem_cons_of_mem _ (List.mem_cons_of_mem _ ht)),?_⟩
       ·rw [HA.out.eq,Hgo.out,Option.map_map]
        congr 1
        funext y
        simp
       ·have:=HA.out.num
        simp only [List.length_append,List.length_cons,List.length_nil] at this ⊢;omega
      refine ⟨⟨_,_,_,h9⟩,?_⟩;rw [h9.st.rs.rd.len,HA.out.st.rs.rd.len];simp only [List.length_cons];omega
     clear h7 hrow7 ho7 hg7 hn7 c2 f2;go_wp2;go_roundw
     case rel=>exact Hk.out.1
     case measure=>exact Hk.out.2
  have His:=hIh (HA.out.st.rs.isNoL wLabel hh (ByteArray.mk #[108,97,98,101,108]) rfl)
  have Hlab:Hid (labelsS c.2 = some (done,l')):=by show _ = _;rw [HA.out.eq,labelsS_stop hh];simp
  clear hh;go_wp2_with fail
  with_reducible refine His.out.mono ?_
  rintro e wx ⟨rfl,hwx⟩;obtain rfl:=hwx.symm;obtain ⟨B,hB⟩ : ∃ B,B = wo.heap.size:=⟨_,rfl⟩;have Hlv:Hid (∀ k,v.ownBlock = some k → ob + 1 ≤ k ∧ k < B):=fun k hk=>⟨HA.out.row.new k hk,by rw [hB];exact (HA.out.row.own.lt k hk).2⟩
  have HB:Hid (ob + 1 ≤ B):=by have:=blk_lt HA.out.st.blk;show _ ≤ _;omega
  have Hst:Hid (LpLoop g gq q line w3 ob p n CT v done a.1 b.1 B (partsS l') wo):=⟨.slice none 0 0, [],l',⟨by simp,HA.out.st,HA.out.row.rd,POwn.nil _ _,HA.out.small,by have:=HA.out.num;simp only [List.length_nil];omega,by omega⟩⟩;have Hbad3:Hid (∀ W,partsS l' = none → FQ g gq w3 W → ObP g gq q line w0 cs op (p :: n :: r) (.panicked [{ v:=.iface 74 (.agg #[]),recovered:=false }]) W):=fun W h1 h2=>Hbad2.out W (by rw [Hlab.out];show (partsS l').bind _ = none;rw [h1];rfl) h2;have Hgood2:Hid (∀ W x pv pl,partsS l' = some x → pl.map Prod.fst = x.1 → RS g gq q line w0 W x.2 (obFin cs op p n c.1 v a.1 b.1 pv) → RdS lbC 2 W v done → PRow W pv pl → RNew w0.heap.size v pv pl → ObP g gq q line w0 cs op (p :: n :: r) (.returned (.tuple #[])) W):=fun W x pv pl h1 h2 h3 h4 h5 h6=>Hgood.out W (done,l') x v pv pl Hlab.out h1 h2 h3 h4 h5 h6;obtain ⟨lv,hlv⟩ : ∃ lv,lv = v:=⟨_,rfl⟩;obtain ⟨dl,hdl⟩ : ∃ dl,dl = done:=⟨_,rfl⟩
  obtain ⟨lb,hlb⟩ : ∃ lb,lb = l':=⟨_,rfl⟩;rw [← hlv] at Hlv Hst Hgood2;rw [← hdl] at Hst Hgood2;rw [← hlb] at Hst Hbad3 Hgood2
  have Hlim0:Hid (∀ t ∈ lb,t.length ≤ 1048576):=by rw [hlb];exact HA.out.small
  clear hB His HA Hlab Hbad2 Hgood Hod Hbad hlv hdl hlb;go_wp2
  go_loopw [] (fun wr=>LpLoop g gq q line w3 ob p n CT lv dl a.1 b.1 B (partsS lb) wr) (fun wr=>rdLen g wr)
  case atStart=>exact Hst.out
  case round=>
   clear Hst;obtain ⟨v,done,l',hA⟩:=hrel;obtain ⟨wo,rfl⟩ : ∃ wo:World,wo = wr:=⟨_,rfl⟩;have HA:=hIh hA;clear hA
   by_cases hh:l'.head? = some wPart
   case neg=>
    have His:=hIh (HA.out.st.rs.isNoL wPart hh (ByteArray.mk #[112,97,114,116]) rfl);have Hpts:Hid (partsS lb = some (done.map Prod.fst,l')):=(by show _ = _;rw [HA.out.eq,partsS_stop hh];simp);obtain ⟨⟨b0,b1,b2,b3,b4,b5,b6⟩, -⟩:=HA.out.st.cell;obtain ⟨x4,y4, -,z4⟩:=HA.out.st.rs.cell 4 (by omega);obtain ⟨x5,y5, -,z5⟩:=HA.out.st.rs.cell 5 (by omega);obtain ⟨x6,y6, -,z6⟩:=HA.out.st.rs.cell 6 (by omega);obtain ⟨x7,y7, -,z7⟩:=HA.out.st.rs.cell 7 (by omega);obtain ⟨x8,y8, -,z8⟩:=HA.out.st.rs.cell 8 (by omega);obtain ⟨x9,y9, -,z9⟩:=HA.out.st.rs.cell 9 (by omega);obtain ⟨x10,y10, -,z10⟩:=HA.out.st.rs.cell 10 (by omega)
    have hfr:∀ u4 u5 u6 u7 u8 u9 u10:Value,Fr (fun k=>k = gq) wo (((((((wo.setCell ⟨gq,4,none⟩ u4).setCell ⟨gq,5,none⟩ u5).setCell ⟨gq,6,none⟩ u6).setCell ⟨gq,7,none⟩ u7).setCell ⟨gq,8,none⟩ u8).setCell ⟨gq,9,none⟩ u9).setCell ⟨gq,10,none⟩ u10):=fun u4 u5 u6 u7 u8 u9 u10=>
     (((((((Fr.refl (fun k=>k = gq) wo).setCell (p:=⟨gq,4,none⟩) (.inl rfl) u4).setCell (p:=⟨gq,5,none⟩) (.inl rfl) u5).setCell (p:=⟨gq,6,none⟩) (.inl rfl) u6).setCell (p:=⟨gq,7,none⟩) (.inl rfl) u7).setCell (p:=⟨gq,8,none⟩) (.inl rfl) u8).setCell (p:=⟨gq,9,none⟩) (.inl rfl) u9).setCell (p:=⟨gq,10,none⟩) (.inl rfl) u10
    have Hp:Hid (ObP g gq q line w0 cs op (p :: n :: r) (.returned (.tuple #[])) (((((((wo.setCell ⟨gq,4,none⟩ (.string (sb p))).setCell ⟨gq,5,none⟩ (.string (sb n))).setCell ⟨gq,6,none⟩ lv).setCell ⟨gq,7,none⟩ (.int .i64 a.1)).setCell ⟨gq,8,none⟩ (.int .i64 b.1)).setCell ⟨gq,9,none⟩ v).setCell ⟨gq,10,none⟩ (.int .i64 0))):=by
     refine Hgood2.out _ (done.map Prod.fst,l') v done Hpts.out rfl ?_ ?_ ?_ ?_
     ·have h1:=(((((((HA.out.st.rs.set Hsd1.out 4 (.string (sb p))).set Hsd1.out 5 (.string (sb n))).set Hsd1.out 6 lv).set Hsd1.out 7 (.int .i64 a.1)).set Hsd1.out 8 (.int .i64 b.1)).set Hsd1.out 9 v).set Hsd1.out 10 (.int .i64 0))
      have h2:=(h1.mono (q':=q) (fun k hk=>.inl hk)).rebase HF0.out;rw [HCT.out,← HCS.out] at h2;exact h2
     ·exact RdS.fr HA.out.lrow (hfr _ _ _ _ _ _ _) (fun k hk e=>by have:=(Hlv.out k hk).1;have:=HN.out.q;omega)
     ·exact (HA.out.row.fr (hfr _ _ _ _ _ _ _) (fun k h1 h2 h3=>by have:=HB.out;have:=HN.out.q;omega)).row
     ·have h1:=HF0.out.size
      have h2:=HN.out.s;have h3:=HB.out;refine ⟨fun k hk=>by have:=(Hlv.out k hk).1;omega,fun k hk=>by have:=HA.out.row.new k hk;omega,fun e he=>⟨fun k hk=>?_,fun k hk=>?_⟩⟩
      ·have:=(HA.out.row.els e he).1.2.1 k hk;omega
      ·have:=(HA.out.row.els e he).2.2.1 k hk;omega
    obtain ⟨A9,c9,hv9⟩:=own_slice HA.out.row.own;obtain ⟨A8,c8,hv8⟩:=HA.out.lrow.slice;subst hv9 hv8;clear hh hfr;go_wp2_with fail;(with_reducible refine His.out.mono ?_);rintro e wx ⟨rfl,hwx⟩;obtain rfl:=hwx.symm;go_wp2;go_end0;exact Hp.out
   obtain ⟨l2,rfl⟩ : ∃ l2,l' = wPart :: l2:=by cases l' with
    | nil=>cases hh
    | cons t l2=>exact ⟨l2,by cases hh;rfl⟩
   have His:=hIh (HA.out.st.rs.isTL Hsd1.out (ByteArray.mk #[112,97,114,116]) rfl);clear hh;go_wp2_with fail;(with_reducible refine His.out.mono ?_);rintro e w4 ⟨rfl,hR4,hF4⟩;have H4:=hIh (HA.out.st.stepG HN.out hR4 hF4);have HF4:=hIh hF4;clear hR4 hF4 His
   cases l2 with
   | nil=>
    have Hw:=hIh H4.out.rs.wordN;have Hp:=hIh (Hbad3.out w4 (by rw [HA.out.eq,partsS_one];rfl) H4.out.rs.fr);go_wp2_with fail;(with_reducible refine Hw.out.mono ?_);rintro e w8 ⟨rfl,hw8⟩;obtain rfl:=hw8.symm;go_wp2;exact pan_end Hp.out
   | cons nm r2=>
    have Hw:=hIh (H4.out.rs.wordL Hsd1.out);go_wp2_with fail;(with_reducible refine Hw.out.mono ?_);rintro e w5 ⟨rfl,hR5,hF5⟩;have H5:=hIh (H4.out.stepG HN.out hR5 hF5);have HF5:=hIh (HF4.out.trans hF5 (fun k hk=>.inl hk));clear hR5 hF5 Hw;obtain ⟨A0,cp,hv⟩:=own_slice HA.out.row.own;subst hv;obtain ⟨m,hm⟩ : ∃ m,m = done.length:=⟨_,rfl⟩;have HAm:=HA.out;have H5m:=H5.out;rw [← hm] at HAm H5m;have HA1:=hIh HAm;have H5':=hIh H5m;have Hm:=hIh hm;obtain ⟨pb,hpb⟩ : ∃ pb,pb = w5.heap.size:=⟨_,rfl⟩;obtain ⟨W6,hW6⟩ : ∃ W6,W6 = w5.alloc (.cells #[.string (sb nm),.slice none 0 0,.slice none 0 0] 118):=⟨_,rfl⟩
    have H6:Hid (PbS g gq q line w3 ob p n CT lv a.1 b.1 (.slice A0 m cp) pb nm wo [] [] (.slice none 0 0) (.slice none 0 0) r2 W6):=by
     rw [hW6];have h1:=HF5.out.size;have h2:=HA.out.st.rs.glt;have h3:=blk_lt H5m.blk;exact ⟨H5m.below (bel_alloc _ _),by rw [hpb];exact blk_new _ _,HF5.out.alloc _,⟨by omega,h2,by omega⟩,⟨RdS.nil _ _ _,fun k hk=>by cases hk⟩,RdS.nil _ _ _,fun k hk=>by cases hk⟩
    have Hpart:Hid (∀ rq lm l3 l4,amountsIf wReq r2 = some (rq,l3) → amountsIf wLim l3 = some (lm,l4) → partsS lb = (partsS l4).map fun x=>(done.map Prod.fst ++ (⟨nm,rq,lm⟩ :: x.1),x.2)):=fun rq lm l3 l4 h1 h2=>by
     rw [HA.out.eq,partsS_go (partS_eq h1 h2),Option.map_map];rfl
    have Hnop1:Hid (amountsIf wReq r2 = none → partsS lb = none):=fun h1=>by
     rw [HA.out.eq,partsS_bad (by unfold partS;rw [h1];rfl)];rfl
    have Hnop2:Hid (∀ rq l3,amountsIf wReq r2 = some (rq,l3) → amountsIf wLim l3 = none → partsS lb = none):=fun rq l3 h1 h2=>by
     rw [HA.out.eq,partsS_bad (by unfold partS;rw [h1];show (amountsIf wLim l3).map _ = none;rw [h2];rfl)];rfl
    have Hsm5:Hid (∀ t ∈ r2,t.length ≤ 1048576):=fun t ht=>HA.out.small t (List.mem_cons_of_mem _ (List.mem_cons_of_mem _ ht));have Hln5:Hid (r2.length ≤ 1048577):=(by have:=HA.out.num;simp only [List.length_cons] at this;show _ ≤ _;omega);have HGl:Hid (∀ W,FQ g gq w3 W → Glob W):=fun W h=>HG.out W (HF0.out.then h);have HW6:=hIh hW6;have Hpbs:Hid (∀ W v1 v2 rq lm l,PbS g gq q line w3 ob p n CT lv a.1 b.1 (.slice A0 m cp) pb nm wo rq lm v1 v2 l W → pb < W.heap.size):=fun W v1 v2 rq lm l h=>blk_lt h.blk;have hpb2:w5.heap.size = pb:=hpb.symm;clear hm HAm H5m hpb hW6
    by_cases hq1:r2.head? = some wReq
    case' pos=>
     obtain ⟨r3,rfl⟩ : ∃ r3,r2 = wReq :: r3:=by cases r2 with
      | nil=>cases hq1
      | cons t r3=>exact ⟨r3,by cases hq1;rfl⟩
     have Hi:Hid (∀ W,W = w5.alloc (.cells #[.string (sb nm),.slice none 0 0,.slice none 0 0] 118) → Calls Tryz.prog 96 #[.pointer (some ⟨g,0,none⟩),.string (ByteArray.mk #[114,101,113])] W fun e w'=>e = .returned (.bool true) ∧ PbS g gq q line w3 ob p n CT lv a.1 b.1 (.slice A0 m cp) pb nm wo [] [] (.slice none 0 0) (.slice none 0 0) r3 w'):=fun W hW=>by
      rw [hW,← HW6.out];refine (H6.out.st.rs.isTL Hsd1.out (ByteArray.mk #[114,101,113]) rfl).mono ?_;rintro e w' ⟨h1,h2,h3⟩;exact ⟨h1,H6.out.stepG HN.out h2 h3⟩
     clear hq1;go_wp2_with fail;(with_reducible refine (Hi.out _ rfl).mono ?_);rintro e w7 ⟨rfl,h7⟩;have H7:=hIh h7;clear h7 Hi;have Hsm6:Hid (∀ t ∈ r3,t.length ≤ 1048576):=fun t ht=>Hsm5.out t (List.mem_cons_of_mem _ ht);have Hln6:Hid (r3.length ≤ 1048577):=(by have:=Hln5.out;simp only [List.length_cons] at this;show _ ≤ _;omega)
     cases hx1:amountsS r3
     case none=>
      have Ham:=hIh (H7.out.st.rs.amountsN (HGl.out _ H7.out.st.rs.fr) Hg16.out Hsm6.out Hln6.out hx1);have Hp:=hIh (fun W=>Hbad3.out W (Hnop1.out (by rw [amountsIf_yes];exact hx1)));clear hx1 hpb2;go_wp2_with fail;(with_reducible refine Ham.out.mono ?_);rintro e w8 ⟨rfl,hF8⟩;have Hp2:=hIh (Hp.out w8 hF8);clear hF8;go_wp2;exact pan_end Hp2.out
     case' some x=>
      have Ham:=hIh (H7.out.st.rs.amtT Hsd1.out (HGl.out _ H7.out.st.rs.fr) Hg16.out Hsm6.out Hln6.out hx1);have Hx1:=hIh hx1;clear hx1;go_wp2_with fail;(with_reducible refine Ham.out.mono ?_);rintro e w8 ⟨A1,c1,rfl,hrd,hnew,hR8,hF8⟩;have h8:=H7.out.stepG HN.out hR8 hF8;obtain ⟨-,k1, -,k1f, -⟩:=h8.cell
      have H9:Hid (∃ rq l3 A1' n1 c1',PbS g gq q line w3 ob p n CT lv a.1 b.1 (.slice A0 m cp) pb nm wo rq [] (.slice A1' n1 c1') (.slice none 0 0) l3 (w8.setCell ⟨pb,1,none⟩ (.slice A1 x.1.length c1)) ∧ amountsIf wReq (wReq :: r3) = some (rq,l3)):=
       ⟨x.1,x.2,A1,x.1.length,c1,h8.set1 HN.out hrd (fun k hk=>by have h1:=hnew k hk;have h2:=Hpbs.out _ _ _ _ _ _ H7.out;have h3:=H7.out.fr.size;exact ⟨by omega,by omega⟩),by rw [amountsIf_yes];exact Hx1.out⟩
      obtain ⟨X1,hX1⟩ : ∃ X1,X1 = Value.slice A1 x.1.length c1:=⟨_,rfl⟩;obtain ⟨W9,hW9⟩ : ∃ W9,W9 = w8.setCell ⟨pb,1,none⟩ (.slice A1 x.1.length c1):=⟨_,rfl⟩;rw [← hW9] at H9;clear hrd hnew hR8 hF8 h8 Ham hX1;have HW9:=hIh hW9;clear hW9;go_wp2_with fail;rw [← HW9.out];clear hpb2 HW9 k1 k1f
    case' neg=>
     have Hi:Hid (∀ W,W = w5.alloc (.cells #[.string (sb nm),.slice none 0 0,.slice none 0 0] 118) → Calls Tryz.prog 96 #[.pointer (some ⟨g,0,none⟩),.string (ByteArray.mk #[114,101,113])] W fun e w'=>e = .returned (.bool false) ∧ w' = W):=fun W hW=>by
      rw [hW,← HW6.out];exact H6.out.st.rs.isNoL wReq hq1 (ByteArray.mk #[114,101,113]) rfl
     have Hif:=hIh (amountsIf_no hq1);obtain ⟨W9,hW9⟩ : ∃ W9,W9 = w5.alloc (.cells #[.string (sb nm),.slice none 0 0,.slice none 0 0] 118):=⟨_,rfl⟩
     have H9:Hid (∃ rq l3 A1' n1 c1',PbS g gq q line w3 ob p n CT lv a.1 b.1 (.slice A0 m cp) pb nm wo rq [] (.slice A1' n1 c1') (.slice none 0 0) l3 W9 ∧ amountsIf wReq r2 = some (rq,l3)):=by
      rw [hW9,← HW6.out];exact ⟨[],r2,none,0,0,H6.out,Hif.out⟩
     have HW9:=hIh hW9;clear hq1 hW9;go_wp2_with fail;(with_reducible refine (Hi.out _ rfl).mono ?_);rintro e w7 ⟨rfl,hw7⟩;subst hw7;go_wp2_with fail;rw [← HW9.out];clear hpb2 HW9 Hi
    all_goals
     obtain ⟨rq,l3,A1,n1,c1,h9,hif1⟩:=H9.out;have H9b:=hIh h9;have Hif1:=hIh hif1;have Hsub1:=hIh (amountsIf_sub hif1);clear h9 hif1 H9
     by_cases hq2:l3.head? = some wLim
     case' pos=>
      obtain ⟨l5,rfl⟩ : ∃ l5,l3 = wLim :: l5:=by cases l3 with
       | nil=>cases hq2
       | cons t l5=>exact ⟨l5,by cases hq2;rfl⟩
      have Hi:=hIh (H9b.out.st.rs.isTL Hsd1.out (ByteArray.mk #[108,105,109]) rfl);clear hq2;(with_reducible refine Hi.out.mono ?_);rintro e w10 ⟨rfl,hR10,hF10⟩;have H10:=hIh (H9b.out.stepG HN.out hR10 hF10);clear hR10 hF10 Hi;have Hsm6:Hid (∀ t ∈ l5,t.length ≤ 1048576):=fun t ht=>Hsm5.out t (Hsub1.out.1 t (List.mem_cons_of_mem _ ht));have Hln6:Hid (l5.length ≤ 1048577):=(by have h1:=Hln5.out;have h2:=Hsub1.out.2;simp only [List.length_cons] at h1 h2;show _ ≤ _;omega)
      cases hx2:amountsS l5
      case none=>
       have Ham:=hIh (H10.out.st.rs.amountsN (HGl.out _ H10.out.st.rs.fr) Hg16.out Hsm6.out Hln6.out hx2);have Hp:=hIh (fun W=>Hbad3.out W (Hnop2.out rq _ Hif1.out (by rw [amountsIf_yes];exact hx2)));clear hx2;go_wp2_with fail;(with_reducible refine Ham.out.mono ?_);rintro e w8 ⟨rfl,hF8⟩;have Hp2:=hIh (Hp.out w8 hF8);clear hF8;go_wp2;exact pan_end Hp2.out
      case' some x2=>
       have Ham:=hIh (H10.out.st.rs.amtT Hsd1.out (HGl.out _ H10.out.st.rs.fr) Hg16.out Hsm6.out Hln6.out hx2);have Hx2:=hIh hx2;clear hx2;go_wp2_with fail;(with_reducible refine Ham.out.mono ?_);rintro e w11 ⟨A2,c2,rfl,hrd,hnew,hR11,hF11⟩;have h11:=H10.out.stepG HN.out hR11 hF11;obtain ⟨-, -,k2, -,k2f⟩:=h11.cell
       have H12:Hid (∃ lm l4 A2' n2 c2',PbS g gq q line w3 ob p n CT lv a.1 b.1 (.slice A0 m cp) pb nm wo rq lm (.slice A1 n1 c1) (.slice A2' n2 c2') l4 (w11.setCell ⟨pb,2,none⟩ (.slice A2 x2.1.length c2)) ∧ amountsIf wLim (wLim :: l5) = some (lm,l4)):=
        ⟨x2.1,x2.2,A2,x2.1.length,c2,h11.set2 HN.out hrd (fun k hk=>by have h1:=hnew k hk;have h2:=Hpbs.out _ _ _ _ _ _ H10.out;have h3:=H10.out.fr.size;exact ⟨by omega,by omega⟩),by rw [amountsIf_yes];exact Hx2.out⟩
       obtain ⟨W12,hW12⟩ : ∃ W12,W12 = w11.setCell ⟨pb,2,none⟩ (.slice A2 x2.1.length c2):=⟨_,rfl⟩;rw [← hW12] at H12;have HW12:=hIh hW12;clear hrd hnew hR11 hF11 h11 Ham hW12;go_upto_region 16 with fail;rw [← HW12.out];clear k2 k2f HW12
     case' neg=>
      have Hi:=hIh (H9b.out.st.rs.isNoL wLim hq2 (ByteArray.mk #[108,105,109]) rfl);have Hif:=hIh (amountsIf_no hq2);clear hq2;(with_reducible refine Hi.out.mono ?_);rintro e W12 ⟨rfl,hW12⟩;have H12:Hid (∃ lm l4 A2' n2 c2',PbS g gq q line w3 ob p n CT lv a.1 b.1 (.slice A0 m cp) pb nm wo rq lm (.slice A1 n1 c1) (.slice A2' n2 c2') l4 W12 ∧ amountsIf wLim l3 = some (lm,l4)):=⟨[],l3,none,0,0,by rw [hW12];exact H9b.out,Hif.out⟩;clear hW12 Hi;go_upto_region 16 with fail
     all_goals
      obtain ⟨lm,l4,A2,n2,c2,h12,hif2⟩:=H12.out;have hsub2:=amountsIf_sub hif2;have Hpp:=hIh (Hpart.out rq lm _ l4 Hif1.out hif2);have H12b:=hIh h12;have Hs4:Hid (∀ t ∈ l4,t.length ≤ 1048576):=fun t ht=>Hsm5.out t (Hsub1.out.1 t (hsub2.1 t ht))
      have Hn4:Hid (m + 1 + l4.length ≤ 1048577 ∧ rdLen g W12 < rdLen g wo):=by
       rw [h12.st.rs.rd.len,HA.out.st.rs.rd.len,Hm.out];have h1:=HA.out.num;have h2:=Hsub1.out.2;have h3:=hsub2.2;simp only [List.length_cons] at h1 h2 h3 ⊢;exact ⟨by omega,by omega⟩
      obtain ⟨T,hT⟩ : ∃ T,T = done.flatMap ptC:=⟨_,rfl⟩;have HT:=hIh hT;obtain ⟨k0,k1,k2, -, -⟩:=h12.cell;obtain ⟨⟨-, -, -, -, -,o5, -⟩, -, -, -,o5f⟩:=h12.st.cell;have Hrow:Hid (POwn B W12 (.slice A0 m cp) done):=HA1.out.row.fr h12.fr (fun k h1 h2 h3=>by have:=HB.out;have:=HN.out.g;omega);have Hown:Hid (W12.ownsRow 0 118 3 (.slice A0 m cp) m T):=(by have:=Hrow.out.own;rw [← Hm.out,← HT.out] at this;exact this);obtain ⟨el,hel⟩ : ∃ el:PtV,el = (⟨nm,rq,lm⟩,.slice A1 n1 c1,.slice A2 n2 c2):=⟨_,rfl⟩;obtain ⟨XC,hXC⟩ : ∃ XC,XC = [el].flatMap ptC:=⟨_,rfl⟩
      have Hc1:Hid (Rd (W12.alloc (.cells #[.string (sb nm),.slice A1 n1 c1,.slice A2 n2 c2] 118)) 3 (.slice (some ⟨W12.heap.size,0,none⟩) 1 1) 1 XC):=by
       show Rd _ _ _ _ _;have h9:=rd_pt W12 118 el;rw [hXC];rw [hel] at h9 ⊢;exact h9
      have Hc4:Hid (∀ u ∈ XC,u.oneCell' = true):=by
       rw [hXC];exact pt_one el (by rw [hel]) (by rw [hel])
      have HXC:=hIh hXC;have Hel:=hIh hel;have Hmb:Hid (m + 1 ≤ 1048577):=(by have:=Hn4.out.1;show _ ≤ _;omega);clear hsub2 h12 hif2 hT hXC hel;go_wp2_with (at_builtin;refine wpList_append2 _ rfl (.tmp 74) (.tmp 76) 23 rfl 118 (.agg #[.string ⟨#[]⟩,.slice none 0 0,.slice none 0 0]) 3 64 Tryz.underlying23 infoPt rfl (by decide) _ m T rfl (Hown.out.alloc _) _ 1 XC rfl Hc1.out Hc4.out ?c2 ?c3 ?_)
      case c2=>have:=Hmb.out;unfold maxLen;omega
      case c3=>have:=Hmb.out;omega
      intro v' w7 ho7 hg7 hn7 _;obtain ⟨A',c',rfl⟩:=own_slice ho7;have hnB:∀ k,(Value.slice A0 m cp).ownBlock = some k → ob + 1 ≤ k:=fun k hk=>(by have:=Hrow.out.new k hk;have:=HB.out;omega);have h7:ObS g gq q line w3 ob p n CT lv a.1 b.1 (.slice A0 m cp) l4 w7:=(H12b.out.st.below (bel_alloc _ _)).away HN.out (S:=fun k=>(Value.slice A0 m cp).ownBlock = some k) ((Fr.refl _ _).grown hg7 (fun k hk=>.inl hk)) (fun k hk=>hnB k hk);have hfw:Fr (fun k=>k = g ∨ (Value.slice A0 m cp).ownBlock = some k) wo w7:=((H12b.out.fr.mono (fun k hk=>.inl hk)).alloc _).grown hg7 (fun k hk=>.inl (.inr hk))
      have hlr7:RdS lbC 2 w7 lv dl:=RdS.fr HA1.out.lrow hfw (fun k hk e=>by
       have h1:=Hlv.out k hk;have h2:=HN.out.g;rcases e with e | e
       ·omega
       ·have:=Hrow.out.new k e;omega)
      have hrow7:POwn B w7 (.slice A' (m + 1) c') (done ++ [el]):=by
       refine HA1.out.row.next HA1.out.le H12b.out.fr (fun k hk=>by have:=HB.out;have:=HN.out.g;omega) ?_ ?_ ?_ ?_ (by rw [← Hm.out,← HT.out,← HXC.out];exact ho7) hg7 hn7
       ·rw [Hel.out];exact H12b.out.r1.1
       ·rw [Hel.out];exact fun k hk=>(H12b.out.r1.2 k hk).1
       ·rw [Hel.out];exact H12b.out.r2.1
       ·rw [Hel.out];exact fun k hk=>(H12b.out.r2.2 k hk).1
      obtain ⟨⟨-, -, -, -, -,d5, -⟩, -, -, -,g5⟩:=h7.cell;have hfo:Fr (fun k=>k = ob) w7 (w7.setCell ⟨ob,5,none⟩ (.slice A' (m + 1) c')):=(Fr.refl (fun k=>k = ob) _).setCell (p:=⟨ob,5,none⟩) (.inl rfl) _
      have Hk:Hid (LpLoop g gq q line w3 ob p n CT lv dl a.1 b.1 B (partsS lb) (w7.setCell ⟨ob,5,none⟩ (.slice A' (m + 1) c')) ∧ rdLen g (w7.setCell ⟨ob,5,none⟩ (.slice A' (m + 1) c')) < rdLen g wo):=by
       have h9:LpW g gq q line w3 ob p n CT lv dl a.1 b.1 B (partsS lb) (.slice A' (m + 1) c') (w7.setCell ⟨ob,5,none⟩ (.slice A' (m + 1) c')) (done ++ [el]) l4:=by
        refine ⟨?_,h7.set5 HN.out _,RdS.fr hlr7 hfo (fun k hk e=>by have:=Hlv.out k hk;omega),hrow7.fr hfo (fun k h1 h2 h3=>by have:=HB.out;omega),Hs4.out,?_,Nat.le_trans HA1.out.le (Nat.le_trans hfw.size hfo.size)⟩
        ·rw [Hpp.out,Hel.out]
         congr 1
         funext y
         simp
        ·have:=Hn4.out.1
         rw [Hm.out] at this
         simpa using this
       refine ⟨⟨_,_,_,h9⟩,?_⟩;have h10:=Hn4.out.2;rw [H12b.out.st.rs.rd.len] at h10;rw [h9.st.rs.rd.len];exact h10
      clear h7 hfw hlr7 hrow7 hfo ho7 hg7 hn7 hnB k0 k1 k2 o5 o5f;go_wp2;go_roundw
      case rel=>exact Hk.out.1
      case measure=>exact Hk.out.2
def wFrom:Str := [102,114,111,109]
def lsF (f:Option Str) (cs:Array Value):Array Value:=match f with
 | some v=>cs.setIfInBounds 26 (.string (sb v))
 | none=>cs
def lsCells (cs:Array Value) (p:Str) (d:Bool) (f:Option Str) (m:Int):Array Value:=(lsF f (((cs.setIfInBounds 0 (.int .i64 11)).setIfInBounds 2 (.string (sb p))).setIfInBounds 27 (.bool d))).setIfInBounds 25 (.int .i64 m)
def lsR (r:List Str):List Str:=if r.head? == some wDeep then r.drop 1 else r
def selB (line:Str) (k:Nat):Option (List Tm):=selParse termB (selText line ((words line).length - k))
theorem listD_eq (sel:Nat → Option (List Tm)) (p:Str) (r:List Str):listD sel (p :: r) = (smallS wMost 100 (optS wFrom (lsR r)).2).bind fun m=>match m.2 with
  | []=>some { ReqD.zero with op:=11,path:=p,deep:=r.head? == some wDeep,frm:=(optS wFrom (lsR r)).1.getD [],most:=m.1 }
  | w :: l=>if w = wWhere then (sel l.length).map fun t=>{ ReqD.zero with op:=11,path:=p,deep:=r.head? == some wDeep,frm:=(optS wFrom (lsR r)).1.getD [],most:=m.1,terms:=t } else none:=rfl
def LsP (g gq:Nat) (q:Nat → Prop) (line:Str) (w0:World) (cs:Array Value) (l:List Str) (e:Ending) (w' : World):Prop:=
 (∃ p r m,l = p :: r ∧ smallS wMost 100 (optS wFrom (lsR r)).2 = some m ∧ m.2.head? ≠ some wWhere ∧ e = .returned (.tuple #[]) ∧ RS g gq q line w0 w' m.2 (lsCells cs p (r.head? == some wDeep) (optS wFrom (lsR r)).1 m.1)) ∨
 (∃ p r m l2 tl v,l = p :: r ∧ smallS wMost 100 (optS wFrom (lsR r)).2 = some m ∧ m.2 = wWhere :: l2 ∧ selB line l2.length = some (tl.map Prod.fst) ∧ TRow w' v tl ∧ ((∀ k,v.ownBlock = some k → w0.heap.size ≤ k) ∧ ∀ e ∈ tl, ∀ k,e.2.ownBlock = some k → w0.heap.size ≤ k) ∧ e = .returned (.tuple #[]) ∧ RS g gq q line w0 w' [] ((lsCells cs p (r.head? == some wDeep) (optS wFrom (lsR r)).1 m.1).setIfInBounds 23 v)) ∨
 (listD (selB line) l = none ∧ e = (.panicked [{ v:=.iface 74 (.agg #[]),recovered:=false }]) ∧ FQ g gq w0 w')
theorem RS.isAny {g gq:Nat} {q:Nat → Prop} {line:Str} {w0 w:World} {l:List Str} {cs:Array Value} (h:RS g gq q line w0 w l cs) (sd:Sd g gq q) (s:Str) (S:ByteArray) (hS:sb s = S) :
  Calls Tryz.prog 96 #[.pointer (some ⟨g,0,none⟩),.string S] w fun e w'=>e = .returned (.bool (l.head? == some s)) ∧ RS g gq q line w0 w' (if l.head? == some s then l.drop 1 else l) cs:=by
 by_cases hh:l.head? = some s
 ·obtain ⟨r,rfl⟩ : ∃ r,l = s :: r:=by cases l with
   | nil=>cases hh
   | cons t r=>exact ⟨r,by cases hh;rfl⟩
  refine (h.isTL sd S hS).mono ?_;rintro e w' ⟨h1,h2,h3⟩
  have e1:((s :: r).head? == some s) = true:=by simp
  rw [e1];exact ⟨h1,h2⟩
 ·refine (h.isNoL s hh S hS).mono ?_
  rintro e w' ⟨h1,h2⟩
  have e1:(l.head? == some s) = false:=by simpa using hh
  rw [e1,h2];exact ⟨h1,h⟩
theorem behindS_len (s:Str) (n:Nat):(behindS s n).length ≤ s.length:=by
 induction n with
 | zero=>exact dropWhile_len _ _
 | succ n ih=>exact Nat.le_trans (dropWhile_len _ _) (Nat.le_trans (dropWhile_len _ _) ih)
theorem trimRB_len (s:Str):(trimRB s).length ≤ s.length:=by
 unfold trimRB;rw [List.length_reverse];have:=dropWhile_len blank s.reverse
 rwa [List.length_reverse] at this
theorem RS.clear {g gq:Nat} {q:Nat → Prop} {line:Str} {w0 w:World} {l:List Str} {cs:Array Value} (h:RS g gq q line w0 w l cs) (sd:Sd g gq q):RS g gq q line w0 (w.setCell ⟨g,0,none⟩ (.slice none 0 0)) [] cs:=by
 obtain ⟨⟨v,h1,h2,h3⟩,h4,h5,h6⟩:=h;have hf:Fr (fun k=>k = g) w (w.setCell ⟨g,0,none⟩ (.slice none 0 0)):=(Fr.refl (fun k=>k = g) w).setCell (p:=⟨g,0,none⟩) (.inl rfl) _;exact ⟨⟨_,blk_setCell h1 0 _,RdS.nil _ _ _,fun hl=>absurd rfl hl⟩,hf.blk h4 (fun e=>sd.ne e.symm),h5,h6.trans hf (fun k hk=>.inl (.inl hk))⟩
theorem TRow.fr {w w1:World} {v:Value} {l:List (Tm × Value)} (h:TRow w v l) {S:Nat → Prop} (hf:Fr S w w1) (hv:∀ k,v.ownBlock = some k → ¬ S k) (he:∀ e ∈ l, ∀ k,e.2.ownBlock = some k → ¬ S k):TRow w1 v l:=⟨RdS.fr h.1 hf hv,fun e hm=>RdS.fr (h.2 e hm) hf (he e hm)⟩
theorem selText_len (s:Str) (n:Nat):(selText s n).length ≤ s.length:=Nat.le_trans (trimRB_len _) (behindS_len s n)
theorem words_len (s:Str):(words s).length ≤ s.length:=by
 have key:∀ n (s:Str),s.length ≤ n → (words s).length ≤ s.length:=by
  intro n
  induction n with
  | zero=>
   intro s hs;have:s = []:=List.eq_nil_of_length_eq_zero (by omega);subst this;simp [words,cutW]
  | succ n ih=>
   intro s hs;rw [words_eq]
   cases hd:dropB s with
   | nil=>simp
   | cons c r=>
    have h1:=dropWhile_len blank s;have h1' : (c :: r).length ≤ s.length:=(by rw [← hd];exact h1);have hnb:=takeWhile_nb_nil hd
    have h2:((c :: r).dropWhile nb).length ≤ r.length:=by
     have e:nb c = true:=(by simp [nb,hnb.2]);simp only [List.dropWhile_cons,e,if_true];exact dropWhile_len nb r
    simp only [List.length_cons] at h1' ⊢;have h3:=ih ((c :: r).dropWhile nb) (by omega);omega
 exact key s.length s (Nat.le_refl _)
theorem list_calls {g gq:Nat} {q:Nat → Prop} {line:Str} {w0:World} (w:World) (G:∀ W,FQ g gq w0 W → Glob W) (l:List Str) (cs:Array Value) (h:RS g gq q line w0 w l cs) (sd:Sd g gq q) (hln:line.length ≤ 1048576) (hlw:l.length ≤ (words line).length) :
  Calls Tryz.prog 57 #[.pointer (some ⟨g,0,none⟩),.pointer (some ⟨gq,0,none⟩)] w (LsP g gq q line w0 cs l):=by
 have Hsd:=hIh sd;have HG:=hIh G;have Hln:=hIh hln;obtain ⟨v0,c0, -,f0⟩:=h.cell 0 (by omega);have H1:=hIh (h.set sd 0 (.int .i64 11))
 cases l with
 | nil=>
  have Hw:Hid (∀ W,W = w.setCell ⟨gq,0,none⟩ (.int .i64 11) → Calls Tryz.prog 31 #[.pointer (some ⟨g,0,none⟩)] W fun e w'=>e = (.panicked [{ v:=.iface 74 (.agg #[]),recovered:=false }]) ∧ w' = W):=fun W hW=>by rw [hW];exact H1.out.wordN
  have Hp:Hid (LsP g gq q line w0 cs [] (.panicked [{ v:=.iface 74 (.agg #[]),recovered:=false }]) (w.setCell ⟨gq,0,none⟩ (.int .i64 11))):=.inr (.inr ⟨rfl,rfl,H1.out.fr⟩);clear h sd G hln hlw;go_enter Tryz.func57,Tryz.ntmps57;go_wp2_with fail
  with_reducible refine (Hw.out _ rfl).mono ?_
  rintro e w2 ⟨rfl,hw2⟩;subst hw2;go_wp2;exact pan_end Hp.out
 | cons p r=>
 have Hw:Hid (∀ W,W = w.setCell ⟨gq,0,none⟩ (.int .i64 11) → Calls Tryz.prog 31 #[.pointer (some ⟨g,0,none⟩)] W fun e w'=>e = .returned (.string (sb p)) ∧ RS g gq q line w0 w' r (cs.setIfInBounds 0 (.int .i64 11))):=fun W hW=>by rw [hW];exact H1.out.word Hsd.out
 have Hlw:=hIh hlw;clear h sd G hln hlw;go_enter Tryz.func57,Tryz.ntmps57;go_wp2_with fail
 with_reducible refine (Hw.out _ rfl).mono ?_
 rintro e w2 ⟨rfl,hR2⟩;obtain ⟨v2,c2, -,f2⟩:=hR2.cell 2 (by omega);have H3:=hIh (hR2.set Hsd.out 2 (.string (sb p)))
 have Hi:Hid (∀ W,W = w2.setCell ⟨gq,2,none⟩ (.string (sb p)) → Calls Tryz.prog 96 #[.pointer (some ⟨g,0,none⟩),.string (ByteArray.mk #[100,101,101,112])] W fun e w'=>e = .returned (.bool (r.head? == some wDeep)) ∧ RS g gq q line w0 w' (lsR r) ((cs.setIfInBounds 0 (.int .i64 11)).setIfInBounds 2 (.string (sb p)))):=fun W hW=>by rw [hW];exact H3.out.isAny Hsd.out wDeep (ByteArray.mk #[100,101,101,112]) rfl
 have Heq:=hIh (listD_eq (selB line) p r)
 have Hlr:Hid ((lsR r).length ≤ r.length):=by show _ ≤ _;unfold lsR;split <;> simp
 clear hR2 Hw;obtain ⟨D,hD⟩ : ∃ D,D = (r.head? == some wDeep):=⟨_,rfl⟩;have HD:=hIh hD;rw [← hD] at Hi;clear hD c0 f0;go_wp2_with fail
 with_reducible refine (Hi.out _ rfl).mono ?_
 rintro e w4 ⟨rfl,hR4⟩;obtain ⟨v27,c27, -,f27⟩:=hR4.cell 27 (by omega);have H5:=hIh (hR4.set Hsd.out 27 (.bool D));clear hR4 Hi c2 f2
 cases ho:(optS wFrom (lsR r)).1
 case' none=>
  have Ho:Hid (∀ W,W = w4.setCell ⟨gq,27,none⟩ (.bool D) → Calls Tryz.prog 99 #[.pointer (some ⟨g,0,none⟩),.string (ByteArray.mk #[102,114,111,109])] W fun e w' => ∃ x:ByteArray,e = .returned (.tuple #[.string x,.bool false]) ∧ RS g gq q line w0 w' (optS wFrom (lsR r)).2 (lsF (optS wFrom (lsR r)).1 (((cs.setIfInBounds 0 (.int .i64 11)).setIfInBounds 2 (.string (sb p))).setIfInBounds 27 (.bool D)))):=fun W hW=>by
   rw [hW,ho];refine (H5.out.optN Hsd.out wFrom (by decide) ho).mono ?_;rintro e w' ⟨x,h1,h2,h3⟩;exact ⟨x,h1,h2⟩
  clear ho;go_wp2_with fail
  with_reducible refine (Ho.out _ rfl).mono ?_
  rintro e w6 ⟨x,rfl,hR6⟩;obtain ⟨W7,hW7⟩ : ∃ W7,W7 = w6:=⟨_,rfl⟩
  have H7:Hid (RS g gq q line w0 W7 (optS wFrom (lsR r)).2 (lsF (optS wFrom (lsR r)).1 (((cs.setIfInBounds 0 (.int .i64 11)).setIfInBounds 2 (.string (sb p))).setIfInBounds 27 (.bool D)))):=by rw [hW7];exact hR6
  have HW7:=hIh hW7;clear hR6 Ho hW7;go_upto_region 6 with fail;rw [← HW7.out];clear HW7
 case' some fv=>
  have Ho:Hid (∀ W,W = w4.setCell ⟨gq,27,none⟩ (.bool D) → Calls Tryz.prog 99 #[.pointer (some ⟨g,0,none⟩),.string (ByteArray.mk #[102,114,111,109])] W fun e w'=>e = .returned (.tuple #[.string (sb fv),.bool true]) ∧ RS g gq q line w0 w' (optS wFrom (lsR r)).2 (((cs.setIfInBounds 0 (.int .i64 11)).setIfInBounds 2 (.string (sb p))).setIfInBounds 27 (.bool D))):=fun W hW=>by
   rw [hW];refine (H5.out.optY Hsd.out wFrom (by decide) ho).mono ?_;rintro e w' ⟨h1,h2,h3⟩;exact ⟨h1,h2⟩
  have Hlf:Hid (lsF (optS wFrom (lsR r)).1 (((cs.setIfInBounds 0 (.int .i64 11)).setIfInBounds 2 (.string (sb p))).setIfInBounds 27 (.bool D)) = (((cs.setIfInBounds 0 (.int .i64 11)).setIfInBounds 2 (.string (sb p))).setIfInBounds 27 (.bool D)).setIfInBounds 26 (.string (sb fv))):=by show _ = _;rw [ho];rfl
  clear ho;go_wp2_with fail
  with_reducible refine (Ho.out _ rfl).mono ?_
  rintro e w6 ⟨rfl,hR6⟩;obtain ⟨v26,c26, -,f26⟩:=hR6.cell 26 (by omega);obtain ⟨W7,hW7⟩ : ∃ W7,W7 = w6.setCell ⟨gq,26,none⟩ (.string (sb fv)):=⟨_,rfl⟩
  have H7:Hid (RS g gq q line w0 W7 (optS wFrom (lsR r)).2 (lsF (optS wFrom (lsR r)).1 (((cs.setIfInBounds 0 (.int .i64 11)).setIfInBounds 2 (.string (sb p))).setIfInBounds 27 (.bool D)))):=by rw [hW7,Hlf.out];exact hR6.set Hsd.out 26 _
  have HW7:=hIh hW7;clear hR6 Ho hW7 Hlf;go_upto_region 6 with fail;rw [← HW7.out];clear HW7 c26 f26
 all_goals
  clear c27 f27 H5 H3;have Hlo:=hIh (optS_len wFrom (lsR r))
  cases hm:smallS wMost 100 (optS wFrom (lsR r)).2
  case none=>
   have Hs:=hIh (H7.out.smallF wMost 100 (by decide) (ByteArray.mk #[109,111,115,116]) rfl hm);have Hp:Hid (∀ W,FQ g gq w0 W → LsP g gq q line w0 cs (p :: r) (.panicked [{ v:=.iface 74 (.agg #[]),recovered:=false }]) W):=fun W h1=>.inr (.inr ⟨by rw [Heq.out,hm];rfl,rfl,h1⟩);clear hm;go_wp2_with fail;(with_reducible refine Hs.out.mono ?_);rintro e w8 ⟨rfl,hF8⟩;have Hp2:=hIh (Hp.out w8 hF8);clear hF8;go_wp2;exact pan_end Hp2.out
  case some m=>
   have Hs:=hIh (H7.out.smallT Hsd.out wMost 100 (by decide) (ByteArray.mk #[109,111,115,116]) rfl hm);have Hm:=hIh hm;have Hsub:=hIh (smallS_sub hm);clear hm;go_wp2_with fail;(with_reducible refine Hs.out.mono ?_);rintro e w8 ⟨rfl,hR8, -⟩;obtain ⟨v25,c25, -,f25⟩:=hR8.cell 25 (by omega);have hR9:=hR8.set Hsd.out 25 (.int .i64 m.1);have H9:Hid (RS g gq q line w0 (w8.setCell ⟨gq,25,none⟩ (.int .i64 m.1)) m.2 (lsCells cs p (r.head? == some wDeep) (optS wFrom (lsR r)).1 m.1)):=(by rw [← HD.out];exact hR9);obtain ⟨ml,hml⟩ : ∃ ml,ml = m.2:=⟨_,rfl⟩;have Hml:=hIh hml;rw [← hml] at H9;clear hR8 hR9 Hs H7 hml;obtain ⟨CF,hCF⟩ : ∃ CF,CF = lsCells cs p (r.head? == some wDeep) (optS wFrom (lsR r)).1 m.1:=⟨_,rfl⟩;rw [← hCF] at H9;have HCF:=hIh hCF;clear hCF
   by_cases hh:ml.head? = some wWhere
   case neg=>
    have Hi:Hid (∀ W,W = w8.setCell ⟨gq,25,none⟩ (.int .i64 m.1) → Calls Tryz.prog 96 #[.pointer (some ⟨g,0,none⟩),.string (ByteArray.mk #[119,104,101,114,101])] W fun e w'=>e = .returned (.bool false) ∧ w' = W):=fun W hW=>(by rw [hW];exact H9.out.isNoL wWhere hh (ByteArray.mk #[119,104,101,114,101]) rfl);have Hp:Hid (LsP g gq q line w0 cs (p :: r) (.returned (.tuple #[])) (w8.setCell ⟨gq,25,none⟩ (.int .i64 m.1))):=.inl ⟨p,r,m,rfl,Hm.out,by rw [← Hml.out];exact hh,rfl,by rw [← Hml.out,← HCF.out];exact H9.out⟩;clear hh;go_wp2_with fail;(with_reducible refine (Hi.out _ rfl).mono ?_);rintro e w10 ⟨rfl,hw10⟩;subst hw10;go_wp2;go_end0;exact Hp.out
   case pos=>
    obtain ⟨l2,rfl⟩ : ∃ l2,ml = wWhere :: l2:=by cases ml with
     | nil=>cases hh
     | cons t l2=>exact ⟨l2,by cases hh;rfl⟩
    have Hi:Hid (∀ W,W = w8.setCell ⟨gq,25,none⟩ (.int .i64 m.1) → Calls Tryz.prog 96 #[.pointer (some ⟨g,0,none⟩),.string (ByteArray.mk #[119,104,101,114,101])] W fun e w'=>e = .returned (.bool true) ∧ RS g gq q line w0 w' l2 CF):=fun W hW=>by
     rw [hW];refine (H9.out.isTL Hsd.out (ByteArray.mk #[119,104,101,114,101]) rfl).mono ?_;rintro e w' ⟨h1,h2,h3⟩;exact ⟨h1,h2⟩
    clear hh;go_wp2_with fail;(with_reducible refine (Hi.out _ rfl).mono ?_);rintro e w10 ⟨rfl,hR10⟩;have H10:=hIh hR10;obtain ⟨vl,hb,hrd, -⟩:=hR10.rd;obtain ⟨A1,cc1,rfl⟩:=hrd.slice;obtain ⟨nl,hnl⟩ : ∃ nl,nl = l2.length:=⟨_,rfl⟩;obtain ⟨nw,hnw⟩ : ∃ nw,nw = (words line).length:=⟨_,rfl⟩;rw [← hnl] at hb;have Hb:=hIh hb;have Hnl:=hIh hnl;have Hnw:=hIh hnw
    have hle:nl ≤ nw ∧ nw ≤ 1048576:=by
     have h1:=Hlw.out;have h2:=Hlr.out;have h3:=Hlo.out;have h4:=Hsub.out.2;have h5:=words_len line;have h6:=Hln.out;have h7:=congrArg List.length Hml.out;simp only [List.length_cons] at h1 h7;omega
    have Htk:=hIh (tokens_calls w10.drew line Hln.out);obtain ⟨d0,d1,e0, -⟩:=cells2 hb
    have Hd:Hid (∀ W,Below w10.drew.heap.size w10.drew W → W.cell? ⟨g,0,none⟩ = some (.slice A1 nl cc1) ∧ W.cell? ⟨g,1,none⟩ = some (.string (sb line))):=fun W h=>by
     obtain ⟨a0,a1, -, -⟩:=cells2 (blk_below (w:=w10.drew) Hb.out h);exact ⟨a0,a1⟩
    obtain ⟨nk,hnk⟩ : ∃ nk,nk = nw - nl:=⟨_,rfl⟩
    have HE:Hid (IntKind.i64.wrap ((nw:Int) - (nl:Int)) = (nk:Int)):=by
     show _ = _;rw [IntWalk.i64_in _ (by omega)];omega
    have Hnk:=hIh hnk;have Hnk2:Hid (nk ≤ 1048577):=(by show _ ≤ _;omega);clear hnk;have hi1:(nl:Int) ≤ nw:=(by omega);have hi2:(nw:Int) ≤ 1048576:=(by omega);clear hR10 hrd hb hnl hnw Hi c25 f25;rw [← Hnw.out] at Hlw;go_wp2
    go_region_held3 (fun W=>W.cell? ⟨g,0,none⟩ = some (.slice A1 nl cc1) ∧ W.cell? ⟨g,1,none⟩ = some (.string (sb line))) (first | exact ⟨d0,d1⟩ | exact Hd.out _ Hb11.out)
     ((go_at_call 26;with_reducible refine Htk.out.mono ?_;rintro e w11 ⟨vt,rfl,hrt, -,hw11⟩;obtain ⟨A2,cc2,rfl⟩:=hrt.slice;have Hb11:=hIh hw11;rw [← Hnw.out];clear hw11 hrt))
    rw [HE.out];obtain ⟨a0,a1⟩:=Hd.out _ Hb11.out;have H11:=hIh (H10.out.drew.below Hb11.out);have Hbe:=hIh (behind_calls w11 line nk Hln.out Hnk2.out);clear d0 d1 e0 hle hi1 hi2;go_wp2_with fail;(with_reducible refine Hbe.out.mono ?_);rintro e w12 ⟨rfl,hw12⟩;have H12:=hIh (H11.out.below hw12);have Htr:Hid (Calls Tryz.prog 104 #[.string (sb (behindS line nk)),.string (ByteArray.mk #[32,9])] w12 fun e w'=>e = .returned (.string (sb (selText line nk))) ∧ Below w12.heap.size w12 w'):=ltrimr_calls w12 (behindS line nk) (by have:=behindS_len line nk;have:=Hln.out;omega);generalize sb (behindS line nk) = BS at Htr;clear hw12 Hbe;go_wp2_with fail;(with_reducible refine Htr.out.mono ?_);rintro e w13 ⟨rfl,hw13⟩;have H13:=hIh (H12.out.below hw13);have Hps:=hIh (bselparse_calls w13 (HG.out _ H13.out.fr) (selText line nk) (by have:=selText_len line nk;have:=Hln.out;omega));generalize sb (selText line nk) = SS at Hps
    clear hw13 Htr;go_wp2_with fail;(with_reducible refine Hps.out.mono ?_);rintro e w14 ⟨vt,ec,rfl,hsel,hw14⟩;have H14:=hIh (H13.out.below hw14);have hsb:selB line l2.length = selParse termB (selText line nk):=(by unfold selB;rw [← Hnl.out,← Hnw.out,← Hnk.out]);rcases hsel with ⟨tl,hs,htr,hn1,hn2,rfl⟩ | ⟨hs,hec⟩
    case inr=>
     have Hp:Hid (LsP g gq q line w0 cs (p :: r) (.panicked [{ v:=.iface 74 (.agg #[]),recovered:=false }]) w14):=.inr (.inr ⟨by
      rw [Heq.out,Hm.out];show (match m.2 with | []=>_ | w :: l=>_) = none;rw [← Hml.out];show (if wWhere = wWhere then (selB line l2.length).map _ else none) = none
      rw [if_pos rfl,hsb,hs];rfl,rfl,H14.out.fr⟩)
     have hb0:(ec == 0) = false:=(by simpa using hec);clear hs hec hw14 hsb;go_wp2_with (go_at_call 29;with_reducible refine (needF_calls _ _).mono ?_;rintro e wz ⟨rfl,hwz⟩;obtain rfl:=hwz.symm);exact pan_end Hp.out
    case inl=>
     obtain ⟨v23,c23, -,f23⟩:=H14.out.cell 23 (by omega);obtain ⟨A3,cc3,rfl⟩:=htr.1.slice;have h15:=H14.out.set Hsd.out 23 (.slice A3 tl.length cc3);obtain ⟨vr,hbr, -⟩:=h15.rd;obtain ⟨g0, -,gf0, -⟩:=cells2 hbr
     have hfr:Fr (fun k=>k = g ∨ k = gq) w14 ((w14.setCell ⟨gq,23,none⟩ (.slice A3 tl.length cc3)).setCell ⟨g,0,none⟩ (.slice none 0 0)):=
      ((Fr.refl (fun k=>k = g ∨ k = gq) _).setCell (p:=⟨gq,23,none⟩) (.inl (.inr rfl)) _).setCell (p:=⟨g,0,none⟩) (.inl (.inl rfl)) _
     have h13g:=H13.out.glt;have h13q:=H13.out.qlt
     have Hp:Hid (LsP g gq q line w0 cs (p :: r) (.returned (.tuple #[])) ((w14.setCell ⟨gq,23,none⟩ (.slice A3 tl.length cc3)).setCell ⟨g,0,none⟩ (.slice none 0 0))):=by
      refine .inr (.inl ⟨p,r,m,l2,tl,_,rfl,Hm.out,Hml.out.symm,by rw [hsb,hs],htr.fr hfr ?_ ?_,⟨fun k hk=>?_,fun el hel k hk=>?_⟩,rfl,?_⟩)
      ·intro k hk e
       have:=hn1 k hk;rcases e with e | e <;> omega
      ·intro el hel k hk e
       have:=hn2 el hel k hk;rcases e with e | e <;> omega
      ·have:=hn1 k hk;have:=H13.out.fr.size;omega
      ·have:=hn2 el hel k hk;have:=H13.out.fr.size;omega
      ·rw [← HCF.out];exact h15.clear Hsd.out
     clear hs htr hn1 hn2 hw14 hsb h15 hbr hfr h13g h13q;go_wp2_with (go_at_call 29;with_reducible refine (needT_calls _ _).mono ?_;rintro e wz ⟨rfl,hwz⟩;obtain rfl:=hwz.symm);go_end0;exact Hp.out
end Go.Proofs.YtpfkkagkbneilaaGreatDoor
