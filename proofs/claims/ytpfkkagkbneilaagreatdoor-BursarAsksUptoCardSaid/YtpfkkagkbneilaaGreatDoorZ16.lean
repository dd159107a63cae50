/- Texts K15, K16, K17 of the proof of BursarAsks, joined. -/
import Derived.Test.YtpfkkagkbneilaaGreatDoorZ15
import Derived.IntWalk
import Derived.Maps.Own
namespace Go.Proofs.YtpfkkagkbneilaaGreatDoor
open Go.RowKit
set_option linter.unusedVariables false
set_option linter.unusedSimpArgs false
def wFrom:Str := [102,114,111,109]
def lsF (f:Option Str) (cs:Array Value):Array Value:=match f with
 | some v=>cs.setIfInBounds 26 (.string (sb v))
 | none=>cs
def lsCells (cs:Array Value) (p:Str) (d:Bool) (f:Option Str) (m:Int):Array Value:=(lsF f (((cs.setIfInBounds 0 (.int .i64 11)).setIfInBounds 2 (.string (sb p))).setIfInBounds 27 (.bool d))).setIfInBounds 25 (.int .i64 m)
def lsR (r:List Str):List Str:=if r.head? == some wDeep then r.drop 1 else r
def selB (line:Str) (k:Nat):Option (List Tm):=selParse termB (selText line ((words line).length - k))
theorem listD_eq (sel:Nat → Option (List Tm)) (p:Str) (r:List Str):listD sel (p :: r) = (smallS wMost 100 (optS wFrom (lsR r)).2).bind fun m=>match m.2 with
  | []=>some { ReqD.zero with op:=11,path:=p,deep:=r.head? == some wDeep,frm:=(optS wFrom (lsR r)).1.getD [],most:=m.1 }
  | w :: l=>if w = wWhere then (sel l.length).map fun t=>{ ReqD.zero with op:=11,path:=p,deep:=r.head? == some wDeep,frm:=(optS wFrom (lsR r)).1.getD [],most:=m.1,terms:=t } else none:=rfl
def LsP (g gq:Nat) (q:Nat → Prop) (line:Str) (w0:World) (cs:Array Value) (l:List Str) (e:Ending) (w' : World):Prop:=
 (∃ p r m,l = p :: r ∧ smallS wMost 100 (optS wFrom (lsR r)).2 = some m ∧ m.2.head? ≠ some wWhere ∧ e = .returned (.tuple #[]) ∧ RS g gq q line w0 w' m.2 (lsCells cs p (r.head? == some wDeep) (optS wFrom (lsR r)).1 m.1)) ∨
 (∃ p r m l2 tl v,l = p :: r ∧ smallS wMost 100 (optS wFrom (lsR r)).2 = some m ∧ m.2 = wWhere :: l2 ∧ selB line l2.length = some (tl.map Prod.fst) ∧ TRow w' v tl ∧ ((∀ k,v.ownBlock = some k → w0.heap.size ≤ k) ∧ ∀ e ∈ tl, ∀ k,e.2.ownBlock = some k → w0.heap.size ≤ k) ∧ e = .returned (.tuple #[]) ∧ RS g gq q line w0 w' [] ((lsCells cs p (r.head? == some wDeep) (optS wFrom (lsR r)).1 m.1).setIfInBounds 23 v)) ∨
 (listD (selB line) l = none ∧ e = (.panicked [{ v:=.iface 74 (.agg #[]),recovered:=false }]) ∧ FQ g gq w0 w')
theorem RS.isAny {g gq:Nat} {q:Nat → Prop} {line:Str} {w0 w:World} {l:List Str} {cs:Array Value} (h:RS g gq q line w0 w l cs) (sd:Sd g gq q) (s:Str) (S:ByteArray) (hS:sb s = S) :
  Calls Tryz.prog 96 #[.pointer (some ⟨g,0,none⟩),.string S] w fun e w'=>e = .returned (.bool (l.head? == some s)) ∧ RS g gq q line w0 w' (if l.head? == some s then l.drop 1 else l) cs:=by
 by_cases hh:l.head? = some s
 ·obtain ⟨r,rfl⟩ : ∃ r,l = s :: r:=by cases l with
   | nil=>cases hh
   | cons t r=>exact ⟨r,by cases hh;rfl⟩
  refine (h.isTL sd S hS).mono ?_
  rintro e w' ⟨h1,h2,h3⟩
  have e1:((s :: r).head? == some s) = true:=by simp
  rw [e1]
  exact ⟨h1,h2⟩
 ·refine (h.isNoL s hh S hS).mono ?_
  rintro e w' ⟨h1,h2⟩
  have e1:(l.head? == some s) = false:=by simpa using hh
  rw [e1,h2]
  exact ⟨h1,h⟩
theorem behindS_len (s:Str) (n:Nat):(behindS s n).length ≤ s.length:=by
 induction n with
 | zero=>exact dropWhile_len _ _
 | succ n ih=>exact Nat.le_trans (dropWhile_len _ _) (Nat.le_trans (dropWhile_len _ _) ih)
theorem trimRB_len (s:Str):(trimRB s).length ≤ s.length:=by
 unfold trimRB
 rw [List.length_reverse]
 have:=dropWhile_len blank s.reverse
 rwa [List.length_reverse] at this
theorem RS.clear {g gq:Nat} {q:Nat → Prop} {line:Str} {w0 w:World} {l:List Str} {cs:Array Value} (h:RS g gq q line w0 w l cs) (sd:Sd g gq q):RS g gq q line w0 (w.setCell ⟨g,0,none⟩ (.slice none 0 0)) [] cs:=by
 obtain ⟨⟨v,h1,h2,h3⟩,h4,h5,h6⟩:=h
 have hf:Fr (fun k=>k = g) w (w.setCell ⟨g,0,none⟩ (.slice none 0 0)):=(Fr.refl (fun k=>k = g) w).setCell (p:=⟨g,0,none⟩) (.inl rfl) _
 exact ⟨⟨_,blk_setCell h1 0 _,RdS.nil _ _ _,fun hl=>absurd rfl hl⟩,hf.blk h4 (fun e=>sd.ne e.symm),h5,h6.trans hf (fun k hk=>.inl (.inl hk))⟩
theorem TRow.fr {w w1:World} {v:Value} {l:List (Tm × Value)} (h:TRow w v l) {S:Nat → Prop} (hf:Fr S w w1) (hv:∀ k,v.ownBlock = some k → ¬ S k) (he:∀ e ∈ l, ∀ k,e.2.ownBlock = some k → ¬ S k):TRow w1 v l:=⟨RdS.fr h.1 hf hv,fun e hm=>RdS.fr (h.2 e hm) hf (he e hm)⟩
theorem selText_len (s:Str) (n:Nat):(selText s n).length ≤ s.length:=Nat.le_trans (trimRB_len _) (behindS_len s n)
theorem words_len (s:Str):(words s).length ≤ s.length:=by
 have key:∀ n (s:Str),s.length ≤ n → (words s).length ≤ s.length:=by
  intro n
  induction n with
  | zero=>
   intro s hs
   have:s = []:=List.eq_nil_of_length_eq_zero (by omega)
   subst this;simp [words,cutW]
  | succ n ih=>
   intro s hs
   rw [words_eq]
   cases hd:dropB s with
   | nil=>simp
   | cons c r=>
    have h1:=dropWhile_len blank s
    have h1' : (c :: r).length ≤ s.length:=by rw [← hd];exact h1
    have hnb:=takeWhile_nb_nil hd
    have h2:((c :: r).dropWhile nb).length ≤ r.length:=by
     have e:nb c = true:=by simp [nb,hnb.2]
     simp only [List.dropWhile_cons,e,if_true]
     exact dropWhile_len nb r
    simp only [List.length_cons] at h1' ⊢
    have h3:=ih ((c :: r).dropWhile nb) (by omega)
    omega
 exact key s.length s (Nat.le_refl _)
set_option maxRecDepth 100000 in
set_option maxHeartbeats 12800000 in
theorem list_calls {g gq:Nat} {q:Nat → Prop} {line:Str} {w0:World} (w:World) (G:∀ W,FQ g gq w0 W → Glob W) (l:List Str) (cs:Array Value) (h:RS g gq q line w0 w l cs) (sd:Sd g gq q) (hln:line.length ≤ 1048576) (hlw:l.length ≤ (words line).length) :
  Calls Tryz.prog 57 #[.pointer (some ⟨g,0,none⟩),.pointer (some ⟨gq,0,none⟩)] w (LsP g gq q line w0 cs l):=by
 have Hsd:=Lib.hid sd
 have HG:=Lib.hid G
 have Hln:=Lib.hid hln
 obtain ⟨v0,c0, -,f0⟩:=h.cell 0 (by omega)
 have H1:=Lib.hid (h.set sd 0 (.int .i64 11))
 cases l with
 | nil=>
  have Hw:Hid (∀ W,W = w.setCell ⟨gq,0,none⟩ (.int .i64 11) → Calls Tryz.prog 31 #[.pointer (some ⟨g,0,none⟩)] W fun e w'=>e = (.panicked [{ v:=.iface 74 (.agg #[]),recovered:=false }]) ∧ w' = W):=fun W hW=>by rw [hW];exact H1.out.wordN
  have Hp:Hid (LsP g gq q line w0 cs [] (.panicked [{ v:=.iface 74 (.agg #[]),recovered:=false }]) (w.setCell ⟨gq,0,none⟩ (.int .i64 11))):=.inr (.inr ⟨rfl,rfl,H1.out.fr⟩)
  clear h sd G hln hlw
  go_enter Tryz.func57,Tryz.ntmps57
  go_wp2_with fail
  with_reducible refine (Hw.out _ rfl).mono ?_
  rintro e w2 ⟨rfl,hw2⟩
  subst hw2
  go_wp2
  exact pan_end Hp.out
 | cons p r=>
 have Hw:Hid (∀ W,W = w.setCell ⟨gq,0,none⟩ (.int .i64 11) → Calls Tryz.prog 31 #[.pointer (some ⟨g,0,none⟩)] W fun e w'=>e = .returned (.string (sb p)) ∧ RS g gq q line w0 w' r (cs.setIfInBounds 0 (.int .i64 11))):=fun W hW=>by rw [hW];exact H1.out.word Hsd.out
 have Hlw:=Lib.hid hlw
 clear h sd G hln hlw
 go_enter Tryz.func57,Tryz.ntmps57
 go_wp2_with fail
 with_reducible refine (Hw.out _ rfl).mono ?_
 rintro e w2 ⟨rfl,hR2⟩
 obtain ⟨v2,c2, -,f2⟩:=hR2.cell 2 (by omega)
 have H3:=Lib.hid (hR2.set Hsd.out 2 (.string (sb p)))
 have Hi:Hid (∀ W,W = w2.setCell ⟨gq,2,none⟩ (.string (sb p)) → Calls Tryz.prog 96 #[.pointer (some ⟨g,0,none⟩),.string (ByteArray.mk #[100,101,101,112])] W fun e w'=>e = .returned (.bool (r.head? == some wDeep)) ∧ RS g gq q line w0 w' (lsR r) ((cs.setIfInBounds 0 (.int .i64 11)).setIfInBounds 2 (.string (sb p)))):=fun W hW=>by rw [hW];exact H3.out.isAny Hsd.out wDeep (ByteArray.mk #[100,101,101,112]) rfl
 have Heq:=Lib.hid (listD_eq (selB line) p r)
 have Hlr:Hid ((lsR r).length ≤ r.length):=by show _ ≤ _;unfold lsR;split <;> simp
 clear hR2 Hw
 obtain ⟨D,hD⟩ : ∃ D,D = (r.head? == some wDeep):=⟨_,rfl⟩
 have HD:=Lib.hid hD
 rw [← hD] at Hi
 clear hD c0 f0
 go_wp2_with fail
 with_reducible refine (Hi.out _ rfl).mono ?_
 rintro e w4 ⟨rfl,hR4⟩
 obtain ⟨v27,c27, -,f27⟩:=hR4.cell 27 (by omega)
 have H5:=Lib.hid (hR4.set Hsd.out 27 (.bool D))
 clear hR4 Hi c2 f2
 cases ho:(optS wFrom (lsR r)).1
 case' none=>
  have Ho:Hid (∀ W,W = w4.setCell ⟨gq,27,none⟩ (.bool D) → Calls Tryz.prog 99 #[.pointer (some ⟨g,0,none⟩),.string (ByteArray.mk #[102,114,111,109])] W fun e w' => ∃ x:ByteArray,e = .returned (.tuple #[.string x,.bool false]) ∧ RS g gq q line w0 w' (optS wFrom (lsR r)).2 (lsF (optS wFrom (lsR r)).1 (((cs.setIfInBounds 0 (.int .i64 11)).setIfInBounds 2 (.string (sb p))).setIfInBounds 27 (.bool D)))):=fun W hW=>by
   rw [hW,ho]
   refine (H5.out.optN Hsd.out wFrom (by decide) ho).mono ?_
   rintro e w' ⟨x,h1,h2,h3⟩
   exact ⟨x,h1,h2⟩
  clear ho
  go_wp2_with fail
  with_reducible refine (Ho.out _ rfl).mono ?_
  rintro e w6 ⟨x,rfl,hR6⟩
  obtain ⟨W7,hW7⟩ : ∃ W7,W7 = w6:=⟨_,rfl⟩
  have H7:Hid (RS g gq q line w0 W7 (optS wFrom (lsR r)).2 (lsF (optS wFrom (lsR r)).1 (((cs.setIfInBounds 0 (.int .i64 11)).setIfInBounds 2 (.string (sb p))).setIfInBounds 27 (.bool D)))):=by rw [hW7];exact hR6
  have HW7:=Lib.hid hW7
  clear hR6 Ho hW7
  go_upto_region 6 with fail
  rw [← HW7.out]
  clear HW7
 case' some fv=>
  have Ho:Hid (∀ W,W = w4.setCell ⟨gq,27,none⟩ (.bool D) → Calls Tryz.prog 99 #[.pointer (some ⟨g,0,none⟩),.string (ByteArray.mk #[102,114,111,109])] W fun e w'=>e = .returned (.tuple #[.string (sb fv),.bool true]) ∧ RS g gq q line w0 w' (optS wFrom (lsR r)).2 (((cs.setIfInBounds 0 (.int .i64 11)).setIfInBounds 2 (.string (sb p))).setIfInBounds 27 (.bool D))):=fun W hW=>by
   rw [hW]
   refine (H5.out.optY Hsd.out wFrom (by decide) ho).mono ?_
   rintro e w' ⟨h1,h2,h3⟩
   exact ⟨h1,h2⟩
  have Hlf:Hid (lsF (optS wFrom (lsR r)).1 (((cs.setIfInBounds 0 (.int .i64 11)).setIfInBounds 2 (.string (sb p))).setIfInBounds 27 (.bool D)) = (((cs.setIfInBounds 0 (.int .i64 11)).setIfInBounds 2 (.string (sb p))).setIfInBounds 27 (.bool D)).setIfInBounds 26 (.string (sb fv))):=by show _ = _;rw [ho];rfl
  clear ho
  go_wp2_with fail
  with_reducible refine (Ho.out _ rfl).mono ?_
  rintro e w6 ⟨rfl,hR6⟩
  obtain ⟨v26,c26, -,f26⟩:=hR6.cell 26 (by omega)
  obtain ⟨W7,hW7⟩ : ∃ W7,W7 = w6.setCell ⟨gq,26,none⟩ (.string (sb fv)):=⟨_,rfl⟩
  have H7:Hid (RS g gq q line w0 W7 (optS wFrom (lsR r)).2 (lsF (optS wFrom (lsR r)).1 (((cs.setIfInBounds 0 (.int .i64 11)).setIfInBounds 2 (.string (sb p))).setIfInBounds 27 (.bool D)))):=by rw [hW7,Hlf.out];exact hR6.set Hsd.out 26 _
  have HW7:=Lib.hid hW7
  clear hR6 Ho hW7 Hlf
  go_upto_region 6 with fail
  rw [← HW7.out]
  clear HW7 c26 f26
 all_goals
  clear c27 f27 H5 H3
  have Hlo:=Lib.hid (optS_len wFrom (lsR r))
  cases hm:smallS wMost 100 (optS wFrom (lsR r)).2
  case none=>
   have Hs:=Lib.hid (H7.out.smallF wMost 100 (by decide) (ByteArray.mk #[109,111,115,116]) rfl hm)
   have Hp:Hid (∀ W,FQ g gq w0 W → LsP g gq q line w0 cs (p :: r) (.panicked [{ v:=.iface 74 (.agg #[]),recovered:=false }]) W):=fun W h1=>.inr (.inr ⟨by rw [Heq.out,hm];rfl,rfl,h1⟩)
   clear hm
   go_wp2_with fail
   with_reducible refine Hs.out.mono ?_
   rintro e w8 ⟨rfl,hF8⟩
   have Hp2:=Lib.hid (Hp.out w8 hF8)
   clear hF8
   go_wp2
   exact pan_end Hp2.out
  case some m=>
   have Hs:=Lib.hid (H7.out.smallT Hsd.out wMost 100 (by decide) (ByteArray.mk #[109,111,115,116]) rfl hm)
   have Hm:=Lib.hid hm
   have Hsub:=Lib.hid (smallS_sub hm)
   clear hm
   go_wp2_with fail
   with_reducible refine Hs.out.mono ?_
   rintro e w8 ⟨rfl,hR8, -⟩
   obtain ⟨v25,c25, -,f25⟩:=hR8.cell 25 (by omega)
   have hR9:=hR8.set Hsd.out 25 (.int .i64 m.1)
   have H9:Hid (RS g gq q line w0 (w8.setCell ⟨gq,25,none⟩ (.int .i64 m.1)) m.2 (lsCells cs p (r.head? == some wDeep) (optS wFrom (lsR r)).1 m.1)):=by rw [← HD.out];exact hR9
   obtain ⟨ml,hml⟩ : ∃ ml,ml = m.2:=⟨_,rfl⟩
   have Hml:=Lib.hid hml
   rw [← hml] at H9
   clear hR8 hR9 Hs H7 hml
   obtain ⟨CF,hCF⟩ : ∃ CF,CF = lsCells cs p (r.head? == some wDeep) (optS wFrom (lsR r)).1 m.1:=⟨_,rfl⟩
   rw [← hCF] at H9
   have HCF:=Lib.hid hCF
   clear hCF
   by_cases hh:ml.head? = some wWhere
   case neg=>
    have Hi:Hid (∀ W,W = w8.setCell ⟨gq,25,none⟩ (.int .i64 m.1) → Calls Tryz.prog 96 #[.pointer (some ⟨g,0,none⟩),.string (ByteArray.mk #[119,104,101,114,101])] W fun e w'=>e = .returned (.bool false) ∧ w' = W):=fun W hW=>by rw [hW];exact H9.out.isNoL wWhere hh (ByteArray.mk #[119,104,101,114,101]) rfl
    have Hp:Hid (LsP g gq q line w0 cs (p :: r) (.returned (.tuple #[])) (w8.setCell ⟨gq,25,none⟩ (.int .i64 m.1))):=.inl ⟨p,r,m,rfl,Hm.out,by rw [← Hml.out];exact hh,rfl,by rw [← Hml.out,← HCF.out];exact H9.out⟩
    clear hh
    go_wp2_with fail
    with_reducible refine (Hi.out _ rfl).mono ?_
    rintro e w10 ⟨rfl,hw10⟩
    subst hw10
    go_wp2
    go_end0
    exact Hp.out
   case pos=>
    obtain ⟨l2,rfl⟩ : ∃ l2,ml = wWhere :: l2:=by cases ml with
     | nil=>cases hh
     | cons t l2=>exact ⟨l2,by cases hh;rfl⟩
    have Hi:Hid (∀ W,W = w8.setCell ⟨gq,25,none⟩ (.int .i64 m.1) → Calls Tryz.prog 96 #[.pointer (some ⟨g,0,none⟩),.string (ByteArray.mk #[119,104,101,114,101])] W fun e w'=>e = .returned (.bool true) ∧ RS g gq q line w0 w' l2 CF):=fun W hW=>by
     rw [hW]
     refine (H9.out.isTL Hsd.out (ByteArray.mk #[119,104,101,114,101]) rfl).mono ?_
     rintro e w' ⟨h1,h2,h3⟩
     exact ⟨h1,h2⟩
    clear hh
    go_wp2_with fail
    with_reducible refine (Hi.out _ rfl).mono ?_
    rintro e w10 ⟨rfl,hR10⟩
    have H10:=Lib.hid hR10
    obtain ⟨vl,hb,hrd, -⟩:=hR10.rd
    obtain ⟨A1,cc1,rfl⟩:=hrd.slice
    obtain ⟨nl,hnl⟩ : ∃ nl,nl = l2.length:=⟨_,rfl⟩
    obtain ⟨nw,hnw⟩ : ∃ nw,nw = (words line).length:=⟨_,rfl⟩
    rw [← hnl] at hb
    have Hb:=Lib.hid hb
    have Hnl:=Lib.hid hnl
    have Hnw:=Lib.hid hnw
    have hle:nl ≤ nw ∧ nw ≤ 1048576:=by
     have h1:=Hlw.out;have h2:=Hlr.out;have h3:=Hlo.out;have h4:=Hsub.out.2;have h5:=words_len line;have h6:=Hln.out
     have h7:=congrArg List.length Hml.out
     simp only [List.length_cons] at h1 h7
     omega
    have Htk:=Lib.hid (tokens_calls w10.drew line Hln.out)
    obtain ⟨d0,d1,e0, -⟩:=cells2 hb
    have Hd:Hid (∀ W,Below w10.drew.heap.size w10.drew W → W.cell? ⟨g,0,none⟩ = some (.slice A1 nl cc1) ∧ W.cell? ⟨g,1,none⟩ = some (.string (sb line))):=fun W h=>by
     obtain ⟨a0,a1, -, -⟩:=cells2 (blk_below (w:=w10.drew) Hb.out h)
     exact ⟨a0,a1⟩
    obtain ⟨nk,hnk⟩ : ∃ nk,nk = nw - nl:=⟨_,rfl⟩
    have HE:Hid (IntKind.i64.wrap ((nw:Int) - (nl:Int)) = (nk:Int)):=by
     show _ = _
     rw [IntWalk.i64_in _ (by omega)]
     omega
    have Hnk:=Lib.hid hnk
    have Hnk2:Hid (nk ≤ 1048577):=by show _ ≤ _;omega
    clear hnk
    have hi1:(nl:Int) ≤ nw:=by omega
    have hi2:(nw:Int) ≤ 1048576:=by omega
    clear hR10 hrd hb hnl hnw Hi c25 f25
    rw [← Hnw.out] at Hlw
    go_wp2
    go_region_held3 (fun W=>W.cell? ⟨g,0,none⟩ = some (.slice A1 nl cc1) ∧ W.cell? ⟨g,1,none⟩ = some (.string (sb line))) (first | exact ⟨d0,d1⟩ | exact Hd.out _ Hb11.out)
     ((go_at_call 26;with_reducible refine Htk.out.mono ?_;rintro e w11 ⟨vt,rfl,hrt, -,hw11⟩;obtain ⟨A2,cc2,rfl⟩:=hrt.slice;have Hb11:=Lib.hid hw11;rw [← Hnw.out];clear hw11 hrt))
    rw [HE.out]
    obtain ⟨a0,a1⟩:=Hd.out _ Hb11.out
    have H11:=Lib.hid (H10.out.drew.below Hb11.out)
    have Hbe:=Lib.hid (behind_calls w11 line nk Hln.out Hnk2.out)
    clear d0 d1 e0 hle hi1 hi2
    go_wp2_with fail
    with_reducible refine Hbe.out.mono ?_
    rintro e w12 ⟨rfl,hw12⟩
    have H12:=Lib.hid (H11.out.below hw12)
    have Htr:Hid (Calls Tryz.prog 104 #[.string (sb (behindS line nk)),.string (ByteArray.mk #[32,9])] w12 fun e w'=>e = .returned (.string (sb (selText line nk))) ∧ Below w12.heap.size w12 w'):=ltrimr_calls w12 (behindS line nk) (by have:=behindS_len line nk;have:=Hln.out;omega)
    generalize sb (behindS line nk) = BS at Htr
    clear hw12 Hbe
    go_wp2_with fail
    with_reducible refine Htr.out.mono ?_
    rintro e w13 ⟨rfl,hw13⟩
    have H13:=Lib.hid (H12.out.below hw13)
    have Hps:=Lib.hid (bselparse_calls w13 (HG.out _ H13.out.fr) (selText line nk) (by have:=selText_len line nk;have:=Hln.out;omega))
    generalize sb (selText line nk) = SS at Hps
    clear hw13 Htr
    go_wp2_with fail
    with_reducible refine Hps.out.mono ?_
    rintro e w14 ⟨vt,ec,rfl,hsel,hw14⟩
    have H14:=Lib.hid (H13.out.below hw14)
    have hsb:selB line l2.length = selParse termB (selText line nk):=by unfold selB;rw [← Hnl.out,← Hnw.out,← Hnk.out]
    rcases hsel with ⟨tl,hs,htr,hn1,hn2,rfl⟩ | ⟨hs,hec⟩
    case inr=>
     have Hp:Hid (LsP g gq q line w0 cs (p :: r) (.panicked [{ v:=.iface 74 (.agg #[]),recovered:=false }]) w14):=.inr (.inr ⟨by
      rw [Heq.out,Hm.out]
      show (match m.2 with | []=>_ | w :: l=>_) = none
      rw [← Hml.out]
      show (if wWhere = wWhere then (selB line l2.length).map _ else none) = none
      rw [if_pos rfl,hsb,hs];rfl,rfl,H14.out.fr⟩)
     have hb0:(ec == 0) = false:=by simpa using hec
     clear hs hec hw14 hsb
     go_wp2_with (go_at_call 29;with_reducible refine (needF_calls _ _).mono ?_;rintro e wz ⟨rfl,hwz⟩;obtain rfl:=hwz.symm)
     exact pan_end Hp.out
    case inl=>
     obtain ⟨v23,c23, -,f23⟩:=H14.out.cell 23 (by omega)
     obtain ⟨A3,cc3,rfl⟩:=htr.1.slice
     have h15:=H14.out.set Hsd.out 23 (.slice A3 tl.length cc3)
     obtain ⟨vr,hbr, -⟩:=h15.rd
     obtain ⟨g0, -,gf0, -⟩:=cells2 hbr
     have hfr:Fr (fun k=>k = g ∨ k = gq) w14 ((w14.setCell ⟨gq,23,none⟩ (.slice A3 tl.length cc3)).setCell ⟨g,0,none⟩ (.slice none 0 0)):=
      ((Fr.refl (fun k=>k = g ∨ k = gq) _).setCell (p:=⟨gq,23,none⟩) (.inl (.inr rfl)) _).setCell (p:=⟨g,0,none⟩) (.inl (.inl rfl)) _
     have h13g:=H13.out.glt
     have h13q:=H13.out.qlt
     have Hp:Hid (LsP g gq q line w0 cs (p :: r) (.returned (.tuple #[])) ((w14.setCell ⟨gq,23,none⟩ (.slice A3 tl.length cc3)).setCell ⟨g,0,none⟩ (.slice none 0 0))):=by
      refine .inr (.inl ⟨p,r,m,l2,tl,_,rfl,Hm.out,Hml.out.symm,by rw [hsb,hs],htr.fr hfr ?_ ?_,⟨fun k hk=>?_,fun el hel k hk=>?_⟩,rfl,?_⟩)
      ·intro k hk e
       have:=hn1 k hk
       rcases e with e | e <;> omega
      ·intro el hel k hk e
       have:=hn2 el hel k hk
       rcases e with e | e <;> omega
      ·have:=hn1 k hk;have:=H13.out.fr.size;omega
      ·have:=hn2 el hel k hk;have:=H13.out.fr.size;omega
      ·rw [← HCF.out];exact h15.clear Hsd.out
     clear hs htr hn1 hn2 hw14 hsb h15 hbr hfr h13g h13q
     go_wp2_with (go_at_call 29;with_reducible refine (needT_calls _ _).mono ?_;rintro e wz ⟨rfl,hwz⟩;obtain rfl:=hwz.symm)
     go_end0
     exact Hp.out
end Go.Proofs.YtpfkkagkbneilaaGreatDoor
namespace Go.Proofs.YtpfkkagkbneilaaGreatDoor
open Go.RowKit Go.MapKept
set_option linter.unusedVariables false
set_option linter.unusedSimpArgs false
theorem form1_calls {g gq:Nat} {q:Nat → Prop} {line:Str} {w0:World} (w:World) (G:∀ W,FQ g gq w0 W → Glob W) (l:List Str) (cs:Array Value) (h:RS g gq q line w0 w l cs) (sd:Sd g gq q) (hg:4 ≤ g) (hsm:∀ t ∈ l,t.length ≤ 1048576) (hln:l.length ≤ 1048577) :
  Calls Tryz.prog 49 #[.pointer (some ⟨g,0,none⟩),.pointer (some ⟨gq,0,none⟩)] w (ObP g gq q line w0 cs 7 l):=by
 have Ho:Hid (Calls Tryz.prog 50 #[.pointer (some ⟨g,0,none⟩),.pointer (some ⟨gq,0,none⟩),.int .i64 7] w (ObP g gq q line w0 cs 7 l)):=object_calls 7 w G l cs h sd hg hsm hln
 generalize hP:ObP g gq q line w0 cs 7 l = P at Ho
 have Hpan:Hid (∀ e w',P e w' → e = .returned (.tuple #[]) ∨ e = (.panicked [{ v:=.iface 74 (.agg #[]),recovered:=false }])):=fun e w' h=>by
  rw [← hP] at h
  rcases h with ⟨p,n,r,a,b,c,d,x,lv,pv,pl, -, -, -, -, -, -, -,rfl, -⟩ | ⟨-,rfl, -⟩
  ·exact .inl rfl
  ·exact .inr rfl
 clear h sd G hg hsm hln hP
 go_enter Tryz.func49,Tryz.ntmps49
 go_wp2_with fail
 with_reducible refine Ho.out.mono ?_
 intro e w2 hp
 rcases Hpan.out e w2 hp with rfl | rfl
 ·have Hp:=Lib.hid hp
  clear hp
  go_wp2
  refine bodyPost_ret (v:=.tuple #[]) (by simp [results,go_sem]) rfl ?_
  exact Hp.out
 ·have Hp:=Lib.hid hp
  clear hp
  go_wp2
  exact pan_end Hp.out
theorem form2_calls {g gq:Nat} {q:Nat → Prop} {line:Str} {w0:World} (w:World) (G:∀ W,FQ g gq w0 W → Glob W) (l:List Str) (cs:Array Value) (h:RS g gq q line w0 w l cs) (sd:Sd g gq q) (hg:4 ≤ g) (hsm:∀ t ∈ l,t.length ≤ 1048576) (hln:l.length ≤ 1048577) :
  Calls Tryz.prog 51 #[.pointer (some ⟨g,0,none⟩),.pointer (some ⟨gq,0,none⟩)] w (ObP g gq q line w0 cs 8 l):=by
 have Ho:Hid (Calls Tryz.prog 50 #[.pointer (some ⟨g,0,none⟩),.pointer (some ⟨gq,0,none⟩),.int .i64 8] w (ObP g gq q line w0 cs 8 l)):=object_calls 8 w G l cs h sd hg hsm hln
 generalize hP:ObP g gq q line w0 cs 8 l = P at Ho
 have Hpan:Hid (∀ e w',P e w' → e = .returned (.tuple #[]) ∨ e = (.panicked [{ v:=.iface 74 (.agg #[]),recovered:=false }])):=fun e w' h=>by
  rw [← hP] at h
  rcases h with ⟨p,n,r,a,b,c,d,x,lv,pv,pl, -, -, -, -, -, -, -,rfl, -⟩ | ⟨-,rfl, -⟩
  ·exact .inl rfl
  ·exact .inr rfl
 clear h sd G hg hsm hln hP
 go_enter Tryz.func51,Tryz.ntmps51
 go_wp2_with fail
 with_reducible refine Ho.out.mono ?_
 intro e w2 hp
 rcases Hpan.out e w2 hp with rfl | rfl
 ·have Hp:=Lib.hid hp
  clear hp
  go_wp2
  refine bodyPost_ret (v:=.tuple #[]) (by simp [results,go_sem]) rfl ?_
  exact Hp.out
 ·have Hp:=Lib.hid hp
  clear hp
  go_wp2
  exact pan_end Hp.out
theorem form3_calls {g gq:Nat} {q:Nat → Prop} {line:Str} {w0:World} (w:World) (G:∀ W,FQ g gq w0 W → Glob W) (l:List Str) (cs:Array Value) (h:RS g gq q line w0 w l cs) (sd:Sd g gq q) (hg:4 ≤ g) (hsm:∀ t ∈ l,t.length ≤ 1048576) (hln:l.length ≤ 1048577) :
  Calls Tryz.prog 52 #[.pointer (some ⟨g,0,none⟩),.pointer (some ⟨gq,0,none⟩)] w (ObP g gq q line w0 cs 16 l):=by
 have Ho:Hid (Calls Tryz.prog 50 #[.pointer (some ⟨g,0,none⟩),.pointer (some ⟨gq,0,none⟩),.int .i64 16] w (ObP g gq q line w0 cs 16 l)):=object_calls 16 w G l cs h sd hg hsm hln
 generalize hP:ObP g gq q line w0 cs 16 l = P at Ho
 have Hpan:Hid (∀ e w',P e w' → e = .returned (.tuple #[]) ∨ e = (.panicked [{ v:=.iface 74 (.agg #[]),recovered:=false }])):=fun e w' h=>by
  rw [← hP] at h
  rcases h with ⟨p,n,r,a,b,c,d,x,lv,pv,pl, -, -, -, -, -, -, -,rfl, -⟩ | ⟨-,rfl, -⟩
  ·exact .inl rfl
  ·exact .inr rfl
 clear h sd G hg hsm hln hP
 go_enter Tryz.func52,Tryz.ntmps52
 go_wp2_with fail
 with_reducible refine Ho.out.mono ?_
 intro e w2 hp
 rcases Hpan.out e w2 hp with rfl | rfl
 ·have Hp:=Lib.hid hp
  clear hp
  go_wp2
  refine bodyPost_ret (v:=.tuple #[]) (by simp [results,go_sem]) rfl ?_
  exact Hp.out
 ·have Hp:=Lib.hid hp
  clear hp
  go_wp2
  exact pan_end Hp.out
abbrev FE:=ByteArray × Nat
def mkE (x:FE × Nat):MapEntry:={ key:=.string x.1.1,val:=.func (.func x.1.2) #[] #[],born:=x.2 }
def fEnts (l:List FE):Array MapEntry:=(l.zipIdx.map mkE).toArray
def lookF (S:ByteArray):List FE → Option Nat
 | []=>none
 | e :: r=>if (S == e.1) = true then some e.2 else lookF S r
def lookI (S:ByteArray):List FE → Nat → Option (Nat × Value)
 | [],_=>none
 | e :: r,i=>if (S == e.1) = true then some (i,.func (.func e.2) #[] #[]) else lookI S r (i + 1)
theorem findNow_ents (S:ByteArray):∀ (l:List FE) (k i:Nat),Instr.findNow .string (.string S) ((l.zipIdx k).map mkE) i = some (lookI S l i)
 | [],_,_=>rfl
 | e :: r,k,i=>by
  rw [List.zipIdx_cons,List.map_cons]
  unfold Instr.findNow lookI
  cases h:S == e.1 with
  | true=>simp [mkE,Instr.sameNow,h]
  | false=>
   simp only [mkE,Instr.sameNow,h]
   exact findNow_ents S r (k + 1) (i + 1)
theorem lookI_none {S:ByteArray}:∀ {l:List FE} {i:Nat},lookF S l = none → lookI S l i = none
 | [],_,_=>rfl
 | e :: r,i,h=>by
  unfold lookF at h
  unfold lookI
  split at h
  ·cases h
  ·rename_i hn;rw [if_neg hn];exact lookI_none h
theorem lookI_some {S:ByteArray} {n:Nat}:∀ {l:List FE} {i:Nat},lookF S l = some n → ∃ j,lookI S l i = some (j,.func (.func n) #[] #[])
 | [],_,h=>by cases h
 | e :: r,i,h=>by
  unfold lookF at h
  unfold lookI
  split at h
  ·rename_i hn;cases h;exact ⟨i,by rw [if_pos hn]⟩
  ·rename_i hn;rw [if_neg hn];exact lookI_some h
theorem fEnts_push (l:List FE) (e:FE):fEnts (l ++ [e]) = (fEnts l).push (mkE (e,l.length)):=by
 unfold fEnts
 rw [List.zipIdx_append,List.map_append,List.push_toArray]
 simp [List.zipIdx_cons]
structure FMap (w0 w:World) (b:Nat) (l:List FE):Prop where
 blk:w.heap[b]? = some (.map (fEnts l) l.length)
 bel:Below w0.heap.size w0 w
 le:w0.heap.size ≤ b
theorem FMap.below {w0 w w1:World} {b:Nat} {l:List FE} (h:FMap w0 w b l) (hb:Below w.heap.size w w1):FMap w0 w1 b l:=⟨(hb.block b (blk_lt h.blk)).trans h.blk,h.bel.trans (hb.mono h.bel.size),h.le⟩
theorem formMap_und:Tryz.prog.underlying 82 = some (.map 9 80):=Tryz.underlying82
theorem wpList_insF {ops:Array Oper} {rest:List Oper} {o:Oper} {a:Act} {Q:Exit → Act → World → Prop} {w0 w:World} {b:Nat} {l:List FE} (H:Hid (FMap w0 w b l)) (hg:o.guard = none) (m x v:Operand) (hop:o.op = Op.insert 82 m x v) (hm:a.eval m = .map (some b)) (S:ByteArray) (hx:a.eval x = .string S) (n:Nat) (hv:a.eval v = .func (.func n) #[] #[]) (hno:lookF S l = none)
  (hK:∀ w',Hid (FMap w0 w' b (l ++ [(S,n)])) → wpList Tryz.prog ops Q rest (a.put o.dst undef) w'):wpList Tryz.prog ops Q (o :: rest) a w:=by
 refine wpList_plain hg fun K' hK'=>?_
 obtain ⟨hb,hbel,hle⟩:=H.out
 have hf:=findNow_ents S l 0 0
 rw [lookI_none hno] at hf
 have hf2:Instr.findNow .string (.string S) (fEnts l).toList 0 = some none:=hf
 have hrun:(Instr.mapUpdate 82 (.map (some b)) (.string S) (.func (.func n) #[] #[])).run Tryz.prog w = .ok () { w with heap:=w.heap.setIfInBounds b (.map ((fEnts l).push ⟨.string S,.func (.func n) #[] #[],l.length⟩) (l.length + 1)) }:=by
  simp [Instr.mapUpdate,run_underlying formMap_und,MapKept.run_getObj_map hb,run_checkKey (P:=Tryz.prog) (kt:=9) (d:=.string) (k:=.string S) Tryz.underlying9 trivial,run_findKey Tryz.underlying9 hf2,MapKept.run_setObj_map _ hb,Result.andThen]
 unfold Oper.wp
 simp [execOp,hop,hm,hx,hv,hrun,Result.andThen]
 refine hK' _ _ (hK _ ⟨?_,?_,hle⟩)
 ·rw [fEnts_push,List.length_append]
  have:=blk_lt hb
  simp [this,mkE]
 ·refine ⟨hbel.os,hbel.tape,hbel.output,?_,fun k hk=>?_⟩
  ·simpa using hbel.size
  ·rw [← hbel.block k hk]
   have:b ≠ k:=by omega
   simp [Array.getElem?_setIfInBounds,this]
theorem run_lookF {w:World} {b:Nat} {l:List FE} (hb:w.heap[b]? = some (.map (fEnts l) l.length)) (S:ByteArray):(Instr.lookup 82 (.map (some b)) (.string S) true).run Tryz.prog w = .ok (match lookF S l with
  | some n=>.tuple #[.func (.func n) #[] #[],.bool true]
  | none=>.tuple #[.nilFunc,.bool false]) w:=by
 have hf:=findNow_ents S l 0 0
 have hz:(zeroValue 80).run Tryz.prog w = .ok .nilFunc w:=by kernel_rfl
 cases hl:lookF S l with
 | none=>
  rw [lookI_none hl] at hf
  have hf2:Instr.findNow .string (.string S) (fEnts l).toList 0 = some none:=hf
  simp [Instr.lookup,run_underlying formMap_und,MapKept.run_getObj_map hb,run_checkKey (P:=Tryz.prog) (kt:=9) (d:=.string) (k:=.string S) Tryz.underlying9 trivial,run_findKey Tryz.underlying9 hf2,hz,Result.andThen]
 | some n=>
  obtain ⟨j,hj⟩:=lookI_some (i:=0) hl
  rw [hj] at hf
  have hf2:Instr.findNow .string (.string S) (fEnts l).toList 0 = some (some (j,.func (.func n) #[] #[])):=hf
  simp [Instr.lookup,run_underlying formMap_und,MapKept.run_getObj_map hb,run_checkKey (P:=Tryz.prog) (kt:=9) (d:=.string) (k:=.string S) Tryz.underlying9 trivial,run_findKey Tryz.underlying9 hf2,Result.andThen]
def formL:List (Str × Nat) := [([110,111,100,101],46),([113,117,111,116,97],47),([108,105,109,105,116],48),([99,114,101,97,116,101],49),([117,112,100,97,116,101],51),([101,118,105,99,116],52),([100,101,108,101,116,101],53),([103,101,116],54),([110,111,100,101,115],56),([108,105,115,116],57),([115,116,97,116,117,115],58),([119,97,116,99,104],59),([98,105,110,100],60),([117,110,98,105,110,100],61),([115,121,110,99],62),([99,104,101,99,107,112,111,105,110,116],63),([115,116,97,116],64)]
def formF:List FE:=formL.map fun x=>(sb x.1,x.2)
theorem formL_enter:∀ x ∈ formL, ∀ (args:Array Value) (w:World),(callFunc x.2 args).run Tryz.prog w = .ok (.enter x.2 args) w:=by
 intro x hx args w
 simp only [formL,List.mem_cons,List.not_mem_nil,or_false] at hx
 rcases hx with rfl | rfl | rfl | rfl | rfl | rfl | rfl | rfl | rfl | rfl | rfl | rfl | rfl | rfl | rfl | rfl | rfl <;> kernel_rfl
set_option maxRecDepth 100000 in
set_option maxHeartbeats 3200000 in
theorem forms_calls (w:World):Calls Tryz.prog 30 #[] w fun e w' => ∃ b,e = .returned (.map (some b)) ∧ FMap w w' b formF:=by
 have hmm:=@run_makeMap Tryz.prog
 have HM:Hid (FMap w (w.alloc (.map #[] 0)) w.heap.size []):=⟨blk_new _ _,bel_alloc _ _,Nat.le_refl _⟩
 go_enter Tryz.func30,Tryz.ntmps30
 go_wp2_with (refine wpList_insF HM rfl _ _ _ rfl rfl _ rfl _ rfl (by decide) ?_;intro w1 HM1;clear HM;have HM:=HM1;clear HM1)
 go_ret
 exact ⟨_,rfl,HM.out⟩
end Go.Proofs.YtpfkkagkbneilaaGreatDoor
namespace Go.Proofs.YtpfkkagkbneilaaGreatDoor
open Go.RowKit
set_option linter.unusedVariables false
set_option linter.unusedSimpArgs false
def reqCells (r:ReqD) (lv pv hv rv tv:Value):Array Value := #[.int .i64 (r.op:Int),.string (sb []),.string (sb r.path),.string (sb r.name),
 .string (sb r.obj.path),.string (sb r.obj.name),lv,.int .i64 r.obj.prio,.int .i64 r.obj.ends,pv,.int .i64 0,
 .string (sb r.quo.path),.string (sb r.quo.name),.int .i64 (r.quo.kind:Int),.int .i64 (r.quo.arg:Int),hv,
 .string (sb r.lim.path),.string (sb r.lim.name),rv,
 .string (sb r.bin.path),.string (sb r.bin.name),.string (sb r.bin.subj),.int .i64 (r.bin.verb:Int),
 tv,.int .i64 (r.ver:Int),.int .i64 r.most,.string (sb r.frm),.bool r.deep,.bool r.dry]
def ReqN (B:Nat) (lv pv hv rv tv:Value) (pl:List PtV) (tl:List (Tm × Value)):Prop:=RNew B lv pv pl ∧ (∀ k,hv.ownBlock = some k → B ≤ k) ∧ (∀ k,rv.ownBlock = some k → B ≤ k) ∧ (∀ k,tv.ownBlock = some k → B ≤ k) ∧ ∀ e ∈ tl, ∀ k,e.2.ownBlock = some k → B ≤ k
def ReqV (B:Nat) (w:World) (cs:Array Value) (r:ReqD):Prop := ∃ (lv pv hv rv tv:Value) (pl:List PtV) (tl:List (Tm × Value)),cs = reqCells r lv pv hv rv tv ∧ RdS lbC 2 w lv r.obj.labels ∧ (PRow w pv pl ∧ pl.map Prod.fst = r.obj.parts) ∧ RdS amtC 2 w hv r.quo.hard ∧ RdS ruC 6 w rv r.lim.rules ∧ (TRow w tv tl ∧ tl.map Prod.fst = r.terms) ∧ ReqN B lv pv hv rv tv pl tl
theorem ReqV.fr {B:Nat} {w w1:World} {cs:Array Value} {r:ReqD} (h:ReqV B w cs r) {S:Nat → Prop} (hf:Fr S w w1) (hS:∀ k,B ≤ k → ¬ S k):ReqV B w1 cs r:=by
 obtain ⟨lv,pv,hv,rv,tv,pl,tl,h1,h2,⟨h3,h4⟩,h5,h6,⟨h7,h8⟩,⟨n1,n2,n3⟩,n4,n5,n6,n7⟩:=h
 exact ⟨lv,pv,hv,rv,tv,pl,tl,h1,RdS.fr h2 hf (fun k hk=>hS k (n1 k hk)),⟨⟨RdS.fr h3.1 hf (fun k hk=>hS k (n2 k hk)),fun e he=>⟨RdS.fr (h3.2 e he).1 hf (fun k hk=>hS k ((n3 e he).1 k hk)),RdS.fr (h3.2 e he).2 hf (fun k hk=>hS k ((n3 e he).2 k hk))⟩⟩,h4⟩,RdS.fr h5 hf (fun k hk=>hS k (n4 k hk)),RdS.fr h6 hf (fun k hk=>hS k (n5 k hk)),⟨h7.fr hf (fun k hk=>hS k (n6 k hk)) (fun e he k hk=>hS k (n7 e he k hk)),h8⟩,⟨n1,n2,n3⟩,n4,n5,n6,n7⟩
theorem ReqV.below {B:Nat} {w w1:World} {cs:Array Value} {r:ReqD} (h:ReqV B w cs r) (hb:Below w.heap.size w w1):ReqV B w1 cs r:=h.fr (Fr.of_below hb (fun _=>False)) (fun _ _ h=>h)
theorem ReqV.mono {B B' : Nat} {w:World} {cs:Array Value} {r:ReqD} (h:ReqV B w cs r) (hB:B' ≤ B):ReqV B' w cs r:=by
 obtain ⟨lv,pv,hv,rv,tv,pl,tl,h1,h2,h3,h5,h6,h7,⟨n1,n2,n3⟩,n4,n5,n6,n7⟩:=h
 exact ⟨lv,pv,hv,rv,tv,pl,tl,h1,h2,h3,h5,h6,h7,⟨fun k hk=>Nat.le_trans hB (n1 k hk),fun k hk=>Nat.le_trans hB (n2 k hk),fun e he=>⟨fun k hk=>Nat.le_trans hB ((n3 e he).1 k hk),fun k hk=>Nat.le_trans hB ((n3 e he).2 k hk)⟩⟩,fun k hk=>Nat.le_trans hB (n4 k hk),fun k hk=>Nat.le_trans hB (n5 k hk),fun k hk=>Nat.le_trans hB (n6 k hk),fun e he k hk=>Nat.le_trans hB (n7 e he k hk)⟩
theorem no_own (B:Nat):∀ k,(Value.slice none 0 0).ownBlock = some k → B ≤ k:=fun k hk=>by cases hk
theorem RNew.nil (B:Nat):RNew B (.slice none 0 0) (.slice none 0 0) []:=⟨no_own B,no_own B,fun e he=>by cases he⟩
def zeroCells:Array Value:=reqCells ReqD.zero (.slice none 0 0) (.slice none 0 0) (.slice none 0 0) (.slice none 0 0) (.slice none 0 0)
def FlatR (r:ReqD):Prop:=r.obj.labels = [] ∧ r.obj.parts = [] ∧ r.quo.hard = [] ∧ r.lim.rules = [] ∧ r.terms = []
theorem PRow.nil (w:World):PRow w (.slice none 0 0) []:=⟨RdS.nil _ _ _,fun e he=>by cases he⟩
theorem TRow.nil (w:World):TRow w (.slice none 0 0) []:=⟨RdS.nil _ _ _,fun e he=>by cases he⟩
theorem ReqV.flat (B:Nat) (w:World) {r:ReqD} (h:FlatR r):ReqV B w (reqCells r (.slice none 0 0) (.slice none 0 0) (.slice none 0 0) (.slice none 0 0) (.slice none 0 0)) r:=by
 obtain ⟨h1,h2,h3,h4,h5⟩:=h
 refine ⟨_,_,_,_,_, [], [],rfl,?_,⟨PRow.nil w,?_⟩,?_,?_,⟨TRow.nil w,?_⟩,RNew.nil B,no_own B,no_own B,no_own B,fun e he=>by cases he⟩
 ·rw [h1];exact RdS.nil _ _ _
 ·rw [h2];rfl
 ·rw [h3];exact RdS.nil _ _ _
 ·rw [h4];exact RdS.nil _ _ _
 ·rw [h5];rfl
def FoP (g gq:Nat) (q:Nat → Prop) (line:Str) (w0:World) (o:Option ReqD) (e:Ending) (w' : World):Prop:=
 (∃ rest cs,e = .returned (.tuple #[]) ∧ RS g gq q line w0 w' rest cs ∧ (rest = [] → ∃ rq,o = some rq ∧ ReqV w0.heap.size w' cs rq) ∧ (rest ≠ [] → o = none)) ∨ (o = none ∧ e = (.panicked [{ v:=.iface 74 (.agg #[]),recovered:=false }]) ∧ FQ g gq w0 w')
def Flat (o:Option (Array Value × List Str)) (D:Option ReqD):Prop:=(o = none → D = none) ∧ ∀ x,o = some x → (x.2 = [] → ∃ rq,D = some rq ∧ x.1 = reqCells rq (.slice none 0 0) (.slice none 0 0) (.slice none 0 0) (.slice none 0 0) (.slice none 0 0) ∧ FlatR rq) ∧ (x.2 ≠ [] → D = none)
theorem MtQ.fo {g gq:Nat} {q:Nat → Prop} {line:Str} {w0 w' : World} {o:Option (Array Value × List Str)} {D:Option ReqD} {e:Ending} (h:MtQ g gq q line w0 o e w') (hf:Flat o D):FoP g gq q line w0 D e w':=by
 rcases h with ⟨x,h1,h2,h3⟩ | ⟨h1,h2,h3⟩
 ·obtain ⟨a1,a2⟩:=hf.2 x h1
  refine .inl ⟨x.2,x.1,h2,h3,fun hr=>?_,a2⟩
  obtain ⟨rq,b1,b2,b3⟩:=a1 hr
  exact ⟨rq,b1,by rw [b2];exact ReqV.flat _ _ b3⟩
 ·exact .inr ⟨hf.1 h1,h2,h3⟩
theorem flatR_of {r:ReqD} (h1:r.obj.labels = []) (h2:r.obj.parts = []) (h3:r.quo.hard = []) (h4:r.lim.rules = []) (h5:r.terms = []):FlatR r:=⟨h1,h2,h3,h4,h5⟩
theorem Flat.nn:Flat none none:=⟨fun _=>rfl,fun x hx=>by cases hx⟩
theorem Flat.nil {cs:Array Value} {rq:ReqD} (h1:cs = reqCells rq (.slice none 0 0) (.slice none 0 0) (.slice none 0 0) (.slice none 0 0) (.slice none 0 0)) (h2:FlatR rq):Flat (some (cs, [])) (some rq):=⟨fun h=>(by cases h),fun x hx=>by cases hx;exact ⟨fun _=>⟨rq,rfl,h1,h2⟩,fun h=>absurd rfl h⟩⟩
theorem Flat.cons {cs:Array Value} {t:Str} {r:List Str}:Flat (some (cs,t :: r)) none:=⟨fun h=>(by cases h),fun x hx=>by cases hx;exact ⟨fun h=>(by cases h),fun _=>rfl⟩⟩
theorem Flat.end {cs:Array Value} {rq:ReqD} (r:List Str) (h1:cs = reqCells rq (.slice none 0 0) (.slice none 0 0) (.slice none 0 0) (.slice none 0 0) (.slice none 0 0)) (h2:FlatR rq):Flat (some (cs,r)) (ended rq r):=by
 cases r with
 | nil=>exact Flat.nil h1 h2
 | cons t r=>exact Flat.cons
theorem flat_named (op:Nat) (l:List Str):Flat (opNamedM (op:Int) zeroCells l) (namedD op l):=by
 match l with
 | []=>exact Flat.nn
 | [p]=>exact Flat.nn
 | [p,n]=>exact Flat.nil rfl ⟨rfl,rfl,rfl,rfl,rfl⟩
 | p :: n :: t :: r=>exact Flat.cons
theorem flat_op (op:Nat) (l:List Str):Flat (opM (op:Int) zeroCells l) (ended { ReqD.zero with op:=op } l):=Flat.end l rfl ⟨rfl,rfl,rfl,rfl,rfl⟩
theorem flat_nodes (l:List Str):Flat (pathM zeroCells 10 l) (nodesD l):=by
 match l with
 | []=>exact Flat.nn
 | [p]=>exact Flat.nil rfl ⟨rfl,rfl,rfl,rfl,rfl⟩
 | p :: n :: r=>exact Flat.cons
theorem flat_node (l:List Str):Flat (nodeM zeroCells l) (nodeD l):=by
 match l with
 | []=>exact Flat.nn
 | [a]=>
  show Flat (if a = wAdd then none else if a = wDrop then none else none) none
  split
  ·exact Flat.nn
  ·split <;> exact Flat.nn
 | [a,p]=>
  show Flat (if a = wAdd then some (_, []) else if a = wDrop then some (_, []) else none) (if a = wAdd then some _ else if a = wDrop then some _ else none)
  split
  ·exact Flat.nil rfl ⟨rfl,rfl,rfl,rfl,rfl⟩
  ·split
   ·exact Flat.nil rfl ⟨rfl,rfl,rfl,rfl,rfl⟩
   ·exact Flat.nn
 | a :: p :: t :: r=>
  show Flat (if a = wAdd then some (_,t :: r) else if a = wDrop then some (_,t :: r) else none) none
  split
  ·exact Flat.cons
  ·split
   ·exact Flat.cons
   ·exact Flat.nn
theorem flat_drop (l:List Str):Flat (dropM zeroCells l) (dropD l):=by
 match l with
 | []=>exact Flat.nn
 | [p]=>exact Flat.nn
 | p :: n :: r=>
  show Flat ((mustS r).map fun m=>(_,m.2)) ((mustS r).bind fun c=>ended _ c.2)
  cases mustS r with
  | none=>exact Flat.nn
  | some c=>exact Flat.end c.2 rfl ⟨rfl,rfl,rfl,rfl,rfl⟩
theorem flat_watch (l:List Str):Flat (watchM zeroCells l) (watchD l):=by
 match l with
 | []=>exact Flat.nn
 | [p]=>exact Flat.nn
 | p :: v :: r=>
  show Flat ((digitsS v 19).bind fun n=>(smallS wMost 100 r).map fun m=>(_,m.2)) ((digitsS v 19).bind fun n=>(smallS wMost 100 r).bind fun m=>ended _ m.2)
  cases digitsS v 19 with
  | none=>exact Flat.nn
  | some n=>
   show Flat ((smallS wMost 100 r).map fun m=>(_,m.2)) ((smallS wMost 100 r).bind fun m=>ended _ m.2)
   cases smallS wMost 100 r with
   | none=>exact Flat.nn
   | some m=>exact Flat.end m.2 rfl ⟨rfl,rfl,rfl,rfl,rfl⟩
theorem flat_bind (l:List Str):Flat (bindM zeroCells l) (bindD l):=by
 match l with
 | []=>exact Flat.nn
 | [p]=>exact Flat.nn
 | [p,n]=>exact Flat.nn
 | [p,n,s]=>exact Flat.nn
 | [p,n,s,v]=>
  show Flat ((verbS v).map fun k=>(_, [])) ((verbS v).map fun k=>_)
  cases verbS v with
  | none=>exact Flat.nn
  | some k=>exact Flat.nil rfl ⟨rfl,rfl,rfl,rfl,rfl⟩
 | p :: n :: s :: v :: t :: r=>
  show Flat ((verbS v).map fun k=>(_,t :: r)) none
  cases verbS v with
  | none=>exact Flat.nn
  | some k=>exact Flat.cons
section
variable {g gq:Nat} {q:Nat → Prop} {line:Str} {w0 w' : World} {l:List Str} {e:Ending}
theorem FoP.ret {rest:List Str} {cs:Array Value} {rq:ReqD} (hR:RS g gq q line w0 w' rest cs) (hv:ReqV w0.heap.size w' cs rq):FoP g gq q line w0 (ended rq rest) (.returned (.tuple #[])) w':=by
 refine .inl ⟨rest,cs,rfl,hR,fun hr=>?_,fun hr=>?_⟩
 ·subst hr;exact ⟨rq,rfl,hv⟩
 ·cases rest with
  | nil=>exact absurd rfl hr
  | cons t r=>rfl
theorem QuP.fo (h:QuP g gq q line w0 zeroCells l e w'):FoP g gq q line w0 (quotaD l) e w':=by
 rcases h with ⟨p,n,s,r,sc,x,hv,rfl,h2,h3,rfl,h5,h6,h7⟩ | ⟨h1,x,h2,rfl,h4⟩ | ⟨h1,h2,h3⟩
 ·rw [quotaD_set]
  show FoP _ _ _ _ _ ((scopeS s).bind _) _ _
  rw [h2]
  show FoP _ _ _ _ _ ((amountsS r).bind _) _ _
  rw [h3]
  exact FoP.ret h5 ⟨(.slice none 0 0),(.slice none 0 0),hv,(.slice none 0 0),(.slice none 0 0), [], [],rfl,RdS.nil _ _ _,⟨PRow.nil _,rfl⟩,h6,RdS.nil _ _ _,⟨TRow.nil _,rfl⟩,RNew.nil _,h7,no_own _,no_own _,fun e he=>by cases he⟩
 ·obtain ⟨r,rfl⟩ : ∃ r,l = wDrop :: r:=by cases l with
   | nil=>cases h1
   | cons t r=>exact ⟨r,by cases h1;rfl⟩
  have hq:quotaD (wDrop :: r) = namedD 4 r:=by simp [quotaD]
  rw [hq]
  exact (show MtQ g gq q line w0 (opNamedM 4 zeroCells r) (.returned (.tuple #[])) w' from .inl ⟨x,h2,rfl,h4⟩).fo (flat_named 4 r)
 ·exact .inr ⟨h1,h2,h3⟩
theorem LiP.fo (h:LiP g gq q line w0 zeroCells l e w'):FoP g gq q line w0 (limitD l) e w':=by
 rcases h with ⟨p,n,r,x,hv,rfl,h2,rfl,h5,h6,h7⟩ | ⟨h1,x,h2,rfl,h4⟩ | ⟨h1,h2,h3⟩
 ·rw [limitD_set]
  show FoP _ _ _ _ _ ((rulesS r).bind _) _ _
  rw [h2]
  exact FoP.ret h5 ⟨(.slice none 0 0),(.slice none 0 0),(.slice none 0 0),hv,(.slice none 0 0), [], [],rfl,RdS.nil _ _ _,⟨PRow.nil _,rfl⟩,RdS.nil _ _ _,h6,⟨TRow.nil _,rfl⟩,RNew.nil _,no_own _,h7,no_own _,fun e he=>by cases he⟩
 ·obtain ⟨r,rfl⟩ : ∃ r,l = wDrop :: r:=by cases l with
   | nil=>cases h1
   | cons t r=>exact ⟨r,by cases h1;rfl⟩
  have hq:limitD (wDrop :: r) = namedD 6 r:=by simp [limitD]
  rw [hq]
  exact (show MtQ g gq q line w0 (opNamedM 6 zeroCells r) (.returned (.tuple #[])) w' from .inl ⟨x,h2,rfl,h4⟩).fo (flat_named 6 r)
 ·exact .inr ⟨h1,h2,h3⟩
theorem obFin_zero (op:Nat) (p n:Str) (ver:Nat) (lv:Value) (a b:Int) (pv:Value) (d:List (Str × Str)) (x:List Ptt):obFin zeroCells (op:Int) p n ver lv a b pv = reqCells { ReqD.zero with op:=op,path:=p,name:=n,obj:=⟨p,n,d,a,b,x⟩,ver:=ver } lv pv (.slice none 0 0) (.slice none 0 0) (.slice none 0 0):=by
 simp only [obFin,zeroCells,reqCells,List.setIfInBounds_toArray,List.set_cons_zero,List.set_cons_succ]
theorem ObP.fo {op:Nat} (h:ObP g gq q line w0 zeroCells op l e w'):FoP g gq q line w0 (objectD op l) e w':=by
 rcases h with ⟨p,n,r,a,b,c,d,x,lv,pv,pl,rfl,h1,h2,h3,h4,h5,h6,rfl,h8,h9,h10,h11⟩ | ⟨h1,h2,h3⟩
 ·show FoP _ _ _ _ _ ((smallS [112,114,105,111] 0 r).bind _) _ _
  rw [h1]
  show FoP _ _ _ _ _ ((smallS [101,110,100,115] 0 a.2).bind _) _ _
  rw [h2]
  show FoP _ _ _ _ _ ((mustS b.2).bind _) _ _
  rw [h3]
  show FoP _ _ _ _ _ ((labelsS c.2).bind _) _ _
  rw [h4]
  show FoP _ _ _ _ _ ((partsS d.2).bind _) _ _
  rw [h5]
  rw [obFin_zero op p n c.1 lv a.1 b.1 pv d.1 x.1] at h8
  exact FoP.ret h8 ⟨lv,pv,(.slice none 0 0),(.slice none 0 0),(.slice none 0 0),pl, [],rfl,h9,⟨h10,h6⟩,RdS.nil _ _ _,RdS.nil _ _ _,⟨TRow.nil _,rfl⟩,h11,no_own _,no_own _,no_own _,fun e he=>by cases he⟩
 ·exact .inr ⟨h1,h2,h3⟩
theorem lsCells_zero (p:Str) (d:Bool) (f:Option Str) (m:Int):lsCells zeroCells p d f m = reqCells { ReqD.zero with op:=11,path:=p,deep:=d,frm:=f.getD [],most:=m } (.slice none 0 0) (.slice none 0 0) (.slice none 0 0) (.slice none 0 0) (.slice none 0 0):=by
 cases f with
 | none=>rfl
 | some v=>rfl
theorem LsP.fo (h:LsP g gq q line w0 zeroCells l e w'):FoP g gq q line w0 (listD (selB line) l) e w':=by
 rcases h with ⟨p,r,m,rfl,h1,h2,rfl,h4⟩ | ⟨p,r,m,l2,tl,v,rfl,h1,h2,h3,h4,h5,rfl,h6⟩ | ⟨h1,h2,h3⟩
 ·rw [listD_eq,h1]
  rw [lsCells_zero] at h4
  refine .inl ⟨m.2,_,rfl,h4,fun hr=>?_,fun hr=>?_⟩
  ·refine ⟨_,?_,ReqV.flat _ _ ⟨rfl,rfl,rfl,rfl,rfl⟩⟩
   show (match m.2 with | []=>_ | w :: l=>_) = _
   rw [hr]
  ·show (match m.2 with | []=>_ | w :: l=>_) = _
   cases hm:m.2 with
   | nil=>exact absurd hm hr
   | cons w l=>exact if_neg (fun e=>h2 (by rw [hm,e];rfl))
 ·rw [listD_eq,h1]
  rw [lsCells_zero] at h6
  refine .inl ⟨[],_,rfl,h6,fun _=>⟨{ ReqD.zero with op:=11,path:=p,deep:=r.head? == some wDeep,frm:=(optS wFrom (lsR r)).1.getD [],most:=m.1,terms:=tl.map Prod.fst },?_,(.slice none 0 0),(.slice none 0 0),(.slice none 0 0),(.slice none 0 0),v, [],tl,rfl,RdS.nil _ _ _,⟨PRow.nil _,rfl⟩,RdS.nil _ _ _,RdS.nil _ _ _,⟨h4,rfl⟩,RNew.nil _,no_own _,no_own _,h5.1,h5.2⟩,fun hr=>absurd rfl hr⟩
  show (match m.2 with | []=>_ | w :: l=>_) = _
  rw [h2]
  show (if wWhere = wWhere then (selB line l2.length).map _ else none) = _
  rw [if_pos rfl,h3]
  rfl
 ·exact .inr ⟨h1,h2,h3⟩
end
theorem ba_refl (S:ByteArray):(S == S) = true:=by
 show (S.data == S.data) = true
 simp
theorem ba_eq {S T:ByteArray} (h:(S == T) = true):S = T:=by
 have h2:(S.data == T.data) = true:=h
 cases S;cases T
 simpa using h2
def lookS (t:Str):List (Str × Nat) → Option Nat
 | []=>none
 | x :: r=>if t = x.1 then some x.2 else lookS t r
theorem lookS_mem {t:Str} {n:Nat}:∀ {L:List (Str × Nat)},lookS t L = some n → ∃ x ∈ L,x.2 = n
 | [],h=>by cases h
 | x :: r,h=>by
  unfold lookS at h
  split at h
  ·cases h;exact ⟨x,by simp,rfl⟩
  ·obtain ⟨y,hy,e⟩:=lookS_mem h;exact ⟨y,List.mem_cons_of_mem _ hy,e⟩
theorem form_enter {t:Str} {n:Nat} (h:lookS t formL = some n) (args:Array Value) (w:World):(callFunc n args).run Tryz.prog w = .ok (.enter n args) w:=by
 obtain ⟨x,hx,rfl⟩:=lookS_mem h
 exact formL_enter x hx args w
theorem lookF_map (t:Str):∀ L:List (Str × Nat),lookF (sb t) (L.map fun x=>(sb x.1,x.2)) = lookS t L
 | []=>rfl
 | x :: r=>by
  show (if (sb t == sb x.1) = true then some x.2 else lookF (sb t) (r.map _)) = if t = x.1 then some x.2 else lookS t r
  by_cases h:t = x.1
  ·rw [if_pos h,if_pos (by rw [h];exact ba_refl _)]
  ·rw [if_neg h,if_neg (fun e=>h (sb_inj.1 (ba_eq e)))]
   exact lookF_map t r
structure FoA (g gq:Nat) (q:Nat → Prop) (line:Str) (w0 w:World) (l:List Str):Prop where
 G:∀ W,FQ g gq w0 W → Glob W
 rs:RS g gq q line w0 w l zeroCells
 sd:Sd g gq q
 hg:4 ≤ g
 sm:∀ t ∈ l,t.length ≤ 1048576
 ln:l.length ≤ 1048577
 lline:line.length ≤ 1048576
 lw:l.length ≤ (words line).length
def FoC (line:Str) (l:List Str) (o:Option ReqD) (n:Nat):Prop := ∀ (g gq:Nat) (q:Nat → Prop) (w0 w:World),FoA g gq q line w0 w l → Calls Tryz.prog n #[.pointer (some ⟨g,0,none⟩),.pointer (some ⟨gq,0,none⟩)] w (FoP g gq q line w0 o)
theorem form_look (line t:Str) (l:List Str):(∃ n,lookS t formL = some n ∧ FoC line l (formD (selB line) t l) n) ∨ (lookS t formL = none ∧ formD (selB line) t l = none):=by
 unfold formD formL
 simp only [lookS]
 by_cases h0:t = [110,111,100,101]
 ·rw [if_pos h0,if_pos h0]
  exact .inl ⟨_,rfl,fun g gq q w0 w h=>(node_calls w l zeroCells h.rs h.sd).mono fun e w' hp=>hp.fo (flat_node l)⟩
 rw [if_neg h0,if_neg h0]
 by_cases h1:t = [113,117,111,116,97]
 ·rw [if_pos h1,if_pos h1]
  exact .inl ⟨_,rfl,fun g gq q w0 w h=>(quota_calls w h.G l zeroCells h.rs h.sd h.hg h.sm h.ln).mono fun e w' hp=>hp.fo⟩
 rw [if_neg h1,if_neg h1]
 by_cases h2:t = [108,105,109,105,116]
 ·rw [if_pos h2,if_pos h2]
  exact .inl ⟨_,rfl,fun g gq q w0 w h=>(limit_calls w h.G l zeroCells h.rs h.sd h.sm h.ln).mono fun e w' hp=>hp.fo⟩
 rw [if_neg h2,if_neg h2]
 by_cases h3:t = [99,114,101,97,116,101]
 ·rw [if_pos h3,if_pos h3]
  exact .inl ⟨_,rfl,fun g gq q w0 w h=>(form1_calls w h.G l zeroCells h.rs h.sd h.hg h.sm h.ln).mono fun e w' hp=>hp.fo⟩
 rw [if_neg h3,if_neg h3]
 by_cases h4:t = [117,112,100,97,116,101]
 ·rw [if_pos h4,if_pos h4]
  exact .inl ⟨_,rfl,fun g gq q w0 w h=>(form2_calls w h.G l zeroCells h.rs h.sd h.hg h.sm h.ln).mono fun e w' hp=>hp.fo⟩
 rw [if_neg h4,if_neg h4]
 by_cases h5:t = [101,118,105,99,116]
 ·rw [if_pos h5,if_pos h5]
  exact .inl ⟨_,rfl,fun g gq q w0 w h=>(form3_calls w h.G l zeroCells h.rs h.sd h.hg h.sm h.ln).mono fun e w' hp=>hp.fo⟩
 rw [if_neg h5,if_neg h5]
 by_cases h6:t = [100,101,108,101,116,101]
 ·rw [if_pos h6,if_pos h6]
  exact .inl ⟨_,rfl,fun g gq q w0 w h=>(drop_calls w l zeroCells h.rs h.sd).mono fun e w' hp=>hp.fo (flat_drop l)⟩
 rw [if_neg h6,if_neg h6]
 by_cases h7:t = [103,101,116]
 ·rw [if_pos h7,if_pos h7]
  exact .inl ⟨_,rfl,fun g gq q w0 w h=>(form4_calls w l zeroCells h.rs h.sd).mono fun e w' hp=>hp.fo (flat_named 10 l)⟩
 rw [if_neg h7,if_neg h7]
 by_cases h8:t = [110,111,100,101,115]
 ·rw [if_pos h8,if_pos h8]
  exact .inl ⟨_,rfl,fun g gq q w0 w h=>(form5_calls w l zeroCells h.rs h.sd).mono fun e w' hp=>hp.fo (flat_nodes l)⟩
 rw [if_neg h8,if_neg h8]
 by_cases h9:t = [108,105,115,116]
 ·rw [if_pos h9,if_pos h9]
  exact .inl ⟨_,rfl,fun g gq q w0 w h=>(list_calls w h.G l zeroCells h.rs h.sd h.lline h.lw).mono fun e w' hp=>hp.fo⟩
 rw [if_neg h9,if_neg h9]
 by_cases h10:t = [115,116,97,116,117,115]
 ·rw [if_pos h10,if_pos h10]
  exact .inl ⟨_,rfl,fun g gq q w0 w h=>(form6_calls w l zeroCells h.rs h.sd).mono fun e w' hp=>hp.fo (flat_named 12 l)⟩
 rw [if_neg h10,if_neg h10]
 by_cases h11:t = [119,97,116,99,104]
 ·rw [if_pos h11,if_pos h11]
  exact .inl ⟨_,rfl,fun g gq q w0 w h=>(watch_calls w l zeroCells h.rs h.sd).mono fun e w' hp=>hp.fo (flat_watch l)⟩
 rw [if_neg h11,if_neg h11]
 by_cases h12:t = [98,105,110,100]
 ·rw [if_pos h12,if_pos h12]
  exact .inl ⟨_,rfl,fun g gq q w0 w h=>(bind_calls w h.G l zeroCells h.rs h.sd).mono fun e w' hp=>hp.fo (flat_bind l)⟩
 rw [if_neg h12,if_neg h12]
 by_cases h13:t = [117,110,98,105,110,100]
 ·rw [if_pos h13,if_pos h13]
  exact .inl ⟨_,rfl,fun g gq q w0 w h=>(form7_calls w l zeroCells h.rs h.sd).mono fun e w' hp=>hp.fo (flat_named 15 l)⟩
 rw [if_neg h13,if_neg h13]
 by_cases h14:t = [115,121,110,99]
 ·rw [if_pos h14,if_pos h14]
  exact .inl ⟨_,rfl,fun g gq q w0 w h=>(form8_calls w l zeroCells h.rs h.sd).mono fun e w' hp=>hp.fo (flat_op 17 l)⟩
 rw [if_neg h14,if_neg h14]
 by_cases h15:t = [99,104,101,99,107,112,111,105,110,116]
 ·rw [if_pos h15,if_pos h15]
  exact .inl ⟨_,rfl,fun g gq q w0 w h=>(form9_calls w l zeroCells h.rs h.sd).mono fun e w' hp=>hp.fo (flat_op 18 l)⟩
 rw [if_neg h15,if_neg h15]
 by_cases h16:t = [115,116,97,116]
 ·rw [if_pos h16,if_pos h16]
  exact .inl ⟨_,rfl,fun g gq q w0 w h=>(form10_calls w l zeroCells h.rs h.sd).mono fun e w' hp=>hp.fo (flat_op 19 l)⟩
 rw [if_neg h16,if_neg h16]
 exact .inr ⟨rfl,rfl⟩
end Go.Proofs.YtpfkkagkbneilaaGreatDoor
