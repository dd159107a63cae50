/- bursar.object: an object's line. -/
import Derived.Test.YtleajmblagddcaaDoorD15
namespace Go.Proofs.YtleajmblagddcaaDoor
open Go.RowKit
set_option linter.unusedVariables false
set_option linter.unusedSimpArgs false

def Lb.txt (a : Lb) : List UInt8 := [32, 108, 97, 98, 101, 108, 32] ++ (a.key.data.toList ++ 61 :: a.val.data.toList)
def lbsS (l : List Lb) : List UInt8 := l.flatMap Lb.txt
theorem lbsS_app (a b : List Lb) : lbsS (a ++ b) = lbsS a ++ lbsS b := by simp [lbsS]
def optS (word : List UInt8) (l : List Am) : List UInt8 := if l = [] then [] else word ++ amsS l
def Pa.txt (p : Pa) : List UInt8 := [32, 112, 97, 114, 116, 32] ++ (orS p.name.data.toList ++ (optS [32, 114, 101, 113] p.rl ++ optS [32, 108, 105, 109] p.ll))
def pasS (l : List Pa) : List UInt8 := l.flatMap Pa.txt
theorem pasS_app (a b : List Pa) : pasS (a ++ b) = pasS a ++ pasS b := by simp [pasS]
def Ob.parts (o : Ob) : List Pt := [.str o.path, .str o.name, .int o.prio, .i64 o.dead, .i64 o.ver]
def Ob.head (o : Ob) : List UInt8 := [111, 98, 106, 101, 99, 116] ++ partsS o.parts
def Ob.txt (o : Ob) : List UInt8 := o.head ++ (lbsS o.lbl ++ (pasS o.pal ++ [10]))
theorem take_snoc {α : Type} (f : α → List UInt8) {l : List α} {i : Nat} (h : i < l.length) : (l.take (i + 1)).flatMap f = (l.take i).flatMap f ++ f l[i] := by
  rw [List.take_succ_eq_append_getElem h, List.flatMap_append]; simp
theorem take_len_le {α : Type} (f : α → List UInt8) {l : List α} {i : Nat} (h : i < l.length) : ((l.take i).flatMap f).length + (f l[i]).length ≤ (l.flatMap f).length := by
  have e2 : l = l.take i ++ [l[i]] ++ l.drop (i + 1) := by simp
  have : l.flatMap f = (l.take i).flatMap f ++ f l[i] ++ (l.drop (i + 1)).flatMap f := by
    conv => lhs; rw [e2]
    rw [List.flatMap_append, List.flatMap_append]; simp
  rw [this]; simp
theorem flat_count {α : Type} (f : α → List UInt8) (hf : ∀ x, 0 < (f x).length) (l : List α) : l.length ≤ (l.flatMap f).length := by
  induction l with
  | nil => simp
  | cons a r ih => rw [List.flatMap_cons, List.length_append, List.length_cons]; have := hf a; omega
theorem trim_nl (l : List UInt8) : Lib.trimSuffix (l ++ [10]) [10] = l := by
  unfold Lib.trimSuffix Lib.hasSuffix
  simp

abbrev obBox (o : Ob) : Obj := .cells #[.string o.path, .string o.name, o.lbv, .int .i64 o.prio, .int .i64 o.dead, o.pav, .int .i64 o.ver] 88
abbrev bldBox : Obj := .cells #[.pointer none, .slice none 0 0] 56
def OB (w : World) (o : Ob) (w1 : World) (s1 : Value) (bs : List UInt8) : Prop := BOut ((w.alloc (obBox o)).alloc bldBox) (w.heap.size + 1) (.slice none 0 0) w1 s1 bs
theorem ob_old {w : World} {o : Ob} : Below w.heap.size w ((w.alloc (obBox o)).alloc bldBox) := ((Below.refl _ _).alloc (Nat.le_refl _) _).alloc (by simp) _
theorem ob_S {w : World} : ∀ k, BS (w.heap.size + 1) (.slice none 0 0) k → w.heap.size + 1 ≤ k := by
  rintro k (rfl | hk)
  · exact Nat.le_refl _
  · simp [Value.ownBlock] at hk
theorem OB.start (w : World) (o : Ob) : OB w o ((w.alloc (obBox o)).alloc bldBox) (.slice none 0 0) [] := by
  have := IsB.fresh (w.alloc (obBox o))
  simp at this
  exact BOut.refl this
theorem OB.S {w w1 : World} {o : Ob} {s1 : Value} {bs : List UInt8} (h : OB w o w1 s1 bs) : ∀ k, BS (w.heap.size + 1) s1 k → w.heap.size + 1 ≤ k := (h.keep ob_S (by simp)).1
theorem OB.base {w w1 : World} {o : Ob} {s1 : Value} {bs : List UInt8} (h : OB w o w1 s1 bs) : Below w.heap.size w w1 :=
  ob_old.trans ((h.keep ob_S (by simp)).2.mono (by simp))
theorem OB.box {w w1 : World} {o : Ob} {s1 : Value} {bs : List UInt8} (h : OB w o w1 s1 bs) : w1.heap[w.heap.size]? = some (obBox o) := by
  refine h.step.fr.blk (blk_alloc (blk_new w _) _) ?_
  intro hk; have := ob_S _ hk; omega
theorem OB.lt {w w1 : World} {o : Ob} {s1 : Value} {bs : List UInt8} (h : OB w o w1 s1 bs) : w.heap.size + 1 < w1.heap.size := BS_lt h.is _ (.inl rfl)

theorem rdP_new (W : World) (t : TypeId) (ps : List Pt) (n : Nat) (h : n = W.heap.size) (hm : ps.length ≤ 100) : RdP (W.alloc (.cells (ps.map Pt.val).toArray t)) (.slice (some ⟨n, 0, none⟩) ps.length ps.length) ps := by
  subst h
  exact Rd.of_own (own_fresh W t 1 ps.length (ps.map Pt.val) (by simp) (by unfold maxLen; omega))
theorem trimNl_calls (l : List UInt8) (w : World) (hl : l.length + 1 ≤ 9223372036854775807) : Calls Tryd.prog 51 #[.string ⟨(l ++ [10]).toArray⟩, .string ⟨#[10]⟩] w fun e w' => e = .returned (.string ⟨l.toArray⟩) ∧ w = w' := by
  have h9 : (ByteArray.mk (l ++ [10]).toArray).size ≤ 9223372036854775807 := by rw [ba_size, List.length_append, List.length_singleton]; exact hl
  have h2 : Lib.trimSuffix (ByteArray.mk (l ++ [10]).toArray).data.toList (ByteArray.mk #[10]).data.toList = l := trim_nl l
  have h3 := Tryd.strings_TrimSuffix ⟨(l ++ [10]).toArray⟩ ⟨#[10]⟩ w h9
  rw [h2] at h3
  exact h3.mono (fun e w' h => ⟨h.1, h.2.symm⟩)

/-- the builder, the box and a copy of a part -/
structure PB (w : World) (o : Ob) (w1 : World) (s1 : Value) (bs : List UInt8) (q : Nat) (p : Pa) : Prop where
  ob : OB w o w1 s1 bs
  blk : w1.heap[q]? = some (.cells #[.string p.name, p.rv, p.lv] 119 (0, 0))
  ne : ∀ k, BS (w.heap.size + 1) s1 k → k ≠ q
theorem PB.next {w w1 w2 : World} {o : Ob} {s1 s2 : Value} {bs b2 : List UInt8} {q : Nat} {p : Pa} (h : PB w o w1 s1 bs q p) (k : BOut w1 (w.heap.size + 1) s1 w2 s2 b2) : PB w o w2 s2 b2 q p :=
  ⟨h.ob.trans k, k.step.fr.blk h.blk (fun hq => h.ne q hq rfl), fun j hj => (k.step.new j hj).elim (h.ne j) (fun h2 => by have := blk_lt h.blk; omega)⟩
theorem PB.cells {w w1 : World} {o : Ob} {s1 : Value} {bs : List UInt8} {q : Nat} {p : Pa} (h : PB w o w1 s1 bs q p) : w1.cell? ⟨q, 0, none⟩ = some (.string p.name) ∧ w1.cell? ⟨q, 1, none⟩ = some p.rv ∧ w1.cell? ⟨q, 2, none⟩ = some p.lv := by
  refine ⟨?_, ?_, ?_⟩ <;> (rw [Lib.cell_of_heap h.blk]; rfl)

def LbLoop (w : World) (o : Ob) (v30 : Value) (w1 : World) : Prop := ∃ (i : Nat) (s1 : Value), i ≤ o.lbl.length ∧ v30 = .int .i64 i ∧ OB w o w1 s1 (o.head ++ lbsS (o.lbl.take i))
def PaLoop (w : World) (o : Ob) (v46 : Value) (w1 : World) : Prop := ∃ (i : Nat) (s1 : Value), i ≤ o.pal.length ∧ v46 = .int .i64 i ∧ OB w o w1 s1 (o.head ++ lbsS o.lbl ++ pasS (o.pal.take i))

set_option maxRecDepth 100000 in
set_option maxHeartbeats 3200000 in
theorem object_calls (o : Ob) (w : World) (ho : ObOk w o) (hlen : o.txt.length ≤ 1099511627776) (hU : Uni w) (htab : PowTab w) :
    Calls Tryd.prog 39 #[.agg #[.string o.path, .string o.name, o.lbv, .int .i64 o.prio, .int .i64 o.dead, o.pav, .int .i64 o.ver]] w fun e w' => e = .returned (.string ⟨o.txt.toArray⟩) ∧ Below w.heap.size w w' := by
  have Hlen := Lib.hid hlen
  have HU := Lib.hid hU
  have Htab := Lib.hid htab
  have Ho := Lib.hid ho
  have Hst := Lib.hid (OB.start w o)
  have hhl : o.head.length ≤ 1099511627776 := by have := hlen; rw [Ob.txt, List.length_append] at this; omega
  have Hhl := Lib.hid hhl
  clear hlen hU htab ho hhl
  have hok : ∀ p ∈ o.parts, p.ok := by
    intro p hp
    simp only [Ob.parts, List.mem_cons, List.not_mem_nil, or_false] at hp
    rcases hp with rfl | rfl | rfl | rfl | rfl
    · exact True.intro
    · exact True.intro
    · exact Ho.out.prio
    · exact Ho.out.dead
    · exact Ho.out.ver
  have Hok := Lib.hid hok
  clear hok
  go_enter Tryd.func39, Tryd.ntmps39
  obtain ⟨A1, c1, hlv⟩ := Ho.out.lb.slice
  obtain ⟨A2, c2, hpv⟩ := Ho.out.pa.1.slice
  have Hlv := Lib.hid hlv
  have Hpv := Lib.hid hpv
  have hll : o.lbl.length ≤ 1099511627776 := by
    have h1 := flat_count Lb.txt (fun x => by simp [Lb.txt]) o.lbl
    have h2 := Hlen.out
    rw [Ob.txt, List.length_append, List.length_append] at h2
    rw [show o.lbl.flatMap Lb.txt = lbsS o.lbl from rfl] at h1
    omega
  have hpl : o.pal.length ≤ 1099511627776 := by
    have h1 := flat_count Pa.txt (fun x => by simp [Pa.txt]) o.pal
    have h2 := Hlen.out
    rw [Ob.txt, List.length_append, List.length_append, List.length_append] at h2
    rw [show o.pal.flatMap Pa.txt = pasS o.pal from rfl] at h1
    omega
  clear hlv hpv
  go_wp2_with fail
  have hold : Below w.heap.size w ((((w.alloc (obBox o)).alloc bldBox)).alloc (.cells (o.parts.map Pt.val).toArray 20)) := ob_old.alloc (by simp; omega) _
  refine (tell_calls ⟨#[111, 98, 106, 101, 99, 116]⟩ o.parts _ _ (rdP_new ((w.alloc (obBox o)).alloc bldBox) 20 o.parts (w.heap.size + 1 + 1) (by simp) (by simp [Ob.parts])) Hok.out ?_ (by simp [Ob.parts]) (Htab.out.below hold)).mono ?_
  · rw [show tellS (ByteArray.mk #[111, 98, 106, 101, 99, 116]).data.toList o.parts = o.head ++ [10] from rfl, List.length_append, List.length_singleton]
    have := Hhl.out; omega
  rintro e w3 ⟨rfl, hw3⟩
  rw [show tellS (ByteArray.mk #[111, 98, 106, 101, 99, 116]).data.toList o.parts = o.head ++ [10] from rfl]
  have H3 : Hid (OB w o w3 (.slice none 0 0) []) := (Hst.out.below ((Below.refl _ _).alloc (Nat.le_refl _) (.cells (o.parts.map Pt.val).toArray 20))).below hw3
  clear hw3 hold Hst
  go_wp2_with fail
  refine (trimNl_calls o.head _ (by have := Hhl.out; omega)).mono ?_
  rintro e w3' ⟨rfl, rfl⟩
  go_wp2_with fail
  refine (writeString_calls (w.heap.size + 1) _ [] ⟨o.head.toArray⟩ _ H3.out.is (by rw [ba_size]; have := Hhl.out; simp; omega)).mono ?_
  rintro e w4 ⟨⟨_, rfl⟩, s4, h4⟩
  have H4 : Hid (OB w o w4 s4 o.head) := by have := H3.out.trans h4; simp only [List.nil_append, List.toList_toArray] at this; exact this
  have hbx := H4.out.box
  have k2 : w4.cell? ⟨w.heap.size, 2, none⟩ = some (.slice A1 o.lbl.length c1) := by rw [Lib.cell_of_heap hbx, ← Hlv.out]; rfl
  have Hst : Hid (LbLoop w o (.int .i64 0) w4) := ⟨0, s4, Nat.zero_le _, rfl, by simpa [lbsS] using H4.out⟩
  clear h4 hbx H3 H4
  go_wp2
  go_loopw [30] (fun v30 w1 => LbLoop w o v30 w1) (fun i _ => o.lbl.length - (intOf i).toNat)
  case atStart => exact Hst.out
  case round =>
    clear Hst k2
    obtain ⟨i, s1, hi, rfl, hO⟩ := hrel
    have HO := Lib.hid hO
    clear hO
    by_cases hlt : i < o.lbl.length
    · have hd := dT hlt
      obtain ⟨b, off, c', hv, hc', hb, hc1, hc2⟩ := Lb.at (show RdLb wr o.lbv o.lbl from RdS.below Ho.out.lb HO.out.base) i hlt
      rw [Hlv.out] at hv
      cases hv
      have HT : Hid (lbsS (o.lbl.take (i + 1)) = lbsS (o.lbl.take i) ++ o.lbl[i].txt) := take_snoc Lb.txt hlt
      have hsz : (o.head ++ lbsS (o.lbl.take i)).length + (7 + o.lbl[i].key.size + 1 + o.lbl[i].val.size) ≤ 1099511627776 := by
        have h1 : (lbsS (o.lbl.take i)).length + o.lbl[i].txt.length ≤ (lbsS o.lbl).length := take_len_le Lb.txt hlt
        have h2 := Hlen.out
        rw [Ob.txt, List.length_append, List.length_append] at h2
        have h3 : o.lbl[i].txt.length = 7 + o.lbl[i].key.size + 1 + o.lbl[i].val.size := by
          simp only [Lb.txt, List.length_append, List.length_cons, List.length_nil, ← size_toList]; omega
        rw [List.length_append]; omega
      have Htx : Hid (o.lbl[i].txt = [32, 108, 97, 98, 101, 108, 32] ++ (o.lbl[i].key.data.toList ++ 61 :: o.lbl[i].val.data.toList)) := rfl
      generalize o.lbl[i].txt = tx at HT Htx
      generalize o.lbl[i].key = ky at hc1 hsz Htx
      generalize o.lbl[i].val = vl at hc2 hsz Htx
      have z1 : ¬ 9223372036854775807 < 7 + ky.size := by omega
      have z2 : ¬ 9223372036854775807 < 7 + ky.size + 1 := by omega
      have z3 : ¬ 9223372036854775807 < 7 + ky.size + 1 + vl.size := by omega
      have Hsz := Lib.hid hsz
      clear hsz
      go_wp2_with fail
      refine (writeString_calls (w.heap.size + 1) s1 (o.head ++ lbsS (o.lbl.take i)) _ _ ((HO.out.below ((Below.refl _ _).alloc (Nat.le_refl _) _)).is) ?_).mono ?_
      · have h1 := Hsz.out
        have e1 : (ByteArray.mk #[32, 108, 97, 98, 101, 108, 32]).size = 7 := rfl
        have e2 : (ByteArray.mk #[61]).size = 1 := rfl
        simp only [ByteArray.size_append] at h1 ⊢; omega
      rintro e w5 ⟨⟨_, rfl⟩, s5, h5⟩
      have Hn : Hid (LbLoop w o (.int .i64 ((i : Int) + 1)) w5) := by
        refine ⟨i + 1, s5, hlt, rfl, ?_⟩
        have := (HO.out.below ((Below.refl _ _).alloc (Nat.le_refl _) _)).trans h5
        rw [HT.out, Htx.out]
        simp at this ⊢
        exact this
      clear h5
      go_wp2
      go_roundw
      case rel => exact Hn.out
      case measure => simp [intOf]; omega
    · obtain rfl : i = o.lbl.length := by omega
      have hd := dF hlt
      rw [List.take_length] at HO
      have hbx := HO.out.box
      have k5 : wr.cell? ⟨w.heap.size, 5, none⟩ = some (.slice A2 o.pal.length c2) := by rw [Lib.cell_of_heap hbx, ← Hpv.out]; rfl
      have Hst : Hid (PaLoop w o (.int .i64 0) wr) := ⟨0, s1, Nat.zero_le _, rfl, by simpa [pasS] using HO.out⟩
      clear hbx HO hlt
      go_wp2
      go_loopw [46] (fun v46 w1 => PaLoop w o v46 w1) (fun i _ => o.pal.length - (intOf i).toNat)
      case atStart => exact Hst.out
      case round =>
        clear Hst k5
        obtain ⟨i, s1, hi, rfl, hO⟩ := hrel
        have HO := Lib.hid hO
        clear hO
        by_cases hlt : i < o.pal.length
        · skip
          have hd := dT hlt
          obtain ⟨b, off, c', hv, hc', hb, hc0, hc1, hc2⟩ := Pa.at (Ho.out.pa.below HO.out.base) i hlt
          rw [Hpv.out] at hv
          cases hv
          have hpok := Ho.out.pa.2 _ (List.getElem_mem hlt)
          have HT : Hid (pasS (o.pal.take (i + 1)) = pasS (o.pal.take i) ++ o.pal[i].txt) := take_snoc Pa.txt hlt
          have hsz : (o.head ++ lbsS o.lbl ++ pasS (o.pal.take i)).length + o.pal[i].txt.length ≤ 1099511627776 := by
            have h1 : (pasS (o.pal.take i)).length + o.pal[i].txt.length ≤ (pasS o.pal).length := take_len_le Pa.txt hlt
            have h2 := Hlen.out
            simp only [Ob.txt, List.length_append] at h2 ⊢
            omega
          generalize o.pal[i] = p at hc0 hc1 hc2 hpok HT hsz
          obtain ⟨pn, rv, rl, lv, ll⟩ := p
          obtain ⟨Ar, cr, hrv⟩ := hpok.1.1.slice
          obtain ⟨Al, cl, hlv2⟩ := hpok.2.1.slice
          change rv = .slice Ar rl.length cr at hrv
          change lv = .slice Al ll.length cl at hlv2
          subst hrv hlv2
          change wr.cell? _ = some (.string pn) at hc0
          change wr.cell? _ = some (.slice Ar rl.length cr) at hc1
          change wr.cell? _ = some (.slice Al ll.length cl) at hc2
          have htx : (⟨pn, .slice Ar rl.length cr, rl, .slice Al ll.length cl, ll⟩ : Pa).txt.length = 6 + (orS pn.data.toList).length + (optS [32, 114, 101, 113] rl).length + (optS [32, 108, 105, 109] ll).length := by
            simp only [Pa.txt, List.length_append, List.length_cons, List.length_nil]; omega
          generalize hb0 : o.head ++ lbsS o.lbl ++ pasS (o.pal.take i) = b0 at hsz HO
          have Hb0 := Lib.hid hb0
          have Hpok := Lib.hid hpok
          have hor : (orS pn.data.toList).length ≤ 1099511627776 := by omega
          have Hsz := Lib.hid hsz
          have Htx := Lib.hid htx
          have hP0 : PB w o (wr.alloc (.cells #[.string pn, .slice Ar rl.length cr, .slice Al ll.length cl] 119)) s1 b0 wr.heap.size (⟨pn, .slice Ar rl.length cr, rl, .slice Al ll.length cl, ll⟩ : Pa) :=
            ⟨HO.out.below ((Below.refl _ _).alloc (Nat.le_refl _) _), blk_new _ _, fun k hk => by have := BS_lt HO.out.is k hk; omega⟩
          have HP0 := Lib.hid hP0
          clear hb0 hpok hsz htx hP0
          by_cases hr : rl = []
          · skip
            have hr0 : ¬ (0 : Int) < (rl.length : Int) := by rw [hr]; simp
            have hr1 : ¬ 0 < rl.length := by rw [hr]; simp
            have Hr : Hid (optS [32, 114, 101, 113] rl = []) := if_pos hr
            clear hr
            by_cases hl : ll = []
            · skip
              have hl0 : ¬ (0 : Int) < (ll.length : Int) := by rw [hl]; simp
              have hl1 : ¬ 0 < ll.length := by rw [hl]; simp
              have Hl : Hid (optS [32, 108, 105, 109] ll = []) := if_pos hl
              clear hl
              go_wp2_with fail
              refine (bor_calls pn _).mono ?_
              rintro e wo ⟨⟨_, rfl, t, rfl, ht⟩, rfl⟩
              have hts : t.size = (orS pn.data.toList).length := by rw [size_toList, ht]
              have Hts := Lib.hid hts
              have Ht := Lib.hid ht
              have z1 : ¬ 9223372036854775807 < 6 + t.size := by omega
              have e6 : (ByteArray.mk #[32, 112, 97, 114, 116, 32]).size = 6 := rfl
              have E6 := Lib.hid e6
              clear hts ht e6
              go_wp2_with fail
              refine (writeString_calls (w.heap.size + 1) s1 b0 _ _ HP0.out.ob.is ?_).mono ?_
              · have h1 := Hsz.out; have h2 := Htx.out; have h3 := Hts.out; have h4 := E6.out
                simp only [ByteArray.size_append]; omega
              rintro e w5 ⟨⟨_, rfl⟩, s5, h5⟩
              have H5 : Hid (PB w o w5 s5 (b0 ++ ([32, 112, 97, 114, 116, 32] ++ orS pn.data.toList)) wr.heap.size (⟨pn, .slice Ar rl.length cr, rl, .slice Al ll.length cl, ll⟩ : Pa)) := by
                have := HP0.out.next h5
                simp only [ByteArray.data_append, Array.toList_append, Ht.out] at this
                exact this
              have hc51 : w5.cell? ⟨wr.heap.size, 1, none⟩ = some (.slice Ar rl.length cr) := H5.out.cells.2.1
              have hc52 : w5.cell? ⟨wr.heap.size, 2, none⟩ = some (.slice Al ll.length cl) := H5.out.cells.2.2
              clear h5
              have Hn : Hid (PaLoop w o (.int .i64 ((i : Int) + 1)) w5) := by
                refine ⟨i + 1, s5, hlt, rfl, ?_⟩
                have := H5.out.ob
                rw [HT.out, ← List.append_assoc, Hb0.out, Pa.txt, Hr.out, Hl.out]
                simp at this ⊢
                exact this
              go_wp2
              go_roundw
              case rel => exact Hn.out
              case measure => simp [intOf]; omega
            · skip
              have hl0 : (0 : Int) < (ll.length : Int) := by have := List.length_pos_iff.2 hl; omega
              have hl1 : 0 < ll.length := List.length_pos_iff.2 hl
              have Hl : Hid (optS [32, 108, 105, 109] ll = [32, 108, 105, 109] ++ amsS ll) := if_neg hl
              clear hl
              go_wp2_with fail
              refine (bor_calls pn _).mono ?_
              rintro e wo ⟨⟨_, rfl, t, rfl, ht⟩, rfl⟩
              have hts : t.size = (orS pn.data.toList).length := by rw [size_toList, ht]
              have Hts := Lib.hid hts
              have Ht := Lib.hid ht
              have z1 : ¬ 9223372036854775807 < 6 + t.size := by omega
              have e6 : (ByteArray.mk #[32, 112, 97, 114, 116, 32]).size = 6 := rfl
              have E6 := Lib.hid e6
              clear hts ht e6
              go_wp2_with fail
              refine (writeString_calls (w.heap.size + 1) s1 b0 _ _ HP0.out.ob.is ?_).mono ?_
              · have h1 := Hsz.out; have h2 := Htx.out; have h3 := Hts.out; have h4 := E6.out
                simp only [ByteArray.size_append]; omega
              rintro e w5 ⟨⟨_, rfl⟩, s5, h5⟩
              have H5 : Hid (PB w o w5 s5 (b0 ++ ([32, 112, 97, 114, 116, 32] ++ orS pn.data.toList)) wr.heap.size (⟨pn, .slice Ar rl.length cr, rl, .slice Al ll.length cl, ll⟩ : Pa)) := by
                have := HP0.out.next h5
                simp only [ByteArray.data_append, Array.toList_append, Ht.out] at this
                exact this
              have hc51 : w5.cell? ⟨wr.heap.size, 1, none⟩ = some (.slice Ar rl.length cr) := H5.out.cells.2.1
              have hc52 : w5.cell? ⟨wr.heap.size, 2, none⟩ = some (.slice Al ll.length cl) := H5.out.cells.2.2
              clear h5
              go_wp2_with fail
              refine (writeString_calls (w.heap.size + 1) s5 _ _ _ H5.out.ob.is ?_).mono ?_
              · have h1 := Hsz.out; have h2 := Htx.out; have h3 : (ByteArray.mk #[32, 108, 105, 109]).size = 4 := rfl
                rw [Hr.out, Hl.out] at h2
                simp only [List.length_append, List.length_cons, List.length_nil, Array.length_toList, List.size_toArray] at h1 h2 ⊢; omega
              rintro e w6 ⟨⟨_, rfl⟩, s6, h6⟩
              have H6 := Lib.hid (H5.out.next h6)
              have hc61 : w6.cell? ⟨wr.heap.size, 1, none⟩ = some (.slice Ar rl.length cr) := H6.out.cells.2.1
              have hc62 : w6.cell? ⟨wr.heap.size, 2, none⟩ = some (.slice Al ll.length cl) := H6.out.cells.2.2
              clear h6
              go_wp2_with fail
              refine (amounts_calls w _ (w.heap.size + 1) s6 _ _ ll H6.out.ob.base H6.out.ob.is (fun k hk => by have := H6.out.ob.S k hk; omega) (by exact Hpok.out.2) ?_ HU.out Htab.out).mono ?_
              · have h1 := Hsz.out; have h2 := Htx.out
                rw [Hr.out, Hl.out] at h2
                simp only [List.length_append, List.length_cons, List.length_nil, Array.length_toList, List.size_toArray] at h1 h2 ⊢; omega
              rintro e w7 ⟨rfl, s7, h7⟩
              have H7 := Lib.hid (H6.out.next h7)
              have hc71 : w7.cell? ⟨wr.heap.size, 1, none⟩ = some (.slice Ar rl.length cr) := H7.out.cells.2.1
              have hc72 : w7.cell? ⟨wr.heap.size, 2, none⟩ = some (.slice Al ll.length cl) := H7.out.cells.2.2
              clear h7
              have Hn : Hid (PaLoop w o (.int .i64 ((i : Int) + 1)) w7) := by
                refine ⟨i + 1, s7, hlt, rfl, ?_⟩
                have := H7.out.ob
                rw [HT.out, ← List.append_assoc, Hb0.out, Pa.txt, Hr.out, Hl.out]
                simp at this ⊢
                exact this
              go_wp2
              go_roundw
              case rel => exact Hn.out
              case measure => simp [intOf]; omega
          · skip
            have hr0 : (0 : Int) < (rl.length : Int) := by have := List.length_pos_iff.2 hr; omega
            have hr1 : 0 < rl.length := List.length_pos_iff.2 hr
            have Hr : Hid (optS [32, 114, 101, 113] rl = [32, 114, 101, 113] ++ amsS rl) := if_neg hr
            clear hr
            by_cases hl : ll = []
            · skip
              have hl0 : ¬ (0 : Int) < (ll.length : Int) := by rw [hl]; simp
              have hl1 : ¬ 0 < ll.length := by rw [hl]; simp
              have Hl : Hid (optS [32, 108, 105, 109] ll = []) := if_pos hl
              clear hl
              go_wp2_with fail
              refine (bor_calls pn _).mono ?_
              rintro e wo ⟨⟨_, rfl, t, rfl, ht⟩, rfl⟩
              have hts : t.size = (orS pn.data.toList).length := by rw [size_toList, ht]
              have Hts := Lib.hid hts
              have Ht := Lib.hid ht
              have z1 : ¬ 9223372036854775807 < 6 + t.size := by omega
              have e6 : (ByteArray.mk #[32, 112, 97, 114, 116, 32]).size = 6 := rfl
              have E6 := Lib.hid e6
              clear hts ht e6
              go_wp2_with fail
              refine (writeString_calls (w.heap.size + 1) s1 b0 _ _ HP0.out.ob.is ?_).mono ?_
              · have h1 := Hsz.out; have h2 := Htx.out; have h3 := Hts.out; have h4 := E6.out
                simp only [ByteArray.size_append]; omega
              rintro e w5 ⟨⟨_, rfl⟩, s5, h5⟩
              have H5 : Hid (PB w o w5 s5 (b0 ++ ([32, 112, 97, 114, 116, 32] ++ orS pn.data.toList)) wr.heap.size (⟨pn, .slice Ar rl.length cr, rl, .slice Al ll.length cl, ll⟩ : Pa)) := by
                have := HP0.out.next h5
                simp only [ByteArray.data_append, Array.toList_append, Ht.out] at this
                exact this
              have hc51 : w5.cell? ⟨wr.heap.size, 1, none⟩ = some (.slice Ar rl.length cr) := H5.out.cells.2.1
              have hc52 : w5.cell? ⟨wr.heap.size, 2, none⟩ = some (.slice Al ll.length cl) := H5.out.cells.2.2
              clear h5
              go_wp2_with fail
              refine (writeString_calls (w.heap.size + 1) s5 _ _ _ H5.out.ob.is ?_).mono ?_
              · have h1 := Hsz.out; have h2 := Htx.out; have h3 : (ByteArray.mk #[32, 114, 101, 113]).size = 4 := rfl
                rw [Hr.out, Hl.out] at h2
                simp only [List.length_append, List.length_cons, List.length_nil, Array.length_toList, List.size_toArray] at h1 h2 ⊢; omega
              rintro e w6 ⟨⟨_, rfl⟩, s6, h6⟩
              have H6 := Lib.hid (H5.out.next h6)
              have hc61 : w6.cell? ⟨wr.heap.size, 1, none⟩ = some (.slice Ar rl.length cr) := H6.out.cells.2.1
              have hc62 : w6.cell? ⟨wr.heap.size, 2, none⟩ = some (.slice Al ll.length cl) := H6.out.cells.2.2
              clear h6
              go_wp2_with fail
              refine (amounts_calls w _ (w.heap.size + 1) s6 _ _ rl H6.out.ob.base H6.out.ob.is (fun k hk => by have := H6.out.ob.S k hk; omega) (by exact Hpok.out.1) ?_ HU.out Htab.out).mono ?_
              · have h1 := Hsz.out; have h2 := Htx.out
                rw [Hr.out, Hl.out] at h2
                simp only [List.length_append, List.length_cons, List.length_nil, Array.length_toList, List.size_toArray] at h1 h2 ⊢; omega
              rintro e w7 ⟨rfl, s7, h7⟩
              have H7 := Lib.hid (H6.out.next h7)
              have hc71 : w7.cell? ⟨wr.heap.size, 1, none⟩ = some (.slice Ar rl.length cr) := H7.out.cells.2.1
              have hc72 : w7.cell? ⟨wr.heap.size, 2, none⟩ = some (.slice Al ll.length cl) := H7.out.cells.2.2
              clear h7
              have Hn : Hid (PaLoop w o (.int .i64 ((i : Int) + 1)) w7) := by
                refine ⟨i + 1, s7, hlt, rfl, ?_⟩
                have := H7.out.ob
                rw [HT.out, ← List.append_assoc, Hb0.out, Pa.txt, Hr.out, Hl.out]
                simp at this ⊢
                exact this
              go_wp2
              go_roundw
              case rel => exact Hn.out
              case measure => simp [intOf]; omega
            · skip
              have hl0 : (0 : Int) < (ll.length : Int) := by have := List.length_pos_iff.2 hl; omega
              have hl1 : 0 < ll.length := List.length_pos_iff.2 hl
              have Hl : Hid (optS [32, 108, 105, 109] ll = [32, 108, 105, 109] ++ amsS ll) := if_neg hl
              clear hl
              go_wp2_with fail
              refine (bor_calls pn _).mono ?_
              rintro e wo ⟨⟨_, rfl, t, rfl, ht⟩, rfl⟩
              have hts : t.size = (orS pn.data.toList).length := by rw [size_toList, ht]
              have Hts := Lib.hid hts
              have Ht := Lib.hid ht
              have z1 : ¬ 9223372036854775807 < 6 + t.size := by omega
              have e6 : (ByteArray.mk #[32, 112, 97, 114, 116, 32]).size = 6 := rfl
              have E6 := Lib.hid e6
              clear hts ht e6
              go_wp2_with fail
              refine (writeString_calls (w.heap.size + 1) s1 b0 _ _ HP0.out.ob.is ?_).mono ?_
              · have h1 := Hsz.out; have h2 := Htx.out; have h3 := Hts.out; have h4 := E6.out
                simp only [ByteArray.size_append]; omega
              rintro e w5 ⟨⟨_, rfl⟩, s5, h5⟩
              have H5 : Hid (PB w o w5 s5 (b0 ++ ([32, 112, 97, 114, 116, 32] ++ orS pn.data.toList)) wr.heap.size (⟨pn, .slice Ar rl.length cr, rl, .slice Al ll.length cl, ll⟩ : Pa)) := by
                have := HP0.out.next h5
                simp only [ByteArray.data_append, Array.toList_append, Ht.out] at this
                exact this
              have hc51 : w5.cell? ⟨wr.heap.size, 1, none⟩ = some (.slice Ar rl.length cr) := H5.out.cells.2.1
              have hc52 : w5.cell? ⟨wr.heap.size, 2, none⟩ = some (.slice Al ll.length cl) := H5.out.cells.2.2
              clear h5
              go_wp2_with fail
              refine (writeString_calls (w.heap.size + 1) s5 _ _ _ H5.out.ob.is ?_).mono ?_
              · have h1 := Hsz.out; have h2 := Htx.out; have h3 : (ByteArray.mk #[32, 114, 101, 113]).size = 4 := rfl
                rw [Hr.out, Hl.out] at h2
                simp only [List.length_append, List.length_cons, List.length_nil, Array.length_toList, List.size_toArray] at h1 h2 ⊢; omega
              rintro e w6 ⟨⟨_, rfl⟩, s6, h6⟩
              have H6 := Lib.hid (H5.out.next h6)
              have hc61 : w6.cell? ⟨wr.heap.size, 1, none⟩ = some (.slice Ar rl.length cr) := H6.out.cells.2.1
              have hc62 : w6.cell? ⟨wr.heap.size, 2, none⟩ = some (.slice Al ll.length cl) := H6.out.cells.2.2
              clear h6
              go_wp2_with fail
              refine (amounts_calls w _ (w.heap.size + 1) s6 _ _ rl H6.out.ob.base H6.out.ob.is (fun k hk => by have := H6.out.ob.S k hk; omega) (by exact Hpok.out.1) ?_ HU.out Htab.out).mono ?_
              · have h1 := Hsz.out; have h2 := Htx.out
                rw [Hr.out, Hl.out] at h2
                simp only [List.length_append, List.length_cons, List.length_nil, Array.length_toList, List.size_toArray] at h1 h2 ⊢; omega
              rintro e w7 ⟨rfl, s7, h7⟩
              have H7 := Lib.hid (H6.out.next h7)
              have hc71 : w7.cell? ⟨wr.heap.size, 1, none⟩ = some (.slice Ar rl.length cr) := H7.out.cells.2.1
              have hc72 : w7.cell? ⟨wr.heap.size, 2, none⟩ = some (.slice Al ll.length cl) := H7.out.cells.2.2
              clear h7
              go_wp2_with fail
              refine (writeString_calls (w.heap.size + 1) s7 _ _ _ H7.out.ob.is ?_).mono ?_
              · have h1 := Hsz.out; have h2 := Htx.out; have h3 : (ByteArray.mk #[32, 108, 105, 109]).size = 4 := rfl
                rw [Hr.out, Hl.out] at h2
                simp only [List.length_append, List.length_cons, List.length_nil, Array.length_toList, List.size_toArray] at h1 h2 ⊢; omega
              rintro e w8 ⟨⟨_, rfl⟩, s8, h8⟩
              have H8 := Lib.hid (H7.out.next h8)
              have hc81 : w8.cell? ⟨wr.heap.size, 1, none⟩ = some (.slice Ar rl.length cr) := H8.out.cells.2.1
              have hc82 : w8.cell? ⟨wr.heap.size, 2, none⟩ = some (.slice Al ll.length cl) := H8.out.cells.2.2
              clear h8
              go_wp2_with fail
              refine (amounts_calls w _ (w.heap.size + 1) s8 _ _ ll H8.out.ob.base H8.out.ob.is (fun k hk => by have := H8.out.ob.S k hk; omega) (by exact Hpok.out.2) ?_ HU.out Htab.out).mono ?_
              · have h1 := Hsz.out; have h2 := Htx.out
                rw [Hr.out, Hl.out] at h2
                simp only [List.length_append, List.length_cons, List.length_nil, Array.length_toList, List.size_toArray] at h1 h2 ⊢; omega
              rintro e w9 ⟨rfl, s9, h9⟩
              have H9 := Lib.hid (H8.out.next h9)
              have hc91 : w9.cell? ⟨wr.heap.size, 1, none⟩ = some (.slice Ar rl.length cr) := H9.out.cells.2.1
              have hc92 : w9.cell? ⟨wr.heap.size, 2, none⟩ = some (.slice Al ll.length cl) := H9.out.cells.2.2
              clear h9
              have Hn : Hid (PaLoop w o (.int .i64 ((i : Int) + 1)) w9) := by
                refine ⟨i + 1, s9, hlt, rfl, ?_⟩
                have := H9.out.ob
                rw [HT.out, ← List.append_assoc, Hb0.out, Pa.txt, Hr.out, Hl.out]
                simp at this ⊢
                exact this
              go_wp2
              go_roundw
              case rel => exact Hn.out
              case measure => simp [intOf]; omega
        · obtain rfl : i = o.pal.length := by omega
          have hd := dF hlt
          rw [List.take_length] at HO
          clear hlt
          go_wp2_with fail
          refine (writeByte_calls (w.heap.size + 1) s1 _ 10 _ HO.out.is ?_).mono ?_
          · have h2 := Hlen.out
            simp only [Ob.txt, List.length_append] at h2 ⊢
            omega
          rintro e w5 ⟨rfl, s5, h5⟩
          have H5 : Hid (OB w o w5 s5 o.txt) := by
            have := HO.out.trans h5
            rw [Ob.txt]
            simp at this ⊢
            exact this
          clear h5
          go_wp2_with fail
          refine (bstring_calls (w.heap.size + 1) s5 o.txt _ w.heap.size H5.out.is (fun k hk => by have := H5.out.S k hk; omega)).mono ?_
          rintro e w6 ⟨rfl, h6⟩
          have H6 := Lib.hid (H5.out.base.trans h6)
          clear h6
          go_wp2
          go_ret
          exact ⟨rfl, H6.out⟩
end Go.Proofs.YtleajmblagddcaaDoor
