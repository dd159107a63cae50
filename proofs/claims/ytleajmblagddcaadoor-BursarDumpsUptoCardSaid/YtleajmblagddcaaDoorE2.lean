/- A rule's text: bursar.rule and ref27.ruleText. -/
import Derived.Test.YtleajmblagddcaaDoorE1b
import Derived.Deep.RegionHeld3
namespace Go.Proofs.YtleajmblagddcaaDoor
open Go.RowKit
set_option linter.unusedVariables false
set_option linter.unusedSimpArgs false

structure Ru where
  res : ByteArray
  mn : Int
  mx : Int
  df : Int
  rq : Int
  ra : Int
def Ru.cells (u : Ru) : List Value := [.string u.res, .int .i64 u.mn, .int .i64 u.mx, .int .i64 u.df, .int .i64 u.rq, .int .i64 u.ra]
def Ru.ok (u : Ru) : Prop := in64 u.mn ∧ in64 u.mx ∧ in64 u.df ∧ in64 u.rq ∧ in64 u.ra
def Ru.flds (u : Ru) : List Am := [⟨⟨#[109, 105, 110]⟩, u.mn⟩, ⟨⟨#[109, 97, 120]⟩, u.mx⟩, ⟨⟨#[100, 101, 102, 97, 117, 108, 116]⟩, u.df⟩, ⟨⟨#[114, 101, 113, 117, 101, 115, 116]⟩, u.rq⟩, ⟨⟨#[114, 97, 116, 105, 111]⟩, u.ra⟩]
def fldTxt (a : Am) : List UInt8 := if a.val = -1 then [] else a.txt
def Ru.head (u : Ru) : List UInt8 := [32, 114, 117, 108, 101, 32] ++ orS u.res.data.toList
def Ru.txt (u : Ru) : List UInt8 := u.head ++ u.flds.flatMap fldTxt
theorem flds_ok {u : Ru} (h : u.ok) : ∀ a ∈ u.flds, in64 a.val := by
  obtain ⟨h0, h1, h2, h3, h4⟩ := h
  intro a ha
  simp only [Ru.flds, List.mem_cons, List.not_mem_nil, or_false] at ha
  rcases ha with rfl | rfl | rfl | rfl | rfl <;> assumption
theorem flds_name {u : Ru} : ∀ a ∈ u.flds, a.name.size ≤ 7 := by
  intro a ha
  simp only [Ru.flds, List.mem_cons, List.not_mem_nil, or_false] at ha
  rcases ha with rfl | rfl | rfl | rfl | rfl <;> exact Nat.le_of_ble_eq_true rfl
theorem fldTxt_len {a : Am} (hn : a.name.size ≤ 7) (h : in64 a.val) : (fldTxt a).length ≤ 31 := by
  unfold fldTxt
  split
  · simp
  · have := printedZ_len h
    simp only [Am.txt, List.length_cons, List.length_append, ← size_toList]; omega
theorem ru_len {u : Ru} (h : u.ok) : u.txt.length ≤ u.res.size + 162 := by
  have h1 : ∀ l : List Am, (∀ a ∈ l, a.name.size ≤ 7 ∧ in64 a.val) → (l.flatMap fldTxt).length ≤ 31 * l.length := by
    intro l
    induction l with
    | nil => intro _; simp
    | cons a r ih =>
      intro hl
      have h2 := fldTxt_len (hl a List.mem_cons_self).1 (hl a List.mem_cons_self).2
      have h3 := ih (fun x hx => hl x (List.mem_cons_of_mem _ hx))
      rw [List.flatMap_cons, List.length_append, List.length_cons]; omega
  have h2 := h1 u.flds (fun a ha => ⟨flds_name a ha, flds_ok h a ha⟩)
  have h3 : u.flds.length = 5 := rfl
  have h4 : (orS u.res.data.toList).length ≤ u.res.size + 1 := by rw [size_toList]; unfold orS; split <;> simp_all
  simp only [Ru.txt, Ru.head, List.length_append, List.length_cons, List.length_nil]
  omega

def RuLoop (Wb : World) (u : Ru) (v3 v27 : Value) (w1 : World) : Prop := ∃ (i : Nat) (s : ByteArray), i ≤ 5 ∧ v27 = .int .i64 i ∧ v3 = .string s ∧ s.data.toList = u.head ++ (u.flds.take i).flatMap fldTxt ∧ Below Wb.heap.size Wb w1
theorem flds_len (u : Ru) : u.flds.length = 5 := rfl

set_option maxRecDepth 100000 in
set_option maxHeartbeats 1600000 in
theorem brule_calls (u : Ru) (w : World) (hu : u.ok) (hlen : u.res.size ≤ 1099511627776) (hU : Uni w) (htab : PowTab w) :
    Calls Tryd.prog 29 #[.agg #[.string u.res, .int .i64 u.mn, .int .i64 u.mx, .int .i64 u.df, .int .i64 u.rq, .int .i64 u.ra]] w fun e w' => ∃ sv, e = .returned sv ∧ StrIs sv u.txt ∧ Below w.heap.size w w' := by
  have Hu := Lib.hid hu
  have HU := Lib.hid hU
  have Htab := Lib.hid htab
  have hrl := ru_len hu
  have Hrl := Lib.hid hrl
  have hB0 : Below w.heap.size w ((w.alloc (.cells #[.string u.res, .int .i64 u.mn, .int .i64 u.mx, .int .i64 u.df, .int .i64 u.rq, .int .i64 u.ra] 76)).alloc (.cells #[.string ⟨#[109, 105, 110]⟩, .int .i64 u.mn, .string ⟨#[109, 97, 120]⟩, .int .i64 u.mx, .string ⟨#[100, 101, 102, 97, 117, 108, 116]⟩, .int .i64 u.df, .string ⟨#[114, 101, 113, 117, 101, 115, 116]⟩, .int .i64 u.rq, .string ⟨#[114, 97, 116, 105, 111]⟩, .int .i64 u.ra] 113)) := ((Below.refl _ _).alloc (Nat.le_refl _) _).alloc (by simp) _
  have HB0 := Lib.hid hB0
  have hrd : RdAm ((w.alloc (.cells #[.string u.res, .int .i64 u.mn, .int .i64 u.mx, .int .i64 u.df, .int .i64 u.rq, .int .i64 u.ra] 76)).alloc (.cells #[.string ⟨#[109, 105, 110]⟩, .int .i64 u.mn, .string ⟨#[109, 97, 120]⟩, .int .i64 u.mx, .string ⟨#[100, 101, 102, 97, 117, 108, 116]⟩, .int .i64 u.df, .string ⟨#[114, 101, 113, 117, 101, 115, 116]⟩, .int .i64 u.rq, .string ⟨#[114, 97, 116, 105, 111]⟩, .int .i64 u.ra] 113)) (.slice (some ⟨w.heap.size + 1, 0, none⟩) 5 5) u.flds := by
    refine ⟨?_, flds_ok hu⟩
    have h := Rd.of_own (own_fresh (w.alloc (.cells #[.string u.res, .int .i64 u.mn, .int .i64 u.mx, .int .i64 u.df, .int .i64 u.rq, .int .i64 u.ra] 76)) 113 2 5 (u.flds.flatMap Am.cells) rfl (by unfold maxLen; omega))
    have e : (w.alloc (.cells #[.string u.res, .int .i64 u.mn, .int .i64 u.mx, .int .i64 u.df, .int .i64 u.rq, .int .i64 u.ra] 76)).heap.size = w.heap.size + 1 := by simp
    rw [e] at h
    exact h
  have Hrd := Lib.hid hrd
  have hol : (orS u.res.data.toList).length ≤ u.res.size + 1 := by rw [size_toList]; unfold orS; split <;> simp_all
  clear hu hU htab hrl hB0 hrd
  go_enter Tryd.func29, Tryd.ntmps29
  go_wp2_with fail
  refine (bor_calls u.res _).mono ?_
  rintro e wo ⟨⟨_, rfl, t, rfl, ht⟩, rfl⟩
  have Hts : Hid (t.size = (orS u.res.data.toList).length) := by show _ = _; rw [size_toList, ht]
  have z0 : ¬ 9223372036854775807 < 6 + t.size := by rw [Hts.out]; omega
  have Hst : Hid (RuLoop ((w.alloc (.cells #[.string u.res, .int .i64 u.mn, .int .i64 u.mx, .int .i64 u.df, .int .i64 u.rq, .int .i64 u.ra] 76)).alloc (.cells #[.string ⟨#[109, 105, 110]⟩, .int .i64 u.mn, .string ⟨#[109, 97, 120]⟩, .int .i64 u.mx, .string ⟨#[100, 101, 102, 97, 117, 108, 116]⟩, .int .i64 u.df, .string ⟨#[114, 101, 113, 117, 101, 115, 116]⟩, .int .i64 u.rq, .string ⟨#[114, 97, 116, 105, 111]⟩, .int .i64 u.ra] 113)) u (.string (ByteArray.mk #[32, 114, 117, 108, 101, 32] ++ t)) (.int .i64 0) ((w.alloc (.cells #[.string u.res, .int .i64 u.mn, .int .i64 u.mx, .int .i64 u.df, .int .i64 u.rq, .int .i64 u.ra] 76)).alloc (.cells #[.string ⟨#[109, 105, 110]⟩, .int .i64 u.mn, .string ⟨#[109, 97, 120]⟩, .int .i64 u.mx, .string ⟨#[100, 101, 102, 97, 117, 108, 116]⟩, .int .i64 u.df, .string ⟨#[114, 101, 113, 117, 101, 115, 116]⟩, .int .i64 u.rq, .string ⟨#[114, 97, 116, 105, 111]⟩, .int .i64 u.ra] 113))) :=
    ⟨0, _, by omega, rfl, rfl, by simp [ht, Ru.head], Below.refl _ _⟩
  clear ht
  go_wp2
  go_loopw [3, 27] (fun v3 v27 w1 => RuLoop ((w.alloc (.cells #[.string u.res, .int .i64 u.mn, .int .i64 u.mx, .int .i64 u.df, .int .i64 u.rq, .int .i64 u.ra] 76)).alloc (.cells #[.string ⟨#[109, 105, 110]⟩, .int .i64 u.mn, .string ⟨#[109, 97, 120]⟩, .int .i64 u.mx, .string ⟨#[100, 101, 102, 97, 117, 108, 116]⟩, .int .i64 u.df, .string ⟨#[114, 101, 113, 117, 101, 115, 116]⟩, .int .i64 u.rq, .string ⟨#[114, 97, 116, 105, 111]⟩, .int .i64 u.ra] 113)) u v3 v27 w1) (fun _ i _ => 5 - (intOf i).toNat)
  case atStart => exact Hst.out
  case round =>
    clear Hst Hts z0
    obtain ⟨i, s, hi, rfl, rfl, hs, hB⟩ := hrel
    have Hs := Lib.hid hs
    have HB := Lib.hid hB
    by_cases hlt : i < 5
    · have hd : decide ((i : Int) < 5) = true := decide_eq_true (by omega)
      have hlt2 : i < u.flds.length := by rw [flds_len]; exact hlt
      obtain ⟨b, off, c', hv, hc', hb, hc1, hc2⟩ := Am.at (Hrd.out.below hB) i hlt2
      cases hv
      rw [Nat.zero_add] at hc1 hc2
      have hz : in64 u.flds[i].val := Hrd.out.2 _ (List.getElem_mem hlt2)
      have hnm := flds_name (u := u) _ (List.getElem_mem hlt2)
      have HT : Hid ((u.flds.take (i + 1)).flatMap fldTxt = (u.flds.take i).flatMap fldTxt ++ fldTxt u.flds[i]) := take_snoc fldTxt hlt2
      have hsz : s.size + (fldTxt u.flds[i]).length ≤ u.res.size + 162 := by
        have h1 := take_len_le fldTxt hlt2
        have h2 := Hrl.out
        simp only [Ru.txt, List.length_append] at h2
        rw [size_toList s, hs, List.length_append]; omega
      have Hf : Hid (fldTxt u.flds[i] = if u.flds[i].val = -1 then [] else 32 :: (u.flds[i].name.data.toList ++ 61 :: printedZ u.flds[i].val)) := rfl
      generalize fldTxt u.flds[i] = ft at HT hsz Hf
      generalize u.flds[i].name = nm at hc1 hnm Hf
      generalize u.flds[i].val = vl at hc2 hz Hf
      have hi0 : (0 : Int) ≤ i := by omega
      have hi5 : (i : Int) ≤ 5 := by omega
      by_cases hm1 : vl = -1
      · have Hf2 : Hid (ft = []) := by show _ = _; rw [Hf.out, if_pos hm1]
        have hmb : (vl != -1) = false := by simpa using hm1
        have Hn : Hid (RuLoop ((w.alloc (.cells #[.string u.res, .int .i64 u.mn, .int .i64 u.mx, .int .i64 u.df, .int .i64 u.rq, .int .i64 u.ra] 76)).alloc (.cells #[.string ⟨#[109, 105, 110]⟩, .int .i64 u.mn, .string ⟨#[109, 97, 120]⟩, .int .i64 u.mx, .string ⟨#[100, 101, 102, 97, 117, 108, 116]⟩, .int .i64 u.df, .string ⟨#[114, 101, 113, 117, 101, 115, 116]⟩, .int .i64 u.rq, .string ⟨#[114, 97, 116, 105, 111]⟩, .int .i64 u.ra] 113)) u (.string s) (.int .i64 ((i : Int) + 1)) (wr.alloc (.cells #[.string nm, .int .i64 vl] 113))) := by
          refine ⟨i + 1, _, by omega, rfl, rfl, ?_, hB.alloc hB.size _⟩
          rw [HT.out, Hf2.out, List.append_nil]; exact Hs.out
        clear hs hB hsz hz hm1
        go_wp2
        go_roundw
        case rel => exact Hn.out
        case measure => simp [intOf]; omega
      · have Hf2 : Hid (ft = 32 :: (nm.data.toList ++ 61 :: printedZ vl)) := by show _ = _; rw [Hf.out, if_neg hm1]
        have hmb : (vl != -1) = true := by simpa using hm1
        have hpl := printedZ_len hz
        have hsz2 : s.size + (1 + nm.size + 1 + (printedZ vl).length) ≤ 1099511627776 + 162 := by
          have h := hsz
          rw [Hf2.out] at h
          simp only [List.length_cons, List.length_append, ← size_toList] at h; omega
        have Hsz := Lib.hid hsz2
        have z1 : ¬ 9223372036854775807 < 1 + nm.size := by omega
        have z2 : ¬ 9223372036854775807 < 1 + nm.size + 1 := by omega
        have Hz := Lib.hid hz
        have HS : Hid (∀ W, Below (wr.alloc (.cells #[.string nm, .int .i64 vl] 113)).heap.size (wr.alloc (.cells #[.string nm, .int .i64 vl] 113)) W → W.cell? ⟨wr.heap.size, 0, none⟩ = some (.string nm) ∧ W.cell? ⟨wr.heap.size, 1, none⟩ = some (.int .i64 vl) ∧ Below (wr.alloc (.cells #[.string nm, .int .i64 vl] 113)).heap.size (wr.alloc (.cells #[.string nm, .int .i64 vl] 113)) W) := by
          intro W hW
          have hb := blk_below (blk_new wr (.cells #[.string nm, .int .i64 vl] 113)) hW
          exact ⟨by rw [Lib.cell_of_heap hb]; rfl, by rw [Lib.cell_of_heap hb]; rfl, hW⟩
        have HT2 : Hid (∀ W W', Below (wr.alloc (.cells #[.string nm, .int .i64 vl] 113)).heap.size (wr.alloc (.cells #[.string nm, .int .i64 vl] 113)) W → Below W.heap.size W W' → Below (wr.alloc (.cells #[.string nm, .int .i64 vl] 113)).heap.size (wr.alloc (.cells #[.string nm, .int .i64 vl] 113)) W') := fun W W' h1 h2 => h1.trans (h2.mono h1.size)
        have HB1 : Hid (Below (wr.alloc (.cells #[.string nm, .int .i64 vl] 113)).heap.size (wr.alloc (.cells #[.string nm, .int .i64 vl] 113)) (wr.alloc (.cells #[.string nm, .int .i64 vl] 113)).drew) := drewB (Below.refl _ _) 1
        have HBb : Hid (∀ W, Below (wr.alloc (.cells #[.string nm, .int .i64 vl] 113)).heap.size (wr.alloc (.cells #[.string nm, .int .i64 vl] 113)) W → Below ((w.alloc (.cells #[.string u.res, .int .i64 u.mn, .int .i64 u.mx, .int .i64 u.df, .int .i64 u.rq, .int .i64 u.ra] 76)).alloc (.cells #[.string ⟨#[109, 105, 110]⟩, .int .i64 u.mn, .string ⟨#[109, 97, 120]⟩, .int .i64 u.mx, .string ⟨#[100, 101, 102, 97, 117, 108, 116]⟩, .int .i64 u.df, .string ⟨#[114, 101, 113, 117, 101, 115, 116]⟩, .int .i64 u.rq, .string ⟨#[114, 97, 116, 105, 111]⟩, .int .i64 u.ra] 113)).heap.size ((w.alloc (.cells #[.string u.res, .int .i64 u.mn, .int .i64 u.mx, .int .i64 u.df, .int .i64 u.rq, .int .i64 u.ra] 76)).alloc (.cells #[.string ⟨#[109, 105, 110]⟩, .int .i64 u.mn, .string ⟨#[109, 97, 120]⟩, .int .i64 u.mx, .string ⟨#[100, 101, 102, 97, 117, 108, 116]⟩, .int .i64 u.df, .string ⟨#[114, 101, 113, 117, 101, 115, 116]⟩, .int .i64 u.rq, .string ⟨#[114, 97, 116, 105, 111]⟩, .int .i64 u.ra] 113)) W) := fun W hW => (HB.out.alloc HB.out.size _).trans (hW.mono (by have := HB.out.size; simp at this ⊢; omega))
        have HP : Hid (∀ W, Below (wr.alloc (.cells #[.string nm, .int .i64 vl] 113)).heap.size (wr.alloc (.cells #[.string nm, .int .i64 vl] 113)) W → Uni W ∧ PowTab W) := fun W hW => by
          have h := HB0.out.trans ((HBb.out W hW).mono HB0.out.size)
          exact ⟨HU.out.below h, Htab.out.below h⟩
        clear hs hB hsz hz hm1 hsz2
        go_wp2
        go_region_held3 (fun W => W.cell? ⟨wr.heap.size, 0, none⟩ = some (.string nm) ∧ W.cell? ⟨wr.heap.size, 1, none⟩ = some (.int .i64 vl) ∧ Below (wr.alloc (.cells #[.string nm, .int .i64 vl] 113)).heap.size (wr.alloc (.cells #[.string nm, .int .i64 vl] 113)) W)
          (first | exact HS.out _ HB1.out | exact HS.out _ HWf.out)
          (((go_at_call 19); (refine (qprintZ_calls vl Hz.out _ (HP.out _ HB1.out).1 (HP.out _ HB1.out).2).mono ?_); (rintro e wf ⟨_, rfl, ⟨t, rfl, ht⟩, hwf⟩); (have HWf := Lib.hid (HT2.out _ _ HB1.out hwf)); (have Ht := Lib.hid ht); (have Hts : Hid (t.size = (printedZ vl).length) := (by show _ = _; rw [size_toList t, ht])); (have z4 : ¬ 9223372036854775807 < 1 + nm.size + 1 + t.size := (by have := Hsz.out; have := Hts.out; omega)); (have z5 : ¬ 9223372036854775807 < s.size + (1 + nm.size + 1 + t.size) := (by have := Hsz.out; have := Hts.out; omega)); (clear hwf ht)))
        have Hn : Hid (RuLoop ((w.alloc (.cells #[.string u.res, .int .i64 u.mn, .int .i64 u.mx, .int .i64 u.df, .int .i64 u.rq, .int .i64 u.ra] 76)).alloc (.cells #[.string ⟨#[109, 105, 110]⟩, .int .i64 u.mn, .string ⟨#[109, 97, 120]⟩, .int .i64 u.mx, .string ⟨#[100, 101, 102, 97, 117, 108, 116]⟩, .int .i64 u.df, .string ⟨#[114, 101, 113, 117, 101, 115, 116]⟩, .int .i64 u.rq, .string ⟨#[114, 97, 116, 105, 111]⟩, .int .i64 u.ra] 113)) u (.string (s ++ (ByteArray.mk #[32] ++ nm ++ ByteArray.mk #[61] ++ t))) (.int .i64 ((i : Int) + 1)) wf) := by
          refine ⟨i + 1, _, by omega, rfl, rfl, ?_, HBb.out _ HWf.out⟩
          rw [HT.out, Hf2.out, ← List.append_assoc, ← Hs.out]
          simp [Ht.out]
        clear HS HT2 HB1 HBb HP
        go_wp2
        go_roundw
        case rel => exact Hn.out
        case measure => simp [intOf]; omega
    · obtain rfl : i = 5 := by omega
      clear hlt hs hB
      go_wp2
      go_ret
      exact ⟨_, rfl, ⟨_, rfl, by rw [Hs.out]; rfl⟩, HB0.out.trans (HB.out.mono HB0.out.size)⟩

theorem vals_at (W : World) (g : Nat) (t : TypeId) (l : List Value) (h : W.heap[g]? = some (.cells l.toArray t (0, 0))) (i : Nat) (hi : i < l.length) : W.cell? ⟨g, i, none⟩ = some l[i] := by
  rw [Lib.cell_of_heap h]; simp [hi]
set_option maxRecDepth 100000 in
set_option maxHeartbeats 1600000 in
theorem rrule_calls (u : Ru) (w : World) (hu : u.ok) (hlen : u.res.size ≤ 1099511627776) :
    Calls Tryd.prog 23 #[.agg #[.string u.res, .int .i64 u.mn, .int .i64 u.mx, .int .i64 u.df, .int .i64 u.rq, .int .i64 u.ra]] w fun e w' => ∃ sv, e = .returned sv ∧ StrIs sv u.txt ∧ Below w.heap.size w w' := by
  have Hu := Lib.hid hu
  have hrl := ru_len hu
  have Hrl := Lib.hid hrl
  have hB0 : Below w.heap.size w (((w.alloc (.cells #[.string u.res, .int .i64 u.mn, .int .i64 u.mx, .int .i64 u.df, .int .i64 u.rq, .int .i64 u.ra] 76)).alloc (.cells #[.string ⟨#[109, 105, 110]⟩, .string ⟨#[109, 97, 120]⟩, .string ⟨#[100, 101, 102, 97, 117, 108, 116]⟩, .string ⟨#[114, 101, 113, 117, 101, 115, 116]⟩, .string ⟨#[114, 97, 116, 105, 111]⟩] 9)).alloc (.cells #[.int .i64 u.mn, .int .i64 u.mx, .int .i64 u.df, .int .i64 u.rq, .int .i64 u.ra] 2)) := (((Below.refl _ _).alloc (Nat.le_refl _) _).alloc (by simp) _).alloc (by simp; omega) _
  have HB0 := Lib.hid hB0
  have Hb1 : Hid ((((w.alloc (.cells #[.string u.res, .int .i64 u.mn, .int .i64 u.mx, .int .i64 u.df, .int .i64 u.rq, .int .i64 u.ra] 76)).alloc (.cells #[.string ⟨#[109, 105, 110]⟩, .string ⟨#[109, 97, 120]⟩, .string ⟨#[100, 101, 102, 97, 117, 108, 116]⟩, .string ⟨#[114, 101, 113, 117, 101, 115, 116]⟩, .string ⟨#[114, 97, 116, 105, 111]⟩] 9)).alloc (.cells #[.int .i64 u.mn, .int .i64 u.mx, .int .i64 u.df, .int .i64 u.rq, .int .i64 u.ra] 2)).heap[w.heap.size + 1]? = some (.cells #[.string ⟨#[109, 105, 110]⟩, .string ⟨#[109, 97, 120]⟩, .string ⟨#[100, 101, 102, 97, 117, 108, 116]⟩, .string ⟨#[114, 101, 113, 117, 101, 115, 116]⟩, .string ⟨#[114, 97, 116, 105, 111]⟩] 9)) := blk_alloc (blk_newE _ (by simp)) _
  have Hb2 : Hid ((((w.alloc (.cells #[.string u.res, .int .i64 u.mn, .int .i64 u.mx, .int .i64 u.df, .int .i64 u.rq, .int .i64 u.ra] 76)).alloc (.cells #[.string ⟨#[109, 105, 110]⟩, .string ⟨#[109, 97, 120]⟩, .string ⟨#[100, 101, 102, 97, 117, 108, 116]⟩, .string ⟨#[114, 101, 113, 117, 101, 115, 116]⟩, .string ⟨#[114, 97, 116, 105, 111]⟩] 9)).alloc (.cells #[.int .i64 u.mn, .int .i64 u.mx, .int .i64 u.df, .int .i64 u.rq, .int .i64 u.ra] 2)).heap[w.heap.size + 1 + 1]? = some (.cells #[.int .i64 u.mn, .int .i64 u.mx, .int .i64 u.df, .int .i64 u.rq, .int .i64 u.ra] 2)) := blk_newE _ (by simp)
  have hol : (orS u.res.data.toList).length ≤ u.res.size + 1 := by rw [size_toList]; unfold orS; split <;> simp_all
  clear hu hrl hB0
  go_enter Tryd.func23, Tryd.ntmps23
  go_wp2_with fail
  refine (ror_calls u.res _).mono ?_
  rintro e wo ⟨⟨_, rfl, t, rfl, ht⟩, rfl⟩
  have Hts : Hid (t.size = (orS u.res.data.toList).length) := by show _ = _; rw [size_toList, ht]
  have z0 : ¬ 9223372036854775807 < 6 + t.size := by rw [Hts.out]; omega
  have Hst : Hid (RuLoop (((w.alloc (.cells #[.string u.res, .int .i64 u.mn, .int .i64 u.mx, .int .i64 u.df, .int .i64 u.rq, .int .i64 u.ra] 76)).alloc (.cells #[.string ⟨#[109, 105, 110]⟩, .string ⟨#[109, 97, 120]⟩, .string ⟨#[100, 101, 102, 97, 117, 108, 116]⟩, .string ⟨#[114, 101, 113, 117, 101, 115, 116]⟩, .string ⟨#[114, 97, 116, 105, 111]⟩] 9)).alloc (.cells #[.int .i64 u.mn, .int .i64 u.mx, .int .i64 u.df, .int .i64 u.rq, .int .i64 u.ra] 2)) u (.string (ByteArray.mk #[32, 114, 117, 108, 101, 32] ++ t)) (.int .i64 0) (((w.alloc (.cells #[.string u.res, .int .i64 u.mn, .int .i64 u.mx, .int .i64 u.df, .int .i64 u.rq, .int .i64 u.ra] 76)).alloc (.cells #[.string ⟨#[109, 105, 110]⟩, .string ⟨#[109, 97, 120]⟩, .string ⟨#[100, 101, 102, 97, 117, 108, 116]⟩, .string ⟨#[114, 101, 113, 117, 101, 115, 116]⟩, .string ⟨#[114, 97, 116, 105, 111]⟩] 9)).alloc (.cells #[.int .i64 u.mn, .int .i64 u.mx, .int .i64 u.df, .int .i64 u.rq, .int .i64 u.ra] 2))) :=
    ⟨0, _, by omega, rfl, rfl, by simp [ht, Ru.head], Below.refl _ _⟩
  clear ht
  go_wp2
  go_loopw [3, 6] (fun v3 v27 w1 => RuLoop (((w.alloc (.cells #[.string u.res, .int .i64 u.mn, .int .i64 u.mx, .int .i64 u.df, .int .i64 u.rq, .int .i64 u.ra] 76)).alloc (.cells #[.string ⟨#[109, 105, 110]⟩, .string ⟨#[109, 97, 120]⟩, .string ⟨#[100, 101, 102, 97, 117, 108, 116]⟩, .string ⟨#[114, 101, 113, 117, 101, 115, 116]⟩, .string ⟨#[114, 97, 116, 105, 111]⟩] 9)).alloc (.cells #[.int .i64 u.mn, .int .i64 u.mx, .int .i64 u.df, .int .i64 u.rq, .int .i64 u.ra] 2)) u v3 v27 w1) (fun _ i _ => 5 - (intOf i).toNat)
  case atStart => exact Hst.out
  case round =>
    clear Hst Hts z0
    obtain ⟨i, s, hi, rfl, rfl, hs, hB⟩ := hrel
    have Hs := Lib.hid hs
    have HB := Lib.hid hB
    by_cases hlt : i < 5
    · have hd : decide ((i : Int) < 5) = true := decide_eq_true (by omega)
      have hlt2 : i < u.flds.length := by rw [flds_len]; exact hlt
      have hc1 : wr.cell? ⟨w.heap.size + 1, i, none⟩ = some (.string u.flds[i].name) := by
        have h := vals_at wr (w.heap.size + 1) 9 (u.flds.map fun a => .string a.name) (blk_below Hb1.out hB) i (by simpa using hlt2)
        rw [h]; simp
      have hc2 : wr.cell? ⟨w.heap.size + 1 + 1, i, none⟩ = some (.int .i64 u.flds[i].val) := by
        have h := vals_at wr (w.heap.size + 1 + 1) 2 (u.flds.map fun a => .int .i64 a.val) (blk_below Hb2.out hB) i (by simpa using hlt2)
        rw [h]; simp
      have hz : in64 u.flds[i].val := flds_ok Hu.out _ (List.getElem_mem hlt2)
      have HT : Hid ((u.flds.take (i + 1)).flatMap fldTxt = (u.flds.take i).flatMap fldTxt ++ fldTxt u.flds[i]) := take_snoc fldTxt hlt2
      have hsz : s.size + (fldTxt u.flds[i]).length ≤ u.res.size + 162 := by
        have h1 := take_len_le fldTxt hlt2
        have h2 := Hrl.out
        simp only [Ru.txt, List.length_append] at h2
        rw [size_toList s, hs, List.length_append]; omega
      have Hf : Hid (fldTxt u.flds[i] = if u.flds[i].val = -1 then [] else 32 :: (u.flds[i].name.data.toList ++ 61 :: printedZ u.flds[i].val)) := rfl
      generalize fldTxt u.flds[i] = ft at HT hsz Hf
      generalize u.flds[i].name = nm at hc1 Hf
      generalize u.flds[i].val = vl at hc2 hz Hf
      have hi0 : (0 : Int) ≤ i := by omega
      have hi5 : (i : Int) ≤ 5 := by omega
      have hi5b : (i : Int) < 5 := by omega
      by_cases hm1 : vl = -1
      · have Hf2 : Hid (ft = []) := by show _ = _; rw [Hf.out, if_pos hm1]
        have hmb : (vl != -1) = false := by simpa using hm1
        have Hn : Hid (RuLoop (((w.alloc (.cells #[.string u.res, .int .i64 u.mn, .int .i64 u.mx, .int .i64 u.df, .int .i64 u.rq, .int .i64 u.ra] 76)).alloc (.cells #[.string ⟨#[109, 105, 110]⟩, .string ⟨#[109, 97, 120]⟩, .string ⟨#[100, 101, 102, 97, 117, 108, 116]⟩, .string ⟨#[114, 101, 113, 117, 101, 115, 116]⟩, .string ⟨#[114, 97, 116, 105, 111]⟩] 9)).alloc (.cells #[.int .i64 u.mn, .int .i64 u.mx, .int .i64 u.df, .int .i64 u.rq, .int .i64 u.ra] 2)) u (.string s) (.int .i64 ((i : Int) + 1)) wr) := by
          refine ⟨i + 1, _, by omega, rfl, rfl, ?_, hB⟩
          rw [HT.out, Hf2.out, List.append_nil]; exact Hs.out
        clear hs hB hsz hz hm1
        go_wp2
        go_roundw
        case rel => exact Hn.out
        case measure => simp [intOf]; omega
      · have Hf2 : Hid (ft = 32 :: (nm.data.toList ++ 61 :: printedZ vl)) := by show _ = _; rw [Hf.out, if_neg hm1]
        have hmb : (vl != -1) = true := by simpa using hm1
        have hpl := printedZ_len hz
        have hsz2 : s.size + 1 + nm.size + 1 + (printedZ vl).length ≤ 1099511627776 + 162 := by
          have h := hsz
          rw [Hf2.out] at h
          simp only [List.length_cons, List.length_append, ← size_toList] at h; omega
        have Hsz := Lib.hid hsz2
        have z1 : ¬ 9223372036854775807 < s.size + 1 := by omega
        have z2 : ¬ 9223372036854775807 < s.size + 1 + nm.size := by omega
        have z3 : ¬ 9223372036854775807 < s.size + 1 + nm.size + 1 := by omega
        have Hz := Lib.hid hz
        have hl1 : w.heap.size + 1 < wr.heap.size := World.block_lt_of_cell? _ _ hc1
        have hl2 : w.heap.size + 1 + 1 < wr.heap.size := World.block_lt_of_cell? _ _ hc2
        have HS : Hid (∀ W, Below wr.heap.size wr W → W.cell? ⟨w.heap.size + 1, i, none⟩ = some (.string nm) ∧ W.cell? ⟨w.heap.size + 1 + 1, i, none⟩ = some (.int .i64 vl) ∧ Below wr.heap.size wr W) := by
          intro W hW
          exact ⟨(hW.cell (p := ⟨w.heap.size + 1, i, none⟩) hl1).trans hc1, (hW.cell (p := ⟨w.heap.size + 1 + 1, i, none⟩) hl2).trans hc2, hW⟩
        have HT2 : Hid (∀ W W', Below wr.heap.size wr W → Below W.heap.size W W' → Below wr.heap.size wr W') := fun W W' h1 h2 => h1.trans (h2.mono h1.size)
        have HB1 : Hid (Below wr.heap.size wr wr.drew) := drewB (Below.refl _ _) 1
        clear hs hB hsz hz hm1 hsz2 hl1 hl2
        go_wp2
        go_region_held3 (fun W => W.cell? ⟨w.heap.size + 1, i, none⟩ = some (.string nm) ∧ W.cell? ⟨w.heap.size + 1 + 1, i, none⟩ = some (.int .i64 vl) ∧ Below wr.heap.size wr W)
          (first | exact HS.out _ HB1.out | exact HS.out _ HWf.out)
          (((go_at_call 13); (refine (rprint_calls vl Hz.out _).mono ?_); (rintro e wf ⟨_, rfl, ⟨t, rfl, ht⟩, hwf⟩); (have HWf := Lib.hid (HT2.out _ _ HB1.out hwf)); (have Ht := Lib.hid ht); (have Hts : Hid (t.size = (printedZ vl).length) := (by show _ = _; rw [size_toList t, ht])); (have z4 : ¬ 9223372036854775807 < s.size + 1 + nm.size + 1 + t.size := (by have := Hsz.out; have := Hts.out; omega)); (clear hwf ht)))
        have Hn : Hid (RuLoop (((w.alloc (.cells #[.string u.res, .int .i64 u.mn, .int .i64 u.mx, .int .i64 u.df, .int .i64 u.rq, .int .i64 u.ra] 76)).alloc (.cells #[.string ⟨#[109, 105, 110]⟩, .string ⟨#[109, 97, 120]⟩, .string ⟨#[100, 101, 102, 97, 117, 108, 116]⟩, .string ⟨#[114, 101, 113, 117, 101, 115, 116]⟩, .string ⟨#[114, 97, 116, 105, 111]⟩] 9)).alloc (.cells #[.int .i64 u.mn, .int .i64 u.mx, .int .i64 u.df, .int .i64 u.rq, .int .i64 u.ra] 2)) u (.string (s ++ ByteArray.mk #[32] ++ nm ++ ByteArray.mk #[61] ++ t)) (.int .i64 ((i : Int) + 1)) wf) := by
          refine ⟨i + 1, _, by omega, rfl, rfl, ?_, HB.out.trans (HWf.out.mono HB.out.size)⟩
          rw [HT.out, Hf2.out, ← List.append_assoc, ← Hs.out]
          simp [Ht.out]
        clear HS HT2 HB1
        go_wp2
        go_roundw
        case rel => exact Hn.out
        case measure => simp [intOf]; omega
    · obtain rfl : i = 5 := by omega
      clear hlt hs hB
      go_wp2
      go_ret
      exact ⟨_, rfl, ⟨_, rfl, by rw [Hs.out]; rfl⟩, HB0.out.trans (HB.out.mono HB0.out.size)⟩
end Go.Proofs.YtleajmblagddcaaDoor
