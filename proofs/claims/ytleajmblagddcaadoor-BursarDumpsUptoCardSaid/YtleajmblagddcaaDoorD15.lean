/- ref27.pairs and bursar.amounts. -/
import Derived.Test.YtleajmblagddcaaDoorD14
namespace Go.Proofs.YtleajmblagddcaaDoor
open Go.RowKit
set_option linter.unusedVariables false
set_option linter.unusedSimpArgs false

theorem ams_take {l : List Am} {i : Nat} (h : i < l.length) : amsS (l.take (i + 1)) = amsS (l.take i) ++ l[i].txt := by
  rw [List.take_succ_eq_append_getElem h, amsS_app]; simp [amsS]
theorem ams_len_le {l : List Am} {i : Nat} (h : i < l.length) : (amsS (l.take i)).length + l[i].txt.length ≤ (amsS l).length := by
  have e2 : l = l.take i ++ [l[i]] ++ l.drop (i + 1) := by simp
  have : amsS l = amsS (l.take i) ++ l[i].txt ++ amsS (l.drop (i + 1)) := by
    conv => lhs; rw [e2]
    rw [amsS_app, amsS_app]; simp [amsS]
  rw [this]; simp
theorem ams_count (l : List Am) : l.length ≤ (amsS l).length := by
  induction l with
  | nil => simp
  | cons a r ih => rw [show amsS (a :: r) = a.txt ++ amsS r from rfl, List.length_append, List.length_cons]; simp [Am.txt]; omega
def PrLoop (w : World) (l : List Am) (v3 v4 : Value) (w1 : World) : Prop := ∃ (i : Nat) (s : ByteArray), i ≤ l.length ∧ v4 = .int .i64 i ∧ v3 = .string s ∧ s.data.toList = amsS (l.take i) ∧ Below w.heap.size w w1

set_option maxRecDepth 100000 in
set_option maxHeartbeats 1600000 in
theorem rpairs_calls (v : Value) (l : List Am) (w : World) (hl : RdAm w v l) (hlen : (amsS l).length ≤ 1099511627776) :
    Calls Tryd.prog 22 #[v] w fun e w' => ∃ sv, e = .returned sv ∧ StrIs sv (amsS l) ∧ Below w.heap.size w w' := by
  obtain ⟨A, c, rfl⟩ := hl.1.slice
  have Hl := Lib.hid hl
  have hll : l.length ≤ 1099511627776 := Nat.le_trans (ams_count l) hlen
  have Hlen := Lib.hid hlen
  clear hl hlen
  go_enter Tryd.func22, Tryd.ntmps22
  go_wp2
  go_loopw [3, 4] (fun v3 v4 w1 => PrLoop w l v3 v4 w1) (fun _ i _ => l.length - (intOf i).toNat)
  case atStart => exact ⟨0, _, Nat.zero_le _, rfl, rfl, rfl, Below.refl _ _⟩
  case round =>
    obtain ⟨i, s, hi, rfl, rfl, hs, hB⟩ := hrel
    have Hs := Lib.hid hs
    have HB := Lib.hid hB
    by_cases hlt : i < l.length
    · have hd := dT hlt
      obtain ⟨b, off, c', hv, hc', hb, hc1, hc2⟩ := Am.at (Hl.out.below hB) i hlt
      cases hv
      have hz := Hl.out.2 _ (List.getElem_mem hlt)
      have hz1 : in64 l[i].val := hz
      have ht := ams_len_le hlt
      have HT := Lib.hid (ams_take hlt)
      have hpl := printedZ_len hz
      have htl : l[i].txt.length = 1 + l[i].name.size + 1 + (printedZ l[i].val).length := by rw [Am.txt, List.length_cons, List.length_append, List.length_cons, ← size_toList]; omega
      have hssz : s.size = (amsS (l.take i)).length := by rw [size_toList, hs]
      have hsz0 : s.size + 1 + l[i].name.size + 1 + (printedZ l[i].val).length ≤ 1099511627776 := by have := Hlen.out; omega
      have Htx : Hid (l[i].txt = 32 :: (l[i].name.data.toList ++ 61 :: printedZ l[i].val)) := rfl
      clear hs hB ht htl hz hssz
      generalize l[i].txt = tx at HT Htx
      generalize l[i].name = nm at hc1 hsz0 Htx
      generalize l[i].val = vl at hc2 hz1 hpl hsz0 Htx
      have z1 : ¬ 9223372036854775807 < s.size + 1 := by omega
      have z2 : ¬ 9223372036854775807 < s.size + 1 + nm.size := by omega
      have z3 : ¬ 9223372036854775807 < s.size + 1 + nm.size + 1 := by omega
      have HS : Hid (∀ W, Below wr.heap.size wr W → W.cell? ⟨b, off + i * 2, none⟩ = some (.string nm) ∧ W.cell? ⟨b, off + i * 2 + 1, none⟩ = some (.int .i64 vl) ∧ Below wr.heap.size wr W) := by
        intro W hW
        exact ⟨(hW.cell (p := ⟨b, off + i * 2, none⟩) hb).trans hc1, (hW.cell (p := ⟨b, off + i * 2 + 1, none⟩) hb).trans hc2, hW⟩
      have HT2 : Hid (∀ W W', Below wr.heap.size wr W → Below W.heap.size W W' → Below wr.heap.size wr W') := fun W W' h1 h2 => h1.trans (h2.mono h1.size)
      have HB1 : Hid (Below wr.heap.size wr wr.drew) := drewB (Below.refl _ _) 1
      have Hz1 := Lib.hid hz1
      have hi0 : (0 : Int) ≤ i := by omega
      clear hz1
      go_wp2
      go_region_held3 (fun W => W.cell? ⟨b, off + i * 2, none⟩ = some (.string nm) ∧ W.cell? ⟨b, off + i * 2 + 1, none⟩ = some (.int .i64 vl) ∧ Below wr.heap.size wr W)
        (first | exact HS.out _ HB1.out | exact HS.out _ HWf.out)
        ((go_at_call 13; refine (rprint_calls vl Hz1.out _).mono ?_; rintro e wf ⟨_, rfl, ⟨t, rfl, ht⟩, hwf⟩; have HWf := Lib.hid (HT2.out _ _ HB1.out hwf); have Ht := Lib.hid ht; have z4 : ¬ 9223372036854775807 < s.size + 1 + nm.size + 1 + t.size := (by rw [size_toList t, ht]; omega); clear hwf ht))
      have Hn : Hid (PrLoop w l (.string (s ++ ByteArray.mk #[32] ++ nm ++ ByteArray.mk #[61] ++ t)) (.int .i64 ((i : Int) + 1)) wf) := by
        refine ⟨i + 1, _, hlt, rfl, rfl, ?_, HB.out.trans (HWf.out.mono HB.out.size)⟩
        rw [HT.out, Htx.out]; simp [Hs.out, Ht.out]
      go_wp2
      go_roundw
      case rel => exact Hn.out
      case measure => simp [intOf]; omega
    · obtain rfl : i = l.length := by omega
      have hd := dF hlt
      clear hlt hs hB
      go_wp2
      go_ret
      exact ⟨_, rfl, ⟨_, rfl, by rw [Hs.out, List.take_length]⟩, HB.out⟩

def ALoop (w : World) (g : Nat) (sv : Value) (bs : List UInt8) (l : List Am) (v8 : Value) (w1 : World) : Prop := ∃ (i : Nat) (s1 : Value), i ≤ l.length ∧ v8 = .int .i64 i ∧ BOut w g sv w1 s1 (bs ++ amsS (l.take i))

set_option maxRecDepth 100000 in
set_option maxHeartbeats 1600000 in
theorem amounts_calls (w0 w : World) (g : Nat) (sv : Value) (bs : List UInt8) (v : Value) (l : List Am) (h0 : Below w0.heap.size w0 w) (hIs : IsB w g sv bs) (hS : ∀ k, BS g sv k → w0.heap.size ≤ k) (hl : RdAm w0 v l) (hlen : (bs ++ amsS l).length ≤ 1099511627776) (hU : Uni w0) (htab : PowTab w0) :
    Calls Tryd.prog 27 #[.pointer (some ⟨g, 0, none⟩), v] w fun e w' => e = .returned (.tuple #[]) ∧ ∃ s', BOut w g sv w' s' (bs ++ amsS l) := by
  obtain ⟨A, c, rfl⟩ := hl.1.slice
  have Hl := Lib.hid hl
  have hll : l.length ≤ 1099511627776 := by have := ams_count l; rw [List.length_append] at hlen; omega
  have Hlen := Lib.hid hlen
  have H0 := Lib.hid h0
  have HS := Lib.hid hS
  have HU := Lib.hid hU
  have Htab := Lib.hid htab
  have HIs := Lib.hid hIs
  clear hl hlen h0 hS hU htab hIs
  go_enter Tryd.func27, Tryd.ntmps27
  go_wp2
  go_loopw [8] (fun v8 w1 => ALoop w g sv bs l v8 w1) (fun i _ => l.length - (intOf i).toNat)
  case atStart => exact ⟨0, sv, Nat.zero_le _, rfl, by simpa [amsS] using BOut.refl HIs.out⟩
  case round =>
    obtain ⟨i, s1, hi, rfl, hO⟩ := hrel
    have HO := Lib.hid hO
    have hB0 : Below w0.heap.size w0 wr := H0.out.trans (hO.keep HS.out H0.out.size).2
    have HB0 := Lib.hid hB0
    by_cases hlt : i < l.length
    · have hd := dT hlt
      obtain ⟨b, off, c', hv, hc', hb, hc1, hc2⟩ := Am.at (Hl.out.below hB0) i hlt
      cases hv
      have hz := Hl.out.2 _ (List.getElem_mem hlt)
      have hz1 : in64 l[i].val := hz
      have ht := ams_len_le hlt
      have HT := Lib.hid (ams_take hlt)
      have hpl := printedZ_len hz
      have htl : l[i].txt.length = 1 + l[i].name.size + 1 + (printedZ l[i].val).length := by rw [Am.txt, List.length_cons, List.length_append, List.length_cons, ← size_toList]; omega
      have hsz0 : (bs ++ amsS (l.take i)).length + (1 + l[i].name.size + 1 + (printedZ l[i].val).length) ≤ 1099511627776 := by have := Hlen.out; rw [List.length_append] at this ⊢; omega
      have Htx : Hid (l[i].txt = 32 :: (l[i].name.data.toList ++ 61 :: printedZ l[i].val)) := rfl
      clear hO hB0 ht htl hz
      generalize l[i].txt = tx at HT Htx
      generalize l[i].name = nm at hc1 hsz0 Htx
      generalize l[i].val = vl at hc2 hz1 hpl hsz0 Htx
      have z1 : ¬ 9223372036854775807 < 1 + nm.size := by omega
      have z2 : ¬ 9223372036854775807 < 1 + nm.size + 1 := by omega
      have HC : Hid (∀ W, Below (wr.alloc (.cells #[.string nm, .int .i64 vl] 111)).heap.size (wr.alloc (.cells #[.string nm, .int .i64 vl] 111)) W → W.cell? ⟨wr.heap.size, 0, none⟩ = some (.string nm) ∧ W.cell? ⟨wr.heap.size, 1, none⟩ = some (.int .i64 vl)) := by
        intro W hW
        have hb := blk_below (blk_new wr (.cells #[.string nm, .int .i64 vl] 111)) hW
        exact ⟨by rw [Lib.cell_of_heap hb]; rfl, by rw [Lib.cell_of_heap hb]; rfl⟩
      have HB1 : Hid (Below (wr.alloc (.cells #[.string nm, .int .i64 vl] 111)).heap.size (wr.alloc (.cells #[.string nm, .int .i64 vl] 111)) (wr.alloc (.cells #[.string nm, .int .i64 vl] 111)).drew) := drewB (Below.refl _ _) 1
      have HBa : Hid (Below wr.heap.size wr (wr.alloc (.cells #[.string nm, .int .i64 vl] 111))) := (Below.refl _ _).alloc (Nat.le_refl _) _
      have HP : Hid (∀ W, Below (wr.alloc (.cells #[.string nm, .int .i64 vl] 111)).heap.size (wr.alloc (.cells #[.string nm, .int .i64 vl] 111)) W → Below w0.heap.size w0 W) := fun W hW => HB0.out.trans ((HBa.out.trans (hW.mono HBa.out.size)).mono HB0.out.size)
      have HI : Hid (∀ W, Below (wr.alloc (.cells #[.string nm, .int .i64 vl] 111)).heap.size (wr.alloc (.cells #[.string nm, .int .i64 vl] 111)) W → BOut w g sv W s1 (bs ++ amsS (l.take i)) ∧ (∀ W' s' b', BOut W g s1 W' s' b' → W'.cell? ⟨wr.heap.size, 0, none⟩ = some (.string nm) ∧ W'.cell? ⟨wr.heap.size, 1, none⟩ = some (.int .i64 vl))) := by
        intro W hW
        refine ⟨(HO.out.below HBa.out).below hW, fun W' s' b' h' => ?_⟩
        obtain ⟨k1, k2⟩ := HC.out W hW
        have hlt := BS_lt HO.out.is
        exact ⟨h'.step.fr.cell k1 (fun hk => by have := hlt _ hk; simp at this), h'.step.fr.cell k2 (fun hk => by have := hlt _ hk; simp at this)⟩
      have Hz1 := Lib.hid hz1
      have hi0 : (0 : Int) ≤ i := by omega
      clear hz1
      go_wp2
      go_region_held3 (fun W => W.cell? ⟨wr.heap.size, 0, none⟩ = some (.string nm) ∧ W.cell? ⟨wr.heap.size, 1, none⟩ = some (.int .i64 vl))
        (first | exact HC.out _ HB1.out | exact HC.out _ HWf.out | exact H4.out)
        (first
          | ((go_at_call 19); (refine (qprintZ_calls vl Hz1.out _ (HU.out.below (HP.out _ HB1.out)) (Htab.out.below (HP.out _ HB1.out))).mono ?_); (rintro e wf ⟨_, rfl, ⟨t, rfl, ht⟩, hwf⟩); (have HWf := Lib.hid (HB1.out.trans (hwf.mono HB1.out.size))); (have Ht := Lib.hid ht); (have Hts : Hid (t.size = (printedZ vl).length) := (by show _ = _; rw [size_toList t, ht])); (have z4 : ¬ 9223372036854775807 < 1 + nm.size + 1 + t.size := (by rw [Hts.out]; omega)); (clear hwf ht))
          | ((go_at_call 16); (refine (writeString_calls g s1 (bs ++ amsS (l.take i)) _ _ (HI.out _ HWf.out).1.is ?hq).mono ?_); (case hq => have hts := Hts.out; have e1 : (ByteArray.mk #[32]).size = 1 := rfl; have e2 : (ByteArray.mk #[61]).size = 1 := rfl; simp only [ByteArray.size_append, List.length_append] at hsz0 ⊢; omega); (rintro e w4 ⟨⟨_, rfl⟩, s4, h4⟩); (have H4 := Lib.hid ((HI.out _ HWf.out).2 _ _ _ h4)); (have Ho4 := Lib.hid ((HI.out _ HWf.out).1.trans h4)); (clear h4)))
      have Hn : Hid (ALoop w g sv bs l (.int .i64 ((i : Int) + 1)) w4) := by
        refine ⟨i + 1, s4, hlt, rfl, ?_⟩
        rw [HT.out, Htx.out]
        have := Ho4.out
        simp [Ht.out] at this ⊢
        exact this
      go_wp2
      go_roundw
      case rel => exact Hn.out
      case measure => simp [intOf]; omega
    · obtain rfl : i = l.length := by omega
      have hd := dF hlt
      clear hlt hO hB0
      go_wp2
      go_end0
      exact ⟨rfl, s1, by have := HO.out; rw [List.take_length] at this; exact this⟩
end Go.Proofs.YtleajmblagddcaaDoor
