/- ref03's text, power. -/
import Derived.Test.YtleajmblagddcaaDoorD5
import Derived.Deep.RegionWith
namespace Go.Proofs.YtleajmblagddcaaDoor
open Go.RowKit
set_option linter.unusedVariables false
set_option linter.unusedSimpArgs false

def dch (d : Nat) : UInt8 := UInt8.ofNat (48 + d)
/-- a number in tens, as it is written -/
def asc (n : Nat) : List UInt8 := if n = 0 then [48] else (dig n).reverse.map dch
def StrIs (v : Value) (l : List UInt8) : Prop := ∃ s : ByteArray, v = .string s ∧ s.data.toList = l

def XLoop (w : World) (x : List Nat) (va v3 v4 : Value) (w1 : World) : Prop := ∃ k : Nat, k ≤ x.length ∧ v4 = .int .i64 ((k : Int) - 1) ∧ StrIs v3 ((x.drop k).reverse.map dch) ∧ w1.heap[w.heap.size]? = some (.cells #[va] 91 (0, 0)) ∧ Below w.heap.size w w1

theorem size_toList (s : ByteArray) : s.size = s.data.toList.length := by rw [Array.length_toList]; rfl
theorem digit_slice (d : Nat) (h : d < 10) : ((ByteArray.mk #[48, 49, 50, 51, 52, 53, 54, 55, 56, 57]).extract d (d + 1)).data.toList = [dch d] := by
  rcases d with _ | _ | _ | _ | _ | _ | _ | _ | _ | _ | d
  all_goals first | omega | decide

set_option maxRecDepth 100000 in
set_option maxHeartbeats 1600000 in
theorem text_calls (w : World) (va : Value) (a : Nat) (ha : RdI w va (dig a)) (hla : (dig a).length ≤ 1048000) :
    Calls Tryd.prog 35 #[.agg #[va]] w fun e w' => ∃ sv, e = .returned sv ∧ StrIs sv (asc a) ∧ Below w.heap.size w w' := by
  have hda := dlt_dig a
  have hnil : Hid (dig a = [] ↔ a = 0) := dig_eq_nil
  have hasc : Hid (asc a = if a = 0 then [48] else (dig a).reverse.map dch) := rfl
  generalize dig a = x at ha hda hla hnil hasc
  obtain ⟨A, c0, rfl⟩ := ha.slice
  by_cases hx : x = []
  · have hx0 : (x.length : Int) = 0 := by rw [hx]; rfl
    have hx1 : ((x.length : Int) == 0) = true := by simp [hx]
    have ha0 : Hid (asc a = [48]) := by rw [hasc.out, if_pos (hnil.out.1 hx)]; rfl
    subst hx
    go_enter Tryd.func35, Tryd.ntmps35
    go_wp2
    go_ret
    exact ⟨_, rfl, ⟨_, rfl, by rw [ha0.out]⟩, (Below.refl _ _).alloc (Nat.le_refl _) _⟩
  · have hx1 : ((x.length : Int) == 0) = false := by
      simp [hx]
    have ha0 : Hid (asc a = x.reverse.map dch) := by rw [hasc.out, if_neg (fun h => hx (hnil.out.2 h))]; rfl
    have Hst : Hid (XLoop w x (.slice A x.length c0) (.string ⟨#[]⟩) (.int .i64 ((x.length : Int) - 1)) (w.alloc (.cells #[.slice A x.length c0] 91))) :=
      ⟨x.length, Nat.le_refl _, rfl, ⟨_, rfl, by simp⟩, blk_new _ _, (Below.refl _ _).alloc (Nat.le_refl _) _⟩
    go_enter Tryd.func35, Tryd.ntmps35
    go_wp2
    go_loopw [3, 4] (fun v3 v4 w1 => XLoop w x (.slice A x.length c0) v3 v4 w1) (fun _ i _ => (intOf i + 1).toNat)
    case atStart => exact Hst.out
    case round =>
      obtain ⟨k, hk, rfl, ⟨s, rfl, hs⟩, hb0, hB⟩ := hrel
      obtain ⟨d0, -⟩ := cells1 hb0
      have Hs := Lib.hid hs
      have HB := Lib.hid hB
      clear hs
      by_cases hk0 : 0 < k
      · obtain ⟨i, rfl⟩ : ∃ m, k = m + 1 := ⟨k - 1, by omega⟩
        rw [show ((i + 1 : Nat) : Int) - 1 = (i : Int) from by omega]
        have hix : i < x.length := by omega
        obtain ⟨bx, ox, kx, hv, hkx, hbbx, hcx⟩ := ha.some (by intro e; rw [e] at hix; simp at hix)
        cases hv
        have q1 := (hB.cell (p := ⟨bx, ox + i, none⟩) hbbx).trans (hcx i hix)
        have hp10 := hda _ (List.getElem_mem hix)
        have HX : Hid (x.drop i = x[i] :: x.drop (i + 1)) := List.drop_eq_getElem_cons hix
        clear hcx hB
        generalize x[i] = p at q1 hp10 HX
        have hi0 : (0 : Int) ≤ i := by omega
        have hsl := digit_slice p hp10
        have hrun : ∀ W, (Instr.slice 9 (.string (ByteArray.mk #[48, 49, 50, 51, 52, 53, 54, 55, 56, 57])) (some (.int .i64 (p : Int))) (some (.int .i64 ((p : Int) + 1))) none).run Tryd.prog W = .ok (.string ((ByteArray.mk #[48, 49, 50, 51, 52, 53, 54, 55, 56, 57]).extract p (p + 1))) W := fun W => by
          have h1 := run_slice_string (P := Tryd.prog) W 9 (ByteArray.mk #[48, 49, 50, 51, 52, 53, 54, 55, 56, 57]) .i64 .i64 (p : Int) ((p : Int) + 1) Tryd.underlying9 (by omega) (by omega) (by have : (ByteArray.mk #[48, 49, 50, 51, 52, 53, 54, 55, 56, 57]).size = 10 := rfl; omega)
          rw [h1, show ((p : Int) + 1).toNat = p + 1 from by omega, show ((p : Int)).toNat = p from by omega]
        generalize (ByteArray.mk #[48, 49, 50, 51, 52, 53, 54, 55, 56, 57]).extract p (p + 1) = ds at hrun hsl
        have hwr : IntKind.i64.wrap ((p : Int) + 1) = (p : Int) + 1 := by rw [IntKind.wrap_i64]; omega
        have hsz : s.size + ds.size ≤ 9223372036854775807 := by
          rw [size_toList, size_toList, Hs.out, hsl]; simp; omega
        have Hsl := Lib.hid hsl
        have Hnext : Hid (XLoop w x (.slice (some ⟨bx, ox, none⟩) x.length c0) (.string (s ++ ds)) (.int .i64 ((i : Int) - 1)) (wr.drewN 1)) := by
          refine ⟨i, by omega, rfl, ⟨_, rfl, ?_⟩, hb0, drewB HB.out 1⟩
          rw [HX.out]; simp [Hs.out, hsl]
        clear hsl hk0
        go_wp2
        go_region
        go_wp2
        go_roundw
        case rel => exact Hnext.out
        case measure => first | (simp [intOf]; done) | (simp [intOf]; omega)
      · obtain rfl : k = 0 := by omega
        go_wp2
        go_ret
        exact ⟨_, rfl, ⟨s, rfl, by rw [ha0.out, Hs.out]; rfl⟩, HB.out⟩

def WLoop (w : World) (f n g : Nat) (v6 : Value) (w1 : World) : Prop := ∃ (i : Nat) (lv : Value), v6 = .int .i64 i ∧ i ≤ n ∧ w1.heap[w.heap.size]? = some (.cells #[.slice none 0 0] 91 (0, 0)) ∧ w1.heap[g]? = some (.cells #[lv] 91 (0, 0)) ∧
  RdI w1 lv (dig (f ^ i)) ∧ (∀ k, lv.ownBlock = some k → w.heap.size < k ∧ k ≠ g) ∧ Below w.heap.size w w1
theorem dig_pow_len {f i : Nat} (hf : f ≤ 1024) (hi : i ≤ 6) : (dig (f ^ i)).length ≤ 20 := by
  apply dig_len_le
  have h1 : f ^ i ≤ 1024 ^ i := Nat.pow_le_pow_left hf i
  have h2 : 1024 ^ i ≤ 1024 ^ 6 := Nat.pow_le_pow_right (by decide) hi
  have h3 : 1024 ^ 6 < 10 ^ 20 := by decide
  omega

theorem WLoop.next {w wr w2 w3 : World} {f n g i : Nat} {v lt : Value} (hgs : w.heap.size < g) (hi : i < n) (hb0 : wr.heap[w.heap.size]? = some (.cells #[.slice none 0 0] 91 (0, 0))) (hbg : wr.heap[g]? = some (.cells #[v] 91 (0, 0)))
    (hB : Below w.heap.size w wr) (hD : Below wr.heap.size wr w2) (hw3 : Below w2.heap.size w2 w3) (hr : RdI w3 lt (dig (f ^ i * f))) (hn : ∀ k, lt.ownBlock = some k → w2.heap.size ≤ k) :
    WLoop w f n g (.int .i64 ((i : Int) + 1)) (w3.setCell ⟨g, 0, none⟩ lt) := by
  have h1 := blk_lt hbg
  have h2 := hD.size
  refine ⟨i + 1, lt, rfl, hi, blk_far (blk_below (blk_below hb0 hD) hw3) (by show w.heap.size ≠ g; omega) _, by simpa using blk_setCell (blk_below (blk_below hbg hD) hw3) 0 lt, ?_, fun k hk => ?_, ?_⟩
  · rw [Nat.pow_succ]
    exact hr.fr ((Fr.refl (Only g) w3).setCell (p := ⟨g, 0, none⟩) (.inl rfl) lt) (fun k hk e => by
      have := hn k hk
      have e : k = g := e
      omega)
  · have := hn k hk; omega
  · exact ((hB.trans (hD.mono hB.size)).trans (hw3.mono (Nat.le_trans hB.size hD.size))).setCell (by show w.heap.size ≤ g; omega) _

set_option maxRecDepth 100000 in
set_option maxHeartbeats 1600000 in
theorem power_calls (w : World) (f n : Nat) (hf : f ≤ 1024) (hn : n ≤ 6) : Calls Tryd.prog 45 #[.int .i64 f, .int .i64 n] w (LPost w (dig (f ^ n))) := by
  go_enter Tryd.func45, Tryd.ntmps45
  go_wp2_with fail
  refine (long_calls _ 1 (by decide)).mono ?_
  rintro e w1 ⟨lv, rfl, hr, hnew, hw1⟩
  obtain ⟨b, off, c, rfl, hc, hb, hcell⟩ := hr.some (by rw [dig_pos (by decide)]; simp)
  have hs := hw1.size
  have hbs := hnew b rfl
  simp at hs hbs
  have Hst : Hid (WLoop w f n w1.heap.size (.int .i64 0) (w1.alloc (.cells #[.slice (some ⟨b, off, none⟩) (dig 1).length c] 91))) := by
    refine ⟨0, _, rfl, Nat.zero_le _, ?_, blk_new _ _, ?_, ?_, ?_⟩
    · exact blk_alloc (blk_below (blk_new _ _) hw1) _
    · rw [Nat.pow_zero]; exact hr.below ((Below.refl _ _).alloc (Nat.le_refl _) _)
    · intro k hk
      have : b = k := by simpa [Value.ownBlock] using hk
      omega
    · exact (((Below.refl _ _).alloc (Nat.le_refl _) _).trans (hw1.mono (by simp))).alloc (by omega) _
  clear hr hnew hw1 hcell
  go_wp2
  have hgs : w.heap.size < w1.heap.size := by omega
  generalize w1.heap.size = g at Hst hgs
  clear hs hbs hb hc
  go_loopw [6] (fun v6 w1 => WLoop w f n g v6 w1) (fun i _ => n - (intOf i).toNat)
  case atStart => exact Hst.out
  case round =>
    clear Hst
    obtain ⟨i, lv, rfl, hi, hb0, hbg, hr, hnew, hB⟩ := hrel
    obtain ⟨A, c, rfl⟩ := hr.slice
    obtain ⟨d0, g0⟩ := cells1 hb0
    obtain ⟨dg, fg⟩ := cells1 hbg
    have Hr := Lib.hid hr
    have Hb0 := Lib.hid hb0
    have Hbg := Lib.hid hbg
    have Hnew := Lib.hid hnew
    have HB := Lib.hid hB
    have hpl := dig_pow_len hf (by omega : i ≤ 6)
    have hfl := dig_pow_len hf (by omega : 1 ≤ 6)
    rw [Nat.pow_one] at hfl
    by_cases hlt : i < n
    · clear hr hb0 hbg hnew hB
      go_wp2
      go_region_with (first
        | ((go_at_call 34); (refine (long_calls _ f (by omega)).mono ?_); (rintro e w2 ⟨lf, rfl, hrf, hnf, hw2⟩); (obtain ⟨Af, kf, rfl⟩ := hrf.slice); (have Hrf := Lib.hid hrf); (have HD := Lib.hid ((drewB (Below.refl wr.heap.size wr) 1).trans hw2)); (have eg := cells1 (blk_below Hbg.out HD.out)); (obtain ⟨eg1, eg2⟩ := eg); (clear hrf hnf hw2))
        | ((go_at_call 46); (refine (times_calls _ _ _ (f ^ i) f (Hr.out.below HD.out) Hrf.out (by omega) (by omega)).mono ?_); (rintro e w3 ⟨lt, rfl, hrt, hnt, hw3⟩); (obtain ⟨At, kt, rfl⟩ := hrt.slice); (have eh := cells1 (blk_below (blk_below Hbg.out HD.out) hw3)); (obtain ⟨eh1, eh2⟩ := eh)))
      all_goals
        have Hn := Lib.hid (WLoop.next hgs hlt Hb0.out Hbg.out HB.out HD.out hw3 hrt hnt)
        clear hrt hnt hw3
        go_wp2
        go_roundw
        case rel => exact Hn.out
        case measure => simp [intOf]; omega
    · obtain rfl : i = n := by omega
      have hns : ∀ k, (Value.slice A (dig (f ^ i)).length c).ownBlock = some k → ¬ Only w.heap.size k := fun k hk e => by
        have := hnew k hk
        have e : k = w.heap.size := e
        omega
      have Hf := Lib.hid (hB.setCell (p := ⟨w.heap.size, 0, none⟩) (Nat.le_refl _) (.slice A (dig (f ^ i)).length c))
      have Hr2 := Lib.hid (hr.fr ((Fr.refl (Only w.heap.size) wr).setCell (p := ⟨w.heap.size, 0, none⟩) (.inl rfl) (.slice A (dig (f ^ i)).length c)) hns)
      have Hc := Lib.hid (cells1 (blk_setCell hb0 0 (.slice A (dig (f ^ i)).length c))).1
      clear hr hb0 hbg hnew hB hns
      go_wp2
      have HC := Hc.out
      refine bodyPost_ret (v := .agg #[.slice A (dig (f ^ i)).length c]) (by simp [results, Tryd.results45, go_sem, HC]) rfl ⟨_, rfl, Hr2.out, fun k hk => Nat.le_of_lt (Hnew.out k hk).1, Hf.out⟩
end Go.Proofs.YtleajmblagddcaaDoor
