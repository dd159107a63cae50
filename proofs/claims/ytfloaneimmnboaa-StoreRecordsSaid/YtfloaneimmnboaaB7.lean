/- The reference's NewReader and Unrecord. -/
import Derived.Test.YtfloaneimmnboaaB3
import Derived.Test.YtfloaneimmnboaaB6
import Derived.Test.YtfloaneimmnboaaA8
namespace Go.Proofs.Ytfloaneimmnboaa
open Go.RowKit Go.Maps Go.WideMaps
set_option linter.unusedVariables false
set_option linter.unusedSimpArgs false

def QLoop (w : World) (b : List UInt8) (i : Value) (w1 : World) : Prop :=
  ∃ (k : Nat) (A1 : Option Addr) (c1 : Nat), k ≤ b.length ∧ i = .int .i64 k ∧ w1.heap[w.heap.size]? = some (.cells #[.slice A1 k c1, .int .i64 0, .int .i64 0] 71 (0, 0)) ∧
    w1.ownsRow 0 5 1 (.slice A1 k c1) k (u8s (b.take k)) ∧ (∀ j, (Value.slice A1 k c1).ownBlock = some j → w.heap.size ≤ j) ∧ Below w.heap.size w w1

theorem qloop_next {w wr w1 : World} {b : List UInt8} {k : Nat} {A1 A2 : Option Addr} {c1 k2 : Nat} {xb : UInt8} {o : Obj}
    (hblk : wr.heap[w.heap.size]? = some (.cells #[.slice A1 k c1, .int .i64 0, .int .i64 0] 71 (0, 0)))
    (hown : wr.ownsRow 0 5 1 (.slice A1 k c1) k (u8s (b.take k))) (hnew : ∀ j, (Value.slice A1 k c1).ownBlock = some j → w.heap.size ≤ j) (hB : Below w.heap.size w wr)
    (htk : b.take (k + 1) = b.take k ++ [xb]) (hlt : k < b.length) (ho1 : w1.ownsRow 0 5 1 (.slice A2 (k + 1) k2) (k + 1) (u8s (b.take k) ++ u8s [xb]))
    (hg1 : (World.drew (wr.alloc o)).grownBy w1 (Value.slice A1 k c1).ownBlock)
    (hn1 : ∀ j, (Value.slice A2 (k + 1) k2).ownBlock = some j → (Value.slice A1 k c1).ownBlock = some j ∨ (World.drew (wr.alloc o)).heap.size ≤ j) :
    QLoop w b (.int .i64 ((k + 1 : Nat) : Int)) (w1.setCell ⟨w.heap.size, 0, none⟩ (.slice A2 (k + 1) k2)) := by
  have hb0 : (World.drew (wr.alloc o)).heap[w.heap.size]? = _ := blk_alloc hblk o
  have hne : (Value.slice A1 k c1).ownBlock ≠ some w.heap.size := own_ne_blk hown hblk (by decide)
  have hb1 := blk_grown hb0 hg1 hne
  have hne1 : (Value.slice A2 (k + 1) k2).ownBlock ≠ some w.heap.size := own_ne_blk ho1 hb1 (by decide)
  refine ⟨k + 1, A2, k2, by omega, rfl, blk_setCell hb1 0 _, ?_, ?_, ?_⟩
  · have := ((Fr.refl (Only w.heap.size) w1).setCell (p := ⟨w.heap.size, 0, none⟩) (.inl rfl) (.slice A2 (k + 1) k2)).owns ho1 (fun k hk e => hne1 (by rw [hk, show k = w.heap.size from e]))
    rw [htk, u8s_app]
    exact this
  · intro j hj
    rcases hn1 j hj with h1 | h1
    · exact hnew j h1
    · have := hB.size; have h2 : wr.heap.size + 1 ≤ j := by simpa using h1
      omega
  · have h1 : Below w.heap.size w (World.drew (wr.alloc o)) := (hB.alloc hB.size o).drew
    exact (h1.grown hg1 h1.size hnew).setCell (p := ⟨w.heap.size, 0, none⟩) (Nat.le_refl _) _

set_option maxHeartbeats 1600000 in
theorem qnew_calls (w : World) (v : Value) (b : List UInt8) (h : RdB w v b) (hl : b.length ≤ 140737488355328) :
    Calls Try.prog 35 #[v] w fun e w' => ∃ g rv, e = .returned (.pointer (some ⟨g, 0, none⟩)) ∧ IsQ w' g rv ⟨b, 0, 0⟩ ∧ w.heap.size ≤ g ∧ (∀ k, rv.ownBlock = some k → w.heap.size ≤ k) ∧ Below w.heap.size w w' := by
  obtain ⟨A, c, rfl⟩ := h.slice
  have Hst : Hid (QLoop w b (.int .i64 0) (w.alloc (.cells #[.slice none 0 0, .int .i64 0, .int .i64 0] 71))) := ⟨0, none, 0, Nat.zero_le _, rfl, blk_new _ _, World.ownsRow_nil _ _ _ _, (fun k hk => by cases hk), (Below.refl _ _).alloc (Nat.le_refl _) _⟩
  go_enter Try.func35, Try.ntmps35
  go_wp2
  go_loopw [4] (fun i w1 => QLoop w b i w1) (fun i _ => b.length - (intOf i).toNat)
  case atStart => exact Hst.out
  case round =>
    obtain ⟨k, A1, c1, hk, rfl, hblk, hown, hnew, hB⟩ := hrel
    obtain ⟨c0, d1, d2, f0, f1, f2⟩ := cells3 hblk
    by_cases hlt : k < b.length
    · have hltd := dT hlt
      have hrd : RdB wr (.slice A b.length c) b := h.below hB
      obtain ⟨bb, off, cc, hv', hc', hbb, hcell⟩ := hrd.some (by intro e; simp [u8s] at e; rw [e] at hlt; simp at hlt)
      cases hv'
      have hcl := hcell k (.int .u8 (b[k].toNat)) (by simp [u8s, hlt])
      have Htk : Hid (b.take (k + 1) = b.take k ++ [b[k]]) := by
        show _ = _
        rw [List.take_add_one, List.getElem?_eq_getElem hlt]; rfl
      generalize b[k] = xb at hcl Htk
      have hca : ∀ o, (wr.alloc o).cell? ⟨w.heap.size, 0, none⟩ = some (.slice A1 k c1) := fun o => (cells3 (blk_alloc hblk o)).1
      have hne : (Value.slice A1 k c1).ownBlock ≠ some w.heap.size := own_ne_blk hown hblk (by decide)
      have Hnew := Lib.hid hnew
      have HB := Lib.hid hB
      clear hnew hB
      go_wp2
      go_region_law ((refine step_append2 _ rfl (.tmp 17) (.tmp 22) 42 rfl 5 (.int .u8 0) 1 1 Try.underlying42 infoU8 rfl (by decide) (.slice A1 k c1) k (u8s (b.take k)) rfl (hown.alloc _) _ 1 (u8s [xb]) rfl (RdB.one _ _ _) (u8s_one _) (by unfold maxLen; omega) (by omega) ?_); (intro v1 w1 ho1 hg1 hn1); (obtain ⟨A2, k2, rfl⟩ := own_slice ho1); (have hb1 := cells3 (blk_grown (w := World.drew (World.alloc _ _)) (blk_alloc hblk _) hg1 hne)))
      all_goals
        have Hk := Lib.hid (qloop_next hblk hown Hnew.out HB.out Htk.out hlt ho1 hg1 hn1)
        clear ho1 hg1 hn1 hb1 hcl hca c0 d1 d2 f0 f1 f2 hown hblk
        go_wp2
        go_roundw
        case rel => exact Hk.out
        case measure => simp [intOf]; omega
    · have hltd := dF hlt
      obtain rfl : k = b.length := by omega
      rw [List.take_of_length_le (Nat.le_refl _)] at hown
      have Hfin : Hid (IsQ wr w.heap.size (.slice A1 b.length c1) ⟨b, 0, 0⟩) := ⟨hblk, RdB.of_own hown, own_ne_blk hown hblk (by decide), Nat.zero_le _, hl, fun k hk => (hown.lt k hk).2⟩
      have Hnew := Lib.hid hnew
      have HB := Lib.hid hB
      clear hnew hB hown
      go_wp2
      go_ret
      exact ⟨w.heap.size, _, rfl, Hfin.out, Nat.le_refl _, Hnew.out, HB.out⟩
end Go.Proofs.Ytfloaneimmnboaa
