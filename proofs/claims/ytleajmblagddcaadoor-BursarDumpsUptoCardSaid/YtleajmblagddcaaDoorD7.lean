/- ref03's suffixes. -/
import Derived.Test.YtleajmblagddcaaDoorD6
import Derived.Deep.RegionHeld3
namespace Go.Proofs.YtleajmblagddcaaDoor
open Go.RowKit
set_option linter.unusedVariables false
set_option linter.unusedSimpArgs false

structure Ent where
  name : ByteArray
  lv : Value
  val : Nat
def Ent.cells (e : Ent) : List Value := [.string e.name, e.lv]
def Ent.tab (e : Ent) : List UInt8 × Nat := (e.name.data.toList, e.val)
def entCells (l : List Ent) : List Value := l.flatMap Ent.cells
theorem entCells_app (a b : List Ent) : entCells (a ++ b) = entCells a ++ entCells b := by simp [entCells]
theorem entCells_len (l : List Ent) : (entCells l).length = l.length * 2 := by
  induction l with
  | nil => rfl
  | cons e r ih => rw [show entCells (e :: r) = [.string e.name, e.lv] ++ entCells r from rfl, List.length_append, ih]; simp; omega
def SRow (w : World) (v : Value) (ents : List Ent) : Prop := w.ownsRow 0 98 2 v ents.length (entCells ents) ∧ ∀ e ∈ ents, 0 < e.val ∧ RdI w e.lv (dig e.val) ∧ (∀ k, e.lv.ownBlock = some k → v.ownBlock ≠ some k)
theorem SRow.below {w w1 : World} {v : Value} {ents : List Ent} (h : SRow w v ents) (hb : Below w.heap.size w w1) : SRow w1 v ents :=
  ⟨own_below h.1 hb, fun e he => ⟨(h.2 e he).1, (h.2 e he).2.1.below hb, (h.2 e he).2.2⟩⟩
theorem infoSfx : (Tryd.prog.info? 98).map (fun i => (i.zero, i.size, i.bytes)) = some (some (.agg #[.string ⟨#[]⟩, .slice none 0 0]), 2, 40) := by kernel_rfl

def kch (j : Nat) : UInt8 := [107, 77, 71, 84, 80].getD j 0
def kCh (j : Nat) : UInt8 := [75, 77, 71, 84, 80].getD j 0
def tab0 : List (List UInt8 × Nat) := [([109], 1), ([], 1000)]
def tabK (i : Nat) : List (List UInt8 × Nat) := tab0 ++ (List.range i).map fun j => ([kch j], 1000 ^ (j + 2))
def tabB (i : Nat) : List (List UInt8 × Nat) := tabK 5 ++ (List.range i).map fun j => ([kCh j, 105], 1024 ^ (j + 1) * 1000)
def SLoop (w : World) (tab : Nat → List (List UInt8 × Nat)) (v1 v2 : Value) (w1 : World) : Prop := ∃ (i : Nat) (ents : List Ent), i ≤ 5 ∧ v2 = .int .i64 ((i + 1 : Nat) : Int) ∧ ents.map Ent.tab = tab i ∧ SRow w1 v1 ents ∧ (∀ k, v1.ownBlock = some k → w.heap.size ≤ k) ∧ Below w.heap.size w w1

theorem rd_ent (w : World) (t : TypeId) (e : Ent) : Rd (w.alloc (.cells #[.string e.name, e.lv] t)) 2 (.slice (some ⟨w.heap.size, 0, none⟩) 1 1) 1 (entCells [e]) := by
  refine ⟨rfl, _, _, rfl, Nat.le_refl _, (fun h => by cases h), fun ad hA j u hu => ?_⟩
  cases hA
  match j, hu with
  | 0, hu => cases hu; rw [show (⟨w.heap.size, 0, none⟩ : Addr).add 0 = ⟨w.heap.size, 0, none⟩ from rfl]; simp only [World.cell?, blk_new]; rfl
  | 1, hu => cases hu; rw [show (⟨w.heap.size, 0, none⟩ : Addr).add 1 = ⟨w.heap.size, 1, none⟩ from rfl]; simp only [World.cell?, blk_new]; rfl

theorem ent_one (s : ByteArray) (A : Option Addr) (n c v : Nat) : ∀ u ∈ entCells [⟨s, .slice A n c, v⟩], u.oneCell' = true := by
  intro u hu
  rcases List.mem_cons.1 (show u ∈ [Value.string s, Value.slice A n c] from hu) with rfl | hu
  · rfl
  · rw [List.mem_singleton.1 hu]; rfl
theorem own_fresh (w : World) (t : TypeId) (size n : Nat) (xs : List Value) (hl : xs.length = n * size) (hm : n ≤ maxLen) : (w.alloc (.cells xs.toArray t)).ownsRow 0 t size (.slice (some ⟨w.heap.size, 0, none⟩) n n) n xs := by
  refine ⟨hl, .inr ⟨w.heap.size, n, xs.toArray, rfl, Nat.zero_le _, blk_new _ _, Nat.le_refl _, hm, by simpa using hl, by simp [← hl]⟩⟩
theorem ownBlk_lt {w : World} {v : Value} {n : Nat} (h : RdI w v (dig n)) (hn : 0 < n) : ∀ k, v.ownBlock = some k → k < w.heap.size := by
  obtain ⟨b, off, c, rfl, hc, hb, hcell⟩ := h.some (by rw [dig_pos hn]; simp)
  intro k hk
  have : b = k := by simpa [Value.ownBlock] using hk
  omega
theorem ksl (i : Nat) (h : i < 5) : ((ByteArray.mk #[107, 77, 71, 84, 80]).extract i (i + 1)).data.toList = [kch i] := by
  rcases i with _ | _ | _ | _ | _ | d
  all_goals first | omega | decide
theorem Ksl (i : Nat) (h : i < 5) : ((ByteArray.mk #[75, 77, 71, 84, 80]).extract i (i + 1)).data.toList = [kCh i] := by
  rcases i with _ | _ | _ | _ | _ | d
  all_goals first | omega | decide

theorem SRow.next {w wr wp w4 : World} {v v1 : Value} {ents : List Ent} {e : Ent} {o : Obj} (hrow : SRow wr v ents) (hB : Below w.heap.size w wr) (hnew : ∀ k, v.ownBlock = some k → w.heap.size ≤ k) (hwp : Below wr.heap.size wr wp) (he0 : 0 < e.val) (hrp : RdI wp e.lv (dig e.val)) (hnp : ∀ k, e.lv.ownBlock = some k → wr.heap.size ≤ k)
    (ho4 : w4.ownsRow 0 98 2 v1 (ents.length + 1) (entCells ents ++ entCells [e])) (hg4 : (wp.alloc o).grownBy w4 v.ownBlock) (hn4 : ∀ k, v1.ownBlock = some k → v.ownBlock = some k ∨ wp.heap.size + 1 ≤ k) :
    SRow w4 v1 (ents ++ [e]) ∧ (∀ k, v1.ownBlock = some k → w.heap.size ≤ k) ∧ Below w.heap.size w w4 := by
  have hs := hwp.size
  have hs2 := hB.size
  have hvl : ∀ k, v.ownBlock = some k → k < wr.heap.size := fun k hk => (hrow.1.lt k hk).2
  have hF : ∀ {l : Value} {n : Nat}, RdI wp l (dig n) → (∀ k, l.ownBlock = some k → v.ownBlock ≠ some k) → RdI w4 l (dig n) := by
    intro l n hr hne
    have h1 : RdI (wp.alloc o) l (dig n) := hr.below ((Below.refl _ _).alloc (Nat.le_refl _) _)
    exact h1.fr ((Fr.refl (fun k => v.ownBlock = some k) (wp.alloc o)).grown hg4 (fun k hk => .inl hk)) (fun k hk e => hne k hk e)
  refine ⟨⟨by rw [entCells_app, List.length_append]; exact ho4, fun x hx => ?_⟩, fun k hk => ?_, ?_⟩
  · rcases List.mem_append.1 hx with hx | hx
    · obtain ⟨h0, h1, h2⟩ := hrow.2 x hx
      refine ⟨h0, hF (h1.below hwp) h2, fun k hk h => ?_⟩
      rcases hn4 k h with h3 | h3
      · exact h2 k hk h3
      · have := ownBlk_lt h1 h0 k hk; omega
    · rw [List.mem_singleton.1 hx]
      refine ⟨he0, hF hrp (fun k hk h => ?_), fun k hk h => ?_⟩
      · have := hnp k hk; have := hvl k h; omega
      · rcases hn4 k h with h3 | h3
        · have := hnp k hk; have := hvl k h3; omega
        · have := ownBlk_lt hrp he0 k hk; omega
  · rcases hn4 k hk with h3 | h3
    · exact hnew k h3
    · omega
  · have h1 : Below w.heap.size w (wp.alloc o) := (hB.trans (hwp.mono hs2)).alloc (by omega) _
    exact h1.grown hg4 h1.size (fun k hk => hnew k hk)

set_option maxRecDepth 100000 in
set_option maxHeartbeats 1600000 in
theorem suffixes_calls (w : World) : Calls Tryd.prog 36 #[] w fun e w' => ∃ v ents, e = .returned v ∧ ents.map Ent.tab = tabB 5 ∧ SRow w' v ents ∧ Below w.heap.size w w' := by
  go_enter Tryd.func36, Tryd.ntmps36
  go_wp2_with fail
  refine (long_calls _ 1 (by decide)).mono ?_
  rintro e w1 ⟨l1, rfl, hr1, hn1, hw1⟩
  have Hr1 := Lib.hid hr1
  have Hw1 := Lib.hid hw1
  obtain ⟨A1, c1, rfl⟩ := hr1.slice
  clear hr1 hw1
  go_wp2_with fail
  refine (long_calls _ 1000 (by decide)).mono ?_
  rintro e w2 ⟨l2, rfl, hr2, hn2, hw2⟩
  have Hr2 := Lib.hid hr2
  have Hw2 := Lib.hid hw2
  obtain ⟨A2, c2, rfl⟩ := hr2.slice
  clear hr2 hw2
  go_wp2
  have Hst : Hid (SLoop w tabK (.slice (some ⟨w2.heap.size, 0, none⟩) 2 2) (.int .i64 1) (w2.alloc (.cells #[.string ⟨#[109]⟩, .slice A1 (dig 1).length c1, .string ⟨#[]⟩, .slice A2 (dig 1000).length c2] 98))) := by
    have hb1 := Hw1.out
    have hb2 := Hw2.out
    have hs1 := hb1.size
    have hs2 := hb2.size
    have hbl : ∀ o, Below w2.heap.size w2 (w2.alloc o) := fun o => (Below.refl _ _).alloc (Nat.le_refl _) o
    refine ⟨0, [⟨⟨#[109]⟩, .slice A1 (dig 1).length c1, 1⟩, ⟨⟨#[]⟩, .slice A2 (dig 1000).length c2, 1000⟩], by omega, rfl, rfl, ⟨?_, ?_⟩, ?_, ?_⟩
    · exact own_fresh w2 _ 2 2 [.string ⟨#[109]⟩, .slice A1 (dig 1).length c1, .string ⟨#[]⟩, .slice A2 (dig 1000).length c2] rfl (by unfold maxLen; omega)
    · intro e he
      rcases List.mem_cons.1 he with rfl | he
      · refine ⟨Nat.zero_lt_one, (Hr1.out.below hb2).below (hbl _), fun k hk h => ?_⟩
        have h1 := ownBlk_lt Hr1.out (by decide) k hk
        have : w2.heap.size = k := by simpa [Value.ownBlock] using h
        omega
      · rw [List.mem_singleton.1 he]
        refine ⟨(by decide : 0 < 1000), Hr2.out.below (hbl _), fun k hk h => ?_⟩
        have h1 := ownBlk_lt Hr2.out (by decide) k hk
        have : w2.heap.size = k := by simpa [Value.ownBlock] using h
        omega
    · intro k hk
      have : w2.heap.size = k := by simpa [Value.ownBlock] using hk
      omega
    · exact (hb1.trans (hb2.mono hs1)).alloc (by omega) _
  clear hn1 hn2 Hr1 Hr2 Hw1 Hw2
  go_loopw [1, 2] (fun v1 v2 w1 => SLoop w tabK v1 v2 w1) (fun _ i _ => 6 - (intOf i).toNat)
  case atStart => exact Hst.out
  case round =>
    clear Hst
    obtain ⟨i, ents, hi, rfl, htab, hrow, hnew, hB⟩ := hrel
    have Htab := Lib.hid htab
    have Hnew := Lib.hid hnew
    have HB := Lib.hid hB
    have Hrow := Lib.hid hrow
    have hlen : ents.length = i + 2 := by
      have := congrArg List.length htab
      simp [tabK, tab0] at this
      omega
    obtain ⟨A, c, rfl⟩ := own_slice hrow.1
    clear htab hnew hB hrow
    by_cases hlt : i < 5
    · have hle : ((i + 1 : Nat) : Int) ≤ 5 := by omega
      have hsl := ksl i hlt
      have hrun : ∀ W, (Instr.slice 9 (.string (ByteArray.mk #[107, 77, 71, 84, 80])) (some (.int .i64 (((i + 1 : Nat) : Int) - 1))) (some (.int .i64 ((i + 1 : Nat) : Int))) none).run Tryd.prog W = .ok (.string ((ByteArray.mk #[107, 77, 71, 84, 80]).extract i (i + 1))) W := fun W => by
        have h1 := run_slice_string (P := Tryd.prog) W 9 (ByteArray.mk #[107, 77, 71, 84, 80]) .i64 .i64 (((i + 1 : Nat) : Int) - 1) ((i + 1 : Nat) : Int) Tryd.underlying9 (by omega) (by omega) (by have : (ByteArray.mk #[107, 77, 71, 84, 80]).size = 5 := rfl; omega)
        rw [h1, show (((i + 1 : Nat) : Int) - 1).toNat = i from by omega, show (((i + 1 : Nat) : Int)).toNat = i + 1 from by omega]
      generalize (ByteArray.mk #[107, 77, 71, 84, 80]).extract i (i + 1) = ds at hrun hsl
      have Hsl := Lib.hid hsl
      obtain ⟨m, hm⟩ : ∃ m, m = i + 1 := ⟨_, rfl⟩
      rw [← hm] at hle hrun
      rw [← hm]
      have hm1 : (m : Int) + 1 = ((m + 1 : Nat) : Int) := by omega
      have Hm1 := Lib.hid hm1
      clear hm1
      have Hm := Lib.hid hm
      have hmm : m ≤ 5 := by omega
      have hw1 : IntKind.i64.wrap ((m : Int) - 1) = (m : Int) - 1 := by rw [IntKind.wrap_i64]; omega
      have hw2 : IntKind.i64.wrap ((m : Int) + 1) = (m : Int) + 1 := by rw [IntKind.wrap_i64]; omega
      have Hi := Lib.hid hi
      have Hlt := Lib.hid hlt
      clear hsl hm hi hlt
      have hlen2 := Lib.hid hlen
      clear hlen
      go_wp2
      go_region_held3 (fun w' : World => True) (exact True.intro)
        (first
        | ((go_at_call 45); (rw [Hm1.out]); (refine (power_calls _ 1000 (m + 1) (by omega) (by omega)).mono ?_); (rintro e wp ⟨lp, rfl, hrp, hnp, hwp⟩); (obtain ⟨Ap, kp, rfl⟩ := hrp.slice); (have Hrp := Lib.hid hrp); (have Hnp := Lib.hid hnp); (have Hwp := Lib.hid ((drewB (Below.refl wr.heap.size wr) 1).trans hwp)); (clear hrp hnp hwp))
        | ((refine step_append2 _ rfl (.tmp 13) (.tmp 22) 93 rfl 98 (.agg #[.string ⟨#[]⟩, .slice none 0 0]) 2 40 Tryd.underlying93 infoSfx rfl (by decide) (.slice A ents.length c) ents.length (entCells ents) rfl ((own_below Hrow.out.1 Hwp.out).alloc _) _ 1 (entCells [⟨ds, .slice Ap (dig (1000 ^ (m + 1))).length kp, 1000 ^ (m + 1)⟩]) rfl (rd_ent _ _ ⟨ds, .slice Ap (dig (1000 ^ (m + 1))).length kp, 1000 ^ (m + 1)⟩) (ent_one _ _ _ _ _) (by unfold maxLen; have := hlen2.out; have := Hlt.out; omega) (by have := hlen2.out; have := Hlt.out; omega) ?_); (intro v1 w4 ho4 hg4 hn4)))
      have hp0 : 0 < 1000 ^ (m + 1) := Nat.pow_pos (by decide)
      obtain ⟨g1, g2, g3⟩ := SRow.next (e := ⟨ds, .slice Ap (dig (1000 ^ (m + 1))).length kp, 1000 ^ (m + 1)⟩) Hrow.out HB.out Hnew.out Hwp.out hp0 Hrp.out Hnp.out ho4 hg4 (fun k hk => by have := hn4 k hk; simpa using this)
      obtain ⟨A3, c3, rfl⟩ := own_slice g1.1
      have Hn : Hid (SLoop w tabK (.slice A3 (ents ++ ([⟨ds, .slice Ap (dig (1000 ^ (m + 1))).length kp, 1000 ^ (m + 1)⟩] : List Ent)).length c3) (.int .i64 ((m : Int) + 1)) w4) := by
        refine ⟨i + 1, _, by have := Hlt.out; omega, by rw [Hm.out]; rfl, ?_, g1, g2, g3⟩
        rw [List.map_append, Htab.out, tabK, tabK, List.range_succ, List.map_append, List.append_assoc]
        simp [Ent.tab, Hsl.out, Hm.out]
      clear g1 g2 g3 ho4 hg4 hn4
      go_wp2
      go_roundw
      case rel => exact Hn.out
      case measure => simp [intOf]; omega
    · have hle : ¬ ((i + 1 : Nat) : Int) ≤ 5 := by omega
      have hi5 : i = 5 := by omega
      subst hi5
      have Hst2 : Hid (SLoop w tabB (.slice A ents.length c) (.int .i64 1) wr) := ⟨0, ents, by omega, rfl, by rw [Htab.out]; simp [tabB], Hrow.out, Hnew.out, HB.out⟩
      clear Htab Hnew HB Hrow hlen
      go_wp2
      go_loopw [1, 3] (fun v1 v3 w1 => SLoop w tabB v1 v3 w1) (fun _ i _ => 6 - (intOf i).toNat)
      case atStart => exact Hst2.out
      case round =>
        clear Hst2
        obtain ⟨i, ents, hi, rfl, htab, hrow, hnew, hB⟩ := hrel
        have Htab := Lib.hid htab
        have Hnew := Lib.hid hnew
        have HB := Lib.hid hB
        have Hrow := Lib.hid hrow
        have hlen : ents.length = i + 7 := by
          have := congrArg List.length htab
          simp [tabB, tabK, tab0] at this
          omega
        obtain ⟨A, c, rfl⟩ := own_slice hrow.1
        clear htab hnew hB hrow
        by_cases hlt : i < 5
        · have hle : ((i + 1 : Nat) : Int) ≤ 5 := by omega
          have hsl := Ksl i hlt
          have hrun : ∀ W, (Instr.slice 9 (.string (ByteArray.mk #[75, 77, 71, 84, 80])) (some (.int .i64 (((i + 1 : Nat) : Int) - 1))) (some (.int .i64 ((i + 1 : Nat) : Int))) none).run Tryd.prog W = .ok (.string ((ByteArray.mk #[75, 77, 71, 84, 80]).extract i (i + 1))) W := fun W => by
            have h1 := run_slice_string (P := Tryd.prog) W 9 (ByteArray.mk #[75, 77, 71, 84, 80]) .i64 .i64 (((i + 1 : Nat) : Int) - 1) ((i + 1 : Nat) : Int) Tryd.underlying9 (by omega) (by omega) (by have : (ByteArray.mk #[75, 77, 71, 84, 80]).size = 5 := rfl; omega)
            rw [h1, show (((i + 1 : Nat) : Int) - 1).toNat = i from by omega, show (((i + 1 : Nat) : Int)).toNat = i + 1 from by omega]
          generalize (ByteArray.mk #[75, 77, 71, 84, 80]).extract i (i + 1) = ds at hrun hsl
          have Hsl := Lib.hid hsl
          obtain ⟨m, hm⟩ : ∃ m, m = i + 1 := ⟨_, rfl⟩
          rw [← hm] at hle hrun
          rw [← hm]
          have hm1 : (m : Int) + 1 = ((m + 1 : Nat) : Int) := by omega
          have hds : ds.size = 1 := by rw [size_toList, hsl]; rfl
          have Hpl : Hid ((dig (1024 ^ m)).length ≤ 1048576) := by
            show _ ≤ _
            have := dig_pow_len (Nat.le_refl 1024) (by omega : m ≤ 6); omega
          have Hfl : Hid ((dig 1000).length ≤ 1048576) := by
            show _ ≤ _
            have := dig_pow_len (by decide : 1000 ≤ 1024) (by decide : 1 ≤ 6); rw [Nat.pow_one] at this; omega
          clear hm1
          have Hm := Lib.hid hm
          have hmm : m ≤ 5 := by omega
          have hw1 : IntKind.i64.wrap ((m : Int) - 1) = (m : Int) - 1 := by rw [IntKind.wrap_i64]; omega
          have hw2 : IntKind.i64.wrap ((m : Int) + 1) = (m : Int) + 1 := by rw [IntKind.wrap_i64]; omega
          have Hi := Lib.hid hi
          have Hlt := Lib.hid hlt
          clear hsl hm hi hlt
          have hlen2 := Lib.hid hlen
          clear hlen
          go_wp2
          go_region_held3 (fun w' : World => True) (exact True.intro)
            (first
            | ((go_at_call 45); (refine (power_calls _ 1024 m (by omega) (by omega)).mono ?_); (rintro e wp ⟨lp, rfl, hrp, hnp, hwp⟩); (obtain ⟨Ap, kp, rfl⟩ := hrp.slice); (have Hrp := Lib.hid hrp); (have Hwp := Lib.hid ((drewB (Below.refl wr.heap.size wr) 1).trans hwp)); (clear hrp hnp hwp))
            | ((go_at_call 34); (refine (long_calls _ 1000 (by decide)).mono ?_); (rintro e wl ⟨ll, rfl, hrl, hnl, hwl⟩); (obtain ⟨Al, kl, rfl⟩ := hrl.slice); (have Hrl := Lib.hid hrl); (have Hwl := Lib.hid hwl); (clear hrl hnl hwl))
            | ((go_at_call 46); (refine (times_calls _ _ _ (1024 ^ m) 1000 (Hrp.out.below Hwl.out) Hrl.out Hpl.out Hfl.out).mono ?_); (rintro e wt ⟨lt, rfl, hrt, hnt, hwt⟩); (obtain ⟨At, kt, rfl⟩ := hrt.slice); (have Hrt := Lib.hid hrt); (have Hnt := Lib.hid hnt); (have Hwt := Lib.hid ((Hwp.out.trans (Hwl.out.mono Hwp.out.size)).trans (hwt.mono (Nat.le_trans Hwp.out.size Hwl.out.size)))); (clear hrt hnt hwt))
            | ((refine step_append2 _ rfl (.tmp 28) (.tmp 39) 93 rfl 98 (.agg #[.string ⟨#[]⟩, .slice none 0 0]) 2 40 Tryd.underlying93 infoSfx rfl (by decide) (.slice A ents.length c) ents.length (entCells ents) rfl ((own_below Hrow.out.1 Hwt.out).alloc _) _ 1 (entCells [⟨ds ++ ⟨#[105]⟩, .slice At (dig (1024 ^ m * 1000)).length kt, 1024 ^ m * 1000⟩]) rfl (rd_ent _ _ ⟨ds ++ ⟨#[105]⟩, .slice At (dig (1024 ^ m * 1000)).length kt, 1024 ^ m * 1000⟩) (ent_one _ _ _ _ _) (by unfold maxLen; have := hlen2.out; have := Hlt.out; omega) (by have := hlen2.out; have := Hlt.out; omega) ?_); (intro v1 w4 ho4 hg4 hn4)))
          have hp0 : 0 < 1024 ^ m * 1000 := Nat.mul_pos (Nat.pow_pos (by decide)) (by decide)
          obtain ⟨g1, g2, g3⟩ := SRow.next (e := ⟨ds ++ ⟨#[105]⟩, .slice At (dig (1024 ^ m * 1000)).length kt, 1024 ^ m * 1000⟩) Hrow.out HB.out Hnew.out Hwt.out hp0 Hrt.out (fun k hk => Nat.le_trans (Nat.le_trans Hwp.out.size Hwl.out.size) (Hnt.out k hk)) ho4 hg4 (fun k hk => by have := hn4 k hk; simpa using this)
          obtain ⟨A3, c3, rfl⟩ := own_slice g1.1
          have Hn : Hid (SLoop w tabB (.slice A3 (ents ++ ([⟨ds ++ ⟨#[105]⟩, .slice At (dig (1024 ^ m * 1000)).length kt, 1024 ^ m * 1000⟩] : List Ent)).length c3) (.int .i64 ((m : Int) + 1)) w4) := by
            refine ⟨i + 1, _, by have := Hlt.out; omega, by rw [Hm.out]; rfl, ?_, g1, g2, g3⟩
            rw [List.map_append, Htab.out, tabB, tabB, List.range_succ, List.map_append, List.append_assoc]
            simp [Ent.tab, Hsl.out, Hm.out]
          clear g1 g2 g3 ho4 hg4 hn4
          go_wp2
          go_roundw
          case rel => exact Hn.out
          case measure => simp [intOf]; omega
        · have hle : ¬ ((i + 1 : Nat) : Int) ≤ 5 := by omega
          have hi5 : i = 5 := by omega
          subst hi5
          clear hlen
          go_wp2
          go_ret
          exact ⟨_, rfl, ents, Htab.out, Hrow.out, HB.out⟩
end Go.Proofs.YtleajmblagddcaaDoor
