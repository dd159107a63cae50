/- Scopes told, by both. -/
import Derived.Test.YtleajmblagddcaaDoorE1
import Derived.Laws.EntriesVeiled
import Derived.Laws.Runes
import Derived.Laws.IdiomStrings
namespace Go.Proofs.YtleajmblagddcaaDoor
open Go.RowKit
set_option linter.unusedVariables false
set_option linter.unusedSimpArgs false

theorem kindOf_calls (k : Int) (hk0 : 0 ≤ k) (hk : k < 6) (w : World) (hT : Scs w) : Calls Tryd.prog 55 #[.int .i64 k] w fun e w' => (∃ fn : Fn, e = .returned (.agg #[.string (scTexts.getD k.toNat ⟨#[]⟩), .func fn #[] #[]])) ∧ Below w.heap.size w w' := by
  have k0 := hT.2 0 (by decide)
  have k1 := hT.2 1 (by decide)
  have k2 := hT.2 2 (by decide)
  have k3 := hT.2 3 (by decide)
  have k4 := hT.2 4 (by decide)
  have k5 := hT.2 5 (by decide)
  simp only [scTexts, List.getElem_cons_zero, List.getElem_cons_succ] at k0 k1 k2 k3 k4 k5
  have hlt := hT.1
  have hc : k = 0 ∨ k = 1 ∨ k = 2 ∨ k = 3 ∨ k = 4 ∨ k = 5 := by omega
  clear hT hk0 hk
  rcases hc with rfl | rfl | rfl | rfl | rfl | rfl
  all_goals
    go_enter Tryd.func55, Tryd.ntmps55
    go_wp2
    exact bodyPost_ret (v := .agg #[_, .func _ #[] #[]]) (by simp [results, Tryd.results55, go_sem]; exact ⟨rfl, rfl⟩) rfl ⟨⟨_, rfl⟩, (Below.refl _ _).alloc (Nat.le_refl _) _⟩

theorem kind_field (w : World) (s : ByteArray) (fn : Fn) : (Instr.field 131 (.agg #[.string s, .func fn #[] #[]]) 0).run Tryd.prog w = .ok (.string s) w := by
  have hu := Tryd.underlying131
  simp [Instr.field, run_underlying hu, part, asAgg, Sem.run_bind, Sem.run_pure, go_sem]
theorem conv_one (w : World) (n : Nat) (hn : n < 256) (g : Nat) (hg : g = w.heap.size) (t : TypeId) : (convert 54 9 (.slice (some ⟨g, 0, none⟩) 1 1)).run Tryd.prog (w.alloc (.cells #[.int .u8 n] t)) = .ok (.string ⟨#[UInt8.ofNat n]⟩) (w.alloc (.cells #[.int .u8 n] t)) := by
  subst hg
  have h := run_convert_bytes_back (P := Tryd.prog) (w.alloc (.cells #[.int .u8 n] t)) 54 9 5 ⟨w.heap.size, 0, none⟩ 1 [UInt8.ofNat n] Tryd.underlying54 Tryd.underlying5 Tryd.underlying9 (fun j hj => by
    have : j = 0 := by simp at hj; omega
    subst this
    refine ((cells1 (blk_new w (.cells #[.int .u8 n] t))).1).trans ?_
    simp; omega)
  exact h
theorem conv_at (w : World) (t u : TypeId) (cs : Array Value) (n : Nat) (hn : n < 256) : (convert 54 9 (.slice (some ⟨w.heap.size + 1, 0, none⟩) 1 1)).run Tryd.prog ((w.alloc (.cells cs u)).alloc (.cells #[.int .u8 n] t)) = .ok (.string ⟨#[UInt8.ofNat n]⟩) ((w.alloc (.cells cs u)).alloc (.cells #[.int .u8 n] t)) :=
  conv_one _ n hn _ (by simp) t
theorem sc_box {w w1 : World} {k a : Int} {t : TypeId} (h : Below (w.alloc (.cells #[.int .i64 k, .int .i64 a] t)).heap.size (w.alloc (.cells #[.int .i64 k, .int .i64 a] t)) w1) : w1.heap[w.heap.size]? = some (.cells #[.int .i64 k, .int .i64 a] t (0, 0)) := blk_below (blk_new w _) h
theorem sc_cells {w : World} {g : Nat} {u v : Value} {t : TypeId} (h : w.heap[g]? = some (.cells #[u, v] t (0, 0))) : w.cell? ⟨g, 0, none⟩ = some u ∧ w.cell? ⟨g, 1, none⟩ = some v ∧ ∀ o, (w.alloc o).cell? ⟨g, 0, none⟩ = some u ∧ (w.alloc o).cell? ⟨g, 1, none⟩ = some v :=
  ⟨by simp [World.cell?, h], by simp [World.cell?, h], fun o => by have h2 := blk_alloc h o; exact ⟨by simp [World.cell?, h2], by simp [World.cell?, h2]⟩⟩
set_option maxHeartbeats 4000000 in
set_option maxRecDepth 100000 in
theorem sprint_calls (k a : Int) (h : scOk k a) (w : World) (hT : Scs w) : Calls Tryd.prog 43 #[.agg #[.int .i64 k, .int .i64 a]] w fun e w' => (∃ sv, e = .returned (.tuple #[sv, .int .i64 0]) ∧ StrIs sv (scWord k a)) ∧ Below w.heap.size w w' := by
  generalize hS : (⟨(scWord k a).toArray⟩ : ByteArray) = S
  have HS := Lib.hid hS
  have HW := Lib.hid (show S.data.toList = scWord k a from by rw [← hS])
  clear hS
  have Hb := Lib.hid hT
  have hv : decide (scOk k a) = true := decide_eq_true h
  clear hT
  rcases scOk_cases h with ⟨rfl, rfl⟩ | ⟨rfl, rfl⟩ | ⟨rfl, rfl⟩ | ⟨rfl, rfl⟩ | ⟨rfl, rfl⟩ | ⟨rfl, rfl⟩ | ⟨rfl, rfl⟩ | ⟨rfl, rfl⟩ | ⟨rfl, rfl⟩ | ⟨rfl, rfl⟩ | ⟨rfl, rfl⟩ | ⟨rfl, rfl⟩ | ⟨rfl, rfl⟩ | ⟨rfl, rfl⟩ | ⟨rfl, rfl⟩
  all_goals
    go_enter Tryd.func43, Tryd.ntmps43
    go_wp2_with (fail)
    go_at_call 54
    refine (bvalid_calls _ _ _).mono ?_
    rintro e w1 ⟨rfl, hw1⟩
    rw [hv]
    have Hw1 := Lib.hid hw1
    have Hbox := Lib.hid (sc_box hw1)
    obtain ⟨c0, c1, -⟩ := sc_cells Hbox.out
    have HT1 : Hid (Scs w1) := Hb.out.below (((Below.refl _ _).alloc (Nat.le_refl _) _).trans (hw1.mono (by simp)))
    clear hw1
    go_wp2_with (fail)
    go_at_call 55
    refine (kindOf_calls _ (by decide) (by decide) _ HT1.out).mono ?_
    rintro e w2 ⟨⟨fv, rfl⟩, hw2⟩
    obtain ⟨d0, d1, -⟩ := sc_cells (blk_below Hbox.out hw2)
    have Hw2 := Lib.hid hw2
    clear hw2 Hbox
    simp only [scTexts, List.getD_cons_zero, List.getD_cons_succ, Int.toNat]
    have kf := fun (s : ByteArray) => kind_field w2 s fv
    go_wp2
    refine bodyPost_ret (v := .tuple #[.string S, .int .i64 0]) ?h rfl ⟨⟨_, rfl, _, rfl, HW.out⟩, ?b⟩
    case h => simp [results, go_sem]; exact HS.out
    case b => exact ( ((Below.refl _ _).alloc (Nat.le_refl _) _).trans ((Hw1.out.trans (Hw2.out.mono Hw1.out.size)).mono (by simp)))
theorem sprint_bad (k a : Int) (h : ¬ scOk k a) (w : World) : Calls Tryd.prog 43 #[.agg #[.int .i64 k, .int .i64 a]] w fun e w' => e = .returned (.tuple #[.string ⟨#[]⟩, .int .i64 150]) ∧ Below w.heap.size w w' := by
  have hv : decide (scOk k a) = false := decide_eq_false h
  go_enter Tryd.func43, Tryd.ntmps43
  go_wp2_with (fail)
  go_at_call 54
  refine (bvalid_calls _ _ _).mono ?_
  rintro e w1 ⟨rfl, hw1⟩
  rw [hv]
  have Hw1 := Lib.hid hw1
  clear hw1
  go_wp2
  exact bodyPost_ret (v := .tuple #[.string ⟨#[]⟩, .int .i64 150]) (by simp [results, go_sem]) rfl ⟨rfl, (((Below.refl _ _).alloc (Nat.le_refl _) _).trans (Hw1.out.mono (by simp)))⟩
theorem rsprint_bad (k a : Int) (h : ¬ scOk k a) (w : World) : Calls Tryd.prog 42 #[.agg #[.int .i64 k, .int .i64 a]] w fun e w' => e = .returned (.tuple #[.string ⟨#[]⟩, .int .i64 150]) ∧ Below w.heap.size w w' := by
  have hv : decide (scOk k a) = false := decide_eq_false h
  go_enter Tryd.func42, Tryd.ntmps42
  go_wp2_with (fail)
  go_at_call 53
  refine (rvalid_calls _ _ _).mono ?_
  rintro e w1 ⟨rfl, hw1⟩
  rw [hv]
  have Hw1 := Lib.hid hw1
  clear hw1
  go_wp2
  exact bodyPost_ret (v := .tuple #[.string ⟨#[]⟩, .int .i64 150]) (by simp [results, go_sem]) rfl ⟨rfl, (((Below.refl _ _).alloc (Nat.le_refl _) _).trans (Hw1.out.mono (by simp)))⟩
set_option maxHeartbeats 4000000 in
set_option maxRecDepth 100000 in
theorem rsprint_calls (k a : Int) (h : scOk k a) (w : World) : Calls Tryd.prog 42 #[.agg #[.int .i64 k, .int .i64 a]] w fun e w' => (∃ sv, e = .returned (.tuple #[sv, .int .i64 0]) ∧ StrIs sv (scWord k a)) ∧ Below w.heap.size w w' := by
  generalize hS : (⟨(scWord k a).toArray⟩ : ByteArray) = S
  have HS := Lib.hid hS
  have HW := Lib.hid (show S.data.toList = scWord k a from by rw [← hS])
  clear hS
  have hv : decide (scOk k a) = true := decide_eq_true h
  rcases scOk_cases h with ⟨rfl, rfl⟩ | ⟨rfl, rfl⟩ | ⟨rfl, rfl⟩ | ⟨rfl, rfl⟩ | ⟨rfl, rfl⟩ | ⟨rfl, rfl⟩ | ⟨rfl, rfl⟩ | ⟨rfl, rfl⟩ | ⟨rfl, rfl⟩ | ⟨rfl, rfl⟩ | ⟨rfl, rfl⟩ | ⟨rfl, rfl⟩ | ⟨rfl, rfl⟩ | ⟨rfl, rfl⟩ | ⟨rfl, rfl⟩
  all_goals
    go_enter Tryd.func42, Tryd.ntmps42
    go_wp2_with (fail)
    go_at_call 53
    refine (rvalid_calls _ _ _).mono ?_
    rintro e w1 ⟨rfl, hw1⟩
    rw [hv]
    have Hw1 := Lib.hid hw1
    have Hbox := Lib.hid (sc_box hw1)
    obtain ⟨c0, c1, cA⟩ := sc_cells Hbox.out
    have cA0 := fun o => (cA o).1
    have cA1 := fun o => (cA o).2
    have cv0 := fun (cs : Array Value) (u t : TypeId) => conv_at w1 t u cs 48 (by omega)
    have cv1 := fun (cs : Array Value) (u t : TypeId) => conv_at w1 t u cs 49 (by omega)
    have cv2 := fun (cs : Array Value) (u t : TypeId) => conv_at w1 t u cs 50 (by omega)
    have cv3 := fun (cs : Array Value) (u t : TypeId) => conv_at w1 t u cs 51 (by omega)
    have cv4 := fun (cs : Array Value) (u t : TypeId) => conv_at w1 t u cs 52 (by omega)
    have cv5 := fun (cs : Array Value) (u t : TypeId) => conv_at w1 t u cs 53 (by omega)
    have cv6 := fun (cs : Array Value) (u t : TypeId) => conv_at w1 t u cs 54 (by omega)
    have cv7 := fun (cs : Array Value) (u t : TypeId) => conv_at w1 t u cs 55 (by omega)
    have cv8 := fun (cs : Array Value) (u t : TypeId) => conv_at w1 t u cs 56 (by omega)
    have cv9 := fun (cs : Array Value) (u t : TypeId) => conv_at w1 t u cs 57 (by omega)
    simp only [Int.cast_ofNat_Int] at cv0 cv1 cv2 cv3 cv4 cv5 cv6 cv7 cv8 cv9
    clear hw1 cA Hbox
    go_wp2
    refine bodyPost_ret (v := .tuple #[.string S, .int .i64 0]) ?h rfl ⟨⟨_, rfl, _, rfl, HW.out⟩, ?b⟩
    case h => simp [results, go_sem]; exact HS.out
    case b =>
      have hB := ((Below.refl w.heap.size w).alloc (Nat.le_refl _) (.cells #[.int .i64 _, .int .i64 _] 65)).trans (Hw1.out.mono (by simp))
      have hL := hB.size
      first
      | exact hB.alloc hL _
      | exact (hB.alloc hL _).alloc (by simp; omega) _

theorem bscoped_calls (k a : Int) (w : World) (hT : Scs w) : Calls Tryd.prog 26 #[.agg #[.int .i64 k, .int .i64 a]] w fun e w' => ∃ sv, e = .returned sv ∧ StrIs sv (scopeS k a) ∧ Below w.heap.size w w' := by
  have Hb := Lib.hid hT
  have HB0 : Hid (Below w.heap.size w (w.alloc (.cells #[.int .i64 k, .int .i64 a] 65))) := (Below.refl _ _).alloc (Nat.le_refl _) _
  by_cases h : scOk k a
  · have Hr : Hid (scopeS k a = scWord k a) := if_pos h
    clear hT
    go_enter Tryd.func26, Tryd.ntmps26
    go_wp2_with (fail)
    go_at_call 43
    first
    | refine (sprint_calls k a h _ Hb.out).mono ?_
    | refine (sprint_calls k a h _ (Hb.out.below HB0.out)).mono ?_
    rintro e w1 ⟨⟨sv, rfl, s, rfl, hs⟩, hw1⟩
    have Hs := Lib.hid hs
    have Hw1 := Lib.hid hw1
    clear hs hw1
    go_wp2
    go_ret
    refine ⟨_, rfl, ⟨_, rfl, Hs.out.trans Hr.out.symm⟩, ?_⟩
    first
    | exact Hw1.out
    | exact HB0.out.trans (Hw1.out.mono (by simp))
  · have Hr : Hid (scopeS k a = [45]) := if_neg h
    clear hT
    go_enter Tryd.func26, Tryd.ntmps26
    go_wp2_with (fail)
    go_at_call 43
    refine (sprint_bad k a h _).mono ?_
    rintro e w1 ⟨rfl, hw1⟩
    have Hw1 := Lib.hid hw1
    clear hw1
    go_wp2
    go_ret
    refine ⟨_, rfl, ⟨_, rfl, Hr.out.symm⟩, ?_⟩
    first
    | exact Hw1.out
    | exact HB0.out.trans (Hw1.out.mono (by simp))
theorem rscope_calls (k a : Int) (w : World) : Calls Tryd.prog 21 #[.agg #[.int .i64 k, .int .i64 a]] w fun e w' => ∃ sv, e = .returned sv ∧ StrIs sv (scopeS k a) ∧ Below w.heap.size w w' := by
  have HB0 : Hid (Below w.heap.size w (w.alloc (.cells #[.int .i64 k, .int .i64 a] 65))) := (Below.refl _ _).alloc (Nat.le_refl _) _
  by_cases h : scOk k a
  · have Hr : Hid (scopeS k a = scWord k a) := if_pos h
    go_enter Tryd.func21, Tryd.ntmps21
    go_wp2_with (fail)
    go_at_call 42
    refine (rsprint_calls k a h _).mono ?_
    rintro e w1 ⟨⟨sv, rfl, s, rfl, hs⟩, hw1⟩
    have Hs := Lib.hid hs
    have Hw1 := Lib.hid hw1
    clear hs hw1
    go_wp2
    go_ret
    refine ⟨_, rfl, ⟨_, rfl, Hs.out.trans Hr.out.symm⟩, ?_⟩
    first
    | exact Hw1.out
    | exact HB0.out.trans (Hw1.out.mono (by simp))
  · have Hr : Hid (scopeS k a = [45]) := if_neg h
    go_enter Tryd.func21, Tryd.ntmps21
    go_wp2_with (fail)
    go_at_call 42
    refine (rsprint_bad k a h _).mono ?_
    rintro e w1 ⟨rfl, hw1⟩
    have Hw1 := Lib.hid hw1
    clear hw1
    go_wp2
    go_ret
    refine ⟨_, rfl, ⟨_, rfl, Hr.out.symm⟩, ?_⟩
    first
    | exact Hw1.out
    | exact HB0.out.trans (Hw1.out.mono (by simp))
end Go.Proofs.YtleajmblagddcaaDoor
