/- ref27.Tell: a reply's text. -/
import Derived.Test.YtleajmblagddcaaDoorD19
import Derived.Deep.RegionHeld3
namespace Go.Proofs.YtleajmblagddcaaDoor
open Go.RowKit
set_option linter.unusedVariables false
set_option linter.unusedSimpArgs false

set_option maxRecDepth 100000 in
set_option maxHeartbeats 3200000 in
theorem rtell_no_calls (code : Int) (op : Int) (ver : Int) (more : Bool) (dp dn da dr : ByteArray) (Ao : Option Addr) (co : Nat) (obl : List Ob) (Al : Option Addr) (cl : Nat) (lnl : List Ln) (Ae : Option Addr) (ce : Nat) (evl : List Ev) (An : Option Addr) (cn : Nat) (nml : List ByteArray) (s0 s1 s2 s3 s4 s5 : Int) (w : World) (hr : ReOk w (⟨code, ver, more, dp, dn, da, dr, .slice Ao obl.length co, obl, .slice Al lnl.length cl, lnl, .slice Ae evl.length ce, evl, .slice An nml.length cn, nml, s0, s1, s2, s3, s4, s5⟩ : Re)) (hc : ¬ code = 0) (hlen : ((⟨code, ver, more, dp, dn, da, dr, .slice Ao obl.length co, obl, .slice Al lnl.length cl, lnl, .slice Ae evl.length ce, evl, .slice An nml.length cn, nml, s0, s1, s2, s3, s4, s5⟩ : Re).txt op).length ≤ 1099511627776) (htab : PowTab w) :
    Calls Tryd.prog 5 #[.int .i64 op, reAgg (⟨code, ver, more, dp, dn, da, dr, .slice Ao obl.length co, obl, .slice Al lnl.length cl, lnl, .slice Ae evl.length ce, evl, .slice An nml.length cn, nml, s0, s1, s2, s3, s4, s5⟩ : Re)] w fun e w' => ∃ sv, e = .returned sv ∧ StrIs sv ((⟨code, ver, more, dp, dn, da, dr, .slice Ao obl.length co, obl, .slice Al lnl.length cl, lnl, .slice Ae evl.length ce, evl, .slice An nml.length cn, nml, s0, s1, s2, s3, s4, s5⟩ : Re).txt op) ∧ Below w.heap.size w w' := by
  have Htx : Hid ((⟨code, ver, more, dp, dn, da, dr, .slice Ao obl.length co, obl, .slice Al lnl.length cl, lnl, .slice Ae evl.length ce, evl, .slice An nml.length cn, nml, s0, s1, s2, s3, s4, s5⟩ : Re).txt op = tellS [110, 111] (⟨code, ver, more, dp, dn, da, dr, .slice Ao obl.length co, obl, .slice Al lnl.length cl, lnl, .slice Ae evl.length ce, evl, .slice An nml.length cn, nml, s0, s1, s2, s3, s4, s5⟩ : Re).noParts) := if_neg hc
  have hl2 : (tellS [110, 111] (⟨code, ver, more, dp, dn, da, dr, .slice Ao obl.length co, obl, .slice Al lnl.length cl, lnl, .slice Ae evl.length ce, evl, .slice An nml.length cn, nml, s0, s1, s2, s3, s4, s5⟩ : Re).noParts).length = 3 + (Lib.itoa code).length + 1 + (Lib.itoa ver).length + 1 + (orS dp.data.toList).length + 1 + (orS dn.data.toList).length + 1 + (orS da.data.toList).length + 1 + (orS dr.data.toList).length + 1 := by
    simp only [tellS, Re.noParts, partsS, List.flatMap_cons, List.flatMap_nil, List.length_append, List.length_cons, List.length_nil, Pt.txt]; omega
  have Hhs : Hid (3 + (Lib.itoa code).length + 1 + (Lib.itoa ver).length + 1 + (orS dp.data.toList).length + 1 + (orS dn.data.toList).length + 1 + (orS da.data.toList).length + 1 + (orS dr.data.toList).length + 1 ≤ 1099511627776) := by show _ ≤ _; rw [← hl2, ← Htx.out]; exact hlen
  have Hr := Lib.hid hr
  have Htab := Lib.hid htab
  have hc1 : (code != 0) = true := by simpa using hc
  have HS : Hid (∀ W, Below ((w.alloc (.cells #[.int .i64 code, .int .i64 ver, .bool more, .string dp, .string dn, .string da, .string dr, .slice Ao obl.length co, .slice Al lnl.length cl, .slice Ae evl.length ce, .slice An nml.length cn, .int .i64 s0, .int .i64 s1, .int .i64 s2, .int .i64 s3, .int .i64 s4, .int .i64 s5] 32)).alloc (.cells #[.string dp, .string dn, .string da, .string dr] 24)).heap.size ((w.alloc (.cells #[.int .i64 code, .int .i64 ver, .bool more, .string dp, .string dn, .string da, .string dr, .slice Ao obl.length co, .slice Al lnl.length cl, .slice Ae evl.length ce, .slice An nml.length cn, .int .i64 s0, .int .i64 s1, .int .i64 s2, .int .i64 s3, .int .i64 s4, .int .i64 s5] 32)).alloc (.cells #[.string dp, .string dn, .string da, .string dr] 24)) W → W.cell? ⟨w.heap.size, 0, none⟩ = some (.int .i64 code) ∧ W.cell? ⟨w.heap.size, 1, none⟩ = some (.int .i64 ver) ∧ W.cell? ⟨w.heap.size + 1, 0, none⟩ = some (.string dp) ∧ W.cell? ⟨w.heap.size + 1, 1, none⟩ = some (.string dn) ∧ W.cell? ⟨w.heap.size + 1, 2, none⟩ = some (.string da) ∧ W.cell? ⟨w.heap.size + 1, 3, none⟩ = some (.string dr) ∧ Below ((w.alloc (.cells #[.int .i64 code, .int .i64 ver, .bool more, .string dp, .string dn, .string da, .string dr, .slice Ao obl.length co, .slice Al lnl.length cl, .slice Ae evl.length ce, .slice An nml.length cn, .int .i64 s0, .int .i64 s1, .int .i64 s2, .int .i64 s3, .int .i64 s4, .int .i64 s5] 32)).alloc (.cells #[.string dp, .string dn, .string da, .string dr] 24)).heap.size ((w.alloc (.cells #[.int .i64 code, .int .i64 ver, .bool more, .string dp, .string dn, .string da, .string dr, .slice Ao obl.length co, .slice Al lnl.length cl, .slice Ae evl.length ce, .slice An nml.length cn, .int .i64 s0, .int .i64 s1, .int .i64 s2, .int .i64 s3, .int .i64 s4, .int .i64 s5] 32)).alloc (.cells #[.string dp, .string dn, .string da, .string dr] 24)) W) := by
    intro W hW
    have hb := blk_below (blk_alloc (blk_new w (.cells #[.int .i64 code, .int .i64 ver, .bool more, .string dp, .string dn, .string da, .string dr, .slice Ao obl.length co, .slice Al lnl.length cl, .slice Ae evl.length ce, .slice An nml.length cn, .int .i64 s0, .int .i64 s1, .int .i64 s2, .int .i64 s3, .int .i64 s4, .int .i64 s5] 32)) (.cells #[.string dp, .string dn, .string da, .string dr] 24)) hW
    have hb2 := blk_below (blk_newE (w := (w.alloc (.cells #[.int .i64 code, .int .i64 ver, .bool more, .string dp, .string dn, .string da, .string dr, .slice Ao obl.length co, .slice Al lnl.length cl, .slice Ae evl.length ce, .slice An nml.length cn, .int .i64 s0, .int .i64 s1, .int .i64 s2, .int .i64 s3, .int .i64 s4, .int .i64 s5] 32))) (k := w.heap.size + 1) (.cells #[.string dp, .string dn, .string da, .string dr] 24) (by simp)) hW
    exact ⟨by rw [Lib.cell_of_heap hb]; rfl, by rw [Lib.cell_of_heap hb]; rfl, by rw [Lib.cell_of_heap hb2]; rfl, by rw [Lib.cell_of_heap hb2]; rfl, by rw [Lib.cell_of_heap hb2]; rfl, by rw [Lib.cell_of_heap hb2]; rfl, hW⟩
  have HT2 : Hid (∀ W W', Below ((w.alloc (.cells #[.int .i64 code, .int .i64 ver, .bool more, .string dp, .string dn, .string da, .string dr, .slice Ao obl.length co, .slice Al lnl.length cl, .slice Ae evl.length ce, .slice An nml.length cn, .int .i64 s0, .int .i64 s1, .int .i64 s2, .int .i64 s3, .int .i64 s4, .int .i64 s5] 32)).alloc (.cells #[.string dp, .string dn, .string da, .string dr] 24)).heap.size ((w.alloc (.cells #[.int .i64 code, .int .i64 ver, .bool more, .string dp, .string dn, .string da, .string dr, .slice Ao obl.length co, .slice Al lnl.length cl, .slice Ae evl.length ce, .slice An nml.length cn, .int .i64 s0, .int .i64 s1, .int .i64 s2, .int .i64 s3, .int .i64 s4, .int .i64 s5] 32)).alloc (.cells #[.string dp, .string dn, .string da, .string dr] 24)) W → Below W.heap.size W W' → Below ((w.alloc (.cells #[.int .i64 code, .int .i64 ver, .bool more, .string dp, .string dn, .string da, .string dr, .slice Ao obl.length co, .slice Al lnl.length cl, .slice Ae evl.length ce, .slice An nml.length cn, .int .i64 s0, .int .i64 s1, .int .i64 s2, .int .i64 s3, .int .i64 s4, .int .i64 s5] 32)).alloc (.cells #[.string dp, .string dn, .string da, .string dr] 24)).heap.size ((w.alloc (.cells #[.int .i64 code, .int .i64 ver, .bool more, .string dp, .string dn, .string da, .string dr, .slice Ao obl.length co, .slice Al lnl.length cl, .slice Ae evl.length ce, .slice An nml.length cn, .int .i64 s0, .int .i64 s1, .int .i64 s2, .int .i64 s3, .int .i64 s4, .int .i64 s5] 32)).alloc (.cells #[.string dp, .string dn, .string da, .string dr] 24)) W') := fun W W' h1 h2 => h1.trans (h2.mono h1.size)
  have HB1 : Hid (Below ((w.alloc (.cells #[.int .i64 code, .int .i64 ver, .bool more, .string dp, .string dn, .string da, .string dr, .slice Ao obl.length co, .slice Al lnl.length cl, .slice Ae evl.length ce, .slice An nml.length cn, .int .i64 s0, .int .i64 s1, .int .i64 s2, .int .i64 s3, .int .i64 s4, .int .i64 s5] 32)).alloc (.cells #[.string dp, .string dn, .string da, .string dr] 24)).heap.size ((w.alloc (.cells #[.int .i64 code, .int .i64 ver, .bool more, .string dp, .string dn, .string da, .string dr, .slice Ao obl.length co, .slice Al lnl.length cl, .slice Ae evl.length ce, .slice An nml.length cn, .int .i64 s0, .int .i64 s1, .int .i64 s2, .int .i64 s3, .int .i64 s4, .int .i64 s5] 32)).alloc (.cells #[.string dp, .string dn, .string da, .string dr] 24)) ((w.alloc (.cells #[.int .i64 code, .int .i64 ver, .bool more, .string dp, .string dn, .string da, .string dr, .slice Ao obl.length co, .slice Al lnl.length cl, .slice Ae evl.length ce, .slice An nml.length cn, .int .i64 s0, .int .i64 s1, .int .i64 s2, .int .i64 s3, .int .i64 s4, .int .i64 s5] 32)).alloc (.cells #[.string dp, .string dn, .string da, .string dr] 24)).drew) := drewB (Below.refl _ _) 1
  have HP : Hid (∀ W, Below ((w.alloc (.cells #[.int .i64 code, .int .i64 ver, .bool more, .string dp, .string dn, .string da, .string dr, .slice Ao obl.length co, .slice Al lnl.length cl, .slice Ae evl.length ce, .slice An nml.length cn, .int .i64 s0, .int .i64 s1, .int .i64 s2, .int .i64 s3, .int .i64 s4, .int .i64 s5] 32)).alloc (.cells #[.string dp, .string dn, .string da, .string dr] 24)).heap.size ((w.alloc (.cells #[.int .i64 code, .int .i64 ver, .bool more, .string dp, .string dn, .string da, .string dr, .slice Ao obl.length co, .slice Al lnl.length cl, .slice Ae evl.length ce, .slice An nml.length cn, .int .i64 s0, .int .i64 s1, .int .i64 s2, .int .i64 s3, .int .i64 s4, .int .i64 s5] 32)).alloc (.cells #[.string dp, .string dn, .string da, .string dr] 24)) W → PowTab W) := fun W hW => Htab.out.below ((((Below.refl _ _).alloc (Nat.le_refl _) _).alloc (by simp) _).trans (hW.mono (by simp; omega)))
  have HBw : Hid (∀ W, Below ((w.alloc (.cells #[.int .i64 code, .int .i64 ver, .bool more, .string dp, .string dn, .string da, .string dr, .slice Ao obl.length co, .slice Al lnl.length cl, .slice Ae evl.length ce, .slice An nml.length cn, .int .i64 s0, .int .i64 s1, .int .i64 s2, .int .i64 s3, .int .i64 s4, .int .i64 s5] 32)).alloc (.cells #[.string dp, .string dn, .string da, .string dr] 24)).heap.size ((w.alloc (.cells #[.int .i64 code, .int .i64 ver, .bool more, .string dp, .string dn, .string da, .string dr, .slice Ao obl.length co, .slice Al lnl.length cl, .slice Ae evl.length ce, .slice An nml.length cn, .int .i64 s0, .int .i64 s1, .int .i64 s2, .int .i64 s3, .int .i64 s4, .int .i64 s5] 32)).alloc (.cells #[.string dp, .string dn, .string da, .string dr] 24)) W → Below w.heap.size w W) := fun W hW => (((Below.refl _ _).alloc (Nat.le_refl _) _).alloc (by simp) _).trans (hW.mono (by simp; omega))

  clear hr htab hlen hl2
  go_enter Tryd.func5, Tryd.ntmps5
  go_wp2
  go_region_held3 (fun W => W.cell? ⟨w.heap.size, 0, none⟩ = some (.int .i64 code) ∧ W.cell? ⟨w.heap.size, 1, none⟩ = some (.int .i64 ver) ∧ W.cell? ⟨w.heap.size + 1, 0, none⟩ = some (.string dp) ∧ W.cell? ⟨w.heap.size + 1, 1, none⟩ = some (.string dn) ∧ W.cell? ⟨w.heap.size + 1, 2, none⟩ = some (.string da) ∧ W.cell? ⟨w.heap.size + 1, 3, none⟩ = some (.string dr) ∧ Below ((w.alloc (.cells #[.int .i64 code, .int .i64 ver, .bool more, .string dp, .string dn, .string da, .string dr, .slice Ao obl.length co, .slice Al lnl.length cl, .slice Ae evl.length ce, .slice An nml.length cn, .int .i64 s0, .int .i64 s1, .int .i64 s2, .int .i64 s3, .int .i64 s4, .int .i64 s5] 32)).alloc (.cells #[.string dp, .string dn, .string da, .string dr] 24)).heap.size ((w.alloc (.cells #[.int .i64 code, .int .i64 ver, .bool more, .string dp, .string dn, .string da, .string dr, .slice Ao obl.length co, .slice Al lnl.length cl, .slice Ae evl.length ce, .slice An nml.length cn, .int .i64 s0, .int .i64 s1, .int .i64 s2, .int .i64 s3, .int .i64 s4, .int .i64 s5] 32)).alloc (.cells #[.string dp, .string dn, .string da, .string dr] 24)) W)
    (first | exact HS.out _ HB1.out | exact HS.out _ HW1.out | exact HS.out _ HW2.out)
    (first
      | ((go_at_call 9); ((with_reducible refine (itoaI_calls code Hr.out.code _ (HP.out _ HB1.out)).mono ?_)); (rintro e w1 ⟨rfl, h1⟩); (have HW1 := Lib.hid (HT2.out _ _ HB1.out h1)); (have z1_0 : ¬ 9223372036854775807 < 3 + (Lib.itoa code).length := (by have := Hhs.out; omega)); (have z1_1 : ¬ 9223372036854775807 < 3 + (Lib.itoa code).length + 1 := (by have := Hhs.out; omega)); (clear h1))
      | ((go_at_call 10); ((with_reducible refine (ritoa_calls ver Hr.out.ver _ (HP.out _ HW1.out)).mono ?_)); (rintro e w2 ⟨rfl, h2⟩); (have HW2 := Lib.hid (HT2.out _ _ HW1.out h2)); (have z2_0 : ¬ 9223372036854775807 < 3 + (Lib.itoa code).length + 1 + (Lib.itoa ver).length := (by have := Hhs.out; omega)); (have z2_1 : ¬ 9223372036854775807 < 3 + (Lib.itoa code).length + 1 + (Lib.itoa ver).length + 1 := (by have := Hhs.out; omega)); (clear h2))
      | ((go_at_call 11); ((with_reducible refine (ror_calls dp _).mono ?_)); (rintro e w3 ⟨⟨_, rfl, t3, rfl, h3⟩, rfl⟩); (have Ht3 := Lib.hid h3); (have Hs3 : Hid (t3.size = (orS dp.data.toList).length) := (by show _ = _; rw [size_toList, h3])); (have z3_0 : ¬ 9223372036854775807 < 3 + (Lib.itoa code).length + 1 + (Lib.itoa ver).length + 1 + t3.size := (by have := Hhs.out; have := Hs3.out; omega)); (have z3_1 : ¬ 9223372036854775807 < 3 + (Lib.itoa code).length + 1 + (Lib.itoa ver).length + 1 + t3.size + 1 := (by have := Hhs.out; have := Hs3.out; omega)); (clear h3))
      | ((go_at_call 11); ((with_reducible refine (ror_calls dn _).mono ?_)); (rintro e w4 ⟨⟨_, rfl, t4, rfl, h4⟩, rfl⟩); (have Ht4 := Lib.hid h4); (have Hs4 : Hid (t4.size = (orS dn.data.toList).length) := (by show _ = _; rw [size_toList, h4])); (have z4_0 : ¬ 9223372036854775807 < 3 + (Lib.itoa code).length + 1 + (Lib.itoa ver).length + 1 + t3.size + 1 + t4.size := (by have := Hhs.out; have := Hs3.out; have := Hs4.out; omega)); (have z4_1 : ¬ 9223372036854775807 < 3 + (Lib.itoa code).length + 1 + (Lib.itoa ver).length + 1 + t3.size + 1 + t4.size + 1 := (by have := Hhs.out; have := Hs3.out; have := Hs4.out; omega)); (clear h4))
      | ((go_at_call 11); ((with_reducible refine (ror_calls da _).mono ?_)); (rintro e w5 ⟨⟨_, rfl, t5, rfl, h5⟩, rfl⟩); (have Ht5 := Lib.hid h5); (have Hs5 : Hid (t5.size = (orS da.data.toList).length) := (by show _ = _; rw [size_toList, h5])); (have z5_0 : ¬ 9223372036854775807 < 3 + (Lib.itoa code).length + 1 + (Lib.itoa ver).length + 1 + t3.size + 1 + t4.size + 1 + t5.size := (by have := Hhs.out; have := Hs3.out; have := Hs4.out; have := Hs5.out; omega)); (have z5_1 : ¬ 9223372036854775807 < 3 + (Lib.itoa code).length + 1 + (Lib.itoa ver).length + 1 + t3.size + 1 + t4.size + 1 + t5.size + 1 := (by have := Hhs.out; have := Hs3.out; have := Hs4.out; have := Hs5.out; omega)); (clear h5))
      | ((go_at_call 11); ((with_reducible refine (ror_calls dr _).mono ?_)); (rintro e w6 ⟨⟨_, rfl, t6, rfl, h6⟩, rfl⟩); (have Ht6 := Lib.hid h6); (have Hs6 : Hid (t6.size = (orS dr.data.toList).length) := (by show _ = _; rw [size_toList, h6])); (have z6_0 : ¬ 9223372036854775807 < 3 + (Lib.itoa code).length + 1 + (Lib.itoa ver).length + 1 + t3.size + 1 + t4.size + 1 + t5.size + 1 + t6.size := (by have := Hhs.out; have := Hs3.out; have := Hs4.out; have := Hs5.out; have := Hs6.out; omega)); (have z6_1 : ¬ 9223372036854775807 < 3 + (Lib.itoa code).length + 1 + (Lib.itoa ver).length + 1 + t3.size + 1 + t4.size + 1 + t5.size + 1 + t6.size + 1 := (by have := Hhs.out; have := Hs3.out; have := Hs4.out; have := Hs5.out; have := Hs6.out; omega)); (clear h6)))
  have Hw := Lib.hid (HBw.out _ HW2.out)
  clear HS HT2 HB1 HP HBw
  go_wp2
  go_ret
  refine ⟨_, rfl, ⟨_, rfl, ?_⟩, Hw.out⟩
  rw [Htx.out]
  simp [tellS, Re.noParts, partsS, Pt.txt, Ht3.out, Ht4.out, Ht5.out, Ht6.out]

theorem gr_box {w w1 : World} {bx : Obj} (h : Below (w.heap.size + 1) (w.alloc bx) w1) : w1.heap[w.heap.size]? = some bx := (h.block _ (by omega)).trans (blk_new w _)
theorem gr_base {w w1 : World} {bx : Obj} (h : Below (w.heap.size + 1) (w.alloc bx) w1) : Below w.heap.size w w1 := ((Below.refl _ _).alloc (Nat.le_refl _) _).trans (h.mono (by omega))
theorem gr_below {w w1 w2 : World} {bx : Obj} (h : Below (w.heap.size + 1) (w.alloc bx) w1) (k : Below w1.heap.size w1 w2) : Below (w.heap.size + 1) (w.alloc bx) w2 := h.trans (k.mono (by have := h.size; simpa using this))
theorem okS_len (n : Int) : (tellS [111, 107] [.i64 n]).length = 3 + (Lib.itoa n).length + 1 := by
  simp only [tellS, partsS, List.flatMap_cons, List.flatMap_nil, List.length_append, List.length_cons, List.length_nil, Pt.txt]; omega
def RNm (w : World) (bx : Obj) (base : List UInt8) (l : List ByteArray) (v6 v7 : Value) (w1 : World) : Prop := ∃ (i : Nat) (s : ByteArray), i ≤ l.length ∧ v7 = .int .i64 i ∧ v6 = .string s ∧ s.data.toList = base ++ (l.take i).flatMap nmTxt ∧ Below (w.heap.size + 1) (w.alloc bx) w1
def RLn (w : World) (bx : Obj) (base : List UInt8) (l : List Ln) (v6 v7 : Value) (w1 : World) : Prop := ∃ (i : Nat) (s : ByteArray), i ≤ l.length ∧ v7 = .int .i64 i ∧ v6 = .string s ∧ s.data.toList = base ++ (l.take i).flatMap Ln.txt ∧ Below (w.heap.size + 1) (w.alloc bx) w1
def REv (w : World) (bx : Obj) (base : List UInt8) (l : List Ev) (v6 v7 : Value) (w1 : World) : Prop := ∃ (i : Nat) (s : ByteArray), i ≤ l.length ∧ v7 = .int .i64 i ∧ v6 = .string s ∧ s.data.toList = base ++ (l.take i).flatMap Ev.txt ∧ Below (w.heap.size + 1) (w.alloc bx) w1

set_option maxRecDepth 100000 in
set_option maxHeartbeats 3200000 in
theorem rtell_other_calls (op : Int) (ver : Int) (more : Bool) (dp dn da dr : ByteArray) (Ao : Option Addr) (co : Nat) (obl : List Ob) (Al : Option Addr) (cl : Nat) (lnl : List Ln) (Ae : Option Addr) (ce : Nat) (evl : List Ev) (An : Option Addr) (cn : Nat) (nml : List ByteArray) (s0 s1 s2 s3 s4 s5 : Int) (w : World) (h7 : ¬ op = 7) (h8 : ¬ op = 8) (h9 : ¬ op = 9) (h10 : ¬ op = 10) (h11 : ¬ op = 11) (h12 : ¬ op = 12) (h13 : ¬ op = 13) (h16 : ¬ op = 16) (h19 : ¬ op = 19) (hr : ReOk w (⟨0, ver, more, dp, dn, da, dr, .slice Ao obl.length co, obl, .slice Al lnl.length cl, lnl, .slice Ae evl.length ce, evl, .slice An nml.length cn, nml, s0, s1, s2, s3, s4, s5⟩ : Re)) (hlen : ((⟨0, ver, more, dp, dn, da, dr, .slice Ao obl.length co, obl, .slice Al lnl.length cl, lnl, .slice Ae evl.length ce, evl, .slice An nml.length cn, nml, s0, s1, s2, s3, s4, s5⟩ : Re).txt op).length ≤ 1099511627776) (htab : PowTab w) :
    Calls Tryd.prog 5 #[.int .i64 op, reAgg (⟨0, ver, more, dp, dn, da, dr, .slice Ao obl.length co, obl, .slice Al lnl.length cl, lnl, .slice Ae evl.length ce, evl, .slice An nml.length cn, nml, s0, s1, s2, s3, s4, s5⟩ : Re)] w fun e w' => ∃ sv, e = .returned sv ∧ StrIs sv ((⟨0, ver, more, dp, dn, da, dr, .slice Ao obl.length co, obl, .slice Al lnl.length cl, lnl, .slice Ae evl.length ce, evl, .slice An nml.length cn, nml, s0, s1, s2, s3, s4, s5⟩ : Re).txt op) ∧ Below w.heap.size w w' := by
  have Hr := Lib.hid hr
  have Htab := Lib.hid htab
  have Htx : Hid ((⟨0, ver, more, dp, dn, da, dr, .slice Ao obl.length co, obl, .slice Al lnl.length cl, lnl, .slice Ae evl.length ce, evl, .slice An nml.length cn, nml, s0, s1, s2, s3, s4, s5⟩ : Re).txt op = (⟨0, ver, more, dp, dn, da, dr, .slice Ao obl.length co, obl, .slice Al lnl.length cl, lnl, .slice Ae evl.length ce, evl, .slice An nml.length cn, nml, s0, s1, s2, s3, s4, s5⟩ : Re).okS ++ (⟨0, ver, more, dp, dn, da, dr, .slice Ao obl.length co, obl, .slice Al lnl.length cl, lnl, .slice Ae evl.length ce, evl, .slice An nml.length cn, nml, s0, s1, s2, s3, s4, s5⟩ : Re).rest op) := if_pos rfl
  have hlen2 : ((⟨0, ver, more, dp, dn, da, dr, .slice Ao obl.length co, obl, .slice Al lnl.length cl, lnl, .slice Ae evl.length ce, evl, .slice An nml.length cn, nml, s0, s1, s2, s3, s4, s5⟩ : Re).okS ++ (⟨0, ver, more, dp, dn, da, dr, .slice Ao obl.length co, obl, .slice Al lnl.length cl, lnl, .slice Ae evl.length ce, evl, .slice An nml.length cn, nml, s0, s1, s2, s3, s4, s5⟩ : Re).rest op).length ≤ 1099511627776 := by rw [← Htx.out]; exact hlen
  have Hlen := Lib.hid hlen2
  have hitl : (Lib.itoa ver).length + 4 ≤ 1099511627776 := by
    have h1 := hlen2
    rw [List.length_append, show (⟨0, ver, more, dp, dn, da, dr, .slice Ao obl.length co, obl, .slice Al lnl.length cl, lnl, .slice Ae evl.length ce, evl, .slice An nml.length cn, nml, s0, s1, s2, s3, s4, s5⟩ : Re).okS = tellS [111, 107] [.i64 ver] from rfl, okS_len] at h1; omega
  have zk0 : ¬ 9223372036854775807 < 3 + (Lib.itoa ver).length := by omega
  have zk1 : ¬ 9223372036854775807 < 3 + (Lib.itoa ver).length + 1 := by omega
  have Hrest : Hid ((⟨0, ver, more, dp, dn, da, dr, .slice Ao obl.length co, obl, .slice Al lnl.length cl, lnl, .slice Ae evl.length ce, evl, .slice An nml.length cn, nml, s0, s1, s2, s3, s4, s5⟩ : Re).rest op = []) := by
    show _ = _
    unfold Re.rest
    rw [if_neg h10, if_neg (by omega), if_neg h11, if_neg h12, if_neg h13, if_neg h19]
  have g7 : (op == 7) = false := by simpa using h7
  have g8 : (op == 8) = false := by simpa using h8
  have g9 : (op == 9) = false := by simpa using h9
  have g10 : (op == 10) = false := by simpa using h10
  have g11 : (op == 11) = false := by simpa using h11
  have g12 : (op == 12) = false := by simpa using h12
  have g13 : (op == 13) = false := by simpa using h13
  have g16 : (op == 16) = false := by simpa using h16
  have g19 : (op == 19) = false := by simpa using h19
  clear hr htab hlen hlen2 hitl
  go_enter Tryd.func5, Tryd.ntmps5
  go_wp2_with fail
  refine (ritoa_calls ver Hr.out.ver _ (Htab.out.below ((Below.refl _ _).alloc (Nat.le_refl _) _))).mono ?_
  rintro e w3 ⟨rfl, hw3⟩
  have H3 : Hid (Below (w.heap.size + 1) (w.alloc (.cells #[.int .i64 0, .int .i64 ver, .bool more, .string dp, .string dn, .string da, .string dr, .slice Ao obl.length co, .slice Al lnl.length cl, .slice Ae evl.length ce, .slice An nml.length cn, .int .i64 s0, .int .i64 s1, .int .i64 s2, .int .i64 s3, .int .i64 s4, .int .i64 s5] 32)) w3) := hw3.mono (by simp)
  clear hw3
  go_wp2
  go_ret
  refine ⟨_, rfl, ⟨_, rfl, ?_⟩, gr_base H3.out⟩
  rw [Htx.out, Hrest.out, show (⟨0, ver, more, dp, dn, da, dr, .slice Ao obl.length co, obl, .slice Al lnl.length cl, lnl, .slice Ae evl.length ce, evl, .slice An nml.length cn, nml, s0, s1, s2, s3, s4, s5⟩ : Re).okS = tellS [111, 107] [.i64 ver] from rfl]
  simp [tellS, partsS, Pt.txt]

set_option maxRecDepth 100000 in
set_option maxHeartbeats 3200000 in
theorem rtell_obj_calls (op : Int) (ver : Int) (more : Bool) (dp dn da dr : ByteArray) (Ao : Option Addr) (co : Nat) (obl : List Ob) (Al : Option Addr) (cl : Nat) (lnl : List Ln) (Ae : Option Addr) (ce : Nat) (evl : List Ev) (An : Option Addr) (cn : Nat) (nml : List ByteArray) (s0 s1 s2 s3 s4 s5 : Int) (w : World) (hop : op = 7 ∨ op = 8 ∨ op = 9 ∨ op = 16) (hr : ReOk w (⟨0, ver, more, dp, dn, da, dr, .slice Ao obl.length co, obl, .slice Al lnl.length cl, lnl, .slice Ae evl.length ce, evl, .slice An nml.length cn, nml, s0, s1, s2, s3, s4, s5⟩ : Re)) (hlen : ((⟨0, ver, more, dp, dn, da, dr, .slice Ao obl.length co, obl, .slice Al lnl.length cl, lnl, .slice Ae evl.length ce, evl, .slice An nml.length cn, nml, s0, s1, s2, s3, s4, s5⟩ : Re).txt op).length ≤ 1099511627776) (htab : PowTab w) :
    Calls Tryd.prog 5 #[.int .i64 op, reAgg (⟨0, ver, more, dp, dn, da, dr, .slice Ao obl.length co, obl, .slice Al lnl.length cl, lnl, .slice Ae evl.length ce, evl, .slice An nml.length cn, nml, s0, s1, s2, s3, s4, s5⟩ : Re)] w fun e w' => ∃ sv, e = .returned sv ∧ StrIs sv ((⟨0, ver, more, dp, dn, da, dr, .slice Ao obl.length co, obl, .slice Al lnl.length cl, lnl, .slice Ae evl.length ce, evl, .slice An nml.length cn, nml, s0, s1, s2, s3, s4, s5⟩ : Re).txt op) ∧ Below w.heap.size w w' := by
  have Hr := Lib.hid hr
  have Htab := Lib.hid htab
  have Htx : Hid ((⟨0, ver, more, dp, dn, da, dr, .slice Ao obl.length co, obl, .slice Al lnl.length cl, lnl, .slice Ae evl.length ce, evl, .slice An nml.length cn, nml, s0, s1, s2, s3, s4, s5⟩ : Re).txt op = (⟨0, ver, more, dp, dn, da, dr, .slice Ao obl.length co, obl, .slice Al lnl.length cl, lnl, .slice Ae evl.length ce, evl, .slice An nml.length cn, nml, s0, s1, s2, s3, s4, s5⟩ : Re).okS ++ (⟨0, ver, more, dp, dn, da, dr, .slice Ao obl.length co, obl, .slice Al lnl.length cl, lnl, .slice Ae evl.length ce, evl, .slice An nml.length cn, nml, s0, s1, s2, s3, s4, s5⟩ : Re).rest op) := if_pos rfl
  have hlen2 : ((⟨0, ver, more, dp, dn, da, dr, .slice Ao obl.length co, obl, .slice Al lnl.length cl, lnl, .slice Ae evl.length ce, evl, .slice An nml.length cn, nml, s0, s1, s2, s3, s4, s5⟩ : Re).okS ++ (⟨0, ver, more, dp, dn, da, dr, .slice Ao obl.length co, obl, .slice Al lnl.length cl, lnl, .slice Ae evl.length ce, evl, .slice An nml.length cn, nml, s0, s1, s2, s3, s4, s5⟩ : Re).rest op).length ≤ 1099511627776 := by rw [← Htx.out]; exact hlen
  have Hlen := Lib.hid hlen2
  have hitl : (Lib.itoa ver).length + 4 ≤ 1099511627776 := by
    have h1 := hlen2
    rw [List.length_append, show (⟨0, ver, more, dp, dn, da, dr, .slice Ao obl.length co, obl, .slice Al lnl.length cl, lnl, .slice Ae evl.length ce, evl, .slice An nml.length cn, nml, s0, s1, s2, s3, s4, s5⟩ : Re).okS = tellS [111, 107] [.i64 ver] from rfl, okS_len] at h1; omega
  have zk0 : ¬ 9223372036854775807 < 3 + (Lib.itoa ver).length := by omega
  have zk1 : ¬ 9223372036854775807 < 3 + (Lib.itoa ver).length + 1 := by omega
  have Hrest : Hid ((⟨0, ver, more, dp, dn, da, dr, .slice Ao obl.length co, obl, .slice Al lnl.length cl, lnl, .slice Ae evl.length ce, evl, .slice An nml.length cn, nml, s0, s1, s2, s3, s4, s5⟩ : Re).rest op = obsS obl) := by
    show _ = _
    unfold Re.rest
    rw [if_neg (by omega), if_pos hop]
  obtain rfl | rfl | rfl | rfl := hop
  all_goals
    clear hr htab hlen hlen2 hitl
    go_enter Tryd.func5, Tryd.ntmps5
    go_wp2_with fail
    refine (ritoa_calls ver Hr.out.ver _ (Htab.out.below ((Below.refl _ _).alloc (Nat.le_refl _) _))).mono ?_
    rintro e w3 ⟨rfl, hw3⟩
    have H3 : Hid (Below (w.heap.size + 1) (w.alloc (.cells #[.int .i64 0, .int .i64 ver, .bool more, .string dp, .string dn, .string da, .string dr, .slice Ao obl.length co, .slice Al lnl.length cl, .slice Ae evl.length ce, .slice An nml.length cn, .int .i64 s0, .int .i64 s1, .int .i64 s2, .int .i64 s3, .int .i64 s4, .int .i64 s5] 32)) w3) := hw3.mono (by simp)
    clear hw3
    have k7_w3 : w3.cell? ⟨w.heap.size, 7, none⟩ = some (.slice Ao obl.length co) := by rw [Lib.cell_of_heap (gr_box H3.out)]; rfl
    go_wp2_with fail
    generalize hsb : ByteArray.mk #[111, 107, 32] ++ ByteArray.mk (Lib.itoa ver).toArray ++ ByteArray.mk #[10] = sb
    have Hs0 : Hid (sb.data.toList = (⟨0, ver, more, dp, dn, da, dr, .slice Ao obl.length co, obl, .slice Al lnl.length cl, lnl, .slice Ae evl.length ce, evl, .slice An nml.length cn, nml, s0, s1, s2, s3, s4, s5⟩ : Re).okS) := by
      show _ = _
      rw [← hsb, show (⟨0, ver, more, dp, dn, da, dr, .slice Ao obl.length co, obl, .slice Al lnl.length cl, lnl, .slice Ae evl.length ce, evl, .slice An nml.length cn, nml, s0, s1, s2, s3, s4, s5⟩ : Re).okS = tellS [111, 107] [.i64 ver] from rfl]
      simp [tellS, partsS, Pt.txt]
    have Hsl : Hid (sb.size = (⟨0, ver, more, dp, dn, da, dr, .slice Ao obl.length co, obl, .slice Al lnl.length cl, lnl, .slice Ae evl.length ce, evl, .slice An nml.length cn, nml, s0, s1, s2, s3, s4, s5⟩ : Re).okS.length) := by show _ = _; rw [size_toList, Hs0.out]
    clear hsb zk0 zk1
    refine (robjects_calls _ obl _ (Hr.out.ob.below (gr_base H3.out)) (by have h := Hlen.out; rw [Hrest.out] at h; simp only [List.length_append] at h; omega) (Htab.out.below (gr_base H3.out))).mono ?_
    rintro e w5 ⟨_, rfl, ⟨t, rfl, ht⟩, h5⟩
    have Ht := Lib.hid ht
    have Hts : Hid (t.size = (obsS obl).length) := by show _ = _; rw [size_toList, ht]
    have H5 := Lib.hid (gr_below H3.out h5)
    have z5 : ¬ 9223372036854775807 < sb.size + t.size := by
      have h := Hlen.out; rw [Hrest.out] at h; simp only [List.length_append] at h; have h2 := Hsl.out; have h3 := Hts.out; omega
    clear ht h5
    go_wp2
    go_ret
    exact ⟨_, rfl, ⟨_, rfl, by rw [Htx.out, Hrest.out]; simp [Hs0.out, Ht.out]⟩, gr_base H5.out⟩

set_option maxRecDepth 100000 in
set_option maxHeartbeats 3200000 in
theorem rtell_list_calls (op : Int) (ver : Int) (more : Bool) (dp dn da dr : ByteArray) (Ao : Option Addr) (co : Nat) (obl : List Ob) (Al : Option Addr) (cl : Nat) (lnl : List Ln) (Ae : Option Addr) (ce : Nat) (evl : List Ev) (An : Option Addr) (cn : Nat) (nml : List ByteArray) (s0 s1 s2 s3 s4 s5 : Int) (w : World) (hop : op = 11) (hr : ReOk w (⟨0, ver, more, dp, dn, da, dr, .slice Ao obl.length co, obl, .slice Al lnl.length cl, lnl, .slice Ae evl.length ce, evl, .slice An nml.length cn, nml, s0, s1, s2, s3, s4, s5⟩ : Re)) (hlen : ((⟨0, ver, more, dp, dn, da, dr, .slice Ao obl.length co, obl, .slice Al lnl.length cl, lnl, .slice Ae evl.length ce, evl, .slice An nml.length cn, nml, s0, s1, s2, s3, s4, s5⟩ : Re).txt op).length ≤ 1099511627776) (htab : PowTab w) :
    Calls Tryd.prog 5 #[.int .i64 op, reAgg (⟨0, ver, more, dp, dn, da, dr, .slice Ao obl.length co, obl, .slice Al lnl.length cl, lnl, .slice Ae evl.length ce, evl, .slice An nml.length cn, nml, s0, s1, s2, s3, s4, s5⟩ : Re)] w fun e w' => ∃ sv, e = .returned sv ∧ StrIs sv ((⟨0, ver, more, dp, dn, da, dr, .slice Ao obl.length co, obl, .slice Al lnl.length cl, lnl, .slice Ae evl.length ce, evl, .slice An nml.length cn, nml, s0, s1, s2, s3, s4, s5⟩ : Re).txt op) ∧ Below w.heap.size w w' := by
  have Hr := Lib.hid hr
  have Htab := Lib.hid htab
  have Htx : Hid ((⟨0, ver, more, dp, dn, da, dr, .slice Ao obl.length co, obl, .slice Al lnl.length cl, lnl, .slice Ae evl.length ce, evl, .slice An nml.length cn, nml, s0, s1, s2, s3, s4, s5⟩ : Re).txt op = (⟨0, ver, more, dp, dn, da, dr, .slice Ao obl.length co, obl, .slice Al lnl.length cl, lnl, .slice Ae evl.length ce, evl, .slice An nml.length cn, nml, s0, s1, s2, s3, s4, s5⟩ : Re).okS ++ (⟨0, ver, more, dp, dn, da, dr, .slice Ao obl.length co, obl, .slice Al lnl.length cl, lnl, .slice Ae evl.length ce, evl, .slice An nml.length cn, nml, s0, s1, s2, s3, s4, s5⟩ : Re).rest op) := if_pos rfl
  have hlen2 : ((⟨0, ver, more, dp, dn, da, dr, .slice Ao obl.length co, obl, .slice Al lnl.length cl, lnl, .slice Ae evl.length ce, evl, .slice An nml.length cn, nml, s0, s1, s2, s3, s4, s5⟩ : Re).okS ++ (⟨0, ver, more, dp, dn, da, dr, .slice Ao obl.length co, obl, .slice Al lnl.length cl, lnl, .slice Ae evl.length ce, evl, .slice An nml.length cn, nml, s0, s1, s2, s3, s4, s5⟩ : Re).rest op).length ≤ 1099511627776 := by rw [← Htx.out]; exact hlen
  have Hlen := Lib.hid hlen2
  have hitl : (Lib.itoa ver).length + 4 ≤ 1099511627776 := by
    have h1 := hlen2
    rw [List.length_append, show (⟨0, ver, more, dp, dn, da, dr, .slice Ao obl.length co, obl, .slice Al lnl.length cl, lnl, .slice Ae evl.length ce, evl, .slice An nml.length cn, nml, s0, s1, s2, s3, s4, s5⟩ : Re).okS = tellS [111, 107] [.i64 ver] from rfl, okS_len] at h1; omega
  have zk0 : ¬ 9223372036854775807 < 3 + (Lib.itoa ver).length := by omega
  have zk1 : ¬ 9223372036854775807 < 3 + (Lib.itoa ver).length + 1 := by omega
  have Hrest : Hid ((⟨0, ver, more, dp, dn, da, dr, .slice Ao obl.length co, obl, .slice Al lnl.length cl, lnl, .slice Ae evl.length ce, evl, .slice An nml.length cn, nml, s0, s1, s2, s3, s4, s5⟩ : Re).rest op = obsS obl ++ moreS more) := by
    show _ = _
    unfold Re.rest
    rw [if_neg (by omega), if_neg (by omega), if_pos hop]
  subst hop
  clear hr htab hlen hlen2 hitl
  go_enter Tryd.func5, Tryd.ntmps5
  go_wp2_with fail
  refine (ritoa_calls ver Hr.out.ver _ (Htab.out.below ((Below.refl _ _).alloc (Nat.le_refl _) _))).mono ?_
  rintro e w3 ⟨rfl, hw3⟩
  have H3 : Hid (Below (w.heap.size + 1) (w.alloc (.cells #[.int .i64 0, .int .i64 ver, .bool more, .string dp, .string dn, .string da, .string dr, .slice Ao obl.length co, .slice Al lnl.length cl, .slice Ae evl.length ce, .slice An nml.length cn, .int .i64 s0, .int .i64 s1, .int .i64 s2, .int .i64 s3, .int .i64 s4, .int .i64 s5] 32)) w3) := hw3.mono (by simp)
  clear hw3
  have k7_w3 : w3.cell? ⟨w.heap.size, 7, none⟩ = some (.slice Ao obl.length co) := by rw [Lib.cell_of_heap (gr_box H3.out)]; rfl
  go_wp2_with fail
  generalize hsb : ByteArray.mk #[111, 107, 32] ++ ByteArray.mk (Lib.itoa ver).toArray ++ ByteArray.mk #[10] = sb
  have Hs0 : Hid (sb.data.toList = (⟨0, ver, more, dp, dn, da, dr, .slice Ao obl.length co, obl, .slice Al lnl.length cl, lnl, .slice Ae evl.length ce, evl, .slice An nml.length cn, nml, s0, s1, s2, s3, s4, s5⟩ : Re).okS) := by
    show _ = _
    rw [← hsb, show (⟨0, ver, more, dp, dn, da, dr, .slice Ao obl.length co, obl, .slice Al lnl.length cl, lnl, .slice Ae evl.length ce, evl, .slice An nml.length cn, nml, s0, s1, s2, s3, s4, s5⟩ : Re).okS = tellS [111, 107] [.i64 ver] from rfl]
    simp [tellS, partsS, Pt.txt]
  have Hsl : Hid (sb.size = (⟨0, ver, more, dp, dn, da, dr, .slice Ao obl.length co, obl, .slice Al lnl.length cl, lnl, .slice Ae evl.length ce, evl, .slice An nml.length cn, nml, s0, s1, s2, s3, s4, s5⟩ : Re).okS.length) := by show _ = _; rw [size_toList, Hs0.out]
  clear hsb zk0 zk1
  refine (robjects_calls _ obl _ (Hr.out.ob.below (gr_base H3.out)) (by have h := Hlen.out; rw [Hrest.out] at h; simp only [List.length_append] at h; omega) (Htab.out.below (gr_base H3.out))).mono ?_
  rintro e w5 ⟨_, rfl, ⟨t, rfl, ht⟩, h5⟩
  have Ht := Lib.hid ht
  have Hts : Hid (t.size = (obsS obl).length) := by show _ = _; rw [size_toList, ht]
  have H5 := Lib.hid (gr_below H3.out h5)
  have z5 : ¬ 9223372036854775807 < sb.size + t.size := by
    have h := Hlen.out; rw [Hrest.out] at h; simp only [List.length_append] at h; have h2 := Hsl.out; have h3 := Hts.out; omega
  clear ht h5
  cases more with
  | true =>
    have k2_w5 : w5.cell? ⟨w.heap.size, 2, none⟩ = some (.bool true) := by rw [Lib.cell_of_heap (gr_box H5.out)]; rfl
    have z6 : ¬ 9223372036854775807 < sb.size + t.size + 5 := by
      have h := Hlen.out; rw [Hrest.out] at h; simp only [List.length_append, show (moreS true).length = 5 from rfl] at h; have h2 := Hsl.out; have h3 := Hts.out; omega
    go_wp2
    go_ret
    exact ⟨_, rfl, ⟨_, rfl, by rw [Htx.out, Hrest.out]; simp [Hs0.out, Ht.out, moreS]⟩, gr_base H5.out⟩
  | false =>
    have k2_w5 : w5.cell? ⟨w.heap.size, 2, none⟩ = some (.bool false) := by rw [Lib.cell_of_heap (gr_box H5.out)]; rfl
    go_wp2
    go_ret
    exact ⟨_, rfl, ⟨_, rfl, by rw [Htx.out, Hrest.out]; simp [Hs0.out, Ht.out, moreS]⟩, gr_base H5.out⟩

set_option maxRecDepth 100000 in
set_option maxHeartbeats 3200000 in
theorem rtell_get_calls (op : Int) (ver : Int) (more : Bool) (dp dn da dr : ByteArray) (Ao : Option Addr) (co : Nat) (obl : List Ob) (Al : Option Addr) (cl : Nat) (lnl : List Ln) (Ae : Option Addr) (ce : Nat) (evl : List Ev) (An : Option Addr) (cn : Nat) (nml : List ByteArray) (s0 s1 s2 s3 s4 s5 : Int) (w : World) (hop : op = 10) (hr : ReOk w (⟨0, ver, more, dp, dn, da, dr, .slice Ao obl.length co, obl, .slice Al lnl.length cl, lnl, .slice Ae evl.length ce, evl, .slice An nml.length cn, nml, s0, s1, s2, s3, s4, s5⟩ : Re)) (hlen : ((⟨0, ver, more, dp, dn, da, dr, .slice Ao obl.length co, obl, .slice Al lnl.length cl, lnl, .slice Ae evl.length ce, evl, .slice An nml.length cn, nml, s0, s1, s2, s3, s4, s5⟩ : Re).txt op).length ≤ 1099511627776) (htab : PowTab w) :
    Calls Tryd.prog 5 #[.int .i64 op, reAgg (⟨0, ver, more, dp, dn, da, dr, .slice Ao obl.length co, obl, .slice Al lnl.length cl, lnl, .slice Ae evl.length ce, evl, .slice An nml.length cn, nml, s0, s1, s2, s3, s4, s5⟩ : Re)] w fun e w' => ∃ sv, e = .returned sv ∧ StrIs sv ((⟨0, ver, more, dp, dn, da, dr, .slice Ao obl.length co, obl, .slice Al lnl.length cl, lnl, .slice Ae evl.length ce, evl, .slice An nml.length cn, nml, s0, s1, s2, s3, s4, s5⟩ : Re).txt op) ∧ Below w.heap.size w w' := by
  have Hr := Lib.hid hr
  have Htab := Lib.hid htab
  have Htx : Hid ((⟨0, ver, more, dp, dn, da, dr, .slice Ao obl.length co, obl, .slice Al lnl.length cl, lnl, .slice Ae evl.length ce, evl, .slice An nml.length cn, nml, s0, s1, s2, s3, s4, s5⟩ : Re).txt op = (⟨0, ver, more, dp, dn, da, dr, .slice Ao obl.length co, obl, .slice Al lnl.length cl, lnl, .slice Ae evl.length ce, evl, .slice An nml.length cn, nml, s0, s1, s2, s3, s4, s5⟩ : Re).okS ++ (⟨0, ver, more, dp, dn, da, dr, .slice Ao obl.length co, obl, .slice Al lnl.length cl, lnl, .slice Ae evl.length ce, evl, .slice An nml.length cn, nml, s0, s1, s2, s3, s4, s5⟩ : Re).rest op) := if_pos rfl
  have hlen2 : ((⟨0, ver, more, dp, dn, da, dr, .slice Ao obl.length co, obl, .slice Al lnl.length cl, lnl, .slice Ae evl.length ce, evl, .slice An nml.length cn, nml, s0, s1, s2, s3, s4, s5⟩ : Re).okS ++ (⟨0, ver, more, dp, dn, da, dr, .slice Ao obl.length co, obl, .slice Al lnl.length cl, lnl, .slice Ae evl.length ce, evl, .slice An nml.length cn, nml, s0, s1, s2, s3, s4, s5⟩ : Re).rest op).length ≤ 1099511627776 := by rw [← Htx.out]; exact hlen
  have Hlen := Lib.hid hlen2
  have hitl : (Lib.itoa ver).length + 4 ≤ 1099511627776 := by
    have h1 := hlen2
    rw [List.length_append, show (⟨0, ver, more, dp, dn, da, dr, .slice Ao obl.length co, obl, .slice Al lnl.length cl, lnl, .slice Ae evl.length ce, evl, .slice An nml.length cn, nml, s0, s1, s2, s3, s4, s5⟩ : Re).okS = tellS [111, 107] [.i64 ver] from rfl, okS_len] at h1; omega
  have zk0 : ¬ 9223372036854775807 < 3 + (Lib.itoa ver).length := by omega
  have zk1 : ¬ 9223372036854775807 < 3 + (Lib.itoa ver).length + 1 := by omega
  have Hrest : Hid ((⟨0, ver, more, dp, dn, da, dr, .slice Ao obl.length co, obl, .slice Al lnl.length cl, lnl, .slice Ae evl.length ce, evl, .slice An nml.length cn, nml, s0, s1, s2, s3, s4, s5⟩ : Re).rest op = obsS obl ++ (nml.flatMap nmTxt ++ moreS more)) := by
    show _ = _
    unfold Re.rest
    rw [if_pos hop]
  subst hop
  have hnl : nml.length ≤ 1099511627776 := by
    have h1 := flat_count nmTxt (fun x => by simp [nmTxt, tellS]) nml
    have h := hlen2; rw [Hrest.out] at h; simp only [List.length_append] at h; omega
  clear hr htab hlen hlen2 hitl
  go_enter Tryd.func5, Tryd.ntmps5
  go_wp2_with fail
  refine (ritoa_calls ver Hr.out.ver _ (Htab.out.below ((Below.refl _ _).alloc (Nat.le_refl _) _))).mono ?_
  rintro e w3 ⟨rfl, hw3⟩
  have H3 : Hid (Below (w.heap.size + 1) (w.alloc (.cells #[.int .i64 0, .int .i64 ver, .bool more, .string dp, .string dn, .string da, .string dr, .slice Ao obl.length co, .slice Al lnl.length cl, .slice Ae evl.length ce, .slice An nml.length cn, .int .i64 s0, .int .i64 s1, .int .i64 s2, .int .i64 s3, .int .i64 s4, .int .i64 s5] 32)) w3) := hw3.mono (by simp)
  clear hw3
  have k7_w3 : w3.cell? ⟨w.heap.size, 7, none⟩ = some (.slice Ao obl.length co) := by rw [Lib.cell_of_heap (gr_box H3.out)]; rfl
  go_wp2_with fail
  generalize hsb : ByteArray.mk #[111, 107, 32] ++ ByteArray.mk (Lib.itoa ver).toArray ++ ByteArray.mk #[10] = sb
  have Hs0 : Hid (sb.data.toList = (⟨0, ver, more, dp, dn, da, dr, .slice Ao obl.length co, obl, .slice Al lnl.length cl, lnl, .slice Ae evl.length ce, evl, .slice An nml.length cn, nml, s0, s1, s2, s3, s4, s5⟩ : Re).okS) := by
    show _ = _
    rw [← hsb, show (⟨0, ver, more, dp, dn, da, dr, .slice Ao obl.length co, obl, .slice Al lnl.length cl, lnl, .slice Ae evl.length ce, evl, .slice An nml.length cn, nml, s0, s1, s2, s3, s4, s5⟩ : Re).okS = tellS [111, 107] [.i64 ver] from rfl]
    simp [tellS, partsS, Pt.txt]
  have Hsl : Hid (sb.size = (⟨0, ver, more, dp, dn, da, dr, .slice Ao obl.length co, obl, .slice Al lnl.length cl, lnl, .slice Ae evl.length ce, evl, .slice An nml.length cn, nml, s0, s1, s2, s3, s4, s5⟩ : Re).okS.length) := by show _ = _; rw [size_toList, Hs0.out]
  clear hsb zk0 zk1
  refine (robjects_calls _ obl _ (Hr.out.ob.below (gr_base H3.out)) (by have h := Hlen.out; rw [Hrest.out] at h; simp only [List.length_append] at h; omega) (Htab.out.below (gr_base H3.out))).mono ?_
  rintro e w5 ⟨_, rfl, ⟨t, rfl, ht⟩, h5⟩
  have Ht := Lib.hid ht
  have Hts : Hid (t.size = (obsS obl).length) := by show _ = _; rw [size_toList, ht]
  have H5 := Lib.hid (gr_below H3.out h5)
  have z5 : ¬ 9223372036854775807 < sb.size + t.size := by
    have h := Hlen.out; rw [Hrest.out] at h; simp only [List.length_append] at h; have h2 := Hsl.out; have h3 := Hts.out; omega
  clear ht h5
  have k10_w5 : w5.cell? ⟨w.heap.size, 10, none⟩ = some (.slice An nml.length cn) := by rw [Lib.cell_of_heap (gr_box H5.out)]; rfl
  have Hst : Hid (RNm w (.cells #[.int .i64 0, .int .i64 ver, .bool more, .string dp, .string dn, .string da, .string dr, .slice Ao obl.length co, .slice Al lnl.length cl, .slice Ae evl.length ce, .slice An nml.length cn, .int .i64 s0, .int .i64 s1, .int .i64 s2, .int .i64 s3, .int .i64 s4, .int .i64 s5] 32) ((⟨0, ver, more, dp, dn, da, dr, .slice Ao obl.length co, obl, .slice Al lnl.length cl, lnl, .slice Ae evl.length ce, evl, .slice An nml.length cn, nml, s0, s1, s2, s3, s4, s5⟩ : Re).okS ++ obsS obl) nml (.string (sb ++ t)) (.int .i64 0) w5) := ⟨0, _, Nat.zero_le _, rfl, rfl, by simp [Hs0.out, Ht.out], H5.out⟩
  go_wp2
  go_loopw [6, 7] (fun v6 v7 w1 => RNm w (.cells #[.int .i64 0, .int .i64 ver, .bool more, .string dp, .string dn, .string da, .string dr, .slice Ao obl.length co, .slice Al lnl.length cl, .slice Ae evl.length ce, .slice An nml.length cn, .int .i64 s0, .int .i64 s1, .int .i64 s2, .int .i64 s3, .int .i64 s4, .int .i64 s5] 32) ((⟨0, ver, more, dp, dn, da, dr, .slice Ao obl.length co, obl, .slice Al lnl.length cl, lnl, .slice Ae evl.length ce, evl, .slice An nml.length cn, nml, s0, s1, s2, s3, s4, s5⟩ : Re).okS ++ obsS obl) nml v6 v7 w1) (fun _ i _ => nml.length - (intOf i).toNat)
  case atStart => exact Hst.out
  case round =>
    clear Hst k10_w5 k7_w3 H5 H3 Hts Ht z5
    obtain ⟨i, s, hi, rfl, rfl, hs, hB⟩ := hrel
    have Hs := Lib.hid hs
    have HB := Lib.hid hB
    have k10_wr : wr.cell? ⟨w.heap.size, 10, none⟩ = some (.slice An nml.length cn) := by rw [Lib.cell_of_heap (gr_box hB)]; rfl
    by_cases hlt : i < nml.length
    · have hd := dT hlt
      obtain ⟨b, off, c', hv, hc', hb, hc0⟩ := nm_at (Hr.out.nm.below (gr_base hB)) i hlt
      cases hv
      have HT : Hid ((nml.take (i + 1)).flatMap nmTxt = (nml.take i).flatMap nmTxt ++ nmTxt nml[i]) := take_snoc nmTxt hlt
      have hsz : s.size + (nmTxt nml[i]).length ≤ 1099511627776 := by
        have h1 := take_len_le nmTxt hlt
        have h := Hlen.out; rw [Hrest.out] at h
        rw [size_toList s, hs]
        simp only [List.length_append] at h ⊢; omega
      generalize nml[i] = nm at hc0 HT hsz
      have hnl2 : (nmTxt nm).length = 5 + (orS nm.data.toList).length + 1 := by
        simp only [nmTxt, tellS, partsS, List.flatMap_cons, List.flatMap_nil, List.length_append, List.length_cons, List.length_nil, Pt.txt]; omega
      have hsz2 : s.size + 5 + (orS nm.data.toList).length + 1 ≤ 1099511627776 := by omega
      have Hsz := Lib.hid hsz2
      have zp : ¬ 9223372036854775807 < s.size + 5 := by omega
      have hi0 : (0 : Int) ≤ i := by omega
      clear hs hB hsz hnl2 hsz2
      go_wp2_with fail
      refine (ror_calls nm _).mono ?_
      rintro e w7 ⟨⟨_, rfl, t7, rfl, ht7⟩, rfl⟩
      have Ht7 := Lib.hid ht7
      have Hs7 : Hid (t7.size = (orS nm.data.toList).length) := by show _ = _; rw [size_toList, ht7]
      have zq : ¬ 9223372036854775807 < s.size + 5 + t7.size := by have := Hs7.out; have := Hsz.out; omega
      have zr : ¬ 9223372036854775807 < s.size + 5 + t7.size + 1 := by have := Hs7.out; have := Hsz.out; omega
      have Hn : Hid (RNm w (.cells #[.int .i64 0, .int .i64 ver, .bool more, .string dp, .string dn, .string da, .string dr, .slice Ao obl.length co, .slice Al lnl.length cl, .slice Ae evl.length ce, .slice (some ⟨b, off, none⟩) nml.length cn, .int .i64 s0, .int .i64 s1, .int .i64 s2, .int .i64 s3, .int .i64 s4, .int .i64 s5] 32) ((⟨0, ver, more, dp, dn, da, dr, .slice Ao obl.length co, obl, .slice Al lnl.length cl, lnl, .slice Ae evl.length ce, evl, .slice (some ⟨b, off, none⟩) nml.length cn, nml, s0, s1, s2, s3, s4, s5⟩ : Re).okS ++ obsS obl) nml (.string (s ++ ByteArray.mk #[110, 97, 109, 101, 32] ++ t7 ++ ByteArray.mk #[10])) (.int .i64 ((i : Int) + 1)) wr) := by
        refine ⟨i + 1, _, hlt, rfl, rfl, ?_, HB.out⟩
        rw [HT.out, ← List.append_assoc, ← Hs.out]
        simp [Ht7.out, nmTxt, tellS, partsS, Pt.txt]
      clear ht7
      go_wp2
      go_roundw
      case rel => exact Hn.out
      case measure => simp [intOf]; omega
    · obtain rfl : i = nml.length := by omega
      have hd := dF hlt
      rw [List.take_length] at Hs
      have Hss : Hid (s.size = ((⟨0, ver, more, dp, dn, da, dr, .slice Ao obl.length co, obl, .slice Al lnl.length cl, lnl, .slice Ae evl.length ce, evl, .slice An nml.length cn, nml, s0, s1, s2, s3, s4, s5⟩ : Re).okS ++ obsS obl ++ nml.flatMap nmTxt).length) := by show _ = _; rw [size_toList, Hs.out]
      clear hlt hs hB
      cases more with
      | true =>
        have k2_wr : wr.cell? ⟨w.heap.size, 2, none⟩ = some (.bool true) := by rw [Lib.cell_of_heap (gr_box HB.out)]; rfl
        have z6 : ¬ 9223372036854775807 < s.size + 5 := by
          have h := Hlen.out; rw [Hrest.out] at h; simp only [List.length_append, show (moreS true).length = 5 from rfl] at h; have h2 := Hss.out; simp only [List.length_append] at h2; omega
        go_wp2
        go_ret
        exact ⟨_, rfl, ⟨_, rfl, by rw [Htx.out, Hrest.out]; simp [Hs0.out, Hs.out, moreS]⟩, gr_base HB.out⟩
      | false =>
        have k2_wr : wr.cell? ⟨w.heap.size, 2, none⟩ = some (.bool false) := by rw [Lib.cell_of_heap (gr_box HB.out)]; rfl
        go_wp2
        go_ret
        exact ⟨_, rfl, ⟨_, rfl, by rw [Htx.out, Hrest.out]; simp [Hs0.out, Hs.out, moreS]⟩, gr_base HB.out⟩

set_option maxRecDepth 100000 in
set_option maxHeartbeats 3200000 in
theorem rtell_stat_calls (op : Int) (ver : Int) (more : Bool) (dp dn da dr : ByteArray) (Ao : Option Addr) (co : Nat) (obl : List Ob) (Al : Option Addr) (cl : Nat) (lnl : List Ln) (Ae : Option Addr) (ce : Nat) (evl : List Ev) (An : Option Addr) (cn : Nat) (nml : List ByteArray) (s0 s1 s2 s3 s4 s5 : Int) (w : World) (hop : op = 19) (hr : ReOk w (⟨0, ver, more, dp, dn, da, dr, .slice Ao obl.length co, obl, .slice Al lnl.length cl, lnl, .slice Ae evl.length ce, evl, .slice An nml.length cn, nml, s0, s1, s2, s3, s4, s5⟩ : Re)) (hlen : ((⟨0, ver, more, dp, dn, da, dr, .slice Ao obl.length co, obl, .slice Al lnl.length cl, lnl, .slice Ae evl.length ce, evl, .slice An nml.length cn, nml, s0, s1, s2, s3, s4, s5⟩ : Re).txt op).length ≤ 1099511627776) (htab : PowTab w) :
    Calls Tryd.prog 5 #[.int .i64 op, reAgg (⟨0, ver, more, dp, dn, da, dr, .slice Ao obl.length co, obl, .slice Al lnl.length cl, lnl, .slice Ae evl.length ce, evl, .slice An nml.length cn, nml, s0, s1, s2, s3, s4, s5⟩ : Re)] w fun e w' => ∃ sv, e = .returned sv ∧ StrIs sv ((⟨0, ver, more, dp, dn, da, dr, .slice Ao obl.length co, obl, .slice Al lnl.length cl, lnl, .slice Ae evl.length ce, evl, .slice An nml.length cn, nml, s0, s1, s2, s3, s4, s5⟩ : Re).txt op) ∧ Below w.heap.size w w' := by
  have Hr := Lib.hid hr
  have Htab := Lib.hid htab
  have Htx : Hid ((⟨0, ver, more, dp, dn, da, dr, .slice Ao obl.length co, obl, .slice Al lnl.length cl, lnl, .slice Ae evl.length ce, evl, .slice An nml.length cn, nml, s0, s1, s2, s3, s4, s5⟩ : Re).txt op = (⟨0, ver, more, dp, dn, da, dr, .slice Ao obl.length co, obl, .slice Al lnl.length cl, lnl, .slice Ae evl.length ce, evl, .slice An nml.length cn, nml, s0, s1, s2, s3, s4, s5⟩ : Re).okS ++ (⟨0, ver, more, dp, dn, da, dr, .slice Ao obl.length co, obl, .slice Al lnl.length cl, lnl, .slice Ae evl.length ce, evl, .slice An nml.length cn, nml, s0, s1, s2, s3, s4, s5⟩ : Re).rest op) := if_pos rfl
  have hlen2 : ((⟨0, ver, more, dp, dn, da, dr, .slice Ao obl.length co, obl, .slice Al lnl.length cl, lnl, .slice Ae evl.length ce, evl, .slice An nml.length cn, nml, s0, s1, s2, s3, s4, s5⟩ : Re).okS ++ (⟨0, ver, more, dp, dn, da, dr, .slice Ao obl.length co, obl, .slice Al lnl.length cl, lnl, .slice Ae evl.length ce, evl, .slice An nml.length cn, nml, s0, s1, s2, s3, s4, s5⟩ : Re).rest op).length ≤ 1099511627776 := by rw [← Htx.out]; exact hlen
  have Hlen := Lib.hid hlen2
  have hitl : (Lib.itoa ver).length + 4 ≤ 1099511627776 := by
    have h1 := hlen2
    rw [List.length_append, show (⟨0, ver, more, dp, dn, da, dr, .slice Ao obl.length co, obl, .slice Al lnl.length cl, lnl, .slice Ae evl.length ce, evl, .slice An nml.length cn, nml, s0, s1, s2, s3, s4, s5⟩ : Re).okS = tellS [111, 107] [.i64 ver] from rfl, okS_len] at h1; omega
  have zk0 : ¬ 9223372036854775807 < 3 + (Lib.itoa ver).length := by omega
  have zk1 : ¬ 9223372036854775807 < 3 + (Lib.itoa ver).length + 1 := by omega
  have Hrest : Hid ((⟨0, ver, more, dp, dn, da, dr, .slice Ao obl.length co, obl, .slice Al lnl.length cl, lnl, .slice Ae evl.length ce, evl, .slice An nml.length cn, nml, s0, s1, s2, s3, s4, s5⟩ : Re).rest op = tellS [115, 116, 97, 116] (⟨0, ver, more, dp, dn, da, dr, .slice Ao obl.length co, obl, .slice Al lnl.length cl, lnl, .slice Ae evl.length ce, evl, .slice An nml.length cn, nml, s0, s1, s2, s3, s4, s5⟩ : Re).stParts) := by
    show _ = _
    unfold Re.rest
    rw [if_neg (by omega), if_neg (by omega), if_neg (by omega), if_neg (by omega), if_neg (by omega), if_pos hop]
  subst hop
  clear hr htab hlen hlen2 hitl
  go_enter Tryd.func5, Tryd.ntmps5
  go_wp2_with fail
  refine (ritoa_calls ver Hr.out.ver _ (Htab.out.below ((Below.refl _ _).alloc (Nat.le_refl _) _))).mono ?_
  rintro e w3 ⟨rfl, hw3⟩
  have H3 : Hid (Below (w.heap.size + 1) (w.alloc (.cells #[.int .i64 0, .int .i64 ver, .bool more, .string dp, .string dn, .string da, .string dr, .slice Ao obl.length co, .slice Al lnl.length cl, .slice Ae evl.length ce, .slice An nml.length cn, .int .i64 s0, .int .i64 s1, .int .i64 s2, .int .i64 s3, .int .i64 s4, .int .i64 s5] 32)) w3) := hw3.mono (by simp)
  clear hw3
  have k11_w3 : w3.cell? ⟨w.heap.size, 11, none⟩ = some (.int .i64 s0) := by rw [Lib.cell_of_heap (gr_box H3.out)]; rfl
  have k12_w3 : w3.cell? ⟨w.heap.size, 12, none⟩ = some (.int .i64 s1) := by rw [Lib.cell_of_heap (gr_box H3.out)]; rfl
  have k13_w3 : w3.cell? ⟨w.heap.size, 13, none⟩ = some (.int .i64 s2) := by rw [Lib.cell_of_heap (gr_box H3.out)]; rfl
  have k14_w3 : w3.cell? ⟨w.heap.size, 14, none⟩ = some (.int .i64 s3) := by rw [Lib.cell_of_heap (gr_box H3.out)]; rfl
  have k15_w3 : w3.cell? ⟨w.heap.size, 15, none⟩ = some (.int .i64 s4) := by rw [Lib.cell_of_heap (gr_box H3.out)]; rfl
  have k16_w3 : w3.cell? ⟨w.heap.size, 16, none⟩ = some (.int .i64 s5) := by rw [Lib.cell_of_heap (gr_box H3.out)]; rfl
  have HS : Hid (∀ W, Below (w3.alloc (.cells #[.int .i64 s0, .int .i64 s1, .int .i64 s2, .int .i64 s3, .int .i64 s4, .int .i64 s5] 30)).heap.size (w3.alloc (.cells #[.int .i64 s0, .int .i64 s1, .int .i64 s2, .int .i64 s3, .int .i64 s4, .int .i64 s5] 30)) W → W.cell? ⟨w3.heap.size, 0, none⟩ = some (.int .i64 s0) ∧ W.cell? ⟨w3.heap.size, 1, none⟩ = some (.int .i64 s1) ∧ W.cell? ⟨w3.heap.size, 2, none⟩ = some (.int .i64 s2) ∧ W.cell? ⟨w3.heap.size, 3, none⟩ = some (.int .i64 s3) ∧ W.cell? ⟨w3.heap.size, 4, none⟩ = some (.int .i64 s4) ∧ W.cell? ⟨w3.heap.size, 5, none⟩ = some (.int .i64 s5) ∧ Below (w3.alloc (.cells #[.int .i64 s0, .int .i64 s1, .int .i64 s2, .int .i64 s3, .int .i64 s4, .int .i64 s5] 30)).heap.size (w3.alloc (.cells #[.int .i64 s0, .int .i64 s1, .int .i64 s2, .int .i64 s3, .int .i64 s4, .int .i64 s5] 30)) W) := by
    intro W hW
    have hb := blk_below (blk_new w3 (.cells #[.int .i64 s0, .int .i64 s1, .int .i64 s2, .int .i64 s3, .int .i64 s4, .int .i64 s5] 30)) hW
    exact ⟨by rw [Lib.cell_of_heap hb]; rfl, by rw [Lib.cell_of_heap hb]; rfl, by rw [Lib.cell_of_heap hb]; rfl, by rw [Lib.cell_of_heap hb]; rfl, by rw [Lib.cell_of_heap hb]; rfl, by rw [Lib.cell_of_heap hb]; rfl, hW⟩
  have HT2 : Hid (∀ W W', Below (w3.alloc (.cells #[.int .i64 s0, .int .i64 s1, .int .i64 s2, .int .i64 s3, .int .i64 s4, .int .i64 s5] 30)).heap.size (w3.alloc (.cells #[.int .i64 s0, .int .i64 s1, .int .i64 s2, .int .i64 s3, .int .i64 s4, .int .i64 s5] 30)) W → Below W.heap.size W W' → Below (w3.alloc (.cells #[.int .i64 s0, .int .i64 s1, .int .i64 s2, .int .i64 s3, .int .i64 s4, .int .i64 s5] 30)).heap.size (w3.alloc (.cells #[.int .i64 s0, .int .i64 s1, .int .i64 s2, .int .i64 s3, .int .i64 s4, .int .i64 s5] 30)) W') := fun W W' h1 h2 => h1.trans (h2.mono h1.size)
  have HB1 : Hid (Below (w3.alloc (.cells #[.int .i64 s0, .int .i64 s1, .int .i64 s2, .int .i64 s3, .int .i64 s4, .int .i64 s5] 30)).heap.size (w3.alloc (.cells #[.int .i64 s0, .int .i64 s1, .int .i64 s2, .int .i64 s3, .int .i64 s4, .int .i64 s5] 30)) (w3.alloc (.cells #[.int .i64 s0, .int .i64 s1, .int .i64 s2, .int .i64 s3, .int .i64 s4, .int .i64 s5] 30)).drew) := drewB (Below.refl _ _) 1
  have HP : Hid (∀ W, Below (w3.alloc (.cells #[.int .i64 s0, .int .i64 s1, .int .i64 s2, .int .i64 s3, .int .i64 s4, .int .i64 s5] 30)).heap.size (w3.alloc (.cells #[.int .i64 s0, .int .i64 s1, .int .i64 s2, .int .i64 s3, .int .i64 s4, .int .i64 s5] 30)) W → PowTab W) := fun W hW => Htab.out.below (gr_base (gr_below H3.out (((Below.refl _ _).alloc (Nat.le_refl _) _).trans (hW.mono (by simp)))))
  have HBw : Hid (∀ W, Below (w3.alloc (.cells #[.int .i64 s0, .int .i64 s1, .int .i64 s2, .int .i64 s3, .int .i64 s4, .int .i64 s5] 30)).heap.size (w3.alloc (.cells #[.int .i64 s0, .int .i64 s1, .int .i64 s2, .int .i64 s3, .int .i64 s4, .int .i64 s5] 30)) W → Below w.heap.size w W) := fun W hW => gr_base (gr_below H3.out (((Below.refl _ _).alloc (Nat.le_refl _) _).trans (hW.mono (by simp))))
  go_wp2
  generalize hsb : ByteArray.mk #[111, 107, 32] ++ ByteArray.mk (Lib.itoa ver).toArray ++ ByteArray.mk #[10] = sb
  have Hs0 : Hid (sb.data.toList = (⟨0, ver, more, dp, dn, da, dr, .slice Ao obl.length co, obl, .slice Al lnl.length cl, lnl, .slice Ae evl.length ce, evl, .slice An nml.length cn, nml, s0, s1, s2, s3, s4, s5⟩ : Re).okS) := by
    show _ = _
    rw [← hsb, show (⟨0, ver, more, dp, dn, da, dr, .slice Ao obl.length co, obl, .slice Al lnl.length cl, lnl, .slice Ae evl.length ce, evl, .slice An nml.length cn, nml, s0, s1, s2, s3, s4, s5⟩ : Re).okS = tellS [111, 107] [.i64 ver] from rfl]
    simp [tellS, partsS, Pt.txt]
  have Hsl : Hid (sb.size = (⟨0, ver, more, dp, dn, da, dr, .slice Ao obl.length co, obl, .slice Al lnl.length cl, lnl, .slice Ae evl.length ce, evl, .slice An nml.length cn, nml, s0, s1, s2, s3, s4, s5⟩ : Re).okS.length) := by show _ = _; rw [size_toList, Hs0.out]
  clear hsb zk0 zk1
  have Hhs : Hid (sb.size + 5 + (Lib.itoa s0).length + 1 + (Lib.itoa s1).length + 1 + (Lib.itoa s2).length + 1 + (Lib.itoa s3).length + 1 + (Lib.itoa s4).length + 1 + (Lib.itoa s5).length + 1 ≤ 1099511627776) := by
    have h := Hlen.out
    rw [Hrest.out, List.length_append, ← Hsl.out] at h
    simp only [tellS, Re.stParts, partsS, List.flatMap_cons, List.flatMap_nil, List.length_append, List.length_cons, List.length_nil, Pt.txt] at h
    show _ ≤ _
    omega
  have zp0 : ¬ 9223372036854775807 < sb.size + 5 := by have := Hhs.out; omega
  go_region_held3 (fun W => W.cell? ⟨w3.heap.size, 0, none⟩ = some (.int .i64 s0) ∧ W.cell? ⟨w3.heap.size, 1, none⟩ = some (.int .i64 s1) ∧ W.cell? ⟨w3.heap.size, 2, none⟩ = some (.int .i64 s2) ∧ W.cell? ⟨w3.heap.size, 3, none⟩ = some (.int .i64 s3) ∧ W.cell? ⟨w3.heap.size, 4, none⟩ = some (.int .i64 s4) ∧ W.cell? ⟨w3.heap.size, 5, none⟩ = some (.int .i64 s5) ∧ Below (w3.alloc (.cells #[.int .i64 s0, .int .i64 s1, .int .i64 s2, .int .i64 s3, .int .i64 s4, .int .i64 s5] 30)).heap.size (w3.alloc (.cells #[.int .i64 s0, .int .i64 s1, .int .i64 s2, .int .i64 s3, .int .i64 s4, .int .i64 s5] 30)) W)
    (first | exact HS.out _ HB1.out | exact HS.out _ HW1.out | exact HS.out _ HW2.out | exact HS.out _ HW3.out | exact HS.out _ HW4.out | exact HS.out _ HW5.out | exact HS.out _ HW6.out)
    (first
      | ((go_at_call 10); ((with_reducible refine (ritoa_calls s0 Hr.out.s0 _ (HP.out _ HB1.out)).mono ?_)); (rintro e w1 ⟨rfl, h1⟩); (have HW1 := Lib.hid (HT2.out _ _ HB1.out h1)); (have z1_0 : ¬ 9223372036854775807 < sb.size + 5 + (Lib.itoa s0).length := (by have := Hhs.out; omega)); (have z1_1 : ¬ 9223372036854775807 < sb.size + 5 + (Lib.itoa s0).length + 1 := (by have := Hhs.out; omega)); (clear h1))
      | ((go_at_call 10); ((with_reducible refine (ritoa_calls s1 Hr.out.s1 _ (HP.out _ HW1.out)).mono ?_)); (rintro e w2 ⟨rfl, h2⟩); (have HW2 := Lib.hid (HT2.out _ _ HW1.out h2)); (have z2_0 : ¬ 9223372036854775807 < sb.size + 5 + (Lib.itoa s0).length + 1 + (Lib.itoa s1).length := (by have := Hhs.out; omega)); (have z2_1 : ¬ 9223372036854775807 < sb.size + 5 + (Lib.itoa s0).length + 1 + (Lib.itoa s1).length + 1 := (by have := Hhs.out; omega)); (clear h2))
      | ((go_at_call 10); ((with_reducible refine (ritoa_calls s2 Hr.out.s2 _ (HP.out _ HW2.out)).mono ?_)); (rintro e w3 ⟨rfl, h3⟩); (have HW3 := Lib.hid (HT2.out _ _ HW2.out h3)); (have z3_0 : ¬ 9223372036854775807 < sb.size + 5 + (Lib.itoa s0).length + 1 + (Lib.itoa s1).length + 1 + (Lib.itoa s2).length := (by have := Hhs.out; omega)); (have z3_1 : ¬ 9223372036854775807 < sb.size + 5 + (Lib.itoa s0).length + 1 + (Lib.itoa s1).length + 1 + (Lib.itoa s2).length + 1 := (by have := Hhs.out; omega)); (clear h3))
      | ((go_at_call 9); ((with_reducible refine (itoaI_calls s3 Hr.out.s3 _ (HP.out _ HW3.out)).mono ?_)); (rintro e w4 ⟨rfl, h4⟩); (have HW4 := Lib.hid (HT2.out _ _ HW3.out h4)); (have z4_0 : ¬ 9223372036854775807 < sb.size + 5 + (Lib.itoa s0).length + 1 + (Lib.itoa s1).length + 1 + (Lib.itoa s2).length + 1 + (Lib.itoa s3).length := (by have := Hhs.out; omega)); (have z4_1 : ¬ 9223372036854775807 < sb.size + 5 + (Lib.itoa s0).length + 1 + (Lib.itoa s1).length + 1 + (Lib.itoa s2).length + 1 + (Lib.itoa s3).length + 1 := (by have := Hhs.out; omega)); (clear h4))
      | ((go_at_call 9); ((with_reducible refine (itoaI_calls s4 Hr.out.s4 _ (HP.out _ HW4.out)).mono ?_)); (rintro e w5 ⟨rfl, h5⟩); (have HW5 := Lib.hid (HT2.out _ _ HW4.out h5)); (have z5_0 : ¬ 9223372036854775807 < sb.size + 5 + (Lib.itoa s0).length + 1 + (Lib.itoa s1).length + 1 + (Lib.itoa s2).length + 1 + (Lib.itoa s3).length + 1 + (Lib.itoa s4).length := (by have := Hhs.out; omega)); (have z5_1 : ¬ 9223372036854775807 < sb.size + 5 + (Lib.itoa s0).length + 1 + (Lib.itoa s1).length + 1 + (Lib.itoa s2).length + 1 + (Lib.itoa s3).length + 1 + (Lib.itoa s4).length + 1 := (by have := Hhs.out; omega)); (clear h5))
      | ((go_at_call 9); ((with_reducible refine (itoaI_calls s5 Hr.out.s5 _ (HP.out _ HW5.out)).mono ?_)); (rintro e w6 ⟨rfl, h6⟩); (have HW6 := Lib.hid (HT2.out _ _ HW5.out h6)); (have z6_0 : ¬ 9223372036854775807 < sb.size + 5 + (Lib.itoa s0).length + 1 + (Lib.itoa s1).length + 1 + (Lib.itoa s2).length + 1 + (Lib.itoa s3).length + 1 + (Lib.itoa s4).length + 1 + (Lib.itoa s5).length := (by have := Hhs.out; omega)); (have z6_1 : ¬ 9223372036854775807 < sb.size + 5 + (Lib.itoa s0).length + 1 + (Lib.itoa s1).length + 1 + (Lib.itoa s2).length + 1 + (Lib.itoa s3).length + 1 + (Lib.itoa s4).length + 1 + (Lib.itoa s5).length + 1 := (by have := Hhs.out; omega)); (clear h6)))
  have Hw := Lib.hid (HBw.out _ HW6.out)
  clear HS HT2 HB1 HP HBw
  go_wp2
  go_ret
  refine ⟨_, rfl, ⟨_, rfl, ?_⟩, Hw.out⟩
  rw [Htx.out, Hrest.out]
  simp [tellS, Re.stParts, partsS, Pt.txt, Hs0.out]

set_option maxRecDepth 100000 in
set_option maxHeartbeats 3200000 in
theorem rtell_status_calls (op : Int) (ver : Int) (more : Bool) (dp dn da dr : ByteArray) (Ao : Option Addr) (co : Nat) (obl : List Ob) (Al : Option Addr) (cl : Nat) (lnl : List Ln) (Ae : Option Addr) (ce : Nat) (evl : List Ev) (An : Option Addr) (cn : Nat) (nml : List ByteArray) (s0 s1 s2 s3 s4 s5 : Int) (w : World) (hop : op = 12) (hr : ReOk w (⟨0, ver, more, dp, dn, da, dr, .slice Ao obl.length co, obl, .slice Al lnl.length cl, lnl, .slice Ae evl.length ce, evl, .slice An nml.length cn, nml, s0, s1, s2, s3, s4, s5⟩ : Re)) (hlen : ((⟨0, ver, more, dp, dn, da, dr, .slice Ao obl.length co, obl, .slice Al lnl.length cl, lnl, .slice Ae evl.length ce, evl, .slice An nml.length cn, nml, s0, s1, s2, s3, s4, s5⟩ : Re).txt op).length ≤ 1099511627776) (htab : PowTab w) :
    Calls Tryd.prog 5 #[.int .i64 op, reAgg (⟨0, ver, more, dp, dn, da, dr, .slice Ao obl.length co, obl, .slice Al lnl.length cl, lnl, .slice Ae evl.length ce, evl, .slice An nml.length cn, nml, s0, s1, s2, s3, s4, s5⟩ : Re)] w fun e w' => ∃ sv, e = .returned sv ∧ StrIs sv ((⟨0, ver, more, dp, dn, da, dr, .slice Ao obl.length co, obl, .slice Al lnl.length cl, lnl, .slice Ae evl.length ce, evl, .slice An nml.length cn, nml, s0, s1, s2, s3, s4, s5⟩ : Re).txt op) ∧ Below w.heap.size w w' := by
  have Hr := Lib.hid hr
  have Htab := Lib.hid htab
  have Htx : Hid ((⟨0, ver, more, dp, dn, da, dr, .slice Ao obl.length co, obl, .slice Al lnl.length cl, lnl, .slice Ae evl.length ce, evl, .slice An nml.length cn, nml, s0, s1, s2, s3, s4, s5⟩ : Re).txt op = (⟨0, ver, more, dp, dn, da, dr, .slice Ao obl.length co, obl, .slice Al lnl.length cl, lnl, .slice Ae evl.length ce, evl, .slice An nml.length cn, nml, s0, s1, s2, s3, s4, s5⟩ : Re).okS ++ (⟨0, ver, more, dp, dn, da, dr, .slice Ao obl.length co, obl, .slice Al lnl.length cl, lnl, .slice Ae evl.length ce, evl, .slice An nml.length cn, nml, s0, s1, s2, s3, s4, s5⟩ : Re).rest op) := if_pos rfl
  have hlen2 : ((⟨0, ver, more, dp, dn, da, dr, .slice Ao obl.length co, obl, .slice Al lnl.length cl, lnl, .slice Ae evl.length ce, evl, .slice An nml.length cn, nml, s0, s1, s2, s3, s4, s5⟩ : Re).okS ++ (⟨0, ver, more, dp, dn, da, dr, .slice Ao obl.length co, obl, .slice Al lnl.length cl, lnl, .slice Ae evl.length ce, evl, .slice An nml.length cn, nml, s0, s1, s2, s3, s4, s5⟩ : Re).rest op).length ≤ 1099511627776 := by rw [← Htx.out]; exact hlen
  have Hlen := Lib.hid hlen2
  have hitl : (Lib.itoa ver).length + 4 ≤ 1099511627776 := by
    have h1 := hlen2
    rw [List.length_append, show (⟨0, ver, more, dp, dn, da, dr, .slice Ao obl.length co, obl, .slice Al lnl.length cl, lnl, .slice Ae evl.length ce, evl, .slice An nml.length cn, nml, s0, s1, s2, s3, s4, s5⟩ : Re).okS = tellS [111, 107] [.i64 ver] from rfl, okS_len] at h1; omega
  have zk0 : ¬ 9223372036854775807 < 3 + (Lib.itoa ver).length := by omega
  have zk1 : ¬ 9223372036854775807 < 3 + (Lib.itoa ver).length + 1 := by omega
  have Hrest : Hid ((⟨0, ver, more, dp, dn, da, dr, .slice Ao obl.length co, obl, .slice Al lnl.length cl, lnl, .slice Ae evl.length ce, evl, .slice An nml.length cn, nml, s0, s1, s2, s3, s4, s5⟩ : Re).rest op = lnl.flatMap Ln.txt) := by
    show _ = _
    unfold Re.rest
    rw [if_neg (by omega), if_neg (by omega), if_neg (by omega), if_pos hop]
  subst hop
  have hnl : lnl.length ≤ 1099511627776 := by
    have h1 := flat_count Ln.txt (fun x => by simp [Ln.txt, tellS]) lnl
    have h := hlen2; rw [Hrest.out] at h; simp only [List.length_append] at h; omega
  clear hr htab hlen hlen2 hitl
  go_enter Tryd.func5, Tryd.ntmps5
  go_wp2_with fail
  refine (ritoa_calls ver Hr.out.ver _ (Htab.out.below ((Below.refl _ _).alloc (Nat.le_refl _) _))).mono ?_
  rintro e w3 ⟨rfl, hw3⟩
  have H3 : Hid (Below (w.heap.size + 1) (w.alloc (.cells #[.int .i64 0, .int .i64 ver, .bool more, .string dp, .string dn, .string da, .string dr, .slice Ao obl.length co, .slice Al lnl.length cl, .slice Ae evl.length ce, .slice An nml.length cn, .int .i64 s0, .int .i64 s1, .int .i64 s2, .int .i64 s3, .int .i64 s4, .int .i64 s5] 32)) w3) := hw3.mono (by simp)
  clear hw3
  have k8_w3 : w3.cell? ⟨w.heap.size, 8, none⟩ = some (.slice Al lnl.length cl) := by rw [Lib.cell_of_heap (gr_box H3.out)]; rfl
  go_wp2
  generalize hsb : ByteArray.mk #[111, 107, 32] ++ ByteArray.mk (Lib.itoa ver).toArray ++ ByteArray.mk #[10] = sb
  have Hs0 : Hid (sb.data.toList = (⟨0, ver, more, dp, dn, da, dr, .slice Ao obl.length co, obl, .slice Al lnl.length cl, lnl, .slice Ae evl.length ce, evl, .slice An nml.length cn, nml, s0, s1, s2, s3, s4, s5⟩ : Re).okS) := by
    show _ = _
    rw [← hsb, show (⟨0, ver, more, dp, dn, da, dr, .slice Ao obl.length co, obl, .slice Al lnl.length cl, lnl, .slice Ae evl.length ce, evl, .slice An nml.length cn, nml, s0, s1, s2, s3, s4, s5⟩ : Re).okS = tellS [111, 107] [.i64 ver] from rfl]
    simp [tellS, partsS, Pt.txt]
  have Hsl : Hid (sb.size = (⟨0, ver, more, dp, dn, da, dr, .slice Ao obl.length co, obl, .slice Al lnl.length cl, lnl, .slice Ae evl.length ce, evl, .slice An nml.length cn, nml, s0, s1, s2, s3, s4, s5⟩ : Re).okS.length) := by show _ = _; rw [size_toList, Hs0.out]
  clear hsb zk0 zk1
  have Hst : Hid (RLn w (.cells #[.int .i64 0, .int .i64 ver, .bool more, .string dp, .string dn, .string da, .string dr, .slice Ao obl.length co, .slice Al lnl.length cl, .slice Ae evl.length ce, .slice An nml.length cn, .int .i64 s0, .int .i64 s1, .int .i64 s2, .int .i64 s3, .int .i64 s4, .int .i64 s5] 32) (⟨0, ver, more, dp, dn, da, dr, .slice Ao obl.length co, obl, .slice Al lnl.length cl, lnl, .slice Ae evl.length ce, evl, .slice An nml.length cn, nml, s0, s1, s2, s3, s4, s5⟩ : Re).okS lnl (.string sb) (.int .i64 0) w3) := ⟨0, _, Nat.zero_le _, rfl, rfl, by simp [Hs0.out], H3.out⟩
  go_loopw [6, 8] (fun v6 v7 w1 => RLn w (.cells #[.int .i64 0, .int .i64 ver, .bool more, .string dp, .string dn, .string da, .string dr, .slice Ao obl.length co, .slice Al lnl.length cl, .slice Ae evl.length ce, .slice An nml.length cn, .int .i64 s0, .int .i64 s1, .int .i64 s2, .int .i64 s3, .int .i64 s4, .int .i64 s5] 32) (⟨0, ver, more, dp, dn, da, dr, .slice Ao obl.length co, obl, .slice Al lnl.length cl, lnl, .slice Ae evl.length ce, evl, .slice An nml.length cn, nml, s0, s1, s2, s3, s4, s5⟩ : Re).okS lnl v6 v7 w1) (fun _ i _ => lnl.length - (intOf i).toNat)
  case atStart => exact Hst.out
  case round =>
    clear Hst k8_w3 H3
    obtain ⟨i, s, hi, rfl, rfl, hs, hB⟩ := hrel
    have Hs := Lib.hid hs
    have HB := Lib.hid hB
    have k_wr : wr.cell? ⟨w.heap.size, 8, none⟩ = some (.slice Al lnl.length cl) := by rw [Lib.cell_of_heap (gr_box hB)]; rfl
    by_cases hlt : i < lnl.length
    · have hd := dT hlt
      obtain ⟨b, off, c', hv, hc', hb, hc0, hc1, hc2⟩ := Ln.at (Hr.out.ln.below (gr_base hB)) i hlt
      cases hv
      have HT : Hid ((lnl.take (i + 1)).flatMap Ln.txt = (lnl.take i).flatMap Ln.txt ++ Ln.txt lnl[i]) := take_snoc Ln.txt hlt
      have hsz : s.size + (Ln.txt lnl[i]).length ≤ 1099511627776 := by
        have h1 := take_len_le Ln.txt hlt
        have h := Hlen.out; rw [Hrest.out] at h
        rw [size_toList s, hs]
        simp only [List.length_append] at h ⊢; omega
      have hz := Hr.out.ln.2 _ (List.getElem_mem hlt)
      generalize lnl[i] = x at hc0 hc1 hc2 HT hsz hz
      have Hhs : Hid (s.size + 5 + (orS x.res.data.toList).length + 1 + (orS (printedZ x.hard)).length + 1 + (orS (printedZ x.used)).length + 1 ≤ 1099511627776) := by
        have h := hsz
        simp only [Ln.txt, Ln.parts, pzB, List.toList_toArray, tellS, partsS, List.flatMap_cons, List.flatMap_nil, List.length_append, List.length_cons, List.length_nil, Pt.txt] at h
        show _ ≤ _
        omega
      have Hz1 := Lib.hid hz.1
      have Hz2 := Lib.hid hz.2
      have hi0 : (0 : Int) ≤ i := by omega
      have zp0 : ¬ 9223372036854775807 < s.size + 5 := by have := Hhs.out; omega
      have HS : Hid (∀ W, Below (wr.alloc (.cells #[.string x.res, .int .i64 x.hard, .int .i64 x.used] 48)).heap.size (wr.alloc (.cells #[.string x.res, .int .i64 x.hard, .int .i64 x.used] 48)) W → W.cell? ⟨wr.heap.size, 0, none⟩ = some (.string x.res) ∧ W.cell? ⟨wr.heap.size, 1, none⟩ = some (.int .i64 x.hard) ∧ W.cell? ⟨wr.heap.size, 2, none⟩ = some (.int .i64 x.used) ∧ Below (wr.alloc (.cells #[.string x.res, .int .i64 x.hard, .int .i64 x.used] 48)).heap.size (wr.alloc (.cells #[.string x.res, .int .i64 x.hard, .int .i64 x.used] 48)) W) := by
        intro W hW
        have hb := blk_below (blk_new wr (.cells #[.string x.res, .int .i64 x.hard, .int .i64 x.used] 48)) hW
        exact ⟨by rw [Lib.cell_of_heap hb]; rfl, by rw [Lib.cell_of_heap hb]; rfl, by rw [Lib.cell_of_heap hb]; rfl, hW⟩
      have HT2 : Hid (∀ W W', Below (wr.alloc (.cells #[.string x.res, .int .i64 x.hard, .int .i64 x.used] 48)).heap.size (wr.alloc (.cells #[.string x.res, .int .i64 x.hard, .int .i64 x.used] 48)) W → Below W.heap.size W W' → Below (wr.alloc (.cells #[.string x.res, .int .i64 x.hard, .int .i64 x.used] 48)).heap.size (wr.alloc (.cells #[.string x.res, .int .i64 x.hard, .int .i64 x.used] 48)) W') := fun W W' h1 h2 => h1.trans (h2.mono h1.size)
      have HB1 : Hid (Below (wr.alloc (.cells #[.string x.res, .int .i64 x.hard, .int .i64 x.used] 48)).heap.size (wr.alloc (.cells #[.string x.res, .int .i64 x.hard, .int .i64 x.used] 48)) (wr.alloc (.cells #[.string x.res, .int .i64 x.hard, .int .i64 x.used] 48)).drew) := drewB (Below.refl _ _) 1
      have HP : Hid (∀ W, Below (wr.alloc (.cells #[.string x.res, .int .i64 x.hard, .int .i64 x.used] 48)).heap.size (wr.alloc (.cells #[.string x.res, .int .i64 x.hard, .int .i64 x.used] 48)) W → PowTab W) := fun W hW => Htab.out.below (gr_base (gr_below HB.out (((Below.refl _ _).alloc (Nat.le_refl _) _).trans (hW.mono (by simp)))))
      have HBw := Lib.hid (fun (W : World) (hW : Below (wr.alloc (.cells #[.string x.res, .int .i64 x.hard, .int .i64 x.used] 48)).heap.size (wr.alloc (.cells #[.string x.res, .int .i64 x.hard, .int .i64 x.used] 48)) W) => gr_below HB.out (((Below.refl wr.heap.size wr).alloc (Nat.le_refl _) _).trans (hW.mono (by simp))))
      clear hs hB hsz hz
      go_wp2
      go_region_held3 (fun W => W.cell? ⟨wr.heap.size, 0, none⟩ = some (.string x.res) ∧ W.cell? ⟨wr.heap.size, 1, none⟩ = some (.int .i64 x.hard) ∧ W.cell? ⟨wr.heap.size, 2, none⟩ = some (.int .i64 x.used) ∧ Below (wr.alloc (.cells #[.string x.res, .int .i64 x.hard, .int .i64 x.used] 48)).heap.size (wr.alloc (.cells #[.string x.res, .int .i64 x.hard, .int .i64 x.used] 48)) W)
        (first | exact HS.out _ HB1.out | exact HS.out _ HW2.out | exact HS.out _ HW3.out)
        (first
          | ((go_at_call 11); ((with_reducible refine (ror_calls x.res _).mono ?_)); (rintro e w1 ⟨⟨_, rfl, t1, rfl, h1⟩, rfl⟩); (have Ht1 := Lib.hid h1); (have Hs1 : Hid (t1.size = (orS x.res.data.toList).length) := (by show _ = _; rw [size_toList, h1])); (have z1_0 : ¬ 9223372036854775807 < s.size + 5 + t1.size := (by have := Hhs.out; have := Hs1.out; omega)); (have z1_1 : ¬ 9223372036854775807 < s.size + 5 + t1.size + 1 := (by have := Hhs.out; have := Hs1.out; omega)); (clear h1))
          | ((go_at_call 13); ((with_reducible refine (rprint_calls x.hard Hz1.out _).mono ?_)); (rintro e w2 ⟨_, rfl, ⟨p2, rfl, hp2⟩, h2⟩); (have HW2 := Lib.hid (HT2.out _ _ HB1.out h2)); (have Hp2 := Lib.hid hp2); (clear h2 hp2))
          | ((go_at_call 11); ((with_reducible refine (ror_calls p2 _).mono ?_)); (rintro e v2 ⟨⟨_, rfl, t2, rfl, h2⟩, rfl⟩); (have Ht2 : Hid (t2.data.toList = orS (printedZ x.hard)) := (by show _ = _; rw [h2, Hp2.out])); (have Hs2 : Hid (t2.size = (orS (printedZ x.hard)).length) := (by show _ = _; rw [size_toList, h2, Hp2.out])); (have z2_0 : ¬ 9223372036854775807 < s.size + 5 + t1.size + 1 + t2.size := (by have := Hhs.out; have := Hs1.out; have := Hs2.out; omega)); (have z2_1 : ¬ 9223372036854775807 < s.size + 5 + t1.size + 1 + t2.size + 1 := (by have := Hhs.out; have := Hs1.out; have := Hs2.out; omega)); (clear h2))
          | ((go_at_call 13); ((with_reducible refine (rprint_calls x.used Hz2.out _).mono ?_)); (rintro e w3 ⟨_, rfl, ⟨p3, rfl, hp3⟩, h3⟩); (have HW3 := Lib.hid (HT2.out _ _ HW2.out h3)); (have Hp3 := Lib.hid hp3); (clear h3 hp3))
          | ((go_at_call 11); ((with_reducible refine (ror_calls p3 _).mono ?_)); (rintro e v3 ⟨⟨_, rfl, t3, rfl, h3⟩, rfl⟩); (have Ht3 : Hid (t3.data.toList = orS (printedZ x.used)) := (by show _ = _; rw [h3, Hp3.out])); (have Hs3 : Hid (t3.size = (orS (printedZ x.used)).length) := (by show _ = _; rw [size_toList, h3, Hp3.out])); (have z3_0 : ¬ 9223372036854775807 < s.size + 5 + t1.size + 1 + t2.size + 1 + t3.size := (by have := Hhs.out; have := Hs1.out; have := Hs2.out; have := Hs3.out; omega)); (have z3_1 : ¬ 9223372036854775807 < s.size + 5 + t1.size + 1 + t2.size + 1 + t3.size + 1 := (by have := Hhs.out; have := Hs1.out; have := Hs2.out; have := Hs3.out; omega)); (clear h3)))
      have Hn := Lib.hid (show RLn w (.cells #[.int .i64 0, .int .i64 ver, .bool more, .string dp, .string dn, .string da, .string dr, .slice Ao obl.length co, .slice (some ⟨b, off, none⟩) lnl.length cl, .slice Ae evl.length ce, .slice An nml.length cn, .int .i64 s0, .int .i64 s1, .int .i64 s2, .int .i64 s3, .int .i64 s4, .int .i64 s5] 32) (⟨0, ver, more, dp, dn, da, dr, .slice Ao obl.length co, obl, .slice (some ⟨b, off, none⟩) lnl.length cl, lnl, .slice Ae evl.length ce, evl, .slice An nml.length cn, nml, s0, s1, s2, s3, s4, s5⟩ : Re).okS lnl (.string (s ++ ByteArray.mk #[108, 105, 110, 101, 32] ++ t1 ++ ByteArray.mk #[32] ++ t2 ++ ByteArray.mk #[32] ++ t3 ++ ByteArray.mk #[10])) (.int .i64 ((i : Int) + 1)) _ from ⟨i + 1, _, hlt, rfl, rfl, (by
        rw [HT.out, ← List.append_assoc, ← Hs.out]
        simp [Ln.txt, Ln.parts, pzB, List.toList_toArray, tellS, partsS, Pt.txt, Ht1.out, Ht2.out, Ht3.out, flagS]), HBw.out _ HW3.out⟩)
      clear HS HT2 HB1 HP HBw
      go_wp2
      go_roundw
      case rel => exact Hn.out
      case measure => simp [intOf]; omega
    · obtain rfl : i = lnl.length := by omega
      have hd := dF hlt
      rw [List.take_length] at Hs
      clear hlt hs hB
      go_wp2
      go_ret
      exact ⟨_, rfl, ⟨_, rfl, by rw [Htx.out, Hrest.out, Hs.out]⟩, gr_base HB.out⟩

set_option maxRecDepth 100000 in
set_option maxHeartbeats 3200000 in
theorem rtell_watch_calls (op : Int) (ver : Int) (more : Bool) (dp dn da dr : ByteArray) (Ao : Option Addr) (co : Nat) (obl : List Ob) (Al : Option Addr) (cl : Nat) (lnl : List Ln) (Ae : Option Addr) (ce : Nat) (evl : List Ev) (An : Option Addr) (cn : Nat) (nml : List ByteArray) (s0 s1 s2 s3 s4 s5 : Int) (w : World) (hop : op = 13) (hr : ReOk w (⟨0, ver, more, dp, dn, da, dr, .slice Ao obl.length co, obl, .slice Al lnl.length cl, lnl, .slice Ae evl.length ce, evl, .slice An nml.length cn, nml, s0, s1, s2, s3, s4, s5⟩ : Re)) (hlen : ((⟨0, ver, more, dp, dn, da, dr, .slice Ao obl.length co, obl, .slice Al lnl.length cl, lnl, .slice Ae evl.length ce, evl, .slice An nml.length cn, nml, s0, s1, s2, s3, s4, s5⟩ : Re).txt op).length ≤ 1099511627776) (htab : PowTab w) :
    Calls Tryd.prog 5 #[.int .i64 op, reAgg (⟨0, ver, more, dp, dn, da, dr, .slice Ao obl.length co, obl, .slice Al lnl.length cl, lnl, .slice Ae evl.length ce, evl, .slice An nml.length cn, nml, s0, s1, s2, s3, s4, s5⟩ : Re)] w fun e w' => ∃ sv, e = .returned sv ∧ StrIs sv ((⟨0, ver, more, dp, dn, da, dr, .slice Ao obl.length co, obl, .slice Al lnl.length cl, lnl, .slice Ae evl.length ce, evl, .slice An nml.length cn, nml, s0, s1, s2, s3, s4, s5⟩ : Re).txt op) ∧ Below w.heap.size w w' := by
  have Hr := Lib.hid hr
  have Htab := Lib.hid htab
  have Htx : Hid ((⟨0, ver, more, dp, dn, da, dr, .slice Ao obl.length co, obl, .slice Al lnl.length cl, lnl, .slice Ae evl.length ce, evl, .slice An nml.length cn, nml, s0, s1, s2, s3, s4, s5⟩ : Re).txt op = (⟨0, ver, more, dp, dn, da, dr, .slice Ao obl.length co, obl, .slice Al lnl.length cl, lnl, .slice Ae evl.length ce, evl, .slice An nml.length cn, nml, s0, s1, s2, s3, s4, s5⟩ : Re).okS ++ (⟨0, ver, more, dp, dn, da, dr, .slice Ao obl.length co, obl, .slice Al lnl.length cl, lnl, .slice Ae evl.length ce, evl, .slice An nml.length cn, nml, s0, s1, s2, s3, s4, s5⟩ : Re).rest op) := if_pos rfl
  have hlen2 : ((⟨0, ver, more, dp, dn, da, dr, .slice Ao obl.length co, obl, .slice Al lnl.length cl, lnl, .slice Ae evl.length ce, evl, .slice An nml.length cn, nml, s0, s1, s2, s3, s4, s5⟩ : Re).okS ++ (⟨0, ver, more, dp, dn, da, dr, .slice Ao obl.length co, obl, .slice Al lnl.length cl, lnl, .slice Ae evl.length ce, evl, .slice An nml.length cn, nml, s0, s1, s2, s3, s4, s5⟩ : Re).rest op).length ≤ 1099511627776 := by rw [← Htx.out]; exact hlen
  have Hlen := Lib.hid hlen2
  have hitl : (Lib.itoa ver).length + 4 ≤ 1099511627776 := by
    have h1 := hlen2
    rw [List.length_append, show (⟨0, ver, more, dp, dn, da, dr, .slice Ao obl.length co, obl, .slice Al lnl.length cl, lnl, .slice Ae evl.length ce, evl, .slice An nml.length cn, nml, s0, s1, s2, s3, s4, s5⟩ : Re).okS = tellS [111, 107] [.i64 ver] from rfl, okS_len] at h1; omega
  have zk0 : ¬ 9223372036854775807 < 3 + (Lib.itoa ver).length := by omega
  have zk1 : ¬ 9223372036854775807 < 3 + (Lib.itoa ver).length + 1 := by omega
  have Hrest : Hid ((⟨0, ver, more, dp, dn, da, dr, .slice Ao obl.length co, obl, .slice Al lnl.length cl, lnl, .slice Ae evl.length ce, evl, .slice An nml.length cn, nml, s0, s1, s2, s3, s4, s5⟩ : Re).rest op = evl.flatMap Ev.txt) := by
    show _ = _
    unfold Re.rest
    rw [if_neg (by omega), if_neg (by omega), if_neg (by omega), if_neg (by omega), if_pos hop]
  subst hop
  have hnl : evl.length ≤ 1099511627776 := by
    have h1 := flat_count Ev.txt (fun x => by simp [Ev.txt, tellS]) evl
    have h := hlen2; rw [Hrest.out] at h; simp only [List.length_append] at h; omega
  clear hr htab hlen hlen2 hitl
  go_enter Tryd.func5, Tryd.ntmps5
  go_wp2_with fail
  refine (ritoa_calls ver Hr.out.ver _ (Htab.out.below ((Below.refl _ _).alloc (Nat.le_refl _) _))).mono ?_
  rintro e w3 ⟨rfl, hw3⟩
  have H3 : Hid (Below (w.heap.size + 1) (w.alloc (.cells #[.int .i64 0, .int .i64 ver, .bool more, .string dp, .string dn, .string da, .string dr, .slice Ao obl.length co, .slice Al lnl.length cl, .slice Ae evl.length ce, .slice An nml.length cn, .int .i64 s0, .int .i64 s1, .int .i64 s2, .int .i64 s3, .int .i64 s4, .int .i64 s5] 32)) w3) := hw3.mono (by simp)
  clear hw3
  have k9_w3 : w3.cell? ⟨w.heap.size, 9, none⟩ = some (.slice Ae evl.length ce) := by rw [Lib.cell_of_heap (gr_box H3.out)]; rfl
  go_wp2
  generalize hsb : ByteArray.mk #[111, 107, 32] ++ ByteArray.mk (Lib.itoa ver).toArray ++ ByteArray.mk #[10] = sb
  have Hs0 : Hid (sb.data.toList = (⟨0, ver, more, dp, dn, da, dr, .slice Ao obl.length co, obl, .slice Al lnl.length cl, lnl, .slice Ae evl.length ce, evl, .slice An nml.length cn, nml, s0, s1, s2, s3, s4, s5⟩ : Re).okS) := by
    show _ = _
    rw [← hsb, show (⟨0, ver, more, dp, dn, da, dr, .slice Ao obl.length co, obl, .slice Al lnl.length cl, lnl, .slice Ae evl.length ce, evl, .slice An nml.length cn, nml, s0, s1, s2, s3, s4, s5⟩ : Re).okS = tellS [111, 107] [.i64 ver] from rfl]
    simp [tellS, partsS, Pt.txt]
  have Hsl : Hid (sb.size = (⟨0, ver, more, dp, dn, da, dr, .slice Ao obl.length co, obl, .slice Al lnl.length cl, lnl, .slice Ae evl.length ce, evl, .slice An nml.length cn, nml, s0, s1, s2, s3, s4, s5⟩ : Re).okS.length) := by show _ = _; rw [size_toList, Hs0.out]
  clear hsb zk0 zk1
  have Hst : Hid (REv w (.cells #[.int .i64 0, .int .i64 ver, .bool more, .string dp, .string dn, .string da, .string dr, .slice Ao obl.length co, .slice Al lnl.length cl, .slice Ae evl.length ce, .slice An nml.length cn, .int .i64 s0, .int .i64 s1, .int .i64 s2, .int .i64 s3, .int .i64 s4, .int .i64 s5] 32) (⟨0, ver, more, dp, dn, da, dr, .slice Ao obl.length co, obl, .slice Al lnl.length cl, lnl, .slice Ae evl.length ce, evl, .slice An nml.length cn, nml, s0, s1, s2, s3, s4, s5⟩ : Re).okS evl (.string sb) (.int .i64 0) w3) := ⟨0, _, Nat.zero_le _, rfl, rfl, by simp [Hs0.out], H3.out⟩
  go_loopw [6, 10] (fun v6 v7 w1 => REv w (.cells #[.int .i64 0, .int .i64 ver, .bool more, .string dp, .string dn, .string da, .string dr, .slice Ao obl.length co, .slice Al lnl.length cl, .slice Ae evl.length ce, .slice An nml.length cn, .int .i64 s0, .int .i64 s1, .int .i64 s2, .int .i64 s3, .int .i64 s4, .int .i64 s5] 32) (⟨0, ver, more, dp, dn, da, dr, .slice Ao obl.length co, obl, .slice Al lnl.length cl, lnl, .slice Ae evl.length ce, evl, .slice An nml.length cn, nml, s0, s1, s2, s3, s4, s5⟩ : Re).okS evl v6 v7 w1) (fun _ i _ => evl.length - (intOf i).toNat)
  case atStart => exact Hst.out
  case round =>
    clear Hst k9_w3 H3
    obtain ⟨i, s, hi, rfl, rfl, hs, hB⟩ := hrel
    have Hs := Lib.hid hs
    have HB := Lib.hid hB
    have k_wr : wr.cell? ⟨w.heap.size, 9, none⟩ = some (.slice Ae evl.length ce) := by rw [Lib.cell_of_heap (gr_box hB)]; rfl
    by_cases hlt : i < evl.length
    · have hd := dT hlt
      obtain ⟨b, off, c', hv, hc', hb, hc0, hc1, hc2, hc3, hc4⟩ := Ev.at (Hr.out.ev.below (gr_base hB)) i hlt
      cases hv
      have HT : Hid ((evl.take (i + 1)).flatMap Ev.txt = (evl.take i).flatMap Ev.txt ++ Ev.txt evl[i]) := take_snoc Ev.txt hlt
      have hsz : s.size + (Ev.txt evl[i]).length ≤ 1099511627776 := by
        have h1 := take_len_le Ev.txt hlt
        have h := Hlen.out; rw [Hrest.out] at h
        rw [size_toList s, hs]
        simp only [List.length_append] at h ⊢; omega
      have hz := Hr.out.ev.2 _ (List.getElem_mem hlt)
      generalize evl[i] = x at hc0 hc1 hc2 hc3 hc4 HT hsz hz
      have Hhs : Hid (s.size + 6 + (Lib.itoa x.ver).length + 1 + (Lib.itoa x.kind).length + 1 + (flagS x.gone).length + 1 + (orS x.path.data.toList).length + 1 + (orS x.name.data.toList).length + 1 ≤ 1099511627776) := by
        have h := hsz
        simp only [Ev.txt, Ev.parts, tellS, partsS, List.flatMap_cons, List.flatMap_nil, List.length_append, List.length_cons, List.length_nil, Pt.txt, ← show flagS x.gone = (if x.gone = true then [49] else [48]) from rfl] at h
        show _ ≤ _
        omega
      have Hz1 := Lib.hid hz.1
      have Hz2 := Lib.hid hz.2
      have hi0 : (0 : Int) ≤ i := by omega
      have zp0 : ¬ 9223372036854775807 < s.size + 6 := by have := Hhs.out; omega
      have HS : Hid (∀ W, Below (wr.alloc (.cells #[.int .i64 x.ver, .int .i64 x.kind, .bool x.gone, .string x.path, .string x.name] 50)).heap.size (wr.alloc (.cells #[.int .i64 x.ver, .int .i64 x.kind, .bool x.gone, .string x.path, .string x.name] 50)) W → W.cell? ⟨wr.heap.size, 0, none⟩ = some (.int .i64 x.ver) ∧ W.cell? ⟨wr.heap.size, 1, none⟩ = some (.int .i64 x.kind) ∧ W.cell? ⟨wr.heap.size, 2, none⟩ = some (.bool x.gone) ∧ W.cell? ⟨wr.heap.size, 3, none⟩ = some (.string x.path) ∧ W.cell? ⟨wr.heap.size, 4, none⟩ = some (.string x.name) ∧ Below (wr.alloc (.cells #[.int .i64 x.ver, .int .i64 x.kind, .bool x.gone, .string x.path, .string x.name] 50)).heap.size (wr.alloc (.cells #[.int .i64 x.ver, .int .i64 x.kind, .bool x.gone, .string x.path, .string x.name] 50)) W) := by
        intro W hW
        have hb := blk_below (blk_new wr (.cells #[.int .i64 x.ver, .int .i64 x.kind, .bool x.gone, .string x.path, .string x.name] 50)) hW
        exact ⟨by rw [Lib.cell_of_heap hb]; rfl, by rw [Lib.cell_of_heap hb]; rfl, by rw [Lib.cell_of_heap hb]; rfl, by rw [Lib.cell_of_heap hb]; rfl, by rw [Lib.cell_of_heap hb]; rfl, hW⟩
      have HT2 : Hid (∀ W W', Below (wr.alloc (.cells #[.int .i64 x.ver, .int .i64 x.kind, .bool x.gone, .string x.path, .string x.name] 50)).heap.size (wr.alloc (.cells #[.int .i64 x.ver, .int .i64 x.kind, .bool x.gone, .string x.path, .string x.name] 50)) W → Below W.heap.size W W' → Below (wr.alloc (.cells #[.int .i64 x.ver, .int .i64 x.kind, .bool x.gone, .string x.path, .string x.name] 50)).heap.size (wr.alloc (.cells #[.int .i64 x.ver, .int .i64 x.kind, .bool x.gone, .string x.path, .string x.name] 50)) W') := fun W W' h1 h2 => h1.trans (h2.mono h1.size)
      have HB1 : Hid (Below (wr.alloc (.cells #[.int .i64 x.ver, .int .i64 x.kind, .bool x.gone, .string x.path, .string x.name] 50)).heap.size (wr.alloc (.cells #[.int .i64 x.ver, .int .i64 x.kind, .bool x.gone, .string x.path, .string x.name] 50)) (wr.alloc (.cells #[.int .i64 x.ver, .int .i64 x.kind, .bool x.gone, .string x.path, .string x.name] 50)).drew) := drewB (Below.refl _ _) 1
      have HP : Hid (∀ W, Below (wr.alloc (.cells #[.int .i64 x.ver, .int .i64 x.kind, .bool x.gone, .string x.path, .string x.name] 50)).heap.size (wr.alloc (.cells #[.int .i64 x.ver, .int .i64 x.kind, .bool x.gone, .string x.path, .string x.name] 50)) W → PowTab W) := fun W hW => Htab.out.below (gr_base (gr_below HB.out (((Below.refl _ _).alloc (Nat.le_refl _) _).trans (hW.mono (by simp)))))
      have HBw := Lib.hid (fun (W : World) (hW : Below (wr.alloc (.cells #[.int .i64 x.ver, .int .i64 x.kind, .bool x.gone, .string x.path, .string x.name] 50)).heap.size (wr.alloc (.cells #[.int .i64 x.ver, .int .i64 x.kind, .bool x.gone, .string x.path, .string x.name] 50)) W) => gr_below HB.out (((Below.refl wr.heap.size wr).alloc (Nat.le_refl _) _).trans (hW.mono (by simp))))
      clear hs hB hsz hz
      go_wp2
      go_region_held3 (fun W => W.cell? ⟨wr.heap.size, 0, none⟩ = some (.int .i64 x.ver) ∧ W.cell? ⟨wr.heap.size, 1, none⟩ = some (.int .i64 x.kind) ∧ W.cell? ⟨wr.heap.size, 2, none⟩ = some (.bool x.gone) ∧ W.cell? ⟨wr.heap.size, 3, none⟩ = some (.string x.path) ∧ W.cell? ⟨wr.heap.size, 4, none⟩ = some (.string x.name) ∧ Below (wr.alloc (.cells #[.int .i64 x.ver, .int .i64 x.kind, .bool x.gone, .string x.path, .string x.name] 50)).heap.size (wr.alloc (.cells #[.int .i64 x.ver, .int .i64 x.kind, .bool x.gone, .string x.path, .string x.name] 50)) W)
        (first | exact HS.out _ HB1.out | exact HS.out _ HW1.out | exact HS.out _ HW2.out)
        (first
          | ((go_at_call 10); ((with_reducible refine (ritoa_calls x.ver Hz1.out _ (HP.out _ HB1.out)).mono ?_)); (rintro e w1 ⟨rfl, h1⟩); (have HW1 := Lib.hid (HT2.out _ _ HB1.out h1)); (have z1_0 : ¬ 9223372036854775807 < s.size + 6 + (Lib.itoa x.ver).length := (by have := Hhs.out; omega)); (have z1_1 : ¬ 9223372036854775807 < s.size + 6 + (Lib.itoa x.ver).length + 1 := (by have := Hhs.out; omega)); (clear h1))
          | ((go_at_call 9); ((with_reducible refine (itoaI_calls x.kind Hz2.out _ (HP.out _ HW1.out)).mono ?_)); (rintro e w2 ⟨rfl, h2⟩); (have HW2 := Lib.hid (HT2.out _ _ HW1.out h2)); (have z2_0 : ¬ 9223372036854775807 < s.size + 6 + (Lib.itoa x.ver).length + 1 + (Lib.itoa x.kind).length := (by have := Hhs.out; omega)); (have z2_1 : ¬ 9223372036854775807 < s.size + 6 + (Lib.itoa x.ver).length + 1 + (Lib.itoa x.kind).length + 1 := (by have := Hhs.out; omega)); (clear h2))
          | ((go_at_call 14); ((with_reducible refine (rflag_calls x.gone _).mono ?_)); (rintro e w3 ⟨rfl, rfl⟩); (have z3_0 : ¬ 9223372036854775807 < s.size + 6 + (Lib.itoa x.ver).length + 1 + (Lib.itoa x.kind).length + 1 + (flagS x.gone).length := (by have := Hhs.out; omega)); (have z3_1 : ¬ 9223372036854775807 < s.size + 6 + (Lib.itoa x.ver).length + 1 + (Lib.itoa x.kind).length + 1 + (flagS x.gone).length + 1 := (by have := Hhs.out; omega)); skip)
          | ((go_at_call 11); ((with_reducible refine (ror_calls x.path _).mono ?_)); (rintro e w4 ⟨⟨_, rfl, t4, rfl, h4⟩, rfl⟩); (have Ht4 := Lib.hid h4); (have Hs4 : Hid (t4.size = (orS x.path.data.toList).length) := (by show _ = _; rw [size_toList, h4])); (have z4_0 : ¬ 9223372036854775807 < s.size + 6 + (Lib.itoa x.ver).length + 1 + (Lib.itoa x.kind).length + 1 + (flagS x.gone).length + 1 + t4.size := (by have := Hhs.out; have := Hs4.out; omega)); (have z4_1 : ¬ 9223372036854775807 < s.size + 6 + (Lib.itoa x.ver).length + 1 + (Lib.itoa x.kind).length + 1 + (flagS x.gone).length + 1 + t4.size + 1 := (by have := Hhs.out; have := Hs4.out; omega)); (clear h4))
          | ((go_at_call 11); ((with_reducible refine (ror_calls x.name _).mono ?_)); (rintro e w5 ⟨⟨_, rfl, t5, rfl, h5⟩, rfl⟩); (have Ht5 := Lib.hid h5); (have Hs5 : Hid (t5.size = (orS x.name.data.toList).length) := (by show _ = _; rw [size_toList, h5])); (have z5_0 : ¬ 9223372036854775807 < s.size + 6 + (Lib.itoa x.ver).length + 1 + (Lib.itoa x.kind).length + 1 + (flagS x.gone).length + 1 + t4.size + 1 + t5.size := (by have := Hhs.out; have := Hs4.out; have := Hs5.out; omega)); (have z5_1 : ¬ 9223372036854775807 < s.size + 6 + (Lib.itoa x.ver).length + 1 + (Lib.itoa x.kind).length + 1 + (flagS x.gone).length + 1 + t4.size + 1 + t5.size + 1 := (by have := Hhs.out; have := Hs4.out; have := Hs5.out; omega)); (clear h5)))
      have Hn := Lib.hid (show REv w (.cells #[.int .i64 0, .int .i64 ver, .bool more, .string dp, .string dn, .string da, .string dr, .slice Ao obl.length co, .slice Al lnl.length cl, .slice (some ⟨b, off, none⟩) evl.length ce, .slice An nml.length cn, .int .i64 s0, .int .i64 s1, .int .i64 s2, .int .i64 s3, .int .i64 s4, .int .i64 s5] 32) (⟨0, ver, more, dp, dn, da, dr, .slice Ao obl.length co, obl, .slice Al lnl.length cl, lnl, .slice (some ⟨b, off, none⟩) evl.length ce, evl, .slice An nml.length cn, nml, s0, s1, s2, s3, s4, s5⟩ : Re).okS evl (.string (s ++ ByteArray.mk #[101, 118, 101, 110, 116, 32] ++ ByteArray.mk (Lib.itoa x.ver).toArray ++ ByteArray.mk #[32] ++ ByteArray.mk (Lib.itoa x.kind).toArray ++ ByteArray.mk #[32] ++ ByteArray.mk (flagS x.gone).toArray ++ ByteArray.mk #[32] ++ t4 ++ ByteArray.mk #[32] ++ t5 ++ ByteArray.mk #[10])) (.int .i64 ((i : Int) + 1)) _ from ⟨i + 1, _, hlt, rfl, rfl, (by
        rw [HT.out, ← List.append_assoc, ← Hs.out]
        simp [Ev.txt, Ev.parts, tellS, partsS, Pt.txt, Ht4.out, Ht5.out, flagS]), HBw.out _ HW2.out⟩)
      clear HS HT2 HB1 HP HBw
      go_wp2
      go_roundw
      case rel => exact Hn.out
      case measure => simp [intOf]; omega
    · obtain rfl : i = evl.length := by omega
      have hd := dF hlt
      rw [List.take_length] at Hs
      clear hlt hs hB
      go_wp2
      go_ret
      exact ⟨_, rfl, ⟨_, rfl, by rw [Htx.out, Hrest.out, Hs.out]⟩, gr_base HB.out⟩

end Go.Proofs.YtleajmblagddcaaDoor
