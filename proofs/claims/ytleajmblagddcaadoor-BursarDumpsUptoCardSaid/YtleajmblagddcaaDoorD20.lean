/- bursar.Tell: a reply's text. -/
import Derived.Test.YtleajmblagddcaaDoorD19
import Derived.Deep.RegionHeld3
namespace Go.Proofs.YtleajmblagddcaaDoor
open Go.RowKit
set_option linter.unusedVariables false
set_option linter.unusedSimpArgs false

theorem tellS_len (wd : List UInt8) (ps : List Pt) : (tellS wd ps).length = wd.length + (partsS ps).length + 1 := by simp [tellS]; omega
def NmLoop (w : World) (bx : Obj) (base : List UInt8) (l : List ByteArray) (v : Value) (w1 : World) : Prop := ∃ (i : Nat) (s1 : Value), i ≤ l.length ∧ v = .int .i64 i ∧ GB w bx w1 s1 (base ++ (l.take i).flatMap nmTxt)
def LnLoop (w : World) (bx : Obj) (base : List UInt8) (l : List Ln) (v : Value) (w1 : World) : Prop := ∃ (i : Nat) (s1 : Value), i ≤ l.length ∧ v = .int .i64 i ∧ GB w bx w1 s1 (base ++ (l.take i).flatMap Ln.txt)
def EvLoop (w : World) (bx : Obj) (base : List UInt8) (l : List Ev) (v : Value) (w1 : World) : Prop := ∃ (i : Nat) (s1 : Value), i ≤ l.length ∧ v = .int .i64 i ∧ GB w bx w1 s1 (base ++ (l.take i).flatMap Ev.txt)

set_option maxRecDepth 100000 in
set_option maxHeartbeats 3200000 in
theorem tell_no_calls (code : Int) (op : Int) (ver : Int) (more : Bool) (dp dn da dr : ByteArray) (Ao : Option Addr) (co : Nat) (obl : List Ob) (Al : Option Addr) (cl : Nat) (lnl : List Ln) (Ae : Option Addr) (ce : Nat) (evl : List Ev) (An : Option Addr) (cn : Nat) (nml : List ByteArray) (s0 s1 s2 s3 s4 s5 : Int) (w : World) (hr : ReOk w (⟨code, ver, more, dp, dn, da, dr, .slice Ao obl.length co, obl, .slice Al lnl.length cl, lnl, .slice Ae evl.length ce, evl, .slice An nml.length cn, nml, s0, s1, s2, s3, s4, s5⟩ : Re)) (hc : ¬ code = 0) (hlen : ((⟨code, ver, more, dp, dn, da, dr, .slice Ao obl.length co, obl, .slice Al lnl.length cl, lnl, .slice Ae evl.length ce, evl, .slice An nml.length cn, nml, s0, s1, s2, s3, s4, s5⟩ : Re).txt op).length ≤ 1099511627776) (htab : PowTab w) :
    Calls Tryd.prog 6 #[.int .i64 op, reAgg (⟨code, ver, more, dp, dn, da, dr, .slice Ao obl.length co, obl, .slice Al lnl.length cl, lnl, .slice Ae evl.length ce, evl, .slice An nml.length cn, nml, s0, s1, s2, s3, s4, s5⟩ : Re)] w fun e w' => ∃ sv, e = .returned sv ∧ StrIs sv ((⟨code, ver, more, dp, dn, da, dr, .slice Ao obl.length co, obl, .slice Al lnl.length cl, lnl, .slice Ae evl.length ce, evl, .slice An nml.length cn, nml, s0, s1, s2, s3, s4, s5⟩ : Re).txt op) ∧ Below w.heap.size w w' := by
  have Ht : Hid ((⟨code, ver, more, dp, dn, da, dr, .slice Ao obl.length co, obl, .slice Al lnl.length cl, lnl, .slice Ae evl.length ce, evl, .slice An nml.length cn, nml, s0, s1, s2, s3, s4, s5⟩ : Re).txt op = tellS [110, 111] (⟨code, ver, more, dp, dn, da, dr, .slice Ao obl.length co, obl, .slice Al lnl.length cl, lnl, .slice Ae evl.length ce, evl, .slice An nml.length cn, nml, s0, s1, s2, s3, s4, s5⟩ : Re).noParts) := if_neg hc
  have hlen2 : (tellS [110, 111] (⟨code, ver, more, dp, dn, da, dr, .slice Ao obl.length co, obl, .slice Al lnl.length cl, lnl, .slice Ae evl.length ce, evl, .slice An nml.length cn, nml, s0, s1, s2, s3, s4, s5⟩ : Re).noParts).length ≤ 140737488355328 := by rw [← Ht.out]; omega
  have Hlen := Lib.hid hlen2
  have Hr := Lib.hid hr
  have Htab := Lib.hid htab
  have hc1 : (code != 0) = true := by simpa using hc
  have Hok : Hid (∀ p ∈ (⟨code, ver, more, dp, dn, da, dr, .slice Ao obl.length co, obl, .slice Al lnl.length cl, lnl, .slice Ae evl.length ce, evl, .slice An nml.length cn, nml, s0, s1, s2, s3, s4, s5⟩ : Re).noParts, p.ok) := by
    intro p hp
    simp only [Re.noParts, List.mem_cons, List.not_mem_nil, or_false] at hp
    rcases hp with rfl | rfl | rfl | rfl | rfl | rfl
    · exact Hr.out.code
    · exact Hr.out.ver
    all_goals exact True.intro
  have hold : Hid (Below w.heap.size w (((w.alloc (.cells #[.int .i64 code, .int .i64 ver, .bool more, .string dp, .string dn, .string da, .string dr, .slice Ao obl.length co, .slice Al lnl.length cl, .slice Ae evl.length ce, .slice An nml.length cn, .int .i64 s0, .int .i64 s1, .int .i64 s2, .int .i64 s3, .int .i64 s4, .int .i64 s5] 32)).alloc (.cells #[.string dp, .string dn, .string da, .string dr] 24)).alloc (.cells ((⟨code, ver, more, dp, dn, da, dr, .slice Ao obl.length co, obl, .slice Al lnl.length cl, lnl, .slice Ae evl.length ce, evl, .slice An nml.length cn, nml, s0, s1, s2, s3, s4, s5⟩ : Re).noParts.map Pt.val).toArray 20))) :=
    (((Below.refl _ _).alloc (Nat.le_refl _) _).alloc (by simp) _).alloc (by simp; omega) _
  clear hr htab hlen hlen2
  go_enter Tryd.func6, Tryd.ntmps6
  go_wp2_with fail
  refine (tell_calls ⟨#[110, 111]⟩ (⟨code, ver, more, dp, dn, da, dr, .slice Ao obl.length co, obl, .slice Al lnl.length cl, lnl, .slice Ae evl.length ce, evl, .slice An nml.length cn, nml, s0, s1, s2, s3, s4, s5⟩ : Re).noParts _ _ (rdP_new ((w.alloc (.cells #[.int .i64 code, .int .i64 ver, .bool more, .string dp, .string dn, .string da, .string dr, .slice Ao obl.length co, .slice Al lnl.length cl, .slice Ae evl.length ce, .slice An nml.length cn, .int .i64 s0, .int .i64 s1, .int .i64 s2, .int .i64 s3, .int .i64 s4, .int .i64 s5] 32)).alloc (.cells #[.string dp, .string dn, .string da, .string dr] 24)) 20 (⟨code, ver, more, dp, dn, da, dr, .slice Ao obl.length co, obl, .slice Al lnl.length cl, lnl, .slice Ae evl.length ce, evl, .slice An nml.length cn, nml, s0, s1, s2, s3, s4, s5⟩ : Re).noParts (w.heap.size + 1 + 1) (by simp) (by simp [Re.noParts])) Hok.out Hlen.out (by simp [Re.noParts]) (Htab.out.below hold.out)).mono ?_
  rintro e w3 ⟨rfl, hw3⟩
  have H3 := Lib.hid (hold.out.trans (hw3.mono hold.out.size))
  clear hw3
  go_wp2
  go_ret
  exact ⟨_, rfl, ⟨_, rfl, by rw [Ht.out]⟩, H3.out⟩

set_option maxRecDepth 100000 in
set_option maxHeartbeats 3200000 in
theorem tell_other_calls (op : Int) (ver : Int) (more : Bool) (dp dn da dr : ByteArray) (Ao : Option Addr) (co : Nat) (obl : List Ob) (Al : Option Addr) (cl : Nat) (lnl : List Ln) (Ae : Option Addr) (ce : Nat) (evl : List Ev) (An : Option Addr) (cn : Nat) (nml : List ByteArray) (s0 s1 s2 s3 s4 s5 : Int) (w : World) (h7 : ¬ op = 7) (h8 : ¬ op = 8) (h9 : ¬ op = 9) (h10 : ¬ op = 10) (h11 : ¬ op = 11) (h12 : ¬ op = 12) (h13 : ¬ op = 13) (h16 : ¬ op = 16) (h19 : ¬ op = 19) (hr : ReOk w (⟨0, ver, more, dp, dn, da, dr, .slice Ao obl.length co, obl, .slice Al lnl.length cl, lnl, .slice Ae evl.length ce, evl, .slice An nml.length cn, nml, s0, s1, s2, s3, s4, s5⟩ : Re)) (hlen : ((⟨0, ver, more, dp, dn, da, dr, .slice Ao obl.length co, obl, .slice Al lnl.length cl, lnl, .slice Ae evl.length ce, evl, .slice An nml.length cn, nml, s0, s1, s2, s3, s4, s5⟩ : Re).txt op).length ≤ 1099511627776) (hU : Uni w) (htab : PowTab w) :
    Calls Tryd.prog 6 #[.int .i64 op, reAgg (⟨0, ver, more, dp, dn, da, dr, .slice Ao obl.length co, obl, .slice Al lnl.length cl, lnl, .slice Ae evl.length ce, evl, .slice An nml.length cn, nml, s0, s1, s2, s3, s4, s5⟩ : Re)] w fun e w' => ∃ sv, e = .returned sv ∧ StrIs sv ((⟨0, ver, more, dp, dn, da, dr, .slice Ao obl.length co, obl, .slice Al lnl.length cl, lnl, .slice Ae evl.length ce, evl, .slice An nml.length cn, nml, s0, s1, s2, s3, s4, s5⟩ : Re).txt op) ∧ Below w.heap.size w w' := by
  have Hr := Lib.hid hr
  have Htab := Lib.hid htab
  have HU := Lib.hid hU
  have Ht : Hid ((⟨0, ver, more, dp, dn, da, dr, .slice Ao obl.length co, obl, .slice Al lnl.length cl, lnl, .slice Ae evl.length ce, evl, .slice An nml.length cn, nml, s0, s1, s2, s3, s4, s5⟩ : Re).txt op = (⟨0, ver, more, dp, dn, da, dr, .slice Ao obl.length co, obl, .slice Al lnl.length cl, lnl, .slice Ae evl.length ce, evl, .slice An nml.length cn, nml, s0, s1, s2, s3, s4, s5⟩ : Re).okS ++ (⟨0, ver, more, dp, dn, da, dr, .slice Ao obl.length co, obl, .slice Al lnl.length cl, lnl, .slice Ae evl.length ce, evl, .slice An nml.length cn, nml, s0, s1, s2, s3, s4, s5⟩ : Re).rest op) := if_pos rfl
  have hlen2 : ((⟨0, ver, more, dp, dn, da, dr, .slice Ao obl.length co, obl, .slice Al lnl.length cl, lnl, .slice Ae evl.length ce, evl, .slice An nml.length cn, nml, s0, s1, s2, s3, s4, s5⟩ : Re).okS ++ (⟨0, ver, more, dp, dn, da, dr, .slice Ao obl.length co, obl, .slice Al lnl.length cl, lnl, .slice Ae evl.length ce, evl, .slice An nml.length cn, nml, s0, s1, s2, s3, s4, s5⟩ : Re).rest op).length ≤ 1099511627776 := by rw [← Ht.out]; exact hlen
  have Hlen := Lib.hid hlen2
  have Hok : Hid (∀ p ∈ ([.i64 ver] : List Pt), p.ok) := by
    intro p hp
    rw [List.mem_singleton.1 hp]
    exact Hr.out.ver
  have hold : Hid (Below w.heap.size w (((w.alloc (.cells #[.int .i64 0, .int .i64 ver, .bool more, .string dp, .string dn, .string da, .string dr, .slice Ao obl.length co, .slice Al lnl.length cl, .slice Ae evl.length ce, .slice An nml.length cn, .int .i64 s0, .int .i64 s1, .int .i64 s2, .int .i64 s3, .int .i64 s4, .int .i64 s5] 32)).alloc bldBox).alloc (.cells (([.i64 ver] : List Pt).map Pt.val).toArray 20))) := gb_old.alloc (by simp; omega) _
  have Hst := Lib.hid (GB.start w (.cells #[.int .i64 0, .int .i64 ver, .bool more, .string dp, .string dn, .string da, .string dr, .slice Ao obl.length co, .slice Al lnl.length cl, .slice Ae evl.length ce, .slice An nml.length cn, .int .i64 s0, .int .i64 s1, .int .i64 s2, .int .i64 s3, .int .i64 s4, .int .i64 s5] 32))
  have Hrest : Hid ((⟨0, ver, more, dp, dn, da, dr, .slice Ao obl.length co, obl, .slice Al lnl.length cl, lnl, .slice Ae evl.length ce, evl, .slice An nml.length cn, nml, s0, s1, s2, s3, s4, s5⟩ : Re).rest op = []) := by
    show _ = _
    unfold Re.rest
    rw [if_neg h10, if_neg (by omega), if_neg h11, if_neg h12, if_neg h13, if_neg h19]
  have g7 : (op == 7) = false := by simpa using h7
  have g8 : (op == 8) = false := by simpa using h8
  have g9 : (op == 9) = false := by simpa using h9
  have g10 : (op == 10) = false := by simpa using h10
  have g11 : (op == 11) = false := by simpa using h11
  have g12 : (op == 12) = false := by simpa using h12
  have g13 : (op == 13) = false := by simpa using h13
  have g16 : (op == 16) = false := by simpa using h16
  have g19 : (op == 19) = false := by simpa using h19
  clear hr htab hU hlen hlen2
  go_enter Tryd.func6, Tryd.ntmps6
  go_wp2_with fail
  refine (tell_calls ⟨#[111, 107]⟩ [.i64 ver] _ _ (rdP_new ((w.alloc (.cells #[.int .i64 0, .int .i64 ver, .bool more, .string dp, .string dn, .string da, .string dr, .slice Ao obl.length co, .slice Al lnl.length cl, .slice Ae evl.length ce, .slice An nml.length cn, .int .i64 s0, .int .i64 s1, .int .i64 s2, .int .i64 s3, .int .i64 s4, .int .i64 s5] 32)).alloc bldBox) 20 [.i64 ver] (w.heap.size + 1 + 1) (by simp) (by simp)) Hok.out (by have := Hlen.out; rw [List.length_append] at this; exact Nat.le_trans (Nat.le_of_add_right_le this) (by omega)) (by simp) (Htab.out.below hold.out)).mono ?_
  rintro e w3 ⟨rfl, hw3⟩
  have H3 : Hid (GB w (.cells #[.int .i64 0, .int .i64 ver, .bool more, .string dp, .string dn, .string da, .string dr, .slice Ao obl.length co, .slice Al lnl.length cl, .slice Ae evl.length ce, .slice An nml.length cn, .int .i64 s0, .int .i64 s1, .int .i64 s2, .int .i64 s3, .int .i64 s4, .int .i64 s5] 32) w3 (.slice none 0 0) []) := (Hst.out.alloc (.cells (([.i64 ver] : List Pt).map Pt.val).toArray 20)).below hw3
  rw [show tellS (ByteArray.mk #[111, 107]).data.toList [.i64 ver] = (⟨0, ver, more, dp, dn, da, dr, .slice Ao obl.length co, obl, .slice Al lnl.length cl, lnl, .slice Ae evl.length ce, evl, .slice An nml.length cn, nml, s0, s1, s2, s3, s4, s5⟩ : Re).okS from rfl]
  have hokl : (⟨0, ver, more, dp, dn, da, dr, .slice Ao obl.length co, obl, .slice Al lnl.length cl, lnl, .slice Ae evl.length ce, evl, .slice An nml.length cn, nml, s0, s1, s2, s3, s4, s5⟩ : Re).okS.length ≤ 1099511627776 := by have := Hlen.out; rw [List.length_append] at this; omega
  have Hokl := Lib.hid hokl
  have Hokd : Hid (∀ op, (⟨0, ver, more, dp, dn, da, dr, .slice Ao obl.length co, obl, .slice Al lnl.length cl, lnl, .slice Ae evl.length ce, evl, .slice An nml.length cn, nml, s0, s1, s2, s3, s4, s5⟩ : Re).txt op = (⟨0, ver, more, dp, dn, da, dr, .slice Ao obl.length co, obl, .slice Al lnl.length cl, lnl, .slice Ae evl.length ce, evl, .slice An nml.length cn, nml, s0, s1, s2, s3, s4, s5⟩ : Re).okS ++ (⟨0, ver, more, dp, dn, da, dr, .slice Ao obl.length co, obl, .slice Al lnl.length cl, lnl, .slice Ae evl.length ce, evl, .slice An nml.length cn, nml, s0, s1, s2, s3, s4, s5⟩ : Re).rest op) := fun op => if_pos rfl
  clear hw3 hold Hst hokl
  generalize (⟨0, ver, more, dp, dn, da, dr, .slice Ao obl.length co, obl, .slice Al lnl.length cl, lnl, .slice Ae evl.length ce, evl, .slice An nml.length cn, nml, s0, s1, s2, s3, s4, s5⟩ : Re).okS = ok at *
  go_wp2_with fail
  refine (writeString_calls (w.heap.size + 1) _ [] ⟨ok.toArray⟩ _ H3.out.is (by rw [ba_size]; have := Hokl.out; simp; omega)).mono ?_
  rintro e w4 ⟨⟨_, rfl⟩, s4', h4⟩
  have H4 : Hid (GB w (.cells #[.int .i64 0, .int .i64 ver, .bool more, .string dp, .string dn, .string da, .string dr, .slice Ao obl.length co, .slice Al lnl.length cl, .slice Ae evl.length ce, .slice An nml.length cn, .int .i64 s0, .int .i64 s1, .int .i64 s2, .int .i64 s3, .int .i64 s4, .int .i64 s5] 32) w4 s4' ok) := by have := H3.out.trans h4; simp only [List.nil_append, List.toList_toArray] at this; exact this
  have hbx := H4.out.box
  clear hbx h4 H3
  go_wp2_with fail
  refine (bstring_calls (w.heap.size + 1) s4' _ _ w.heap.size H4.out.is H4.out.S0).mono ?_
  rintro e wz ⟨rfl, hz⟩
  have Hz := Lib.hid (H4.out.base.trans hz)
  clear hz
  go_wp2
  go_ret
  exact ⟨_, rfl, ⟨_, rfl, (by rw [Hokd.out, Hrest.out, List.append_nil]; try simp)⟩, Hz.out⟩

set_option maxRecDepth 100000 in
set_option maxHeartbeats 3200000 in
theorem tell_obj_calls (op : Int) (ver : Int) (more : Bool) (dp dn da dr : ByteArray) (Ao : Option Addr) (co : Nat) (obl : List Ob) (Al : Option Addr) (cl : Nat) (lnl : List Ln) (Ae : Option Addr) (ce : Nat) (evl : List Ev) (An : Option Addr) (cn : Nat) (nml : List ByteArray) (s0 s1 s2 s3 s4 s5 : Int) (w : World) (hop : op = 7 ∨ op = 8 ∨ op = 9 ∨ op = 16) (hr : ReOk w (⟨0, ver, more, dp, dn, da, dr, .slice Ao obl.length co, obl, .slice Al lnl.length cl, lnl, .slice Ae evl.length ce, evl, .slice An nml.length cn, nml, s0, s1, s2, s3, s4, s5⟩ : Re)) (hlen : ((⟨0, ver, more, dp, dn, da, dr, .slice Ao obl.length co, obl, .slice Al lnl.length cl, lnl, .slice Ae evl.length ce, evl, .slice An nml.length cn, nml, s0, s1, s2, s3, s4, s5⟩ : Re).txt op).length ≤ 1099511627776) (hU : Uni w) (htab : PowTab w) :
    Calls Tryd.prog 6 #[.int .i64 op, reAgg (⟨0, ver, more, dp, dn, da, dr, .slice Ao obl.length co, obl, .slice Al lnl.length cl, lnl, .slice Ae evl.length ce, evl, .slice An nml.length cn, nml, s0, s1, s2, s3, s4, s5⟩ : Re)] w fun e w' => ∃ sv, e = .returned sv ∧ StrIs sv ((⟨0, ver, more, dp, dn, da, dr, .slice Ao obl.length co, obl, .slice Al lnl.length cl, lnl, .slice Ae evl.length ce, evl, .slice An nml.length cn, nml, s0, s1, s2, s3, s4, s5⟩ : Re).txt op) ∧ Below w.heap.size w w' := by
  have Hr := Lib.hid hr
  have Htab := Lib.hid htab
  have HU := Lib.hid hU
  have Ht : Hid ((⟨0, ver, more, dp, dn, da, dr, .slice Ao obl.length co, obl, .slice Al lnl.length cl, lnl, .slice Ae evl.length ce, evl, .slice An nml.length cn, nml, s0, s1, s2, s3, s4, s5⟩ : Re).txt op = (⟨0, ver, more, dp, dn, da, dr, .slice Ao obl.length co, obl, .slice Al lnl.length cl, lnl, .slice Ae evl.length ce, evl, .slice An nml.length cn, nml, s0, s1, s2, s3, s4, s5⟩ : Re).okS ++ (⟨0, ver, more, dp, dn, da, dr, .slice Ao obl.length co, obl, .slice Al lnl.length cl, lnl, .slice Ae evl.length ce, evl, .slice An nml.length cn, nml, s0, s1, s2, s3, s4, s5⟩ : Re).rest op) := if_pos rfl
  have hlen2 : ((⟨0, ver, more, dp, dn, da, dr, .slice Ao obl.length co, obl, .slice Al lnl.length cl, lnl, .slice Ae evl.length ce, evl, .slice An nml.length cn, nml, s0, s1, s2, s3, s4, s5⟩ : Re).okS ++ (⟨0, ver, more, dp, dn, da, dr, .slice Ao obl.length co, obl, .slice Al lnl.length cl, lnl, .slice Ae evl.length ce, evl, .slice An nml.length cn, nml, s0, s1, s2, s3, s4, s5⟩ : Re).rest op).length ≤ 1099511627776 := by rw [← Ht.out]; exact hlen
  have Hlen := Lib.hid hlen2
  have Hok : Hid (∀ p ∈ ([.i64 ver] : List Pt), p.ok) := by
    intro p hp
    rw [List.mem_singleton.1 hp]
    exact Hr.out.ver
  have hold : Hid (Below w.heap.size w (((w.alloc (.cells #[.int .i64 0, .int .i64 ver, .bool more, .string dp, .string dn, .string da, .string dr, .slice Ao obl.length co, .slice Al lnl.length cl, .slice Ae evl.length ce, .slice An nml.length cn, .int .i64 s0, .int .i64 s1, .int .i64 s2, .int .i64 s3, .int .i64 s4, .int .i64 s5] 32)).alloc bldBox).alloc (.cells (([.i64 ver] : List Pt).map Pt.val).toArray 20))) := gb_old.alloc (by simp; omega) _
  have Hst := Lib.hid (GB.start w (.cells #[.int .i64 0, .int .i64 ver, .bool more, .string dp, .string dn, .string da, .string dr, .slice Ao obl.length co, .slice Al lnl.length cl, .slice Ae evl.length ce, .slice An nml.length cn, .int .i64 s0, .int .i64 s1, .int .i64 s2, .int .i64 s3, .int .i64 s4, .int .i64 s5] 32))
  have Hrest : Hid ((⟨0, ver, more, dp, dn, da, dr, .slice Ao obl.length co, obl, .slice Al lnl.length cl, lnl, .slice Ae evl.length ce, evl, .slice An nml.length cn, nml, s0, s1, s2, s3, s4, s5⟩ : Re).rest op = obsS obl) := by
    show _ = _
    unfold Re.rest
    rw [if_neg (by omega), if_pos hop]
  obtain rfl | rfl | rfl | rfl := hop
  all_goals
    clear hr htab hU hlen hlen2
    go_enter Tryd.func6, Tryd.ntmps6
    go_wp2_with fail
    refine (tell_calls ⟨#[111, 107]⟩ [.i64 ver] _ _ (rdP_new ((w.alloc (.cells #[.int .i64 0, .int .i64 ver, .bool more, .string dp, .string dn, .string da, .string dr, .slice Ao obl.length co, .slice Al lnl.length cl, .slice Ae evl.length ce, .slice An nml.length cn, .int .i64 s0, .int .i64 s1, .int .i64 s2, .int .i64 s3, .int .i64 s4, .int .i64 s5] 32)).alloc bldBox) 20 [.i64 ver] (w.heap.size + 1 + 1) (by simp) (by simp)) Hok.out (by have := Hlen.out; rw [List.length_append] at this; exact Nat.le_trans (Nat.le_of_add_right_le this) (by omega)) (by simp) (Htab.out.below hold.out)).mono ?_
    rintro e w3 ⟨rfl, hw3⟩
    have H3 : Hid (GB w (.cells #[.int .i64 0, .int .i64 ver, .bool more, .string dp, .string dn, .string da, .string dr, .slice Ao obl.length co, .slice Al lnl.length cl, .slice Ae evl.length ce, .slice An nml.length cn, .int .i64 s0, .int .i64 s1, .int .i64 s2, .int .i64 s3, .int .i64 s4, .int .i64 s5] 32) w3 (.slice none 0 0) []) := (Hst.out.alloc (.cells (([.i64 ver] : List Pt).map Pt.val).toArray 20)).below hw3
    rw [show tellS (ByteArray.mk #[111, 107]).data.toList [.i64 ver] = (⟨0, ver, more, dp, dn, da, dr, .slice Ao obl.length co, obl, .slice Al lnl.length cl, lnl, .slice Ae evl.length ce, evl, .slice An nml.length cn, nml, s0, s1, s2, s3, s4, s5⟩ : Re).okS from rfl]
    have hokl : (⟨0, ver, more, dp, dn, da, dr, .slice Ao obl.length co, obl, .slice Al lnl.length cl, lnl, .slice Ae evl.length ce, evl, .slice An nml.length cn, nml, s0, s1, s2, s3, s4, s5⟩ : Re).okS.length ≤ 1099511627776 := by have := Hlen.out; rw [List.length_append] at this; omega
    have Hokl := Lib.hid hokl
    have Hokd : Hid (∀ op, (⟨0, ver, more, dp, dn, da, dr, .slice Ao obl.length co, obl, .slice Al lnl.length cl, lnl, .slice Ae evl.length ce, evl, .slice An nml.length cn, nml, s0, s1, s2, s3, s4, s5⟩ : Re).txt op = (⟨0, ver, more, dp, dn, da, dr, .slice Ao obl.length co, obl, .slice Al lnl.length cl, lnl, .slice Ae evl.length ce, evl, .slice An nml.length cn, nml, s0, s1, s2, s3, s4, s5⟩ : Re).okS ++ (⟨0, ver, more, dp, dn, da, dr, .slice Ao obl.length co, obl, .slice Al lnl.length cl, lnl, .slice Ae evl.length ce, evl, .slice An nml.length cn, nml, s0, s1, s2, s3, s4, s5⟩ : Re).rest op) := fun op => if_pos rfl
    clear hw3 hold Hst hokl
    generalize (⟨0, ver, more, dp, dn, da, dr, .slice Ao obl.length co, obl, .slice Al lnl.length cl, lnl, .slice Ae evl.length ce, evl, .slice An nml.length cn, nml, s0, s1, s2, s3, s4, s5⟩ : Re).okS = ok at *
    go_wp2_with fail
    refine (writeString_calls (w.heap.size + 1) _ [] ⟨ok.toArray⟩ _ H3.out.is (by rw [ba_size]; have := Hokl.out; simp; omega)).mono ?_
    rintro e w4 ⟨⟨_, rfl⟩, s4', h4⟩
    have H4 : Hid (GB w (.cells #[.int .i64 0, .int .i64 ver, .bool more, .string dp, .string dn, .string da, .string dr, .slice Ao obl.length co, .slice Al lnl.length cl, .slice Ae evl.length ce, .slice An nml.length cn, .int .i64 s0, .int .i64 s1, .int .i64 s2, .int .i64 s3, .int .i64 s4, .int .i64 s5] 32) w4 s4' ok) := by have := H3.out.trans h4; simp only [List.nil_append, List.toList_toArray] at this; exact this
    have hbx := H4.out.box
    have hobs : (ok ++ obsS obl).length ≤ 1099511627776 := by have := Hlen.out; rw [Hrest.out] at this; exact this
    have k7_w4 : w4.cell? ⟨w.heap.size, 7, none⟩ = some (.slice Ao obl.length co) := by rw [Lib.cell_of_heap hbx]; rfl
    clear hbx h4 H3
    have Hobs := Lib.hid hobs
    clear hobs
    go_wp2_with fail
    refine (objects_calls w _ (w.heap.size + 1) s4' ok _ obl H4.out.base H4.out.is H4.out.S0 Hr.out.ob Hobs.out HU.out Htab.out).mono ?_
    rintro e w5 ⟨rfl, s5', h5⟩
    have H5 : Hid (GB w (.cells #[.int .i64 0, .int .i64 ver, .bool more, .string dp, .string dn, .string da, .string dr, .slice Ao obl.length co, .slice Al lnl.length cl, .slice Ae evl.length ce, .slice An nml.length cn, .int .i64 s0, .int .i64 s1, .int .i64 s2, .int .i64 s3, .int .i64 s4, .int .i64 s5] 32) w5 s5' (ok ++ obsS obl)) := H4.out.trans h5
    clear h5
    go_wp2_with fail
    refine (bstring_calls (w.heap.size + 1) s5' _ _ w.heap.size H5.out.is H5.out.S0).mono ?_
    rintro e wz ⟨rfl, hz⟩
    have Hz := Lib.hid (H5.out.base.trans hz)
    clear hz
    go_wp2
    go_ret
    exact ⟨_, rfl, ⟨_, rfl, (by rw [Hokd.out, Hrest.out]; try simp)⟩, Hz.out⟩

set_option maxRecDepth 100000 in
set_option maxHeartbeats 3200000 in
theorem tell_list_calls (op : Int) (ver : Int) (more : Bool) (dp dn da dr : ByteArray) (Ao : Option Addr) (co : Nat) (obl : List Ob) (Al : Option Addr) (cl : Nat) (lnl : List Ln) (Ae : Option Addr) (ce : Nat) (evl : List Ev) (An : Option Addr) (cn : Nat) (nml : List ByteArray) (s0 s1 s2 s3 s4 s5 : Int) (w : World) (hop : op = 11) (hr : ReOk w (⟨0, ver, more, dp, dn, da, dr, .slice Ao obl.length co, obl, .slice Al lnl.length cl, lnl, .slice Ae evl.length ce, evl, .slice An nml.length cn, nml, s0, s1, s2, s3, s4, s5⟩ : Re)) (hlen : ((⟨0, ver, more, dp, dn, da, dr, .slice Ao obl.length co, obl, .slice Al lnl.length cl, lnl, .slice Ae evl.length ce, evl, .slice An nml.length cn, nml, s0, s1, s2, s3, s4, s5⟩ : Re).txt op).length ≤ 1099511627776) (hU : Uni w) (htab : PowTab w) :
    Calls Tryd.prog 6 #[.int .i64 op, reAgg (⟨0, ver, more, dp, dn, da, dr, .slice Ao obl.length co, obl, .slice Al lnl.length cl, lnl, .slice Ae evl.length ce, evl, .slice An nml.length cn, nml, s0, s1, s2, s3, s4, s5⟩ : Re)] w fun e w' => ∃ sv, e = .returned sv ∧ StrIs sv ((⟨0, ver, more, dp, dn, da, dr, .slice Ao obl.length co, obl, .slice Al lnl.length cl, lnl, .slice Ae evl.length ce, evl, .slice An nml.length cn, nml, s0, s1, s2, s3, s4, s5⟩ : Re).txt op) ∧ Below w.heap.size w w' := by
  have Hr := Lib.hid hr
  have Htab := Lib.hid htab
  have HU := Lib.hid hU
  have Ht : Hid ((⟨0, ver, more, dp, dn, da, dr, .slice Ao obl.length co, obl, .slice Al lnl.length cl, lnl, .slice Ae evl.length ce, evl, .slice An nml.length cn, nml, s0, s1, s2, s3, s4, s5⟩ : Re).txt op = (⟨0, ver, more, dp, dn, da, dr, .slice Ao obl.length co, obl, .slice Al lnl.length cl, lnl, .slice Ae evl.length ce, evl, .slice An nml.length cn, nml, s0, s1, s2, s3, s4, s5⟩ : Re).okS ++ (⟨0, ver, more, dp, dn, da, dr, .slice Ao obl.length co, obl, .slice Al lnl.length cl, lnl, .slice Ae evl.length ce, evl, .slice An nml.length cn, nml, s0, s1, s2, s3, s4, s5⟩ : Re).rest op) := if_pos rfl
  have hlen2 : ((⟨0, ver, more, dp, dn, da, dr, .slice Ao obl.length co, obl, .slice Al lnl.length cl, lnl, .slice Ae evl.length ce, evl, .slice An nml.length cn, nml, s0, s1, s2, s3, s4, s5⟩ : Re).okS ++ (⟨0, ver, more, dp, dn, da, dr, .slice Ao obl.length co, obl, .slice Al lnl.length cl, lnl, .slice Ae evl.length ce, evl, .slice An nml.length cn, nml, s0, s1, s2, s3, s4, s5⟩ : Re).rest op).length ≤ 1099511627776 := by rw [← Ht.out]; exact hlen
  have Hlen := Lib.hid hlen2
  have Hok : Hid (∀ p ∈ ([.i64 ver] : List Pt), p.ok) := by
    intro p hp
    rw [List.mem_singleton.1 hp]
    exact Hr.out.ver
  have hold : Hid (Below w.heap.size w (((w.alloc (.cells #[.int .i64 0, .int .i64 ver, .bool more, .string dp, .string dn, .string da, .string dr, .slice Ao obl.length co, .slice Al lnl.length cl, .slice Ae evl.length ce, .slice An nml.length cn, .int .i64 s0, .int .i64 s1, .int .i64 s2, .int .i64 s3, .int .i64 s4, .int .i64 s5] 32)).alloc bldBox).alloc (.cells (([.i64 ver] : List Pt).map Pt.val).toArray 20))) := gb_old.alloc (by simp; omega) _
  have Hst := Lib.hid (GB.start w (.cells #[.int .i64 0, .int .i64 ver, .bool more, .string dp, .string dn, .string da, .string dr, .slice Ao obl.length co, .slice Al lnl.length cl, .slice Ae evl.length ce, .slice An nml.length cn, .int .i64 s0, .int .i64 s1, .int .i64 s2, .int .i64 s3, .int .i64 s4, .int .i64 s5] 32))
  have Hrest : Hid ((⟨0, ver, more, dp, dn, da, dr, .slice Ao obl.length co, obl, .slice Al lnl.length cl, lnl, .slice Ae evl.length ce, evl, .slice An nml.length cn, nml, s0, s1, s2, s3, s4, s5⟩ : Re).rest op = obsS obl ++ moreS more) := by
    show _ = _
    unfold Re.rest
    rw [if_neg (by omega), if_neg (by omega), if_pos hop]
  subst hop
  clear hr htab hU hlen hlen2
  go_enter Tryd.func6, Tryd.ntmps6
  go_wp2_with fail
  refine (tell_calls ⟨#[111, 107]⟩ [.i64 ver] _ _ (rdP_new ((w.alloc (.cells #[.int .i64 0, .int .i64 ver, .bool more, .string dp, .string dn, .string da, .string dr, .slice Ao obl.length co, .slice Al lnl.length cl, .slice Ae evl.length ce, .slice An nml.length cn, .int .i64 s0, .int .i64 s1, .int .i64 s2, .int .i64 s3, .int .i64 s4, .int .i64 s5] 32)).alloc bldBox) 20 [.i64 ver] (w.heap.size + 1 + 1) (by simp) (by simp)) Hok.out (by have := Hlen.out; rw [List.length_append] at this; exact Nat.le_trans (Nat.le_of_add_right_le this) (by omega)) (by simp) (Htab.out.below hold.out)).mono ?_
  rintro e w3 ⟨rfl, hw3⟩
  have H3 : Hid (GB w (.cells #[.int .i64 0, .int .i64 ver, .bool more, .string dp, .string dn, .string da, .string dr, .slice Ao obl.length co, .slice Al lnl.length cl, .slice Ae evl.length ce, .slice An nml.length cn, .int .i64 s0, .int .i64 s1, .int .i64 s2, .int .i64 s3, .int .i64 s4, .int .i64 s5] 32) w3 (.slice none 0 0) []) := (Hst.out.alloc (.cells (([.i64 ver] : List Pt).map Pt.val).toArray 20)).below hw3
  rw [show tellS (ByteArray.mk #[111, 107]).data.toList [.i64 ver] = (⟨0, ver, more, dp, dn, da, dr, .slice Ao obl.length co, obl, .slice Al lnl.length cl, lnl, .slice Ae evl.length ce, evl, .slice An nml.length cn, nml, s0, s1, s2, s3, s4, s5⟩ : Re).okS from rfl]
  have hokl : (⟨0, ver, more, dp, dn, da, dr, .slice Ao obl.length co, obl, .slice Al lnl.length cl, lnl, .slice Ae evl.length ce, evl, .slice An nml.length cn, nml, s0, s1, s2, s3, s4, s5⟩ : Re).okS.length ≤ 1099511627776 := by have := Hlen.out; rw [List.length_append] at this; omega
  have Hokl := Lib.hid hokl
  have Hokd : Hid (∀ op, (⟨0, ver, more, dp, dn, da, dr, .slice Ao obl.length co, obl, .slice Al lnl.length cl, lnl, .slice Ae evl.length ce, evl, .slice An nml.length cn, nml, s0, s1, s2, s3, s4, s5⟩ : Re).txt op = (⟨0, ver, more, dp, dn, da, dr, .slice Ao obl.length co, obl, .slice Al lnl.length cl, lnl, .slice Ae evl.length ce, evl, .slice An nml.length cn, nml, s0, s1, s2, s3, s4, s5⟩ : Re).okS ++ (⟨0, ver, more, dp, dn, da, dr, .slice Ao obl.length co, obl, .slice Al lnl.length cl, lnl, .slice Ae evl.length ce, evl, .slice An nml.length cn, nml, s0, s1, s2, s3, s4, s5⟩ : Re).rest op) := fun op => if_pos rfl
  clear hw3 hold Hst hokl
  generalize (⟨0, ver, more, dp, dn, da, dr, .slice Ao obl.length co, obl, .slice Al lnl.length cl, lnl, .slice Ae evl.length ce, evl, .slice An nml.length cn, nml, s0, s1, s2, s3, s4, s5⟩ : Re).okS = ok at *
  go_wp2_with fail
  refine (writeString_calls (w.heap.size + 1) _ [] ⟨ok.toArray⟩ _ H3.out.is (by rw [ba_size]; have := Hokl.out; simp; omega)).mono ?_
  rintro e w4 ⟨⟨_, rfl⟩, s4', h4⟩
  have H4 : Hid (GB w (.cells #[.int .i64 0, .int .i64 ver, .bool more, .string dp, .string dn, .string da, .string dr, .slice Ao obl.length co, .slice Al lnl.length cl, .slice Ae evl.length ce, .slice An nml.length cn, .int .i64 s0, .int .i64 s1, .int .i64 s2, .int .i64 s3, .int .i64 s4, .int .i64 s5] 32) w4 s4' ok) := by have := H3.out.trans h4; simp only [List.nil_append, List.toList_toArray] at this; exact this
  have hbx := H4.out.box
  have hobs : (ok ++ obsS obl).length ≤ 1099511627776 := by have := Hlen.out; rw [Hrest.out] at this; simp only [List.length_append] at this ⊢; omega
  have k7_w4 : w4.cell? ⟨w.heap.size, 7, none⟩ = some (.slice Ao obl.length co) := by rw [Lib.cell_of_heap hbx]; rfl
  clear hbx h4 H3
  have Hobs := Lib.hid hobs
  clear hobs
  go_wp2_with fail
  refine (objects_calls w _ (w.heap.size + 1) s4' ok _ obl H4.out.base H4.out.is H4.out.S0 Hr.out.ob Hobs.out HU.out Htab.out).mono ?_
  rintro e w5 ⟨rfl, s5', h5⟩
  have H5 : Hid (GB w (.cells #[.int .i64 0, .int .i64 ver, .bool more, .string dp, .string dn, .string da, .string dr, .slice Ao obl.length co, .slice Al lnl.length cl, .slice Ae evl.length ce, .slice An nml.length cn, .int .i64 s0, .int .i64 s1, .int .i64 s2, .int .i64 s3, .int .i64 s4, .int .i64 s5] 32) w5 s5' (ok ++ obsS obl)) := H4.out.trans h5
  have hbx5 := H5.out.box
  have k0_w5 : w5.cell? ⟨w.heap.size, 0, none⟩ = some (.int .i64 0) := by rw [Lib.cell_of_heap hbx5]; rfl
  have k1_w5 : w5.cell? ⟨w.heap.size, 1, none⟩ = some (.int .i64 ver) := by rw [Lib.cell_of_heap hbx5]; rfl
  have k2_w5 : w5.cell? ⟨w.heap.size, 2, none⟩ = some (.bool more) := by rw [Lib.cell_of_heap hbx5]; rfl
  have k3_w5 : w5.cell? ⟨w.heap.size, 3, none⟩ = some (.string dp) := by rw [Lib.cell_of_heap hbx5]; rfl
  have k4_w5 : w5.cell? ⟨w.heap.size, 4, none⟩ = some (.string dn) := by rw [Lib.cell_of_heap hbx5]; rfl
  have k5_w5 : w5.cell? ⟨w.heap.size, 5, none⟩ = some (.string da) := by rw [Lib.cell_of_heap hbx5]; rfl
  have k6_w5 : w5.cell? ⟨w.heap.size, 6, none⟩ = some (.string dr) := by rw [Lib.cell_of_heap hbx5]; rfl
  have k7_w5 : w5.cell? ⟨w.heap.size, 7, none⟩ = some (.slice Ao obl.length co) := by rw [Lib.cell_of_heap hbx5]; rfl
  have k8_w5 : w5.cell? ⟨w.heap.size, 8, none⟩ = some (.slice Al lnl.length cl) := by rw [Lib.cell_of_heap hbx5]; rfl
  have k9_w5 : w5.cell? ⟨w.heap.size, 9, none⟩ = some (.slice Ae evl.length ce) := by rw [Lib.cell_of_heap hbx5]; rfl
  have k10_w5 : w5.cell? ⟨w.heap.size, 10, none⟩ = some (.slice An nml.length cn) := by rw [Lib.cell_of_heap hbx5]; rfl
  have k11_w5 : w5.cell? ⟨w.heap.size, 11, none⟩ = some (.int .i64 s0) := by rw [Lib.cell_of_heap hbx5]; rfl
  have k12_w5 : w5.cell? ⟨w.heap.size, 12, none⟩ = some (.int .i64 s1) := by rw [Lib.cell_of_heap hbx5]; rfl
  have k13_w5 : w5.cell? ⟨w.heap.size, 13, none⟩ = some (.int .i64 s2) := by rw [Lib.cell_of_heap hbx5]; rfl
  have k14_w5 : w5.cell? ⟨w.heap.size, 14, none⟩ = some (.int .i64 s3) := by rw [Lib.cell_of_heap hbx5]; rfl
  have k15_w5 : w5.cell? ⟨w.heap.size, 15, none⟩ = some (.int .i64 s4) := by rw [Lib.cell_of_heap hbx5]; rfl
  have k16_w5 : w5.cell? ⟨w.heap.size, 16, none⟩ = some (.int .i64 s5) := by rw [Lib.cell_of_heap hbx5]; rfl
  clear h5 hbx5
  go_wp2_with fail
  refine (more_calls (⟨0, ver, more, dp, dn, da, dr, .slice Ao obl.length co, obl, .slice Al lnl.length cl, lnl, .slice Ae evl.length ce, evl, .slice An nml.length cn, nml, s0, s1, s2, s3, s4, s5⟩ : Re) _ (w.heap.size + 1) s5' _ H5.out.is Hobs.out).mono ?_
  rintro e w6 ⟨rfl, s6', h6⟩
  have H6 : Hid (GB w (.cells #[.int .i64 0, .int .i64 ver, .bool more, .string dp, .string dn, .string da, .string dr, .slice Ao obl.length co, .slice Al lnl.length cl, .slice Ae evl.length ce, .slice An nml.length cn, .int .i64 s0, .int .i64 s1, .int .i64 s2, .int .i64 s3, .int .i64 s4, .int .i64 s5] 32) w6 s6' (ok ++ obsS obl ++ moreS more)) := H5.out.trans h6
  clear h6
  go_wp2_with fail
  refine (bstring_calls (w.heap.size + 1) s6' _ _ w.heap.size H6.out.is H6.out.S0).mono ?_
  rintro e wz ⟨rfl, hz⟩
  have Hz := Lib.hid (H6.out.base.trans hz)
  clear hz
  go_wp2
  go_ret
  exact ⟨_, rfl, ⟨_, rfl, (by rw [Hokd.out, Hrest.out]; try simp)⟩, Hz.out⟩

set_option maxRecDepth 100000 in
set_option maxHeartbeats 3200000 in
theorem tell_get_calls (op : Int) (ver : Int) (more : Bool) (dp dn da dr : ByteArray) (Ao : Option Addr) (co : Nat) (obl : List Ob) (Al : Option Addr) (cl : Nat) (lnl : List Ln) (Ae : Option Addr) (ce : Nat) (evl : List Ev) (An : Option Addr) (cn : Nat) (nml : List ByteArray) (s0 s1 s2 s3 s4 s5 : Int) (w : World) (hop : op = 10) (hr : ReOk w (⟨0, ver, more, dp, dn, da, dr, .slice Ao obl.length co, obl, .slice Al lnl.length cl, lnl, .slice Ae evl.length ce, evl, .slice An nml.length cn, nml, s0, s1, s2, s3, s4, s5⟩ : Re)) (hlen : ((⟨0, ver, more, dp, dn, da, dr, .slice Ao obl.length co, obl, .slice Al lnl.length cl, lnl, .slice Ae evl.length ce, evl, .slice An nml.length cn, nml, s0, s1, s2, s3, s4, s5⟩ : Re).txt op).length ≤ 1099511627776) (hU : Uni w) (htab : PowTab w) :
    Calls Tryd.prog 6 #[.int .i64 op, reAgg (⟨0, ver, more, dp, dn, da, dr, .slice Ao obl.length co, obl, .slice Al lnl.length cl, lnl, .slice Ae evl.length ce, evl, .slice An nml.length cn, nml, s0, s1, s2, s3, s4, s5⟩ : Re)] w fun e w' => ∃ sv, e = .returned sv ∧ StrIs sv ((⟨0, ver, more, dp, dn, da, dr, .slice Ao obl.length co, obl, .slice Al lnl.length cl, lnl, .slice Ae evl.length ce, evl, .slice An nml.length cn, nml, s0, s1, s2, s3, s4, s5⟩ : Re).txt op) ∧ Below w.heap.size w w' := by
  have Hr := Lib.hid hr
  have Htab := Lib.hid htab
  have HU := Lib.hid hU
  have Ht : Hid ((⟨0, ver, more, dp, dn, da, dr, .slice Ao obl.length co, obl, .slice Al lnl.length cl, lnl, .slice Ae evl.length ce, evl, .slice An nml.length cn, nml, s0, s1, s2, s3, s4, s5⟩ : Re).txt op = (⟨0, ver, more, dp, dn, da, dr, .slice Ao obl.length co, obl, .slice Al lnl.length cl, lnl, .slice Ae evl.length ce, evl, .slice An nml.length cn, nml, s0, s1, s2, s3, s4, s5⟩ : Re).okS ++ (⟨0, ver, more, dp, dn, da, dr, .slice Ao obl.length co, obl, .slice Al lnl.length cl, lnl, .slice Ae evl.length ce, evl, .slice An nml.length cn, nml, s0, s1, s2, s3, s4, s5⟩ : Re).rest op) := if_pos rfl
  have hlen2 : ((⟨0, ver, more, dp, dn, da, dr, .slice Ao obl.length co, obl, .slice Al lnl.length cl, lnl, .slice Ae evl.length ce, evl, .slice An nml.length cn, nml, s0, s1, s2, s3, s4, s5⟩ : Re).okS ++ (⟨0, ver, more, dp, dn, da, dr, .slice Ao obl.length co, obl, .slice Al lnl.length cl, lnl, .slice Ae evl.length ce, evl, .slice An nml.length cn, nml, s0, s1, s2, s3, s4, s5⟩ : Re).rest op).length ≤ 1099511627776 := by rw [← Ht.out]; exact hlen
  have Hlen := Lib.hid hlen2
  have Hok : Hid (∀ p ∈ ([.i64 ver] : List Pt), p.ok) := by
    intro p hp
    rw [List.mem_singleton.1 hp]
    exact Hr.out.ver
  have hold : Hid (Below w.heap.size w (((w.alloc (.cells #[.int .i64 0, .int .i64 ver, .bool more, .string dp, .string dn, .string da, .string dr, .slice Ao obl.length co, .slice Al lnl.length cl, .slice Ae evl.length ce, .slice An nml.length cn, .int .i64 s0, .int .i64 s1, .int .i64 s2, .int .i64 s3, .int .i64 s4, .int .i64 s5] 32)).alloc bldBox).alloc (.cells (([.i64 ver] : List Pt).map Pt.val).toArray 20))) := gb_old.alloc (by simp; omega) _
  have Hst := Lib.hid (GB.start w (.cells #[.int .i64 0, .int .i64 ver, .bool more, .string dp, .string dn, .string da, .string dr, .slice Ao obl.length co, .slice Al lnl.length cl, .slice Ae evl.length ce, .slice An nml.length cn, .int .i64 s0, .int .i64 s1, .int .i64 s2, .int .i64 s3, .int .i64 s4, .int .i64 s5] 32))
  have Hrest : Hid ((⟨0, ver, more, dp, dn, da, dr, .slice Ao obl.length co, obl, .slice Al lnl.length cl, lnl, .slice Ae evl.length ce, evl, .slice An nml.length cn, nml, s0, s1, s2, s3, s4, s5⟩ : Re).rest op = obsS obl ++ (nml.flatMap nmTxt ++ moreS more)) := by
    show _ = _
    unfold Re.rest
    rw [if_pos hop]
  subst hop
  clear hr htab hU hlen hlen2
  go_enter Tryd.func6, Tryd.ntmps6
  go_wp2_with fail
  refine (tell_calls ⟨#[111, 107]⟩ [.i64 ver] _ _ (rdP_new ((w.alloc (.cells #[.int .i64 0, .int .i64 ver, .bool more, .string dp, .string dn, .string da, .string dr, .slice Ao obl.length co, .slice Al lnl.length cl, .slice Ae evl.length ce, .slice An nml.length cn, .int .i64 s0, .int .i64 s1, .int .i64 s2, .int .i64 s3, .int .i64 s4, .int .i64 s5] 32)).alloc bldBox) 20 [.i64 ver] (w.heap.size + 1 + 1) (by simp) (by simp)) Hok.out (by have := Hlen.out; rw [List.length_append] at this; exact Nat.le_trans (Nat.le_of_add_right_le this) (by omega)) (by simp) (Htab.out.below hold.out)).mono ?_
  rintro e w3 ⟨rfl, hw3⟩
  have H3 : Hid (GB w (.cells #[.int .i64 0, .int .i64 ver, .bool more, .string dp, .string dn, .string da, .string dr, .slice Ao obl.length co, .slice Al lnl.length cl, .slice Ae evl.length ce, .slice An nml.length cn, .int .i64 s0, .int .i64 s1, .int .i64 s2, .int .i64 s3, .int .i64 s4, .int .i64 s5] 32) w3 (.slice none 0 0) []) := (Hst.out.alloc (.cells (([.i64 ver] : List Pt).map Pt.val).toArray 20)).below hw3
  rw [show tellS (ByteArray.mk #[111, 107]).data.toList [.i64 ver] = (⟨0, ver, more, dp, dn, da, dr, .slice Ao obl.length co, obl, .slice Al lnl.length cl, lnl, .slice Ae evl.length ce, evl, .slice An nml.length cn, nml, s0, s1, s2, s3, s4, s5⟩ : Re).okS from rfl]
  have hokl : (⟨0, ver, more, dp, dn, da, dr, .slice Ao obl.length co, obl, .slice Al lnl.length cl, lnl, .slice Ae evl.length ce, evl, .slice An nml.length cn, nml, s0, s1, s2, s3, s4, s5⟩ : Re).okS.length ≤ 1099511627776 := by have := Hlen.out; rw [List.length_append] at this; omega
  have Hokl := Lib.hid hokl
  have Hokd : Hid (∀ op, (⟨0, ver, more, dp, dn, da, dr, .slice Ao obl.length co, obl, .slice Al lnl.length cl, lnl, .slice Ae evl.length ce, evl, .slice An nml.length cn, nml, s0, s1, s2, s3, s4, s5⟩ : Re).txt op = (⟨0, ver, more, dp, dn, da, dr, .slice Ao obl.length co, obl, .slice Al lnl.length cl, lnl, .slice Ae evl.length ce, evl, .slice An nml.length cn, nml, s0, s1, s2, s3, s4, s5⟩ : Re).okS ++ (⟨0, ver, more, dp, dn, da, dr, .slice Ao obl.length co, obl, .slice Al lnl.length cl, lnl, .slice Ae evl.length ce, evl, .slice An nml.length cn, nml, s0, s1, s2, s3, s4, s5⟩ : Re).rest op) := fun op => if_pos rfl
  clear hw3 hold Hst hokl
  generalize (⟨0, ver, more, dp, dn, da, dr, .slice Ao obl.length co, obl, .slice Al lnl.length cl, lnl, .slice Ae evl.length ce, evl, .slice An nml.length cn, nml, s0, s1, s2, s3, s4, s5⟩ : Re).okS = ok at *
  go_wp2_with fail
  refine (writeString_calls (w.heap.size + 1) _ [] ⟨ok.toArray⟩ _ H3.out.is (by rw [ba_size]; have := Hokl.out; simp; omega)).mono ?_
  rintro e w4 ⟨⟨_, rfl⟩, s4', h4⟩
  have H4 : Hid (GB w (.cells #[.int .i64 0, .int .i64 ver, .bool more, .string dp, .string dn, .string da, .string dr, .slice Ao obl.length co, .slice Al lnl.length cl, .slice Ae evl.length ce, .slice An nml.length cn, .int .i64 s0, .int .i64 s1, .int .i64 s2, .int .i64 s3, .int .i64 s4, .int .i64 s5] 32) w4 s4' ok) := by have := H3.out.trans h4; simp only [List.nil_append, List.toList_toArray] at this; exact this
  have hbx := H4.out.box
  have hall : (ok ++ (obsS obl ++ (nml.flatMap nmTxt ++ moreS more))).length ≤ 1099511627776 := by have := Hlen.out; rw [Hrest.out] at this; exact this
  have Hall := Lib.hid hall
  have hobs : (ok ++ obsS obl).length ≤ 1099511627776 := by simp only [List.length_append] at hall ⊢; omega
  have hnl : nml.length ≤ 1099511627776 := by
    have h1 := flat_count nmTxt (fun x => by simp [nmTxt, tellS]) nml
    simp only [List.length_append] at hall; omega
  clear hall
  have k7_w4 : w4.cell? ⟨w.heap.size, 7, none⟩ = some (.slice Ao obl.length co) := by rw [Lib.cell_of_heap hbx]; rfl
  clear hbx h4 H3
  have Hobs := Lib.hid hobs
  clear hobs
  go_wp2_with fail
  refine (objects_calls w _ (w.heap.size + 1) s4' ok _ obl H4.out.base H4.out.is H4.out.S0 Hr.out.ob Hobs.out HU.out Htab.out).mono ?_
  rintro e w5 ⟨rfl, s5', h5⟩
  have H5 : Hid (GB w (.cells #[.int .i64 0, .int .i64 ver, .bool more, .string dp, .string dn, .string da, .string dr, .slice Ao obl.length co, .slice Al lnl.length cl, .slice Ae evl.length ce, .slice An nml.length cn, .int .i64 s0, .int .i64 s1, .int .i64 s2, .int .i64 s3, .int .i64 s4, .int .i64 s5] 32) w5 s5' (ok ++ obsS obl)) := H4.out.trans h5
  have hbx5 := H5.out.box
  have k10_w5 : w5.cell? ⟨w.heap.size, 10, none⟩ = some (.slice An nml.length cn) := by rw [Lib.cell_of_heap hbx5]; rfl
  clear h5 hbx5
  have Hst : Hid (NmLoop w (.cells #[.int .i64 0, .int .i64 ver, .bool more, .string dp, .string dn, .string da, .string dr, .slice Ao obl.length co, .slice Al lnl.length cl, .slice Ae evl.length ce, .slice An nml.length cn, .int .i64 s0, .int .i64 s1, .int .i64 s2, .int .i64 s3, .int .i64 s4, .int .i64 s5] 32) (ok ++ obsS obl) nml (.int .i64 0) w5) := ⟨0, s5', Nat.zero_le _, rfl, by simpa using H5.out⟩
  go_wp2
  go_loopw [54] (fun v w1 => NmLoop w (.cells #[.int .i64 0, .int .i64 ver, .bool more, .string dp, .string dn, .string da, .string dr, .slice Ao obl.length co, .slice Al lnl.length cl, .slice Ae evl.length ce, .slice An nml.length cn, .int .i64 s0, .int .i64 s1, .int .i64 s2, .int .i64 s3, .int .i64 s4, .int .i64 s5] 32) (ok ++ obsS obl) nml v w1) (fun i _ => nml.length - (intOf i).toNat)
  case atStart => exact Hst.out
  case round =>
    clear Hst k10_w5 H5
    obtain ⟨i, s6', hi, rfl, hO⟩ := hrel
    have HO := Lib.hid hO
    by_cases hlt : i < nml.length
    · have hd := dT hlt
      obtain ⟨b, off, c', hv, hc', hb, hc0⟩ := nm_at (Hr.out.nm.below hO.base) i hlt
      cases hv
      have HT : Hid ((nml.take (i + 1)).flatMap nmTxt = (nml.take i).flatMap nmTxt ++ nmTxt nml[i]) := take_snoc nmTxt hlt
      have hsz : (ok ++ obsS obl ++ (nml.take i).flatMap nmTxt).length + (nmTxt nml[i]).length ≤ 1099511627776 := by
        have h1 := take_len_le nmTxt hlt
        have h2 := Hall.out
        simp only [List.length_append] at h2 ⊢; omega
      generalize nml[i] = nm at hc0 HT hsz
      have Hsz := Lib.hid hsz
      have Hp : Hid (∀ p ∈ ([.str nm] : List Pt), p.ok) := by intro p hp; rw [List.mem_singleton.1 hp]; exact True.intro
      have hi0 : (0 : Int) ≤ i := by omega
      clear hO hsz
      go_wp2_with fail
      refine (tell_calls ⟨#[110, 97, 109, 101]⟩ [.str nm] _ _ (rdP_new wr 20 [.str nm] wr.heap.size rfl (by simp)) Hp.out (by have h := Hsz.out; exact Nat.le_trans (Nat.le_of_add_left_le h) (by omega)) (by simp) (Htab.out.below (HO.out.alloc _).base)).mono ?_
      rintro e w7 ⟨rfl, h7⟩
      rw [show tellS (ByteArray.mk #[110, 97, 109, 101]).data.toList [.str nm] = nmTxt nm from rfl]
      have H7 := Lib.hid ((HO.out.alloc (.cells (([.str nm] : List Pt).map Pt.val).toArray 20)).below h7)
      clear h7
      go_wp2_with fail
      refine (writeString_calls (w.heap.size + 1) s6' _ _ _ H7.out.is (by rw [ba_size]; have := Hsz.out; omega)).mono ?_
      rintro e w8 ⟨⟨_, rfl⟩, s8', h8⟩
      have Hn : Hid (NmLoop w (.cells #[.int .i64 0, .int .i64 ver, .bool more, .string dp, .string dn, .string da, .string dr, .slice Ao obl.length co, .slice Al lnl.length cl, .slice Ae evl.length ce, .slice (some ⟨b, off, none⟩) nml.length cn, .int .i64 s0, .int .i64 s1, .int .i64 s2, .int .i64 s3, .int .i64 s4, .int .i64 s5] 32) (ok ++ obsS obl) nml (.int .i64 ((i : Int) + 1)) w8) := by
        refine ⟨i + 1, s8', hlt, rfl, ?_⟩
        have := H7.out.trans h8
        rw [HT.out, ← List.append_assoc]
        simpa using this
      clear h8
      go_wp2
      go_roundw
      case rel => exact Hn.out
      case measure => simp [intOf]; omega
    · obtain rfl : i = nml.length := by omega
      have hd := dF hlt
      rw [List.take_length] at HO
      have hbx6 := HO.out.box
      have k0_wr : wr.cell? ⟨w.heap.size, 0, none⟩ = some (.int .i64 0) := by rw [Lib.cell_of_heap hbx6]; rfl
      have k1_wr : wr.cell? ⟨w.heap.size, 1, none⟩ = some (.int .i64 ver) := by rw [Lib.cell_of_heap hbx6]; rfl
      have k2_wr : wr.cell? ⟨w.heap.size, 2, none⟩ = some (.bool more) := by rw [Lib.cell_of_heap hbx6]; rfl
      have k3_wr : wr.cell? ⟨w.heap.size, 3, none⟩ = some (.string dp) := by rw [Lib.cell_of_heap hbx6]; rfl
      have k4_wr : wr.cell? ⟨w.heap.size, 4, none⟩ = some (.string dn) := by rw [Lib.cell_of_heap hbx6]; rfl
      have k5_wr : wr.cell? ⟨w.heap.size, 5, none⟩ = some (.string da) := by rw [Lib.cell_of_heap hbx6]; rfl
      have k6_wr : wr.cell? ⟨w.heap.size, 6, none⟩ = some (.string dr) := by rw [Lib.cell_of_heap hbx6]; rfl
      have k7_wr : wr.cell? ⟨w.heap.size, 7, none⟩ = some (.slice Ao obl.length co) := by rw [Lib.cell_of_heap hbx6]; rfl
      have k8_wr : wr.cell? ⟨w.heap.size, 8, none⟩ = some (.slice Al lnl.length cl) := by rw [Lib.cell_of_heap hbx6]; rfl
      have k9_wr : wr.cell? ⟨w.heap.size, 9, none⟩ = some (.slice Ae evl.length ce) := by rw [Lib.cell_of_heap hbx6]; rfl
      have k10_wr : wr.cell? ⟨w.heap.size, 10, none⟩ = some (.slice An nml.length cn) := by rw [Lib.cell_of_heap hbx6]; rfl
      have k11_wr : wr.cell? ⟨w.heap.size, 11, none⟩ = some (.int .i64 s0) := by rw [Lib.cell_of_heap hbx6]; rfl
      have k12_wr : wr.cell? ⟨w.heap.size, 12, none⟩ = some (.int .i64 s1) := by rw [Lib.cell_of_heap hbx6]; rfl
      have k13_wr : wr.cell? ⟨w.heap.size, 13, none⟩ = some (.int .i64 s2) := by rw [Lib.cell_of_heap hbx6]; rfl
      have k14_wr : wr.cell? ⟨w.heap.size, 14, none⟩ = some (.int .i64 s3) := by rw [Lib.cell_of_heap hbx6]; rfl
      have k15_wr : wr.cell? ⟨w.heap.size, 15, none⟩ = some (.int .i64 s4) := by rw [Lib.cell_of_heap hbx6]; rfl
      have k16_wr : wr.cell? ⟨w.heap.size, 16, none⟩ = some (.int .i64 s5) := by rw [Lib.cell_of_heap hbx6]; rfl
      clear hlt hbx6 hO
      go_wp2_with fail
      refine (more_calls (⟨0, ver, more, dp, dn, da, dr, .slice Ao obl.length co, obl, .slice Al lnl.length cl, lnl, .slice Ae evl.length ce, evl, .slice An nml.length cn, nml, s0, s1, s2, s3, s4, s5⟩ : Re) _ (w.heap.size + 1) s6' _ HO.out.is (by have := Hall.out; simp only [List.length_append] at this ⊢; omega)).mono ?_
      rintro e w7 ⟨rfl, s7', h7⟩
      have H7 : Hid (GB w (.cells #[.int .i64 0, .int .i64 ver, .bool more, .string dp, .string dn, .string da, .string dr, .slice Ao obl.length co, .slice Al lnl.length cl, .slice Ae evl.length ce, .slice An nml.length cn, .int .i64 s0, .int .i64 s1, .int .i64 s2, .int .i64 s3, .int .i64 s4, .int .i64 s5] 32) w7 s7' (ok ++ obsS obl ++ nml.flatMap nmTxt ++ moreS more)) := HO.out.trans h7
      clear h7
      go_wp2_with fail
      refine (bstring_calls (w.heap.size + 1) s7' _ _ w.heap.size H7.out.is H7.out.S0).mono ?_
      rintro e wz ⟨rfl, hz⟩
      have Hz := Lib.hid (H7.out.base.trans hz)
      clear hz
      go_wp2
      go_ret
      exact ⟨_, rfl, ⟨_, rfl, (by rw [Hokd.out, Hrest.out]; try simp)⟩, Hz.out⟩

set_option maxRecDepth 100000 in
set_option maxHeartbeats 3200000 in
theorem tell_stat_calls (op : Int) (ver : Int) (more : Bool) (dp dn da dr : ByteArray) (Ao : Option Addr) (co : Nat) (obl : List Ob) (Al : Option Addr) (cl : Nat) (lnl : List Ln) (Ae : Option Addr) (ce : Nat) (evl : List Ev) (An : Option Addr) (cn : Nat) (nml : List ByteArray) (s0 s1 s2 s3 s4 s5 : Int) (w : World) (hop : op = 19) (hr : ReOk w (⟨0, ver, more, dp, dn, da, dr, .slice Ao obl.length co, obl, .slice Al lnl.length cl, lnl, .slice Ae evl.length ce, evl, .slice An nml.length cn, nml, s0, s1, s2, s3, s4, s5⟩ : Re)) (hlen : ((⟨0, ver, more, dp, dn, da, dr, .slice Ao obl.length co, obl, .slice Al lnl.length cl, lnl, .slice Ae evl.length ce, evl, .slice An nml.length cn, nml, s0, s1, s2, s3, s4, s5⟩ : Re).txt op).length ≤ 1099511627776) (hU : Uni w) (htab : PowTab w) :
    Calls Tryd.prog 6 #[.int .i64 op, reAgg (⟨0, ver, more, dp, dn, da, dr, .slice Ao obl.length co, obl, .slice Al lnl.length cl, lnl, .slice Ae evl.length ce, evl, .slice An nml.length cn, nml, s0, s1, s2, s3, s4, s5⟩ : Re)] w fun e w' => ∃ sv, e = .returned sv ∧ StrIs sv ((⟨0, ver, more, dp, dn, da, dr, .slice Ao obl.length co, obl, .slice Al lnl.length cl, lnl, .slice Ae evl.length ce, evl, .slice An nml.length cn, nml, s0, s1, s2, s3, s4, s5⟩ : Re).txt op) ∧ Below w.heap.size w w' := by
  have Hr := Lib.hid hr
  have Htab := Lib.hid htab
  have HU := Lib.hid hU
  have Ht : Hid ((⟨0, ver, more, dp, dn, da, dr, .slice Ao obl.length co, obl, .slice Al lnl.length cl, lnl, .slice Ae evl.length ce, evl, .slice An nml.length cn, nml, s0, s1, s2, s3, s4, s5⟩ : Re).txt op = (⟨0, ver, more, dp, dn, da, dr, .slice Ao obl.length co, obl, .slice Al lnl.length cl, lnl, .slice Ae evl.length ce, evl, .slice An nml.length cn, nml, s0, s1, s2, s3, s4, s5⟩ : Re).okS ++ (⟨0, ver, more, dp, dn, da, dr, .slice Ao obl.length co, obl, .slice Al lnl.length cl, lnl, .slice Ae evl.length ce, evl, .slice An nml.length cn, nml, s0, s1, s2, s3, s4, s5⟩ : Re).rest op) := if_pos rfl
  have hlen2 : ((⟨0, ver, more, dp, dn, da, dr, .slice Ao obl.length co, obl, .slice Al lnl.length cl, lnl, .slice Ae evl.length ce, evl, .slice An nml.length cn, nml, s0, s1, s2, s3, s4, s5⟩ : Re).okS ++ (⟨0, ver, more, dp, dn, da, dr, .slice Ao obl.length co, obl, .slice Al lnl.length cl, lnl, .slice Ae evl.length ce, evl, .slice An nml.length cn, nml, s0, s1, s2, s3, s4, s5⟩ : Re).rest op).length ≤ 1099511627776 := by rw [← Ht.out]; exact hlen
  have Hlen := Lib.hid hlen2
  have Hok : Hid (∀ p ∈ ([.i64 ver] : List Pt), p.ok) := by
    intro p hp
    rw [List.mem_singleton.1 hp]
    exact Hr.out.ver
  have hold : Hid (Below w.heap.size w (((w.alloc (.cells #[.int .i64 0, .int .i64 ver, .bool more, .string dp, .string dn, .string da, .string dr, .slice Ao obl.length co, .slice Al lnl.length cl, .slice Ae evl.length ce, .slice An nml.length cn, .int .i64 s0, .int .i64 s1, .int .i64 s2, .int .i64 s3, .int .i64 s4, .int .i64 s5] 32)).alloc bldBox).alloc (.cells (([.i64 ver] : List Pt).map Pt.val).toArray 20))) := gb_old.alloc (by simp; omega) _
  have Hst := Lib.hid (GB.start w (.cells #[.int .i64 0, .int .i64 ver, .bool more, .string dp, .string dn, .string da, .string dr, .slice Ao obl.length co, .slice Al lnl.length cl, .slice Ae evl.length ce, .slice An nml.length cn, .int .i64 s0, .int .i64 s1, .int .i64 s2, .int .i64 s3, .int .i64 s4, .int .i64 s5] 32))
  have Hrest : Hid ((⟨0, ver, more, dp, dn, da, dr, .slice Ao obl.length co, obl, .slice Al lnl.length cl, lnl, .slice Ae evl.length ce, evl, .slice An nml.length cn, nml, s0, s1, s2, s3, s4, s5⟩ : Re).rest op = tellS [115, 116, 97, 116] (⟨0, ver, more, dp, dn, da, dr, .slice Ao obl.length co, obl, .slice Al lnl.length cl, lnl, .slice Ae evl.length ce, evl, .slice An nml.length cn, nml, s0, s1, s2, s3, s4, s5⟩ : Re).stParts) := by
    show _ = _
    unfold Re.rest
    rw [if_neg (by omega), if_neg (by omega), if_neg (by omega), if_neg (by omega), if_neg (by omega), if_pos hop]
  subst hop
  clear hr htab hU hlen hlen2
  go_enter Tryd.func6, Tryd.ntmps6
  go_wp2_with fail
  refine (tell_calls ⟨#[111, 107]⟩ [.i64 ver] _ _ (rdP_new ((w.alloc (.cells #[.int .i64 0, .int .i64 ver, .bool more, .string dp, .string dn, .string da, .string dr, .slice Ao obl.length co, .slice Al lnl.length cl, .slice Ae evl.length ce, .slice An nml.length cn, .int .i64 s0, .int .i64 s1, .int .i64 s2, .int .i64 s3, .int .i64 s4, .int .i64 s5] 32)).alloc bldBox) 20 [.i64 ver] (w.heap.size + 1 + 1) (by simp) (by simp)) Hok.out (by have := Hlen.out; rw [List.length_append] at this; exact Nat.le_trans (Nat.le_of_add_right_le this) (by omega)) (by simp) (Htab.out.below hold.out)).mono ?_
  rintro e w3 ⟨rfl, hw3⟩
  have H3 : Hid (GB w (.cells #[.int .i64 0, .int .i64 ver, .bool more, .string dp, .string dn, .string da, .string dr, .slice Ao obl.length co, .slice Al lnl.length cl, .slice Ae evl.length ce, .slice An nml.length cn, .int .i64 s0, .int .i64 s1, .int .i64 s2, .int .i64 s3, .int .i64 s4, .int .i64 s5] 32) w3 (.slice none 0 0) []) := (Hst.out.alloc (.cells (([.i64 ver] : List Pt).map Pt.val).toArray 20)).below hw3
  rw [show tellS (ByteArray.mk #[111, 107]).data.toList [.i64 ver] = (⟨0, ver, more, dp, dn, da, dr, .slice Ao obl.length co, obl, .slice Al lnl.length cl, lnl, .slice Ae evl.length ce, evl, .slice An nml.length cn, nml, s0, s1, s2, s3, s4, s5⟩ : Re).okS from rfl]
  have hokl : (⟨0, ver, more, dp, dn, da, dr, .slice Ao obl.length co, obl, .slice Al lnl.length cl, lnl, .slice Ae evl.length ce, evl, .slice An nml.length cn, nml, s0, s1, s2, s3, s4, s5⟩ : Re).okS.length ≤ 1099511627776 := by have := Hlen.out; rw [List.length_append] at this; omega
  have Hokl := Lib.hid hokl
  have Hokd : Hid (∀ op, (⟨0, ver, more, dp, dn, da, dr, .slice Ao obl.length co, obl, .slice Al lnl.length cl, lnl, .slice Ae evl.length ce, evl, .slice An nml.length cn, nml, s0, s1, s2, s3, s4, s5⟩ : Re).txt op = (⟨0, ver, more, dp, dn, da, dr, .slice Ao obl.length co, obl, .slice Al lnl.length cl, lnl, .slice Ae evl.length ce, evl, .slice An nml.length cn, nml, s0, s1, s2, s3, s4, s5⟩ : Re).okS ++ (⟨0, ver, more, dp, dn, da, dr, .slice Ao obl.length co, obl, .slice Al lnl.length cl, lnl, .slice Ae evl.length ce, evl, .slice An nml.length cn, nml, s0, s1, s2, s3, s4, s5⟩ : Re).rest op) := fun op => if_pos rfl
  clear hw3 hold Hst hokl
  generalize (⟨0, ver, more, dp, dn, da, dr, .slice Ao obl.length co, obl, .slice Al lnl.length cl, lnl, .slice Ae evl.length ce, evl, .slice An nml.length cn, nml, s0, s1, s2, s3, s4, s5⟩ : Re).okS = ok at *
  go_wp2_with fail
  refine (writeString_calls (w.heap.size + 1) _ [] ⟨ok.toArray⟩ _ H3.out.is (by rw [ba_size]; have := Hokl.out; simp; omega)).mono ?_
  rintro e w4 ⟨⟨_, rfl⟩, s4', h4⟩
  have H4 : Hid (GB w (.cells #[.int .i64 0, .int .i64 ver, .bool more, .string dp, .string dn, .string da, .string dr, .slice Ao obl.length co, .slice Al lnl.length cl, .slice Ae evl.length ce, .slice An nml.length cn, .int .i64 s0, .int .i64 s1, .int .i64 s2, .int .i64 s3, .int .i64 s4, .int .i64 s5] 32) w4 s4' ok) := by have := H3.out.trans h4; simp only [List.nil_append, List.toList_toArray] at this; exact this
  have hbx := H4.out.box
  have k11_w4 : w4.cell? ⟨w.heap.size, 11, none⟩ = some (.int .i64 s0) := by rw [Lib.cell_of_heap hbx]; rfl
  have k12_w4 : w4.cell? ⟨w.heap.size, 12, none⟩ = some (.int .i64 s1) := by rw [Lib.cell_of_heap hbx]; rfl
  have k13_w4 : w4.cell? ⟨w.heap.size, 13, none⟩ = some (.int .i64 s2) := by rw [Lib.cell_of_heap hbx]; rfl
  have k14_w4 : w4.cell? ⟨w.heap.size, 14, none⟩ = some (.int .i64 s3) := by rw [Lib.cell_of_heap hbx]; rfl
  have k15_w4 : w4.cell? ⟨w.heap.size, 15, none⟩ = some (.int .i64 s4) := by rw [Lib.cell_of_heap hbx]; rfl
  have k16_w4 : w4.cell? ⟨w.heap.size, 16, none⟩ = some (.int .i64 s5) := by rw [Lib.cell_of_heap hbx]; rfl
  clear hbx h4 H3
  have hst : (ok ++ tellS [115, 116, 97, 116] (⟨0, ver, more, dp, dn, da, dr, .slice Ao obl.length co, obl, .slice Al lnl.length cl, lnl, .slice Ae evl.length ce, evl, .slice An nml.length cn, nml, s0, s1, s2, s3, s4, s5⟩ : Re).stParts).length ≤ 1099511627776 := by have := Hlen.out; rw [Hrest.out] at this; exact this
  have Hst := Lib.hid hst
  have Hp : Hid (∀ p ∈ (⟨0, ver, more, dp, dn, da, dr, .slice Ao obl.length co, obl, .slice Al lnl.length cl, lnl, .slice Ae evl.length ce, evl, .slice An nml.length cn, nml, s0, s1, s2, s3, s4, s5⟩ : Re).stParts, p.ok) := by
    intro p hp
    simp only [Re.stParts, List.mem_cons, List.not_mem_nil, or_false] at hp
    rcases hp with rfl | rfl | rfl | rfl | rfl | rfl
    · exact Hr.out.s0
    · exact Hr.out.s1
    · exact Hr.out.s2
    · exact Hr.out.s3
    · exact Hr.out.s4
    · exact Hr.out.s5
  have H5 : Hid (GB w (.cells #[.int .i64 0, .int .i64 ver, .bool more, .string dp, .string dn, .string da, .string dr, .slice Ao obl.length co, .slice Al lnl.length cl, .slice Ae evl.length ce, .slice An nml.length cn, .int .i64 s0, .int .i64 s1, .int .i64 s2, .int .i64 s3, .int .i64 s4, .int .i64 s5] 32) ((w4.alloc (.cells #[.int .i64 s0, .int .i64 s1, .int .i64 s2, .int .i64 s3, .int .i64 s4, .int .i64 s5] 30)).alloc (.cells ((⟨0, ver, more, dp, dn, da, dr, .slice Ao obl.length co, obl, .slice Al lnl.length cl, lnl, .slice Ae evl.length ce, evl, .slice An nml.length cn, nml, s0, s1, s2, s3, s4, s5⟩ : Re).stParts.map Pt.val).toArray 20)) s4' ok) := (H4.out.alloc _).alloc _
  clear hst
  go_wp2_with fail
  refine (tell_calls ⟨#[115, 116, 97, 116]⟩ (⟨0, ver, more, dp, dn, da, dr, .slice Ao obl.length co, obl, .slice Al lnl.length cl, lnl, .slice Ae evl.length ce, evl, .slice An nml.length cn, nml, s0, s1, s2, s3, s4, s5⟩ : Re).stParts _ _ (rdP_new (w4.alloc (.cells #[.int .i64 s0, .int .i64 s1, .int .i64 s2, .int .i64 s3, .int .i64 s4, .int .i64 s5] 30)) 20 (⟨0, ver, more, dp, dn, da, dr, .slice Ao obl.length co, obl, .slice Al lnl.length cl, lnl, .slice Ae evl.length ce, evl, .slice An nml.length cn, nml, s0, s1, s2, s3, s4, s5⟩ : Re).stParts (w4.heap.size + 1) (by simp) (by simp [Re.stParts])) Hp.out (by have h := Hst.out; rw [List.length_append] at h; exact Nat.le_trans (Nat.le_of_add_left_le h) (by omega)) (by simp [Re.stParts]) (Htab.out.below H5.out.base)).mono ?_
  rintro e w7 ⟨rfl, h7⟩
  rw [show tellS (ByteArray.mk #[115, 116, 97, 116]).data.toList (⟨0, ver, more, dp, dn, da, dr, .slice Ao obl.length co, obl, .slice Al lnl.length cl, lnl, .slice Ae evl.length ce, evl, .slice An nml.length cn, nml, s0, s1, s2, s3, s4, s5⟩ : Re).stParts = tellS [115, 116, 97, 116] (⟨0, ver, more, dp, dn, da, dr, .slice Ao obl.length co, obl, .slice Al lnl.length cl, lnl, .slice Ae evl.length ce, evl, .slice An nml.length cn, nml, s0, s1, s2, s3, s4, s5⟩ : Re).stParts from rfl]
  have H7 := Lib.hid (H5.out.below h7)
  clear h7
  go_wp2_with fail
  refine (writeString_calls (w.heap.size + 1) s4' _ _ _ H7.out.is (by rw [ba_size]; have := Hst.out; rw [List.length_append] at this; omega)).mono ?_
  rintro e w8 ⟨⟨_, rfl⟩, s8', h8⟩
  have H8 : Hid (GB w (.cells #[.int .i64 0, .int .i64 ver, .bool more, .string dp, .string dn, .string da, .string dr, .slice Ao obl.length co, .slice Al lnl.length cl, .slice Ae evl.length ce, .slice An nml.length cn, .int .i64 s0, .int .i64 s1, .int .i64 s2, .int .i64 s3, .int .i64 s4, .int .i64 s5] 32) w8 s8' (ok ++ tellS [115, 116, 97, 116] (⟨0, ver, more, dp, dn, da, dr, .slice Ao obl.length co, obl, .slice Al lnl.length cl, lnl, .slice Ae evl.length ce, evl, .slice An nml.length cn, nml, s0, s1, s2, s3, s4, s5⟩ : Re).stParts)) := by have := H7.out.trans h8; simp only [List.toList_toArray] at this; exact this
  clear h8
  go_wp2_with fail
  refine (bstring_calls (w.heap.size + 1) s8' _ _ w.heap.size H8.out.is H8.out.S0).mono ?_
  rintro e wz ⟨rfl, hz⟩
  have Hz := Lib.hid (H8.out.base.trans hz)
  clear hz
  go_wp2
  go_ret
  exact ⟨_, rfl, ⟨_, rfl, (by rw [Hokd.out, Hrest.out]; try simp)⟩, Hz.out⟩

set_option maxRecDepth 100000 in
set_option maxHeartbeats 3200000 in
theorem tell_watch_calls (op : Int) (ver : Int) (more : Bool) (dp dn da dr : ByteArray) (Ao : Option Addr) (co : Nat) (obl : List Ob) (Al : Option Addr) (cl : Nat) (lnl : List Ln) (Ae : Option Addr) (ce : Nat) (evl : List Ev) (An : Option Addr) (cn : Nat) (nml : List ByteArray) (s0 s1 s2 s3 s4 s5 : Int) (w : World) (hop : op = 13) (hr : ReOk w (⟨0, ver, more, dp, dn, da, dr, .slice Ao obl.length co, obl, .slice Al lnl.length cl, lnl, .slice Ae evl.length ce, evl, .slice An nml.length cn, nml, s0, s1, s2, s3, s4, s5⟩ : Re)) (hlen : ((⟨0, ver, more, dp, dn, da, dr, .slice Ao obl.length co, obl, .slice Al lnl.length cl, lnl, .slice Ae evl.length ce, evl, .slice An nml.length cn, nml, s0, s1, s2, s3, s4, s5⟩ : Re).txt op).length ≤ 1099511627776) (hU : Uni w) (htab : PowTab w) :
    Calls Tryd.prog 6 #[.int .i64 op, reAgg (⟨0, ver, more, dp, dn, da, dr, .slice Ao obl.length co, obl, .slice Al lnl.length cl, lnl, .slice Ae evl.length ce, evl, .slice An nml.length cn, nml, s0, s1, s2, s3, s4, s5⟩ : Re)] w fun e w' => ∃ sv, e = .returned sv ∧ StrIs sv ((⟨0, ver, more, dp, dn, da, dr, .slice Ao obl.length co, obl, .slice Al lnl.length cl, lnl, .slice Ae evl.length ce, evl, .slice An nml.length cn, nml, s0, s1, s2, s3, s4, s5⟩ : Re).txt op) ∧ Below w.heap.size w w' := by
  have Hr := Lib.hid hr
  have Htab := Lib.hid htab
  have HU := Lib.hid hU
  have Ht : Hid ((⟨0, ver, more, dp, dn, da, dr, .slice Ao obl.length co, obl, .slice Al lnl.length cl, lnl, .slice Ae evl.length ce, evl, .slice An nml.length cn, nml, s0, s1, s2, s3, s4, s5⟩ : Re).txt op = (⟨0, ver, more, dp, dn, da, dr, .slice Ao obl.length co, obl, .slice Al lnl.length cl, lnl, .slice Ae evl.length ce, evl, .slice An nml.length cn, nml, s0, s1, s2, s3, s4, s5⟩ : Re).okS ++ (⟨0, ver, more, dp, dn, da, dr, .slice Ao obl.length co, obl, .slice Al lnl.length cl, lnl, .slice Ae evl.length ce, evl, .slice An nml.length cn, nml, s0, s1, s2, s3, s4, s5⟩ : Re).rest op) := if_pos rfl
  have hlen2 : ((⟨0, ver, more, dp, dn, da, dr, .slice Ao obl.length co, obl, .slice Al lnl.length cl, lnl, .slice Ae evl.length ce, evl, .slice An nml.length cn, nml, s0, s1, s2, s3, s4, s5⟩ : Re).okS ++ (⟨0, ver, more, dp, dn, da, dr, .slice Ao obl.length co, obl, .slice Al lnl.length cl, lnl, .slice Ae evl.length ce, evl, .slice An nml.length cn, nml, s0, s1, s2, s3, s4, s5⟩ : Re).rest op).length ≤ 1099511627776 := by rw [← Ht.out]; exact hlen
  have Hlen := Lib.hid hlen2
  have Hok : Hid (∀ p ∈ ([.i64 ver] : List Pt), p.ok) := by
    intro p hp
    rw [List.mem_singleton.1 hp]
    exact Hr.out.ver
  have hold : Hid (Below w.heap.size w (((w.alloc (.cells #[.int .i64 0, .int .i64 ver, .bool more, .string dp, .string dn, .string da, .string dr, .slice Ao obl.length co, .slice Al lnl.length cl, .slice Ae evl.length ce, .slice An nml.length cn, .int .i64 s0, .int .i64 s1, .int .i64 s2, .int .i64 s3, .int .i64 s4, .int .i64 s5] 32)).alloc bldBox).alloc (.cells (([.i64 ver] : List Pt).map Pt.val).toArray 20))) := gb_old.alloc (by simp; omega) _
  have Hst := Lib.hid (GB.start w (.cells #[.int .i64 0, .int .i64 ver, .bool more, .string dp, .string dn, .string da, .string dr, .slice Ao obl.length co, .slice Al lnl.length cl, .slice Ae evl.length ce, .slice An nml.length cn, .int .i64 s0, .int .i64 s1, .int .i64 s2, .int .i64 s3, .int .i64 s4, .int .i64 s5] 32))
  have Hrest : Hid ((⟨0, ver, more, dp, dn, da, dr, .slice Ao obl.length co, obl, .slice Al lnl.length cl, lnl, .slice Ae evl.length ce, evl, .slice An nml.length cn, nml, s0, s1, s2, s3, s4, s5⟩ : Re).rest op = evl.flatMap Ev.txt) := by
    show _ = _
    unfold Re.rest
    rw [if_neg (by omega), if_neg (by omega), if_neg (by omega), if_neg (by omega), if_pos hop]
  subst hop
  clear hr htab hU hlen hlen2
  go_enter Tryd.func6, Tryd.ntmps6
  go_wp2_with fail
  refine (tell_calls ⟨#[111, 107]⟩ [.i64 ver] _ _ (rdP_new ((w.alloc (.cells #[.int .i64 0, .int .i64 ver, .bool more, .string dp, .string dn, .string da, .string dr, .slice Ao obl.length co, .slice Al lnl.length cl, .slice Ae evl.length ce, .slice An nml.length cn, .int .i64 s0, .int .i64 s1, .int .i64 s2, .int .i64 s3, .int .i64 s4, .int .i64 s5] 32)).alloc bldBox) 20 [.i64 ver] (w.heap.size + 1 + 1) (by simp) (by simp)) Hok.out (by have := Hlen.out; rw [List.length_append] at this; exact Nat.le_trans (Nat.le_of_add_right_le this) (by omega)) (by simp) (Htab.out.below hold.out)).mono ?_
  rintro e w3 ⟨rfl, hw3⟩
  have H3 : Hid (GB w (.cells #[.int .i64 0, .int .i64 ver, .bool more, .string dp, .string dn, .string da, .string dr, .slice Ao obl.length co, .slice Al lnl.length cl, .slice Ae evl.length ce, .slice An nml.length cn, .int .i64 s0, .int .i64 s1, .int .i64 s2, .int .i64 s3, .int .i64 s4, .int .i64 s5] 32) w3 (.slice none 0 0) []) := (Hst.out.alloc (.cells (([.i64 ver] : List Pt).map Pt.val).toArray 20)).below hw3
  rw [show tellS (ByteArray.mk #[111, 107]).data.toList [.i64 ver] = (⟨0, ver, more, dp, dn, da, dr, .slice Ao obl.length co, obl, .slice Al lnl.length cl, lnl, .slice Ae evl.length ce, evl, .slice An nml.length cn, nml, s0, s1, s2, s3, s4, s5⟩ : Re).okS from rfl]
  have hokl : (⟨0, ver, more, dp, dn, da, dr, .slice Ao obl.length co, obl, .slice Al lnl.length cl, lnl, .slice Ae evl.length ce, evl, .slice An nml.length cn, nml, s0, s1, s2, s3, s4, s5⟩ : Re).okS.length ≤ 1099511627776 := by have := Hlen.out; rw [List.length_append] at this; omega
  have Hokl := Lib.hid hokl
  have Hokd : Hid (∀ op, (⟨0, ver, more, dp, dn, da, dr, .slice Ao obl.length co, obl, .slice Al lnl.length cl, lnl, .slice Ae evl.length ce, evl, .slice An nml.length cn, nml, s0, s1, s2, s3, s4, s5⟩ : Re).txt op = (⟨0, ver, more, dp, dn, da, dr, .slice Ao obl.length co, obl, .slice Al lnl.length cl, lnl, .slice Ae evl.length ce, evl, .slice An nml.length cn, nml, s0, s1, s2, s3, s4, s5⟩ : Re).okS ++ (⟨0, ver, more, dp, dn, da, dr, .slice Ao obl.length co, obl, .slice Al lnl.length cl, lnl, .slice Ae evl.length ce, evl, .slice An nml.length cn, nml, s0, s1, s2, s3, s4, s5⟩ : Re).rest op) := fun op => if_pos rfl
  clear hw3 hold Hst hokl
  generalize (⟨0, ver, more, dp, dn, da, dr, .slice Ao obl.length co, obl, .slice Al lnl.length cl, lnl, .slice Ae evl.length ce, evl, .slice An nml.length cn, nml, s0, s1, s2, s3, s4, s5⟩ : Re).okS = ok at *
  go_wp2_with fail
  refine (writeString_calls (w.heap.size + 1) _ [] ⟨ok.toArray⟩ _ H3.out.is (by rw [ba_size]; have := Hokl.out; simp; omega)).mono ?_
  rintro e w4 ⟨⟨_, rfl⟩, s4', h4⟩
  have H4 : Hid (GB w (.cells #[.int .i64 0, .int .i64 ver, .bool more, .string dp, .string dn, .string da, .string dr, .slice Ao obl.length co, .slice Al lnl.length cl, .slice Ae evl.length ce, .slice An nml.length cn, .int .i64 s0, .int .i64 s1, .int .i64 s2, .int .i64 s3, .int .i64 s4, .int .i64 s5] 32) w4 s4' ok) := by have := H3.out.trans h4; simp only [List.nil_append, List.toList_toArray] at this; exact this
  have hbx := H4.out.box
  have k9_w4 : w4.cell? ⟨w.heap.size, 9, none⟩ = some (.slice Ae evl.length ce) := by rw [Lib.cell_of_heap hbx]; rfl
  have hall : (ok ++ evl.flatMap Ev.txt).length ≤ 1099511627776 := by have := Hlen.out; rw [Hrest.out] at this; exact this
  have Hall := Lib.hid hall
  have hnl : evl.length ≤ 1099511627776 := by
    have h1 := flat_count Ev.txt (fun x => by simp [Ev.txt, tellS]) evl
    simp only [List.length_append] at hall; omega
  clear hall
  clear hbx h4 H3
  have Hst : Hid (EvLoop w (.cells #[.int .i64 0, .int .i64 ver, .bool more, .string dp, .string dn, .string da, .string dr, .slice Ao obl.length co, .slice Al lnl.length cl, .slice Ae evl.length ce, .slice An nml.length cn, .int .i64 s0, .int .i64 s1, .int .i64 s2, .int .i64 s3, .int .i64 s4, .int .i64 s5] 32) ok evl (.int .i64 0) w4) := ⟨0, s4', Nat.zero_le _, rfl, by simpa using H4.out⟩
  go_wp2
  go_loopw [110] (fun v w1 => EvLoop w (.cells #[.int .i64 0, .int .i64 ver, .bool more, .string dp, .string dn, .string da, .string dr, .slice Ao obl.length co, .slice Al lnl.length cl, .slice Ae evl.length ce, .slice An nml.length cn, .int .i64 s0, .int .i64 s1, .int .i64 s2, .int .i64 s3, .int .i64 s4, .int .i64 s5] 32) ok evl v w1) (fun i _ => evl.length - (intOf i).toNat)
  case atStart => exact Hst.out
  case round =>
    clear Hst k9_w4 H4
    obtain ⟨i, s6', hi, rfl, hO⟩ := hrel
    have HO := Lib.hid hO
    by_cases hlt : i < evl.length
    · have hd := dT hlt
      obtain ⟨b, off, c', hv, hc', hb, hc0, hc1, hc2, hc3, hc4⟩ := Ev.at (Hr.out.ev.below hO.base) i hlt
      cases hv
      have HT : Hid ((evl.take (i + 1)).flatMap Ev.txt = (evl.take i).flatMap Ev.txt ++ evl[i].txt) := take_snoc Ev.txt hlt
      have hsz : (ok ++ (evl.take i).flatMap Ev.txt).length + evl[i].txt.length ≤ 1099511627776 := by
        have h1 := take_len_le Ev.txt hlt
        have h2 := Hall.out
        simp only [List.length_append] at h2 ⊢; omega
      have hz := Hr.out.ev.2 _ (List.getElem_mem hlt)
      generalize evl[i] = x at hc0 hc1 hc2 hc3 hc4 HT hsz hz
      have Hsz := Lib.hid hsz
      have Hp : Hid (∀ p ∈ x.parts, p.ok) := by
        intro p hp
        simp only [Ev.parts, List.mem_cons, List.not_mem_nil, or_false] at hp
        rcases hp with rfl | rfl | rfl | rfl | rfl
        · exact hz.1
        · exact hz.2
        all_goals exact True.intro
      have H6 := Lib.hid ((HO.out.alloc (.cells #[.int .i64 x.ver, .int .i64 x.kind, .bool x.gone, .string x.path, .string x.name] 50)).alloc (.cells (x.parts.map Pt.val).toArray 20))
      have hi0 : (0 : Int) ≤ i := by omega
      clear hO hsz hz
      go_wp2_with fail
      refine (tell_calls ⟨#[101, 118, 101, 110, 116]⟩ x.parts _ _ (rdP_new (wr.alloc (.cells #[.int .i64 x.ver, .int .i64 x.kind, .bool x.gone, .string x.path, .string x.name] 50)) 20 x.parts (wr.heap.size + 1) (by simp) (by simp [Ev.parts])) Hp.out (by have h := Hsz.out; exact Nat.le_trans (Nat.le_of_add_left_le h) (by omega)) (by simp [Ev.parts]) (Htab.out.below H6.out.base)).mono ?_
      rintro e w7 ⟨rfl, h7⟩
      rw [show tellS (ByteArray.mk #[101, 118, 101, 110, 116]).data.toList x.parts = x.txt from rfl]
      have H7 := Lib.hid (H6.out.below h7)
      clear h7
      go_wp2_with fail
      refine (writeString_calls (w.heap.size + 1) s6' _ _ _ H7.out.is (by rw [ba_size]; have := Hsz.out; omega)).mono ?_
      rintro e w8 ⟨⟨_, rfl⟩, s8', h8⟩
      have Hn : Hid (EvLoop w (.cells #[.int .i64 0, .int .i64 ver, .bool more, .string dp, .string dn, .string da, .string dr, .slice Ao obl.length co, .slice Al lnl.length cl, .slice (some ⟨b, off, none⟩) evl.length ce, .slice An nml.length cn, .int .i64 s0, .int .i64 s1, .int .i64 s2, .int .i64 s3, .int .i64 s4, .int .i64 s5] 32) ok evl (.int .i64 ((i : Int) + 1)) w8) := by
        refine ⟨i + 1, s8', hlt, rfl, ?_⟩
        have := H7.out.trans h8
        rw [HT.out, ← List.append_assoc]
        simpa using this
      clear h8
      go_wp2
      go_roundw
      case rel => exact Hn.out
      case measure => simp [intOf]; omega
    · obtain rfl : i = evl.length := by omega
      have hd := dF hlt
      rw [List.take_length] at HO
      clear hlt hO
      go_wp2_with fail
      refine (bstring_calls (w.heap.size + 1) s6' _ _ w.heap.size HO.out.is HO.out.S0).mono ?_
      rintro e wz ⟨rfl, hz⟩
      have Hz := Lib.hid (HO.out.base.trans hz)
      clear hz
      go_wp2
      go_ret
      exact ⟨_, rfl, ⟨_, rfl, (by rw [Hokd.out, Hrest.out]; try simp)⟩, Hz.out⟩

set_option maxRecDepth 100000 in
set_option maxHeartbeats 3200000 in
theorem tell_status_calls (op : Int) (ver : Int) (more : Bool) (dp dn da dr : ByteArray) (Ao : Option Addr) (co : Nat) (obl : List Ob) (Al : Option Addr) (cl : Nat) (lnl : List Ln) (Ae : Option Addr) (ce : Nat) (evl : List Ev) (An : Option Addr) (cn : Nat) (nml : List ByteArray) (s0 s1 s2 s3 s4 s5 : Int) (w : World) (hop : op = 12) (hr : ReOk w (⟨0, ver, more, dp, dn, da, dr, .slice Ao obl.length co, obl, .slice Al lnl.length cl, lnl, .slice Ae evl.length ce, evl, .slice An nml.length cn, nml, s0, s1, s2, s3, s4, s5⟩ : Re)) (hlen : ((⟨0, ver, more, dp, dn, da, dr, .slice Ao obl.length co, obl, .slice Al lnl.length cl, lnl, .slice Ae evl.length ce, evl, .slice An nml.length cn, nml, s0, s1, s2, s3, s4, s5⟩ : Re).txt op).length ≤ 1099511627776) (hU : Uni w) (htab : PowTab w) :
    Calls Tryd.prog 6 #[.int .i64 op, reAgg (⟨0, ver, more, dp, dn, da, dr, .slice Ao obl.length co, obl, .slice Al lnl.length cl, lnl, .slice Ae evl.length ce, evl, .slice An nml.length cn, nml, s0, s1, s2, s3, s4, s5⟩ : Re)] w fun e w' => ∃ sv, e = .returned sv ∧ StrIs sv ((⟨0, ver, more, dp, dn, da, dr, .slice Ao obl.length co, obl, .slice Al lnl.length cl, lnl, .slice Ae evl.length ce, evl, .slice An nml.length cn, nml, s0, s1, s2, s3, s4, s5⟩ : Re).txt op) ∧ Below w.heap.size w w' := by
  have Hr := Lib.hid hr
  have Htab := Lib.hid htab
  have HU := Lib.hid hU
  have Ht : Hid ((⟨0, ver, more, dp, dn, da, dr, .slice Ao obl.length co, obl, .slice Al lnl.length cl, lnl, .slice Ae evl.length ce, evl, .slice An nml.length cn, nml, s0, s1, s2, s3, s4, s5⟩ : Re).txt op = (⟨0, ver, more, dp, dn, da, dr, .slice Ao obl.length co, obl, .slice Al lnl.length cl, lnl, .slice Ae evl.length ce, evl, .slice An nml.length cn, nml, s0, s1, s2, s3, s4, s5⟩ : Re).okS ++ (⟨0, ver, more, dp, dn, da, dr, .slice Ao obl.length co, obl, .slice Al lnl.length cl, lnl, .slice Ae evl.length ce, evl, .slice An nml.length cn, nml, s0, s1, s2, s3, s4, s5⟩ : Re).rest op) := if_pos rfl
  have hlen2 : ((⟨0, ver, more, dp, dn, da, dr, .slice Ao obl.length co, obl, .slice Al lnl.length cl, lnl, .slice Ae evl.length ce, evl, .slice An nml.length cn, nml, s0, s1, s2, s3, s4, s5⟩ : Re).okS ++ (⟨0, ver, more, dp, dn, da, dr, .slice Ao obl.length co, obl, .slice Al lnl.length cl, lnl, .slice Ae evl.length ce, evl, .slice An nml.length cn, nml, s0, s1, s2, s3, s4, s5⟩ : Re).rest op).length ≤ 1099511627776 := by rw [← Ht.out]; exact hlen
  have Hlen := Lib.hid hlen2
  have Hok : Hid (∀ p ∈ ([.i64 ver] : List Pt), p.ok) := by
    intro p hp
    rw [List.mem_singleton.1 hp]
    exact Hr.out.ver
  have hold : Hid (Below w.heap.size w (((w.alloc (.cells #[.int .i64 0, .int .i64 ver, .bool more, .string dp, .string dn, .string da, .string dr, .slice Ao obl.length co, .slice Al lnl.length cl, .slice Ae evl.length ce, .slice An nml.length cn, .int .i64 s0, .int .i64 s1, .int .i64 s2, .int .i64 s3, .int .i64 s4, .int .i64 s5] 32)).alloc bldBox).alloc (.cells (([.i64 ver] : List Pt).map Pt.val).toArray 20))) := gb_old.alloc (by simp; omega) _
  have Hst := Lib.hid (GB.start w (.cells #[.int .i64 0, .int .i64 ver, .bool more, .string dp, .string dn, .string da, .string dr, .slice Ao obl.length co, .slice Al lnl.length cl, .slice Ae evl.length ce, .slice An nml.length cn, .int .i64 s0, .int .i64 s1, .int .i64 s2, .int .i64 s3, .int .i64 s4, .int .i64 s5] 32))
  have Hrest : Hid ((⟨0, ver, more, dp, dn, da, dr, .slice Ao obl.length co, obl, .slice Al lnl.length cl, lnl, .slice Ae evl.length ce, evl, .slice An nml.length cn, nml, s0, s1, s2, s3, s4, s5⟩ : Re).rest op = lnl.flatMap Ln.txt) := by
    show _ = _
    unfold Re.rest
    rw [if_neg (by omega), if_neg (by omega), if_neg (by omega), if_pos hop]
  subst hop
  clear hr htab hU hlen hlen2
  go_enter Tryd.func6, Tryd.ntmps6
  go_wp2_with fail
  refine (tell_calls ⟨#[111, 107]⟩ [.i64 ver] _ _ (rdP_new ((w.alloc (.cells #[.int .i64 0, .int .i64 ver, .bool more, .string dp, .string dn, .string da, .string dr, .slice Ao obl.length co, .slice Al lnl.length cl, .slice Ae evl.length ce, .slice An nml.length cn, .int .i64 s0, .int .i64 s1, .int .i64 s2, .int .i64 s3, .int .i64 s4, .int .i64 s5] 32)).alloc bldBox) 20 [.i64 ver] (w.heap.size + 1 + 1) (by simp) (by simp)) Hok.out (by have := Hlen.out; rw [List.length_append] at this; exact Nat.le_trans (Nat.le_of_add_right_le this) (by omega)) (by simp) (Htab.out.below hold.out)).mono ?_
  rintro e w3 ⟨rfl, hw3⟩
  have H3 : Hid (GB w (.cells #[.int .i64 0, .int .i64 ver, .bool more, .string dp, .string dn, .string da, .string dr, .slice Ao obl.length co, .slice Al lnl.length cl, .slice Ae evl.length ce, .slice An nml.length cn, .int .i64 s0, .int .i64 s1, .int .i64 s2, .int .i64 s3, .int .i64 s4, .int .i64 s5] 32) w3 (.slice none 0 0) []) := (Hst.out.alloc (.cells (([.i64 ver] : List Pt).map Pt.val).toArray 20)).below hw3
  rw [show tellS (ByteArray.mk #[111, 107]).data.toList [.i64 ver] = (⟨0, ver, more, dp, dn, da, dr, .slice Ao obl.length co, obl, .slice Al lnl.length cl, lnl, .slice Ae evl.length ce, evl, .slice An nml.length cn, nml, s0, s1, s2, s3, s4, s5⟩ : Re).okS from rfl]
  have hokl : (⟨0, ver, more, dp, dn, da, dr, .slice Ao obl.length co, obl, .slice Al lnl.length cl, lnl, .slice Ae evl.length ce, evl, .slice An nml.length cn, nml, s0, s1, s2, s3, s4, s5⟩ : Re).okS.length ≤ 1099511627776 := by have := Hlen.out; rw [List.length_append] at this; omega
  have Hokl := Lib.hid hokl
  have Hokd : Hid (∀ op, (⟨0, ver, more, dp, dn, da, dr, .slice Ao obl.length co, obl, .slice Al lnl.length cl, lnl, .slice Ae evl.length ce, evl, .slice An nml.length cn, nml, s0, s1, s2, s3, s4, s5⟩ : Re).txt op = (⟨0, ver, more, dp, dn, da, dr, .slice Ao obl.length co, obl, .slice Al lnl.length cl, lnl, .slice Ae evl.length ce, evl, .slice An nml.length cn, nml, s0, s1, s2, s3, s4, s5⟩ : Re).okS ++ (⟨0, ver, more, dp, dn, da, dr, .slice Ao obl.length co, obl, .slice Al lnl.length cl, lnl, .slice Ae evl.length ce, evl, .slice An nml.length cn, nml, s0, s1, s2, s3, s4, s5⟩ : Re).rest op) := fun op => if_pos rfl
  clear hw3 hold Hst hokl
  generalize (⟨0, ver, more, dp, dn, da, dr, .slice Ao obl.length co, obl, .slice Al lnl.length cl, lnl, .slice Ae evl.length ce, evl, .slice An nml.length cn, nml, s0, s1, s2, s3, s4, s5⟩ : Re).okS = ok at *
  go_wp2_with fail
  refine (writeString_calls (w.heap.size + 1) _ [] ⟨ok.toArray⟩ _ H3.out.is (by rw [ba_size]; have := Hokl.out; simp; omega)).mono ?_
  rintro e w4 ⟨⟨_, rfl⟩, s4', h4⟩
  have H4 : Hid (GB w (.cells #[.int .i64 0, .int .i64 ver, .bool more, .string dp, .string dn, .string da, .string dr, .slice Ao obl.length co, .slice Al lnl.length cl, .slice Ae evl.length ce, .slice An nml.length cn, .int .i64 s0, .int .i64 s1, .int .i64 s2, .int .i64 s3, .int .i64 s4, .int .i64 s5] 32) w4 s4' ok) := by have := H3.out.trans h4; simp only [List.nil_append, List.toList_toArray] at this; exact this
  have hbx := H4.out.box
  have k8_w4 : w4.cell? ⟨w.heap.size, 8, none⟩ = some (.slice Al lnl.length cl) := by rw [Lib.cell_of_heap hbx]; rfl
  have hall : (ok ++ lnl.flatMap Ln.txt).length ≤ 1099511627776 := by have := Hlen.out; rw [Hrest.out] at this; exact this
  have Hall := Lib.hid hall
  have hnl : lnl.length ≤ 1099511627776 := by
    have h1 := flat_count Ln.txt (fun x => by simp [Ln.txt, tellS]) lnl
    simp only [List.length_append] at hall; omega
  clear hall
  clear hbx h4 H3
  have Hst : Hid (LnLoop w (.cells #[.int .i64 0, .int .i64 ver, .bool more, .string dp, .string dn, .string da, .string dr, .slice Ao obl.length co, .slice Al lnl.length cl, .slice Ae evl.length ce, .slice An nml.length cn, .int .i64 s0, .int .i64 s1, .int .i64 s2, .int .i64 s3, .int .i64 s4, .int .i64 s5] 32) ok lnl (.int .i64 0) w4) := ⟨0, s4', Nat.zero_le _, rfl, by simpa using H4.out⟩
  go_wp2
  go_loopw [86] (fun v w1 => LnLoop w (.cells #[.int .i64 0, .int .i64 ver, .bool more, .string dp, .string dn, .string da, .string dr, .slice Ao obl.length co, .slice Al lnl.length cl, .slice Ae evl.length ce, .slice An nml.length cn, .int .i64 s0, .int .i64 s1, .int .i64 s2, .int .i64 s3, .int .i64 s4, .int .i64 s5] 32) ok lnl v w1) (fun i _ => lnl.length - (intOf i).toNat)
  case atStart => exact Hst.out
  case round =>
    clear Hst k8_w4 H4
    obtain ⟨i, s6', hi, rfl, hO⟩ := hrel
    have HO := Lib.hid hO
    by_cases hlt : i < lnl.length
    · have hd := dT hlt
      obtain ⟨b, off, c', hv, hc', hb, hc0, hc1, hc2⟩ := Ln.at (Hr.out.ln.below hO.base) i hlt
      cases hv
      have HT : Hid ((lnl.take (i + 1)).flatMap Ln.txt = (lnl.take i).flatMap Ln.txt ++ lnl[i].txt) := take_snoc Ln.txt hlt
      have hsz : (ok ++ (lnl.take i).flatMap Ln.txt).length + lnl[i].txt.length ≤ 1099511627776 := by
        have h1 := take_len_le Ln.txt hlt
        have h2 := Hall.out
        simp only [List.length_append] at h2 ⊢; omega
      have hz := Hr.out.ln.2 _ (List.getElem_mem hlt)
      generalize lnl[i] = x at hc0 hc1 hc2 HT hsz hz
      have Hsz := Lib.hid hsz
      have Hz1 := Lib.hid hz.1
      have Hz2 := Lib.hid hz.2
      have Hp : Hid (∀ p ∈ x.parts, p.ok) := by
        intro p hp
        simp only [Ln.parts, List.mem_cons, List.not_mem_nil, or_false] at hp
        rcases hp with rfl | rfl | rfl
        all_goals exact True.intro
      have Hpe : Hid (∀ t1 t2 : ByteArray, t1.data.toList = printedZ x.hard → t2.data.toList = printedZ x.used → x.parts = [.str x.res, .str t1, .str t2]) := by
        intro t1 t2 e1 e2
        have f1 : pzB x.hard = t1 := by unfold pzB; rw [← e1]
        have f2 : pzB x.used = t2 := by unfold pzB; rw [← e2]
        rw [Ln.parts, f1, f2]
      have HC : Hid (∀ W, Below (wr.alloc (.cells #[.string x.res, .int .i64 x.hard, .int .i64 x.used] 48)).heap.size (wr.alloc (.cells #[.string x.res, .int .i64 x.hard, .int .i64 x.used] 48)) W → W.cell? ⟨wr.heap.size, 0, none⟩ = some (.string x.res) ∧ W.cell? ⟨wr.heap.size, 1, none⟩ = some (.int .i64 x.hard) ∧ W.cell? ⟨wr.heap.size, 2, none⟩ = some (.int .i64 x.used)) := by
        intro W hW
        have hb := blk_below (blk_new wr (.cells #[.string x.res, .int .i64 x.hard, .int .i64 x.used] 48)) hW
        exact ⟨by rw [Lib.cell_of_heap hb]; rfl, by rw [Lib.cell_of_heap hb]; rfl, by rw [Lib.cell_of_heap hb]; rfl⟩
      have HB1 : Hid (Below (wr.alloc (.cells #[.string x.res, .int .i64 x.hard, .int .i64 x.used] 48)).heap.size (wr.alloc (.cells #[.string x.res, .int .i64 x.hard, .int .i64 x.used] 48)) (wr.alloc (.cells #[.string x.res, .int .i64 x.hard, .int .i64 x.used] 48)).drew) := drewB (Below.refl _ _) 1
      have HG := Lib.hid (fun (W : World) (h : Below (wr.alloc (.cells #[.string x.res, .int .i64 x.hard, .int .i64 x.used] 48)).heap.size (wr.alloc (.cells #[.string x.res, .int .i64 x.hard, .int .i64 x.used] 48)) W) => (HO.out.alloc (.cells #[.string x.res, .int .i64 x.hard, .int .i64 x.used] 48)).below h)
      have HW : Hid (∀ W, Below (wr.alloc (.cells #[.string x.res, .int .i64 x.hard, .int .i64 x.used] 48)).heap.size (wr.alloc (.cells #[.string x.res, .int .i64 x.hard, .int .i64 x.used] 48)) W → Uni W ∧ PowTab W) := fun W h => ⟨HU.out.below (HG.out W h).base, Htab.out.below (HG.out W h).base⟩
      have HT2 : Hid (∀ W W', Below (wr.alloc (.cells #[.string x.res, .int .i64 x.hard, .int .i64 x.used] 48)).heap.size (wr.alloc (.cells #[.string x.res, .int .i64 x.hard, .int .i64 x.used] 48)) W → Below W.heap.size W W' → Below (wr.alloc (.cells #[.string x.res, .int .i64 x.hard, .int .i64 x.used] 48)).heap.size (wr.alloc (.cells #[.string x.res, .int .i64 x.hard, .int .i64 x.used] 48)) W') := fun W W' h1 h2 => h1.trans (h2.mono h1.size)
      have HAl : Hid (∀ W c, Below (wr.alloc (.cells #[.string x.res, .int .i64 x.hard, .int .i64 x.used] 48)).heap.size (wr.alloc (.cells #[.string x.res, .int .i64 x.hard, .int .i64 x.used] 48)) W → Below (wr.alloc (.cells #[.string x.res, .int .i64 x.hard, .int .i64 x.used] 48)).heap.size (wr.alloc (.cells #[.string x.res, .int .i64 x.hard, .int .i64 x.used] 48)) (W.alloc (.cells c 20))) := fun W c h => h.alloc h.size _
      have HF : Hid (∀ W W' s' b', Below (wr.alloc (.cells #[.string x.res, .int .i64 x.hard, .int .i64 x.used] 48)).heap.size (wr.alloc (.cells #[.string x.res, .int .i64 x.hard, .int .i64 x.used] 48)) W → BOut W (w.heap.size + 1) s6' W' s' b' → W'.cell? ⟨wr.heap.size, 0, none⟩ = some (.string x.res) ∧ W'.cell? ⟨wr.heap.size, 1, none⟩ = some (.int .i64 x.hard) ∧ W'.cell? ⟨wr.heap.size, 2, none⟩ = some (.int .i64 x.used)) := by
        intro W W' s' b' hW h'
        obtain ⟨q0, q1, q2⟩ := HC.out W hW
        have hlt := BS_lt HO.out.is
        exact ⟨h'.step.fr.cell q0 (fun hk => by have := hlt _ hk; simp at this), h'.step.fr.cell q1 (fun hk => by have := hlt _ hk; simp at this), h'.step.fr.cell q2 (fun hk => by have := hlt _ hk; simp at this)⟩
      have hi0 : (0 : Int) ≤ i := by omega
      clear hO hsz hz
      go_wp2
      go_region_held3 (fun W => W.cell? ⟨wr.heap.size, 0, none⟩ = some (.string x.res) ∧ W.cell? ⟨wr.heap.size, 1, none⟩ = some (.int .i64 x.hard) ∧ W.cell? ⟨wr.heap.size, 2, none⟩ = some (.int .i64 x.used))
        (first | exact HC.out _ HB1.out | exact HC.out _ HWa.out | exact HC.out _ HWb.out | exact HC.out _ (HAl.out _ _ HWb.out) | exact HC.out _ HWc.out | exact H8c.out)
        (first
          | ((go_at_call 19); ((with_reducible refine (qprintZ_calls x.hard Hz1.out _ (HW.out _ HB1.out).1 (HW.out _ HB1.out).2).mono ?_)); (rintro e wa ⟨_, rfl, ⟨ta, rfl, hta⟩, hwa⟩); (have HWa := Lib.hid (HT2.out _ _ HB1.out hwa)); (have Hta := Lib.hid hta); (clear hta hwa))
          | ((go_at_call 19); ((with_reducible refine (qprintZ_calls x.used Hz2.out _ (HW.out _ HWa.out).1 (HW.out _ HWa.out).2).mono ?_)); (rintro e wb ⟨_, rfl, ⟨tb, rfl, htb⟩, hwb⟩); (have HWb := Lib.hid (HT2.out _ _ HWa.out hwb)); (have Htb := Lib.hid htb); (clear htb hwb))
          | ((go_at_call 15); (refine (tell_calls ⟨#[108, 105, 110, 101]⟩ [.str x.res, .str ta, .str tb] _ _ (rdP_new wb 20 [.str x.res, .str ta, .str tb] wb.heap.size rfl (by simp)) ?ho ?hl (by simp) ?hp).mono ?_); (case ho => rw [← Hpe.out ta tb Hta.out Htb.out]; exact Hp.out); (case hl => rw [← Hpe.out ta tb Hta.out Htb.out]; have h := Hsz.out; exact Nat.le_trans (Nat.le_of_add_left_le h) (by omega)); (case hp => exact (HW.out _ (HAl.out _ _ HWb.out)).2); (rw [← Hpe.out ta tb Hta.out Htb.out]); (rintro e wc ⟨rfl, hwc⟩); (have HWc := Lib.hid (HT2.out _ _ (HAl.out _ _ HWb.out) hwc)); (clear hwc))
          | ((go_at_call 16); (refine (writeString_calls (w.heap.size + 1) s6' _ _ _ (HG.out _ HWc.out).is ?hq).mono ?_); (case hq => rw [ba_size]; have := Hsz.out; show _ + x.txt.length ≤ _; omega); (rintro e w8 ⟨⟨_, rfl⟩, s8', h8⟩); (have H8c := Lib.hid (HF.out _ _ _ _ HWc.out h8)); (have H8 := Lib.hid ((HG.out _ HWc.out).trans h8)); (clear h8)))
      have Hn : Hid (LnLoop w (.cells #[.int .i64 0, .int .i64 ver, .bool more, .string dp, .string dn, .string da, .string dr, .slice Ao obl.length co, .slice (some ⟨b, off, none⟩) lnl.length cl, .slice Ae evl.length ce, .slice An nml.length cn, .int .i64 s0, .int .i64 s1, .int .i64 s2, .int .i64 s3, .int .i64 s4, .int .i64 s5] 32) ok lnl (.int .i64 ((i : Int) + 1)) w8) := by
        refine ⟨i + 1, s8', hlt, rfl, ?_⟩
        rw [HT.out, ← List.append_assoc]
        exact H8.out
      go_wp2
      go_roundw
      case rel => exact Hn.out
      case measure => simp [intOf]; omega
    · obtain rfl : i = lnl.length := by omega
      have hd := dF hlt
      rw [List.take_length] at HO
      clear hlt hO
      go_wp2_with fail
      refine (bstring_calls (w.heap.size + 1) s6' _ _ w.heap.size HO.out.is HO.out.S0).mono ?_
      rintro e wz ⟨rfl, hz⟩
      have Hz := Lib.hid (HO.out.base.trans hz)
      clear hz
      go_wp2
      go_ret
      exact ⟨_, rfl, ⟨_, rfl, (by rw [Hokd.out, Hrest.out]; try simp)⟩, Hz.out⟩

end Go.Proofs.YtleajmblagddcaaDoor
