/- bursar.tell: a word and its parts. -/
import Derived.Test.YtleajmblagddcaaDoorD12
namespace Go.Proofs.YtleajmblagddcaaDoor
open Go.RowKit
set_option linter.unusedVariables false
set_option linter.unusedSimpArgs false

theorem BOut.keep {w w' : World} {g base : Nat} {sv sv' : Value} {bs' : List UInt8} (h : BOut w g sv w' sv' bs') (hS : ∀ k, BS g sv k → base ≤ k) (hb : base ≤ w.heap.size) : (∀ k, BS g sv' k → base ≤ k) ∧ Below base w w' :=
  ⟨fun k hk => (h.step.new k hk).elim (hS k) (fun h2 => by omega), h.step.fr.to_below hS hb⟩

theorem BOut.refl {w : World} {g : Nat} {sv : Value} {bs : List UInt8} (h : IsB w g sv bs) : BOut w g sv w sv bs := ⟨h, Step.refl _ _⟩
theorem BOut.trans {w w1 w2 : World} {g : Nat} {sv s1 s2 : Value} {b1 b2 : List UInt8} (h : BOut w g sv w1 s1 b1) (k : BOut w1 g s1 w2 s2 b2) : BOut w g sv w2 s2 b2 := ⟨k.is, h.step.trans k.step⟩
theorem BOut.below {w w1 w2 : World} {g : Nat} {sv s1 : Value} {b1 : List UInt8} (h : BOut w g sv w1 s1 b1) (hb : Below w1.heap.size w1 w2) : BOut w g sv w2 s1 b1 := ⟨h.is.below hb, h.step.below hb⟩
theorem ba_size (l : List UInt8) : (ByteArray.mk l.toArray).size = l.length := by simp [ByteArray.size]
def orS (s : List UInt8) : List UInt8 := if s = [] then [45] else s
inductive Pt where
  | int (n : Int)
  | i64 (n : Int)
  | bool (b : Bool)
  | err (n : Int)
  | str (s : ByteArray)
def Pt.val : Pt → Value
  | .int n => .iface 3 (.int .i64 n)
  | .i64 n => .iface 2 (.int .i64 n)
  | .bool b => .iface 4 (.bool b)
  | .err n => .iface 22 (.int .i64 n)
  | .str s => .iface 9 (.string s)
def in64 (n : Int) : Prop := -9223372036854775808 ≤ n ∧ n ≤ 9223372036854775807
def Pt.ok : Pt → Prop
  | .int n => in64 n
  | .i64 n => in64 n
  | .bool _ => True
  | .err n => in64 n
  | .str _ => True
def Pt.txt : Pt → List UInt8
  | .int n => Lib.itoa n
  | .i64 n => Lib.itoa n
  | .bool b => if b then [49] else [48]
  | .err n => Lib.itoa n
  | .str s => orS s.data.toList
def partsS (ps : List Pt) : List UInt8 := ps.flatMap fun p => 32 :: p.txt
def tellS (word : List UInt8) (ps : List Pt) : List UInt8 := word ++ partsS ps ++ [10]
theorem partsS_app (a b : List Pt) : partsS (a ++ b) = partsS a ++ partsS b := by simp [partsS]
theorem partsS_one (p : Pt) : partsS [p] = 32 :: p.txt := by simp [partsS]

def RdP (w : World) (v : Value) (ps : List Pt) : Prop := Rd w 1 v ps.length (ps.map Pt.val)
def TLoop (w : World) (word : List UInt8) (ps : List Pt) (v17 : Value) (w1 : World) : Prop :=
  ∃ (i : Nat) (sv : Value), i ≤ ps.length ∧ v17 = .int .i64 i ∧ IsB w1 w.heap.size sv (word ++ partsS (ps.take i)) ∧ (∀ k, BS w.heap.size sv k → w.heap.size ≤ k) ∧ Below w.heap.size w w1

theorem TLoop.next {w w1 w2 w3 w4 : World} {word : List UInt8} {ps : List Pt} {i : Nat} {sv s2 s4 : Value} (hi : i < ps.length) (hS : ∀ k, BS w.heap.size sv k → w.heap.size ≤ k) (hB : Below w.heap.size w w1)
    (h1 : BOut w1 w.heap.size sv w2 s2 (word ++ partsS (ps.take i) ++ [32])) (h2 : Below w2.heap.size w2 w3) (h3 : BOut w3 w.heap.size s2 w4 s4 (word ++ partsS (ps.take i) ++ [32] ++ ps[i].txt)) : TLoop w word ps (.int .i64 ((i : Int) + 1)) w4 := by
  obtain ⟨a1, a2⟩ := h1.keep hS hB.size
  have c2 : w.heap.size ≤ w2.heap.size := Nat.le_trans hB.size a2.size
  have b3 : Below w.heap.size w w3 := (hB.trans a2).trans (h2.mono c2)
  obtain ⟨a3, a4⟩ := h3.keep a1 b3.size
  refine ⟨i + 1, s4, hi, rfl, ?_, a3, b3.trans a4⟩
  have := h3.is
  rw [List.take_succ_eq_append_getElem hi, partsS_app, partsS_one]
  simpa using this

theorem ta_int_yes (W : World) (v : Value) : (Instr.typeAssert (.iface 3 v) 20 3 true).run Tryd.prog W = .ok (.tuple #[v, .bool true]) W := by
  simp [Instr.typeAssert, run_underlying Tryd.underlying3]
theorem ta_int_no (W : World) (t : TypeId) (v : Value) (h : ¬ t = 3) : (Instr.typeAssert (.iface t v) 20 3 true).run Tryd.prog W = .ok (.tuple #[.int .i64 0, .bool false]) W := by
  simp [Instr.typeAssert, run_underlying Tryd.underlying3, h, Tryd.zeroValue3]
theorem ta_i64_yes (W : World) (v : Value) : (Instr.typeAssert (.iface 2 v) 20 2 true).run Tryd.prog W = .ok (.tuple #[v, .bool true]) W := by
  simp [Instr.typeAssert, run_underlying Tryd.underlying2]
theorem ta_i64_no (W : World) (t : TypeId) (v : Value) (h : ¬ t = 2) : (Instr.typeAssert (.iface t v) 20 2 true).run Tryd.prog W = .ok (.tuple #[.int .i64 0, .bool false]) W := by
  simp [Instr.typeAssert, run_underlying Tryd.underlying2, h, Tryd.zeroValue2]
theorem ta_bool_yes (W : World) (v : Value) : (Instr.typeAssert (.iface 4 v) 20 4 true).run Tryd.prog W = .ok (.tuple #[v, .bool true]) W := by
  simp [Instr.typeAssert, run_underlying Tryd.underlying4]
theorem ta_bool_no (W : World) (t : TypeId) (v : Value) (h : ¬ t = 4) : (Instr.typeAssert (.iface t v) 20 4 true).run Tryd.prog W = .ok (.tuple #[.bool false, .bool false]) W := by
  simp [Instr.typeAssert, run_underlying Tryd.underlying4, h, Tryd.zeroValue4]
theorem ta_err_yes (W : World) (v : Value) : (Instr.typeAssert (.iface 22 v) 20 22 true).run Tryd.prog W = .ok (.tuple #[v, .bool true]) W := by
  simp [Instr.typeAssert, run_underlying Tryd.underlying22]
theorem ta_err_no (W : World) (t : TypeId) (v : Value) (h : ¬ t = 22) : (Instr.typeAssert (.iface t v) 20 22 true).run Tryd.prog W = .ok (.tuple #[.int .i64 0, .bool false]) W := by
  simp [Instr.typeAssert, run_underlying Tryd.underlying22, h, Tryd.zeroValue22]
theorem ta_str_yes (W : World) (v : Value) : (Instr.typeAssert (.iface 9 v) 20 9 true).run Tryd.prog W = .ok (.tuple #[v, .bool true]) W := by
  simp [Instr.typeAssert, run_underlying Tryd.underlying9]
theorem ta_str_no (W : World) (t : TypeId) (v : Value) (h : ¬ t = 9) : (Instr.typeAssert (.iface t v) 20 9 true).run Tryd.prog W = .ok (.tuple #[.string ⟨#[]⟩, .bool false]) W := by
  simp [Instr.typeAssert, run_underlying Tryd.underlying9, h, Tryd.zeroValue9]

set_option maxRecDepth 100000 in
set_option maxHeartbeats 3200000 in
theorem tell_calls (word : ByteArray) (ps : List Pt) (pv : Value) (w : World) (hp : RdP w pv ps) (hok : ∀ p ∈ ps, p.ok) (hlen : (tellS word.data.toList ps).length ≤ 140737488355328) (hnp : ps.length ≤ 100) (htab : PowTab w) :
    Calls Tryd.prog 15 #[.string word, pv] w fun e w' => e = .returned (.string ⟨(tellS word.data.toList ps).toArray⟩) ∧ Below w.heap.size w w' := by
  have Hok := Lib.hid hok
  have Htab := Lib.hid htab
  have Hlen := Lib.hid hlen
  have hp2 := hp
  obtain ⟨-, A, c, rfl, hnc, hA, hcell⟩ := hp2
  have hw1 := size_toList word
  have hword : word.size ≤ 140737488355328 := by simp [tellS] at hlen; omega
  clear hok htab hlen
  have Hp := Lib.hid hp
  clear hp hcell hA hw1
  go_enter Tryd.func15, Tryd.ntmps15
  go_wp2_with fail
  refine (writeString_calls w.heap.size _ [] word _ (IsB.fresh w) (by simpa using hword)).mono ?_
  rintro e w1 ⟨⟨_, rfl⟩, s1, h1⟩
  obtain ⟨a1, a2⟩ := h1.keep (base := w.heap.size) (by rintro k (rfl | hk); exact Nat.le_refl _; simp [Value.ownBlock] at hk) (by simp)
  have Hst : Hid (TLoop w word.data.toList ps (.int .i64 0) w1) := ⟨0, s1, Nat.zero_le _, rfl, by simpa [partsS] using h1.is, a1, ((Below.refl _ _).alloc (Nat.le_refl _) _).trans a2⟩
  clear h1 a1 a2
  go_wp2
  go_loopw [17] (fun v17 w1 => TLoop w word.data.toList ps v17 w1) (fun i _ => ps.length - (intOf i).toNat)
  case atStart => exact Hst.out
  case round =>
    clear Hst
    obtain ⟨i, sv, hi, rfl, hIs, hS, hB⟩ := hrel
    have HB := Lib.hid hB
    have HS := Lib.hid hS
    have HIs := Lib.hid hIs
    by_cases hlt : i < ps.length
    · have hd := dT hlt
      have hrd := Hp.out.below hB
      obtain ⟨g, off, c', hv, hc', hg, hcell⟩ := Rd.some hrd (by intro e; have := congrArg List.length e; simp at this; rw [this] at hlt; simp at hlt)
      cases hv
      have hc := hcell i ps[i].val (by simp [hlt])
      have hokp := Hok.out _ (List.getElem_mem hlt)
      have hL : Hid ((word.data.toList ++ partsS (ps.take i) ++ [32] ++ ps[i].txt).length ≤ 140737488355328) := by
        show _ ≤ _
        refine Nat.le_trans ?_ Hlen.out
        have e1 : partsS ps = partsS (ps.take i) ++ (32 :: ps[i].txt) ++ partsS (ps.drop (i + 1)) := by
          have e2 : ps = ps.take i ++ [ps[i]] ++ ps.drop (i + 1) := by simp
          conv => lhs; rw [e2]
          rw [partsS_app, partsS_app, partsS_one]
        rw [tellS, e1]; simp
      have HN : Hid (∀ (w2 w3 w4 : World) (s2 s4 : Value), BOut wr w.heap.size sv w2 s2 (word.data.toList ++ partsS (ps.take i) ++ [32]) → Below w2.heap.size w2 w3 → BOut w3 w.heap.size s2 w4 s4 (word.data.toList ++ partsS (ps.take i) ++ [32] ++ ps[i].txt) → TLoop w word.data.toList ps (.int .i64 ((i : Int) + 1)) w4) := fun w2 w3 w4 s2 s4 => TLoop.next hlt hS hB
      have HT2 : Hid (∀ W W', Below wr.heap.size wr W → Below W.heap.size W W' → Below wr.heap.size wr W') := fun W W' h1 h2 => h1.trans (h2.mono h1.size)
      have HP : Hid (∀ w2 s2 bs, BOut wr w.heap.size sv w2 s2 bs → PowTab w2) := fun w2 s2 bs h => by
        obtain ⟨-, b⟩ := h.keep hS hB.size
        exact Htab.out.below (hB.trans b)
      clear hIs hS hB hcell hrd
      generalize ps[i] = p at hc hokp hL HN
      have hl1 : (word.data.toList ++ partsS (ps.take i)).length + 1 ≤ 140737488355328 := by have := hL.out; simp at this ⊢; omega
      have hx : (word.data.toList ++ partsS (ps.take i) ++ [32]).length + p.txt.length ≤ 140737488355328 := by have := hL.out; simp at this ⊢; omega
      have HX := Lib.hid hx
      clear hx
      cases p with
      | int n =>
        obtain ⟨hn0, hn1⟩ := hokp
        have hc2 : wr.cell? ⟨g, off + i, none⟩ = some (.iface 3 (.int .i64 n)) := hc
        clear hc
        have q_int : ∀ W, (Instr.typeAssert (.iface 3 (.int .i64 n)) 20 3 true).run Tryd.prog W = .ok (.tuple #[.int .i64 n, .bool true]) W := fun W => ta_int_yes W _
        go_wp2_with fail
        refine (writeByte_calls w.heap.size _ _ 32 _ HIs.out hl1).mono ?_
        rintro e w2 ⟨rfl, s2, h2⟩
        have H2 := Lib.hid h2
        clear h2
        go_wp2_with fail
        refine (itoa_calls n hn0 hn1 _ (HP.out _ _ _ H2.out)).mono ?_
        rintro e w3 ⟨rfl, h3⟩
        have H3 := Lib.hid h3
        clear h3
        go_wp2_with fail
        refine (writeString_calls w.heap.size _ _ ⟨(Lib.itoa n).toArray⟩ _ (H2.out.is.below H3.out) ?_).mono ?_
        · rw [ba_size]; exact HX.out
        rintro e w4 ⟨⟨_, rfl⟩, s4, h4⟩
        have Hn := Lib.hid (HN.out _ _ _ _ _ H2.out H3.out h4)
        clear h4
        go_wp2
        go_roundw
        case rel => exact Hn.out
        case measure => simp [intOf]; omega
      | i64 n =>
        obtain ⟨hn0, hn1⟩ := hokp
        have hc2 : wr.cell? ⟨g, off + i, none⟩ = some (.iface 2 (.int .i64 n)) := hc
        clear hc
        have q_int : ∀ W, (Instr.typeAssert (.iface 2 (.int .i64 n)) 20 3 true).run Tryd.prog W = .ok (.tuple #[.int .i64 0, .bool false]) W := fun W => ta_int_no W _ _ (by decide)
        have q_i64 : ∀ W, (Instr.typeAssert (.iface 2 (.int .i64 n)) 20 2 true).run Tryd.prog W = .ok (.tuple #[.int .i64 n, .bool true]) W := fun W => ta_i64_yes W _
        go_wp2_with fail
        refine (writeByte_calls w.heap.size _ _ 32 _ HIs.out hl1).mono ?_
        rintro e w2 ⟨rfl, s2, h2⟩
        have H2 := Lib.hid h2
        clear h2
        go_wp2_with fail
        refine (formatInt_calls n hn0 hn1 _ (HP.out _ _ _ H2.out)).mono ?_
        rintro e w3 ⟨rfl, h3⟩
        have H3 := Lib.hid h3
        clear h3
        go_wp2_with fail
        refine (writeString_calls w.heap.size _ _ ⟨(Lib.itoa n).toArray⟩ _ (H2.out.is.below H3.out) ?_).mono ?_
        · rw [ba_size]; exact HX.out
        rintro e w4 ⟨⟨_, rfl⟩, s4, h4⟩
        have Hn := Lib.hid (HN.out _ _ _ _ _ H2.out H3.out h4)
        clear h4
        go_wp2
        go_roundw
        case rel => exact Hn.out
        case measure => simp [intOf]; omega
      | err n =>
        obtain ⟨hn0, hn1⟩ := hokp
        have hc2 : wr.cell? ⟨g, off + i, none⟩ = some (.iface 22 (.int .i64 n)) := hc
        clear hc
        have q_int : ∀ W, (Instr.typeAssert (.iface 22 (.int .i64 n)) 20 3 true).run Tryd.prog W = .ok (.tuple #[.int .i64 0, .bool false]) W := fun W => ta_int_no W _ _ (by decide)
        have q_i64 : ∀ W, (Instr.typeAssert (.iface 22 (.int .i64 n)) 20 2 true).run Tryd.prog W = .ok (.tuple #[.int .i64 0, .bool false]) W := fun W => ta_i64_no W _ _ (by decide)
        have q_bool : ∀ W, (Instr.typeAssert (.iface 22 (.int .i64 n)) 20 4 true).run Tryd.prog W = .ok (.tuple #[.bool false, .bool false]) W := fun W => ta_bool_no W _ _ (by decide)
        have q_err : ∀ W, (Instr.typeAssert (.iface 22 (.int .i64 n)) 20 22 true).run Tryd.prog W = .ok (.tuple #[.int .i64 n, .bool true]) W := fun W => ta_err_yes W _
        go_wp2_with fail
        refine (writeByte_calls w.heap.size _ _ 32 _ HIs.out hl1).mono ?_
        rintro e w2 ⟨rfl, s2, h2⟩
        have H2 := Lib.hid h2
        clear h2
        go_wp2_with fail
        refine (itoa_calls n hn0 hn1 _ (HP.out _ _ _ H2.out)).mono ?_
        rintro e w3 ⟨rfl, h3⟩
        have H3 := Lib.hid h3
        clear h3
        go_wp2_with fail
        refine (writeString_calls w.heap.size _ _ ⟨(Lib.itoa n).toArray⟩ _ (H2.out.is.below H3.out) ?_).mono ?_
        · rw [ba_size]; exact HX.out
        rintro e w4 ⟨⟨_, rfl⟩, s4, h4⟩
        have Hn := Lib.hid (HN.out _ _ _ _ _ H2.out H3.out h4)
        clear h4
        go_wp2
        go_roundw
        case rel => exact Hn.out
        case measure => simp [intOf]; omega
      | bool b =>
        cases b with
        | true =>
          have hc2 : wr.cell? ⟨g, off + i, none⟩ = some (.iface 4 (.bool true)) := hc
          clear hc
          have q_int : ∀ W, (Instr.typeAssert (.iface 4 (.bool true)) 20 3 true).run Tryd.prog W = .ok (.tuple #[.int .i64 0, .bool false]) W := fun W => ta_int_no W _ _ (by decide)
          have q_i64 : ∀ W, (Instr.typeAssert (.iface 4 (.bool true)) 20 2 true).run Tryd.prog W = .ok (.tuple #[.int .i64 0, .bool false]) W := fun W => ta_i64_no W _ _ (by decide)
          have q_bool : ∀ W, (Instr.typeAssert (.iface 4 (.bool true)) 20 4 true).run Tryd.prog W = .ok (.tuple #[.bool true, .bool true]) W := fun W => ta_bool_yes W _
          go_wp2_with fail
          refine (writeByte_calls w.heap.size _ _ 32 _ HIs.out hl1).mono ?_
          rintro e w2 ⟨rfl, s2, h2⟩
          have H2 := Lib.hid h2
          clear h2
          go_wp2_with fail
          refine (writeByte_calls w.heap.size _ _ 49 _ H2.out.is HX.out).mono ?_
          rintro e w4 ⟨rfl, s4, h4⟩
          have Hn := Lib.hid (HN.out _ _ _ _ _ H2.out (Below.refl _ _) h4)
          clear h4
          go_wp2
          go_roundw
          case rel => exact Hn.out
          case measure => simp [intOf]; omega
        | false =>
          have hc2 : wr.cell? ⟨g, off + i, none⟩ = some (.iface 4 (.bool false)) := hc
          clear hc
          have q_int : ∀ W, (Instr.typeAssert (.iface 4 (.bool false)) 20 3 true).run Tryd.prog W = .ok (.tuple #[.int .i64 0, .bool false]) W := fun W => ta_int_no W _ _ (by decide)
          have q_i64 : ∀ W, (Instr.typeAssert (.iface 4 (.bool false)) 20 2 true).run Tryd.prog W = .ok (.tuple #[.int .i64 0, .bool false]) W := fun W => ta_i64_no W _ _ (by decide)
          have q_bool : ∀ W, (Instr.typeAssert (.iface 4 (.bool false)) 20 4 true).run Tryd.prog W = .ok (.tuple #[.bool false, .bool true]) W := fun W => ta_bool_yes W _
          go_wp2_with fail
          refine (writeByte_calls w.heap.size _ _ 32 _ HIs.out hl1).mono ?_
          rintro e w2 ⟨rfl, s2, h2⟩
          have H2 := Lib.hid h2
          clear h2
          go_wp2_with fail
          refine (writeByte_calls w.heap.size _ _ 48 _ H2.out.is HX.out).mono ?_
          rintro e w4 ⟨rfl, s4, h4⟩
          have Hn := Lib.hid (HN.out _ _ _ _ _ H2.out (Below.refl _ _) h4)
          clear h4
          go_wp2
          go_roundw
          case rel => exact Hn.out
          case measure => simp [intOf]; omega
      | str s =>
        by_cases hs0 : s.data.toList = []
        · obtain rfl := str_nil hs0
          clear hs0
          have hc2 : wr.cell? ⟨g, off + i, none⟩ = some (.iface 9 (.string (ByteArray.mk #[]))) := hc
          clear hc
          have q_int : ∀ W, (Instr.typeAssert (.iface 9 (.string (ByteArray.mk #[]))) 20 3 true).run Tryd.prog W = .ok (.tuple #[.int .i64 0, .bool false]) W := fun W => ta_int_no W _ _ (by decide)
          have q_i64 : ∀ W, (Instr.typeAssert (.iface 9 (.string (ByteArray.mk #[]))) 20 2 true).run Tryd.prog W = .ok (.tuple #[.int .i64 0, .bool false]) W := fun W => ta_i64_no W _ _ (by decide)
          have q_bool : ∀ W, (Instr.typeAssert (.iface 9 (.string (ByteArray.mk #[]))) 20 4 true).run Tryd.prog W = .ok (.tuple #[.bool false, .bool false]) W := fun W => ta_bool_no W _ _ (by decide)
          have q_err : ∀ W, (Instr.typeAssert (.iface 9 (.string (ByteArray.mk #[]))) 20 22 true).run Tryd.prog W = .ok (.tuple #[.int .i64 0, .bool false]) W := fun W => ta_err_no W _ _ (by decide)
          have q_str : ∀ W, (Instr.typeAssert (.iface 9 (.string (ByteArray.mk #[]))) 20 9 true).run Tryd.prog W = .ok (.tuple #[.string (ByteArray.mk #[]), .bool true]) W := fun W => ta_str_yes W _
          go_wp2_with fail
          refine (writeByte_calls w.heap.size _ _ 32 _ HIs.out hl1).mono ?_
          rintro e w2 ⟨rfl, s2, h2⟩
          have H2 := Lib.hid h2
          clear h2
          go_wp2_with fail
          refine (writeString_calls w.heap.size _ _ (ByteArray.mk #[45]) _ H2.out.is ?_).mono ?_
          · have := HX.out; simp only [Pt.txt, orS, if_pos] at this; exact this
          rintro e w4 ⟨⟨_, rfl⟩, s4, h4⟩
          have Hn := Lib.hid (HN.out _ _ _ _ _ H2.out (Below.refl _ _) (by exact h4))
          clear h4
          go_wp2
          go_roundw
          case rel => exact Hn.out
          case measure => simp [intOf]; omega
        · skip
          obtain ⟨e1, e2, e3⟩ := str_ne hs0
          have Hs0 := Lib.hid hs0
          clear hs0
          have hc2 : wr.cell? ⟨g, off + i, none⟩ = some (.iface 9 (.string s)) := hc
          clear hc
          have q_int : ∀ W, (Instr.typeAssert (.iface 9 (.string s)) 20 3 true).run Tryd.prog W = .ok (.tuple #[.int .i64 0, .bool false]) W := fun W => ta_int_no W _ _ (by decide)
          have q_i64 : ∀ W, (Instr.typeAssert (.iface 9 (.string s)) 20 2 true).run Tryd.prog W = .ok (.tuple #[.int .i64 0, .bool false]) W := fun W => ta_i64_no W _ _ (by decide)
          have q_bool : ∀ W, (Instr.typeAssert (.iface 9 (.string s)) 20 4 true).run Tryd.prog W = .ok (.tuple #[.bool false, .bool false]) W := fun W => ta_bool_no W _ _ (by decide)
          have q_err : ∀ W, (Instr.typeAssert (.iface 9 (.string s)) 20 22 true).run Tryd.prog W = .ok (.tuple #[.int .i64 0, .bool false]) W := fun W => ta_err_no W _ _ (by decide)
          have q_str : ∀ W, (Instr.typeAssert (.iface 9 (.string s)) 20 9 true).run Tryd.prog W = .ok (.tuple #[.string s, .bool true]) W := fun W => ta_str_yes W _
          go_wp2_with fail
          refine (writeByte_calls w.heap.size _ _ 32 _ HIs.out hl1).mono ?_
          rintro e w2 ⟨rfl, s2, h2⟩
          have H2 := Lib.hid h2
          clear h2
          go_wp2_with fail
          refine (writeString_calls w.heap.size _ _ (s) _ H2.out.is ?_).mono ?_
          · have := HX.out; simp only [Pt.txt, orS, if_neg Hs0.out] at this; rw [← size_toList] at this; exact this
          rintro e w4 ⟨⟨_, rfl⟩, s4, h4⟩
          have Hn := Lib.hid (HN.out _ _ _ _ _ H2.out (Below.refl _ _) (by rw [show (Pt.str s).txt = s.data.toList from if_neg Hs0.out]; exact h4))
          clear h4
          go_wp2
          go_roundw
          case rel => exact Hn.out
          case measure => simp [intOf]; omega
    · obtain rfl : i = ps.length := by omega
      have hd := dF hlt
      clear hlt
      go_wp2_with fail
      refine (writeByte_calls w.heap.size _ _ 10 _ HIs.out ?_).mono ?_
      · have := Hlen.out; simp [tellS] at this; simp; omega
      rintro e w2 ⟨rfl, s2, h2⟩
      obtain ⟨a1, a2⟩ := h2.keep HS.out HB.out.size
      have HB2 := Lib.hid (HB.out.trans a2)
      have HI2 := Lib.hid h2.is
      have Ha1 := Lib.hid a1
      clear h2 a1 a2
      go_wp2_with fail
      refine (bstring_calls w.heap.size _ _ _ w.heap.size HI2.out Ha1.out).mono ?_
      rintro e w3 ⟨rfl, h3⟩
      have HB3 := Lib.hid (HB2.out.trans h3)
      clear h3
      go_wp2
      go_ret
      refine ⟨?_, HB3.out⟩
      simp [tellS]
end Go.Proofs.YtleajmblagddcaaDoor
