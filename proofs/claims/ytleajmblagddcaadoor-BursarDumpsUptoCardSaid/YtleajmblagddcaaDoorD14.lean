/- The data of a reply; or, itoa, flag; amounts and pairs. -/
import Derived.Test.YtleajmblagddcaaDoorD13
import Derived.Deep.RegionHeld3
namespace Go.Proofs.YtleajmblagddcaaDoor
open Go.RowKit
set_option linter.unusedVariables false
set_option linter.unusedSimpArgs false

/-! ### rows of structs -/
theorem flat_len {α : Type} {f : α → List Value} {size : Nat} (hf : ∀ x, (f x).length = size) (l : List α) : (l.flatMap f).length = l.length * size := by
  induction l with
  | nil => simp
  | cons x r ih => rw [List.flatMap_cons, List.length_append, ih, hf, List.length_cons, Nat.add_mul]; omega
theorem flat_at {α : Type} {f : α → List Value} {size : Nat} (hf : ∀ x, (f x).length = size) (l : List α) (i : Nat) (h : i < l.length) (j : Nat) (hj : j < size) : (l.flatMap f)[i * size + j]? = (f l[i])[j]? := by
  induction l generalizing i with
  | nil => simp at h
  | cons x r ih =>
    rw [List.flatMap_cons]
    cases i with
    | zero => rw [List.getElem?_append_left (by rw [hf]; omega)]; simp
    | succ i =>
      rw [List.getElem?_append_right (by rw [hf, Nat.add_mul]; omega), hf, show (i + 1) * size + j - size = i * size + j from by rw [Nat.add_mul]; omega]
      exact ih i (by simpa using h)

def RdS {α : Type} (f : α → List Value) (size : Nat) (w : World) (v : Value) (l : List α) : Prop := Rd w size v l.length (l.flatMap f)
theorem RdS.below {α : Type} {f : α → List Value} {size : Nat} {w w1 : World} {v : Value} {l : List α} (h : RdS f size w v l) (hb : Below w.heap.size w w1) : RdS f size w1 v l := Rd.below h hb
theorem RdS.slice {α : Type} {f : α → List Value} {size : Nat} {w : World} {v : Value} {l : List α} (h : RdS f size w v l) : ∃ A c, v = .slice A l.length c := by
  obtain ⟨-, A, c, h, -⟩ := h; exact ⟨A, c, h⟩
theorem RdS.cells {α : Type} {f : α → List Value} {size : Nat} {w : World} {v : Value} {l : List α} (hf : ∀ x, (f x).length = size) (hs : 0 < size) (h : RdS f size w v l) (i : Nat) (hi : i < l.length) :
    ∃ b off c, v = .slice (some ⟨b, off, none⟩) l.length c ∧ l.length ≤ c ∧ b < w.heap.size ∧ ∀ j u, j < size → (f l[i])[j]? = some u → w.cell? ⟨b, off + (i * size + j), none⟩ = some u := by
  have hne : l.flatMap f ≠ [] := by
    intro e
    have h1 := flat_len hf l
    rw [e] at h1
    have : 0 < l.length * size := Nat.mul_pos (by omega) hs
    simp at h1; omega
  obtain ⟨b, off, c, hv, hc, hb, hcell⟩ := Rd.some h hne
  exact ⟨b, off, c, hv, hc, hb, fun j u hj hu => hcell _ _ ((flat_at hf l i hi j hj).trans hu)⟩

structure Am where
  name : ByteArray
  val : Int
def Am.cells (a : Am) : List Value := [.string a.name, .int .i64 a.val]
def RdAm (w : World) (v : Value) (l : List Am) : Prop := RdS Am.cells 2 w v l ∧ ∀ a ∈ l, in64 a.val
theorem RdAm.below {w w1 : World} {v : Value} {l : List Am} (h : RdAm w v l) (hb : Below w.heap.size w w1) : RdAm w1 v l := ⟨h.1.below hb, h.2⟩
structure Lb where
  key : ByteArray
  val : ByteArray
def Lb.cells (a : Lb) : List Value := [.string a.key, .string a.val]
def RdLb (w : World) (v : Value) (l : List Lb) : Prop := RdS Lb.cells 2 w v l
structure Pa where
  name : ByteArray
  rv : Value
  rl : List Am
  lv : Value
  ll : List Am
def Pa.cells (p : Pa) : List Value := [.string p.name, p.rv, p.lv]
def PaOk (w : World) (p : Pa) : Prop := RdAm w p.rv p.rl ∧ RdAm w p.lv p.ll
def RdPa (w : World) (v : Value) (l : List Pa) : Prop := RdS Pa.cells 3 w v l ∧ ∀ p ∈ l, PaOk w p
theorem RdPa.below {w w1 : World} {v : Value} {l : List Pa} (h : RdPa w v l) (hb : Below w.heap.size w w1) : RdPa w1 v l := ⟨h.1.below hb, fun p hp => ⟨(h.2 p hp).1.below hb, (h.2 p hp).2.below hb⟩⟩
structure Ob where
  path : ByteArray
  name : ByteArray
  lbv : Value
  lbl : List Lb
  prio : Int
  dead : Int
  pav : Value
  pal : List Pa
  ver : Int
def Ob.cells (o : Ob) : List Value := [.string o.path, .string o.name, o.lbv, .int .i64 o.prio, .int .i64 o.dead, o.pav, .int .i64 o.ver]
structure ObOk (w : World) (o : Ob) : Prop where
  lb : RdLb w o.lbv o.lbl
  pa : RdPa w o.pav o.pal
  prio : in64 o.prio
  dead : in64 o.dead
  ver : in64 o.ver
theorem ObOk.below {w w1 : World} {o : Ob} (h : ObOk w o) (hb : Below w.heap.size w w1) : ObOk w1 o := ⟨RdS.below h.lb hb, h.pa.below hb, h.prio, h.dead, h.ver⟩
def RdOb (w : World) (v : Value) (l : List Ob) : Prop := RdS Ob.cells 7 w v l ∧ ∀ o ∈ l, ObOk w o
theorem RdOb.below {w w1 : World} {v : Value} {l : List Ob} (h : RdOb w v l) (hb : Below w.heap.size w w1) : RdOb w1 v l := ⟨h.1.below hb, fun o ho => (h.2 o ho).below hb⟩

theorem Am.at {w : World} {v : Value} {l : List Am} (h : RdAm w v l) (i : Nat) (hi : i < l.length) : ∃ b off c, v = .slice (some ⟨b, off, none⟩) l.length c ∧ l.length ≤ c ∧ b < w.heap.size ∧ w.cell? ⟨b, off + i * 2, none⟩ = some (.string l[i].name) ∧ w.cell? ⟨b, off + i * 2 + 1, none⟩ = some (.int .i64 l[i].val) := by
  obtain ⟨b, off, c, hv, hc, hb, hcell⟩ := RdS.cells (f := Am.cells) (size := 2) (fun _ => rfl) (by decide) (h.1) i hi
  exact ⟨b, off, c, hv, hc, hb, hcell 0 _ (by decide) rfl, hcell 1 _ (by decide) rfl⟩
theorem Lb.at {w : World} {v : Value} {l : List Lb} (h : RdLb w v l) (i : Nat) (hi : i < l.length) : ∃ b off c, v = .slice (some ⟨b, off, none⟩) l.length c ∧ l.length ≤ c ∧ b < w.heap.size ∧ w.cell? ⟨b, off + i * 2, none⟩ = some (.string l[i].key) ∧ w.cell? ⟨b, off + i * 2 + 1, none⟩ = some (.string l[i].val) := by
  obtain ⟨b, off, c, hv, hc, hb, hcell⟩ := RdS.cells (f := Lb.cells) (size := 2) (fun _ => rfl) (by decide) (h) i hi
  exact ⟨b, off, c, hv, hc, hb, hcell 0 _ (by decide) rfl, hcell 1 _ (by decide) rfl⟩
theorem Pa.at {w : World} {v : Value} {l : List Pa} (h : RdPa w v l) (i : Nat) (hi : i < l.length) : ∃ b off c, v = .slice (some ⟨b, off, none⟩) l.length c ∧ l.length ≤ c ∧ b < w.heap.size ∧ w.cell? ⟨b, off + i * 3, none⟩ = some (.string l[i].name) ∧ w.cell? ⟨b, off + i * 3 + 1, none⟩ = some (l[i].rv) ∧ w.cell? ⟨b, off + i * 3 + 2, none⟩ = some (l[i].lv) := by
  obtain ⟨b, off, c, hv, hc, hb, hcell⟩ := RdS.cells (f := Pa.cells) (size := 3) (fun _ => rfl) (by decide) (h.1) i hi
  exact ⟨b, off, c, hv, hc, hb, hcell 0 _ (by decide) rfl, hcell 1 _ (by decide) rfl, hcell 2 _ (by decide) rfl⟩
theorem Ob.at {w : World} {v : Value} {l : List Ob} (h : RdOb w v l) (i : Nat) (hi : i < l.length) : ∃ b off c, v = .slice (some ⟨b, off, none⟩) l.length c ∧ l.length ≤ c ∧ b < w.heap.size ∧ w.cell? ⟨b, off + i * 7, none⟩ = some (.string l[i].path) ∧ w.cell? ⟨b, off + i * 7 + 1, none⟩ = some (.string l[i].name) ∧ w.cell? ⟨b, off + i * 7 + 2, none⟩ = some (l[i].lbv) ∧ w.cell? ⟨b, off + i * 7 + 3, none⟩ = some (.int .i64 l[i].prio) ∧ w.cell? ⟨b, off + i * 7 + 4, none⟩ = some (.int .i64 l[i].dead) ∧ w.cell? ⟨b, off + i * 7 + 5, none⟩ = some (l[i].pav) ∧ w.cell? ⟨b, off + i * 7 + 6, none⟩ = some (.int .i64 l[i].ver) := by
  obtain ⟨b, off, c, hv, hc, hb, hcell⟩ := RdS.cells (f := Ob.cells) (size := 7) (fun _ => rfl) (by decide) (h.1) i hi
  exact ⟨b, off, c, hv, hc, hb, hcell 0 _ (by decide) rfl, hcell 1 _ (by decide) rfl, hcell 2 _ (by decide) rfl, hcell 3 _ (by decide) rfl, hcell 4 _ (by decide) rfl, hcell 5 _ (by decide) rfl, hcell 6 _ (by decide) rfl⟩

/-! ### their texts -/
def printedZ (n : Int) : List UInt8 := if n < 0 then [] else printed n.toNat
def Am.txt (a : Am) : List UInt8 := 32 :: (a.name.data.toList ++ 61 :: printedZ a.val)
def amsS (l : List Am) : List UInt8 := l.flatMap Am.txt
theorem amsS_app (a b : List Am) : amsS (a ++ b) = amsS a ++ amsS b := by simp [amsS]
theorem printedZ_len {n : Int} (h : in64 n) : (printedZ n).length ≤ 22 := by
  unfold printedZ; split
  · simp
  · exact printed_len (by have := h.2; omega)

/-! ### or, itoa, flag -/
theorem ror_calls (s : ByteArray) (w : World) : Calls Tryd.prog 11 #[.string s] w fun e w' => (∃ sv, e = .returned sv ∧ StrIs sv (orS s.data.toList)) ∧ w = w' := by
  by_cases h : s.data.toList = []
  · obtain rfl := str_nil h
    clear h
    go_enter Tryd.func11, Tryd.ntmps11
    go_wp2
    go_ret
    exact ⟨⟨_, rfl, _, rfl, rfl⟩, rfl⟩
  · obtain ⟨e1, e2, e3⟩ := str_ne h
    have H := Lib.hid h
    clear h
    go_enter Tryd.func11, Tryd.ntmps11
    go_wp2
    go_ret
    exact ⟨⟨_, rfl, _, rfl, by rw [orS, if_neg H.out]⟩, rfl⟩
theorem bor_calls (s : ByteArray) (w : World) : Calls Tryd.prog 25 #[.string s] w fun e w' => (∃ sv, e = .returned sv ∧ StrIs sv (orS s.data.toList)) ∧ w = w' := by
  by_cases h : s.data.toList = []
  · obtain rfl := str_nil h
    clear h
    go_enter Tryd.func25, Tryd.ntmps25
    go_wp2
    go_ret
    exact ⟨⟨_, rfl, _, rfl, rfl⟩, rfl⟩
  · obtain ⟨e1, e2, e3⟩ := str_ne h
    have H := Lib.hid h
    clear h
    go_enter Tryd.func25, Tryd.ntmps25
    go_wp2
    go_ret
    exact ⟨⟨_, rfl, _, rfl, by rw [orS, if_neg H.out]⟩, rfl⟩
theorem ritoa_calls (n : Int) (h : in64 n) (w : World) (htab : PowTab w) : Calls Tryd.prog 10 #[.int .i64 n] w fun e w' => e = .returned (.string ⟨(Lib.itoa n).toArray⟩) ∧ Below w.heap.size w w' := by
  obtain ⟨h0, h1⟩ := h
  go_enter Tryd.func10, Tryd.ntmps10
  go_wp2_with fail
  refine (formatInt_calls n h0 h1 _ htab).mono ?_
  rintro e w1 ⟨rfl, hb⟩
  go_wp2
  go_ret
  exact ⟨rfl, hb⟩
def flagS (b : Bool) : List UInt8 := if b then [49] else [48]
theorem rflag_calls (b : Bool) (w : World) : Calls Tryd.prog 14 #[.bool b] w fun e w' => e = .returned (.string ⟨(flagS b).toArray⟩) ∧ w = w' := by
  cases b
  all_goals
    go_enter Tryd.func14, Tryd.ntmps14
    go_wp2
    go_ret
    exact ⟨rfl, rfl⟩

/-! ### Print of any value -/
theorem rprint_calls (n : Int) (h : in64 n) (w : World) : Calls Tryd.prog 13 #[.int .i64 n] w fun e w' => ∃ sv, e = .returned sv ∧ StrIs sv (printedZ n) ∧ Below w.heap.size w w' := by
  by_cases hn : n < 0
  · have Hp : Hid (printedZ n = []) := if_pos hn
    have hd : decide (n < 0) = true := decide_eq_true hn
    go_enter Tryd.func13, Tryd.ntmps13
    go_wp2
    go_ret
    exact ⟨_, rfl, ⟨_, rfl, by rw [Hp.out]⟩, Below.refl _ _⟩
  · obtain ⟨m, rfl⟩ := Int.eq_ofNat_of_zero_le (by omega : 0 ≤ n)
    have := print_calls w m (by have := h.2; omega)
    rw [printedZ, if_neg hn]
    exact this
theorem qprintZ_calls (n : Int) (h : in64 n) (w : World) (hU : Uni w) (htab : PowTab w) : Calls Tryd.prog 19 #[.int .i64 n] w fun e w' => ∃ sv, e = .returned sv ∧ StrIs sv (printedZ n) ∧ Below w.heap.size w w' := by
  by_cases hn : n < 0
  · have Hp : Hid (printedZ n = []) := if_pos hn
    have hd : decide (n < 0) = true := decide_eq_true hn
    clear hU htab
    go_enter Tryd.func19, Tryd.ntmps19
    go_wp2
    go_ret
    exact ⟨_, rfl, ⟨_, rfl, by rw [Hp.out]⟩, Below.refl _ _⟩
  · obtain ⟨m, rfl⟩ := Int.eq_ofNat_of_zero_le (by omega : 0 ≤ n)
    have := qprint_calls m (by have := h.2; omega) w hU htab
    rw [printedZ, if_neg hn]
    exact this
end Go.Proofs.YtleajmblagddcaaDoor
