/- A dump: its data, its text. -/
import Derived.Test.YtleajmblagddcaaDoorE2
namespace Go.Proofs.YtleajmblagddcaaDoor
open Go.RowKit
set_option linter.unusedVariables false
set_option linter.unusedSimpArgs false

def RdRu (w : World) (v : Value) (l : List Ru) : Prop := RdS Ru.cells 6 w v l ∧ ∀ u ∈ l, u.ok
theorem RdRu.below {w w1 : World} {v : Value} {l : List Ru} (h : RdRu w v l) (hb : Below w.heap.size w w1) : RdRu w1 v l := ⟨h.1.below hb, h.2⟩
structure Qu where
  path : ByteArray
  name : ByteArray
  kind : Int
  arg : Int
  hv : Value
  hl : List Am
def Qu.cells (q : Qu) : List Value := [.string q.path, .string q.name, .int .i64 q.kind, .int .i64 q.arg, q.hv]
def QuOk (w : World) (q : Qu) : Prop := in64 q.kind ∧ in64 q.arg ∧ RdAm w q.hv q.hl
def RdQu (w : World) (v : Value) (l : List Qu) : Prop := RdS Qu.cells 5 w v l ∧ ∀ q ∈ l, QuOk w q
theorem RdQu.below {w w1 : World} {v : Value} {l : List Qu} (h : RdQu w v l) (hb : Below w.heap.size w w1) : RdQu w1 v l := ⟨h.1.below hb, fun q hq => ⟨(h.2 q hq).1, (h.2 q hq).2.1, (h.2 q hq).2.2.below hb⟩⟩
structure Li where
  path : ByteArray
  name : ByteArray
  rv : Value
  rl : List Ru
def Li.cells (l : Li) : List Value := [.string l.path, .string l.name, l.rv]
def RdLi (w : World) (v : Value) (l : List Li) : Prop := RdS Li.cells 3 w v l ∧ ∀ x ∈ l, RdRu w x.rv x.rl
theorem RdLi.below {w w1 : World} {v : Value} {l : List Li} (h : RdLi w v l) (hb : Below w.heap.size w w1) : RdLi w1 v l := ⟨h.1.below hb, fun x hx => (h.2 x hx).below hb⟩
structure Bi where
  path : ByteArray
  name : ByteArray
  subj : ByteArray
  verb : Int
def Bi.cells (b : Bi) : List Value := [.string b.path, .string b.name, .string b.subj, .int .i64 b.verb]
def RdBi (w : World) (v : Value) (l : List Bi) : Prop := RdS Bi.cells 4 w v l ∧ ∀ x ∈ l, in64 x.verb
theorem RdBi.below {w w1 : World} {v : Value} {l : List Bi} (h : RdBi w v l) (hb : Below w.heap.size w w1) : RdBi w1 v l := ⟨h.1.below hb, h.2⟩
structure Us where
  path : ByteArray
  kind : Int
  arg : Int
  res : ByteArray
  val : Int
def Us.cells (u : Us) : List Value := [.string u.path, .int .i64 u.kind, .int .i64 u.arg, .string u.res, .int .i64 u.val]
def Us.ok (u : Us) : Prop := in64 u.kind ∧ in64 u.arg ∧ in64 u.val
def RdUs (w : World) (v : Value) (l : List Us) : Prop := RdS Us.cells 5 w v l ∧ ∀ x ∈ l, x.ok
theorem RdUs.below {w w1 : World} {v : Value} {l : List Us} (h : RdUs w v l) (hb : Below w.heap.size w w1) : RdUs w1 v l := ⟨h.1.below hb, h.2⟩
theorem Ru.at {w : World} {v : Value} {l : List Ru} (h : RdRu w v l) (i : Nat) (hi : i < l.length) : ∃ b off c, v = .slice (some ⟨b, off, none⟩) l.length c ∧ l.length ≤ c ∧ b < w.heap.size ∧ w.cell? ⟨b, off + i * 6, none⟩ = some (.string l[i].res) ∧ w.cell? ⟨b, off + i * 6 + 1, none⟩ = some (.int .i64 l[i].mn) ∧ w.cell? ⟨b, off + i * 6 + 2, none⟩ = some (.int .i64 l[i].mx) ∧ w.cell? ⟨b, off + i * 6 + 3, none⟩ = some (.int .i64 l[i].df) ∧ w.cell? ⟨b, off + i * 6 + 4, none⟩ = some (.int .i64 l[i].rq) ∧ w.cell? ⟨b, off + i * 6 + 5, none⟩ = some (.int .i64 l[i].ra) := by
  obtain ⟨b, off, c, hv, hc, hb, hcell⟩ := RdS.cells (f := Ru.cells) (size := 6) (fun _ => rfl) (by decide) (h.1) i hi
  exact ⟨b, off, c, hv, hc, hb, hcell 0 _ (by decide) rfl, hcell 1 _ (by decide) rfl, hcell 2 _ (by decide) rfl, hcell 3 _ (by decide) rfl, hcell 4 _ (by decide) rfl, hcell 5 _ (by decide) rfl⟩
theorem Qu.at {w : World} {v : Value} {l : List Qu} (h : RdQu w v l) (i : Nat) (hi : i < l.length) : ∃ b off c, v = .slice (some ⟨b, off, none⟩) l.length c ∧ l.length ≤ c ∧ b < w.heap.size ∧ w.cell? ⟨b, off + i * 5, none⟩ = some (.string l[i].path) ∧ w.cell? ⟨b, off + i * 5 + 1, none⟩ = some (.string l[i].name) ∧ w.cell? ⟨b, off + i * 5 + 2, none⟩ = some (.int .i64 l[i].kind) ∧ w.cell? ⟨b, off + i * 5 + 3, none⟩ = some (.int .i64 l[i].arg) ∧ w.cell? ⟨b, off + i * 5 + 4, none⟩ = some (l[i].hv) := by
  obtain ⟨b, off, c, hv, hc, hb, hcell⟩ := RdS.cells (f := Qu.cells) (size := 5) (fun _ => rfl) (by decide) (h.1) i hi
  exact ⟨b, off, c, hv, hc, hb, hcell 0 _ (by decide) rfl, hcell 1 _ (by decide) rfl, hcell 2 _ (by decide) rfl, hcell 3 _ (by decide) rfl, hcell 4 _ (by decide) rfl⟩
theorem Li.at {w : World} {v : Value} {l : List Li} (h : RdLi w v l) (i : Nat) (hi : i < l.length) : ∃ b off c, v = .slice (some ⟨b, off, none⟩) l.length c ∧ l.length ≤ c ∧ b < w.heap.size ∧ w.cell? ⟨b, off + i * 3, none⟩ = some (.string l[i].path) ∧ w.cell? ⟨b, off + i * 3 + 1, none⟩ = some (.string l[i].name) ∧ w.cell? ⟨b, off + i * 3 + 2, none⟩ = some (l[i].rv) := by
  obtain ⟨b, off, c, hv, hc, hb, hcell⟩ := RdS.cells (f := Li.cells) (size := 3) (fun _ => rfl) (by decide) (h.1) i hi
  exact ⟨b, off, c, hv, hc, hb, hcell 0 _ (by decide) rfl, hcell 1 _ (by decide) rfl, hcell 2 _ (by decide) rfl⟩
theorem Bi.at {w : World} {v : Value} {l : List Bi} (h : RdBi w v l) (i : Nat) (hi : i < l.length) : ∃ b off c, v = .slice (some ⟨b, off, none⟩) l.length c ∧ l.length ≤ c ∧ b < w.heap.size ∧ w.cell? ⟨b, off + i * 4, none⟩ = some (.string l[i].path) ∧ w.cell? ⟨b, off + i * 4 + 1, none⟩ = some (.string l[i].name) ∧ w.cell? ⟨b, off + i * 4 + 2, none⟩ = some (.string l[i].subj) ∧ w.cell? ⟨b, off + i * 4 + 3, none⟩ = some (.int .i64 l[i].verb) := by
  obtain ⟨b, off, c, hv, hc, hb, hcell⟩ := RdS.cells (f := Bi.cells) (size := 4) (fun _ => rfl) (by decide) (h.1) i hi
  exact ⟨b, off, c, hv, hc, hb, hcell 0 _ (by decide) rfl, hcell 1 _ (by decide) rfl, hcell 2 _ (by decide) rfl, hcell 3 _ (by decide) rfl⟩
theorem Us.at {w : World} {v : Value} {l : List Us} (h : RdUs w v l) (i : Nat) (hi : i < l.length) : ∃ b off c, v = .slice (some ⟨b, off, none⟩) l.length c ∧ l.length ≤ c ∧ b < w.heap.size ∧ w.cell? ⟨b, off + i * 5, none⟩ = some (.string l[i].path) ∧ w.cell? ⟨b, off + i * 5 + 1, none⟩ = some (.int .i64 l[i].kind) ∧ w.cell? ⟨b, off + i * 5 + 2, none⟩ = some (.int .i64 l[i].arg) ∧ w.cell? ⟨b, off + i * 5 + 3, none⟩ = some (.string l[i].res) ∧ w.cell? ⟨b, off + i * 5 + 4, none⟩ = some (.int .i64 l[i].val) := by
  obtain ⟨b, off, c, hv, hc, hb, hcell⟩ := RdS.cells (f := Us.cells) (size := 5) (fun _ => rfl) (by decide) (h.1) i hi
  exact ⟨b, off, c, hv, hc, hb, hcell 0 _ (by decide) rfl, hcell 1 _ (by decide) rfl, hcell 2 _ (by decide) rfl, hcell 3 _ (by decide) rfl, hcell 4 _ (by decide) rfl⟩

def nodeTxt (s : ByteArray) : List UInt8 := tellS [110, 111, 100, 101] [.str s]
def Qu.txt (q : Qu) : List UInt8 := [113, 117, 111, 116, 97, 32] ++ (orS q.path.data.toList ++ 32 :: (orS q.name.data.toList ++ 32 :: (scopeS q.kind q.arg ++ (amsS q.hl ++ [10]))))
def rusS (l : List Ru) : List UInt8 := l.flatMap Ru.txt
def Li.head (l : Li) : List UInt8 := [108, 105, 109, 105, 116, 32] ++ (orS l.path.data.toList ++ 32 :: orS l.name.data.toList)
def Li.txt (l : Li) : List UInt8 := l.head ++ (rusS l.rl ++ [10])
def wordB (l : List UInt8) : ByteArray := ⟨l.toArray⟩
def Bi.parts (b : Bi) : List Pt := [.str b.path, .str b.name, .str b.subj, .str (wordB (verbS b.verb))]
def Bi.txt (b : Bi) : List UInt8 := tellS [98, 105, 110, 100] b.parts
def Us.parts (u : Us) : List Pt := [.str u.path, .str (wordB (scopeS u.kind u.arg)), .str u.res, .str (pzB u.val)]
def Us.txt (u : Us) : List UInt8 := tellS [117, 115, 101] u.parts
structure Du where
  ver : Int
  ndv : Value
  ndl : List ByteArray
  quv : Value
  qul : List Qu
  liv : Value
  lil : List Li
  obv : Value
  obl : List Ob
  biv : Value
  bil : List Bi
  usv : Value
  usl : List Us
structure DuOk (w : World) (d : Du) : Prop where
  ver : in64 d.ver
  nd : RdNm w d.ndv d.ndl
  qu : RdQu w d.quv d.qul
  li : RdLi w d.liv d.lil
  ob : RdOb w d.obv d.obl
  bi : RdBi w d.biv d.bil
  us : RdUs w d.usv d.usl
theorem DuOk.below {w w1 : World} {d : Du} (h : DuOk w d) (hb : Below w.heap.size w w1) : DuOk w1 d :=
  ⟨h.ver, h.nd.below hb, h.qu.below hb, h.li.below hb, h.ob.below hb, h.bi.below hb, h.us.below hb⟩
def Du.t0 (d : Du) : List UInt8 := tellS [111, 107] [.i64 d.ver]
def Du.t1 (d : Du) : List UInt8 := d.t0 ++ d.ndl.flatMap nodeTxt
def Du.t2 (d : Du) : List UInt8 := d.t1 ++ d.qul.flatMap Qu.txt
def Du.t3 (d : Du) : List UInt8 := d.t2 ++ d.lil.flatMap Li.txt
def Du.t4 (d : Du) : List UInt8 := d.t3 ++ obsS d.obl
def Du.t5 (d : Du) : List UInt8 := d.t4 ++ d.bil.flatMap Bi.txt
def Du.txt (d : Du) : List UInt8 := d.t5 ++ d.usl.flatMap Us.txt
theorem du_lens (d : Du) : d.t0.length ≤ d.t1.length ∧ d.t1.length ≤ d.t2.length ∧ d.t2.length ≤ d.t3.length ∧ d.t3.length ≤ d.t4.length ∧ d.t4.length ≤ d.t5.length ∧ d.t5.length ≤ d.txt.length := by
  simp only [Du.t1, Du.t2, Du.t3, Du.t4, Du.t5, Du.txt, List.length_append]; omega

/-! ### loops' relations -/
def GLoop {α : Type} (f : α → List UInt8) (w : World) (bx : Obj) (pre : List UInt8) (l : List α) (v : Value) (w1 : World) : Prop := ∃ (i : Nat) (s1 : Value), i ≤ l.length ∧ v = .int .i64 i ∧ GB w bx w1 s1 (pre ++ (l.take i).flatMap f)
theorem part_len {α : Type} (f : α → List UInt8) {pre : List UInt8} {l : List α} {i N : Nat} (h : (pre ++ l.flatMap f).length ≤ N) (hlt : i < l.length) : (pre ++ (l.take i).flatMap f).length + (f l[i]).length ≤ N := by
  have h1 := take_len_le f hlt
  simp only [List.length_append] at h ⊢; omega
theorem part_len0 {α : Type} (f : α → List UInt8) {pre : List UInt8} {l : List α} {i N : Nat} (h : (pre ++ l.flatMap f).length ≤ N) (hlt : i < l.length) : (pre ++ (l.take i).flatMap f).length ≤ N := by
  have := part_len f h hlt; omega
theorem qu_pos (q : Qu) : 0 < q.txt.length := by simp only [Qu.txt, List.length_append, List.length_cons]; omega
theorem li_pos (l : Li) : 0 < l.txt.length := by simp only [Li.txt, List.length_append, List.length_cons]; omega
theorem bi_pos (b : Bi) : 0 < b.txt.length := by simp only [Bi.txt, tellS, List.length_append, List.length_cons]; omega
theorem us_pos (u : Us) : 0 < u.txt.length := by simp only [Us.txt, tellS, List.length_append, List.length_cons]; omega
theorem nd_pos (s : ByteArray) : 0 < (nodeTxt s).length := by simp only [nodeTxt, tellS, List.length_append, List.length_cons]; omega
theorem ru_pos (u : Ru) : 0 < u.txt.length := by simp only [Ru.txt, Ru.head, List.length_append, List.length_cons]; omega
theorem count_le {α : Type} (f : α → List UInt8) (hf : ∀ x, 0 < (f x).length) {pre : List UInt8} {l : List α} {N : Nat} (h : (pre ++ l.flatMap f).length ≤ N) : l.length ≤ N := by
  have := flat_count f hf l
  simp only [List.length_append] at h; omega
end Go.Proofs.YtleajmblagddcaaDoor
