/- How a dump that came in reads, and how long its text may be. -/
import Derived.Test.YtleajmblagddcaaDoorE6
import Derived.Test.YtleajmblagddcaaDoorD23
namespace Go.Proofs.YtleajmblagddcaaDoor
open Go.RowKit
set_option linter.unusedVariables false
set_option linter.unusedSimpArgs false
section
variable {H : Type} {enc : TypeId × Value → H} {W : World} {base : Nat} {sp : Nat → Bool} {hd : Bool}
instance : Inhabited Ru := ⟨⟨⟨#[]⟩, 0, 0, 0, 0, 0⟩⟩
instance : Inhabited Qu := ⟨⟨⟨#[]⟩, ⟨#[]⟩, 0, 0, .nilIface, []⟩⟩
instance : Inhabited Li := ⟨⟨⟨#[]⟩, ⟨#[]⟩, .nilIface, []⟩⟩
instance : Inhabited Bi := ⟨⟨⟨#[]⟩, ⟨#[]⟩, ⟨#[]⟩, 0⟩⟩
instance : Inhabited Us := ⟨⟨⟨#[]⟩, 0, 0, ⟨#[]⟩, 0⟩⟩
theorem wordB_list (l : List UInt8) : (wordB l).data.toList = l := rfl
set_option maxRecDepth 100000 in
theorem dec_ru {fuel : Nat} {cs : List Value} {x : DataW H × List MemPlace} (h : DataW.trod enc Tryd.prog W base sp hd fuel 76 cs = some x) :
    ∃ a : Ru, cs = a.cells ∧ a.ok ∧ a.txt.length ≤ 64 * Rows.uptoBulk x.1 := by
  obtain ⟨xs, n, rfl, rfl, hl, hxl, hf⟩ := DataW.trod_struct Tryd.underlying76 h
  have hlen : cs.length = 6 := hl.trans (by kernel_rfl)
  match xs, hxl, cs, hlen with
  | [x0, x1, x2, x3, x4, x5], _, [v0, v1, v2, v3, v4, v5], _ =>
    have c0 : Tryd.prog.cellsOf 2 = 1 := by kernel_rfl
    have c1 : Tryd.prog.cellsOf 9 = 1 := by kernel_rfl
    have g0 := hf 0 _ rfl
    have g1 := hf 1 _ rfl
    have g2 := hf 2 _ rfl
    have g3 := hf 3 _ rfl
    have g4 := hf 4 _ rfl
    have g5 := hf 5 _ rfl
    simp only [c0, c1, List.drop_zero, List.drop_succ_cons, List.take_succ_cons, List.take_zero, List.getElem?_cons_zero, List.getElem?_cons_succ] at g0 g1 g2 g3 g4 g5
    obtain ⟨a0, e0, rfl, -⟩ := DataW.trod_string Tryd.underlying9 g0
    cases e0
    obtain ⟨a1, e1, rfl, w1⟩ := DataW.trod_int Tryd.underlying2 g1
    cases e1
    have w1 := lit64 w1
    obtain ⟨a2, e2, rfl, w2⟩ := DataW.trod_int Tryd.underlying2 g2
    cases e2
    have w2 := lit64 w2
    obtain ⟨a3, e3, rfl, w3⟩ := DataW.trod_int Tryd.underlying2 g3
    cases e3
    have w3 := lit64 w3
    obtain ⟨a4, e4, rfl, w4⟩ := DataW.trod_int Tryd.underlying2 g4
    cases e4
    have w4 := lit64 w4
    obtain ⟨a5, e5, rfl, w5⟩ := DataW.trod_int Tryd.underlying2 g5
    cases e5
    have w5 := lit64 w5
    have hk : (⟨a0, a1, a2, a3, a4, a5⟩ : Ru).ok := ⟨w1, w2, w3, w4, w5⟩
    refine ⟨⟨a0, a1, a2, a3, a4, a5⟩, rfl, hk, ?_⟩
    have := ru_len hk
    have hs : a0.size = a0.data.toList.length := size_toList a0
    simp only [Rows.uptoBulk, Rows.uptoBulkAll, List.map_cons, List.map_nil]
    simp only at this
    omega
theorem rows_ru {fuel : Nat} {cs : List Value} {x : DataW H × List MemPlace} (h : DataW.trod enc Tryd.prog W base sp hd fuel 71 cs = some x) : ∃ (v : Value) (l : List Ru), cs = [v] ∧ RdS Ru.cells 6 W v l ∧ (∀ a ∈ l, a.ok) ∧ (l.flatMap Ru.txt).length + 64 ≤ 64 * Rows.uptoBulk x.1 := by
  obtain ⟨v, l, h1, h2, h3, h4⟩ := open_rows Ru.cells 6 (fun _ => rfl) (by decide) (fun a => a.ok) (fun a => (Ru.txt a).length) Tryd.underlying71 (by kernel_rfl) (fun _ _ _ h => dec_ru h) h
  exact ⟨v, l, h1, h2, h3, by rw [flatMap_len]; exact h4⟩
set_option maxRecDepth 100000 in
theorem dec_sc {fuel : Nat} {cs : List Value} {x : DataW H × List MemPlace} (h : DataW.trod enc Tryd.prog W base sp hd fuel 65 cs = some x) :
    ∃ a b : Int, cs = [.int .i64 a, .int .i64 b] ∧ 64 * 3 ≤ 64 * Rows.uptoBulk x.1 ∧ in64 a ∧ in64 b := by
  obtain ⟨xs, n, rfl, rfl, hl, hxl, hf⟩ := DataW.trod_struct Tryd.underlying65 h
  have hlen : cs.length = 2 := hl.trans (by kernel_rfl)
  match xs, hxl, cs, hlen with
  | [x0, x1], _, [v0, v1], _ =>
    have c0 : Tryd.prog.cellsOf 3 = 1 := by kernel_rfl
    have g0 := hf 0 _ rfl
    have g1 := hf 1 _ rfl
    simp only [c0, List.drop_zero, List.drop_succ_cons, List.take_succ_cons, List.take_zero, List.getElem?_cons_zero, List.getElem?_cons_succ] at g0 g1
    obtain ⟨a0, e0, rfl, w0⟩ := DataW.trod_int Tryd.underlying3 g0
    cases e0
    have w0 := lit64 w0
    obtain ⟨a1, e1, rfl, w1⟩ := DataW.trod_int Tryd.underlying3 g1
    cases e1
    have w1 := lit64 w1
    refine ⟨a0, a1, rfl, ?_, w0, w1⟩
    simp only [Rows.uptoBulk, Rows.uptoBulkAll, List.map_cons, List.map_nil]
    omega
set_option maxRecDepth 100000 in
theorem dec_qu {fuel : Nat} {cs : List Value} {x : DataW H × List MemPlace} (h : DataW.trod enc Tryd.prog W base sp hd fuel 68 cs = some x) :
    ∃ a : Qu, cs = a.cells ∧ QuOk W a ∧ a.txt.length ≤ 64 * Rows.uptoBulk x.1 := by
  obtain ⟨xs, n, rfl, rfl, hl, hxl, hf⟩ := DataW.trod_struct Tryd.underlying68 h
  have hlen : cs.length = 5 := hl.trans (by kernel_rfl)
  match xs, hxl, cs, hlen with
  | [x0, x1, x2, x3], _, [v0, v1, v2, v3, v4], _ =>
    have c0 : Tryd.prog.cellsOf 66 = 1 := by kernel_rfl
    have c1 : Tryd.prog.cellsOf 65 = 2 := by kernel_rfl
    have c2 : Tryd.prog.cellsOf 9 = 1 := by kernel_rfl
    have g0 := hf 0 _ rfl
    have g1 := hf 1 _ rfl
    have g2 := hf 2 _ rfl
    have g3 := hf 3 _ rfl
    simp only [c0, c1, c2, List.drop_zero, List.drop_succ_cons, List.take_succ_cons, List.take_zero, List.getElem?_cons_zero, List.getElem?_cons_succ] at g0 g1 g2 g3
    obtain ⟨a0, e0, rfl, -⟩ := DataW.trod_string Tryd.underlying9 g0
    cases e0
    obtain ⟨a1, e1, rfl, -⟩ := DataW.trod_string Tryd.underlying9 g1
    cases e1
    obtain ⟨d2_0, d2_1, e2, m2, y0, y1⟩ := dec_sc g2
    cases e2
    obtain ⟨b3, l3, e3, r3, o3, m3⟩ := rows_am g3
    cases e3
    refine ⟨⟨a0, a1, d2_0, d2_1, v4, l3⟩, rfl, ⟨y0, y1, r3, o3⟩, ?_⟩
    have q0 := orS_len a0.data.toList
    have q1 := orS_len a1.data.toList
    have q2 := (scopeS_ne d2_0 d2_1).2
    simp only [Rows.uptoBulk, Rows.uptoBulkAll, List.map_cons, List.map_nil]
    simp only [Qu.txt, List.length_cons, List.length_append, List.length_nil]
    omega
theorem rows_qu {fuel : Nat} {cs : List Value} {x : DataW H × List MemPlace} (h : DataW.trod enc Tryd.prog W base sp hd fuel 35 cs = some x) : ∃ (v : Value) (l : List Qu), cs = [v] ∧ RdS Qu.cells 5 W v l ∧ (∀ a ∈ l, QuOk W a) ∧ (l.flatMap Qu.txt).length + 64 ≤ 64 * Rows.uptoBulk x.1 := by
  obtain ⟨v, l, h1, h2, h3, h4⟩ := open_rows Qu.cells 5 (fun _ => rfl) (by decide) (fun a => QuOk W a) (fun a => (Qu.txt a).length) Tryd.underlying35 (by kernel_rfl) (fun _ _ _ h => dec_qu h) h
  exact ⟨v, l, h1, h2, h3, by rw [flatMap_len]; exact h4⟩
set_option maxRecDepth 100000 in
theorem dec_li {fuel : Nat} {cs : List Value} {x : DataW H × List MemPlace} (h : DataW.trod enc Tryd.prog W base sp hd fuel 73 cs = some x) :
    ∃ a : Li, cs = a.cells ∧ RdRu W a.rv a.rl ∧ a.txt.length ≤ 64 * Rows.uptoBulk x.1 := by
  obtain ⟨xs, n, rfl, rfl, hl, hxl, hf⟩ := DataW.trod_struct Tryd.underlying73 h
  have hlen : cs.length = 3 := hl.trans (by kernel_rfl)
  match xs, hxl, cs, hlen with
  | [x0, x1, x2], _, [v0, v1, v2], _ =>
    have c0 : Tryd.prog.cellsOf 71 = 1 := by kernel_rfl
    have c1 : Tryd.prog.cellsOf 9 = 1 := by kernel_rfl
    have g0 := hf 0 _ rfl
    have g1 := hf 1 _ rfl
    have g2 := hf 2 _ rfl
    simp only [c0, c1, List.drop_zero, List.drop_succ_cons, List.take_succ_cons, List.take_zero, List.getElem?_cons_zero, List.getElem?_cons_succ] at g0 g1 g2
    obtain ⟨a0, e0, rfl, -⟩ := DataW.trod_string Tryd.underlying9 g0
    cases e0
    obtain ⟨a1, e1, rfl, -⟩ := DataW.trod_string Tryd.underlying9 g1
    cases e1
    obtain ⟨b2, l2, e2, r2, o2, m2⟩ := rows_ru g2
    cases e2
    refine ⟨⟨a0, a1, v2, l2⟩, rfl, ⟨r2, o2⟩, ?_⟩
    have q0 := orS_len a0.data.toList
    have q1 := orS_len a1.data.toList
    simp only [Rows.uptoBulk, Rows.uptoBulkAll, List.map_cons, List.map_nil]
    simp only [Li.txt, Li.head, rusS, List.length_cons, List.length_append, List.length_nil]
    omega
theorem rows_li {fuel : Nat} {cs : List Value} {x : DataW H × List MemPlace} (h : DataW.trod enc Tryd.prog W base sp hd fuel 36 cs = some x) : ∃ (v : Value) (l : List Li), cs = [v] ∧ RdS Li.cells 3 W v l ∧ (∀ a ∈ l, RdRu W a.rv a.rl) ∧ (l.flatMap Li.txt).length + 64 ≤ 64 * Rows.uptoBulk x.1 := by
  obtain ⟨v, l, h1, h2, h3, h4⟩ := open_rows Li.cells 3 (fun _ => rfl) (by decide) (fun a => RdRu W a.rv a.rl) (fun a => (Li.txt a).length) Tryd.underlying36 (by kernel_rfl) (fun _ _ _ h => dec_li h) h
  exact ⟨v, l, h1, h2, h3, by rw [flatMap_len]; exact h4⟩
set_option maxRecDepth 100000 in
theorem dec_bi {fuel : Nat} {cs : List Value} {x : DataW H × List MemPlace} (h : DataW.trod enc Tryd.prog W base sp hd fuel 78 cs = some x) :
    ∃ a : Bi, cs = a.cells ∧ in64 a.verb ∧ a.txt.length ≤ 64 * Rows.uptoBulk x.1 := by
  obtain ⟨xs, n, rfl, rfl, hl, hxl, hf⟩ := DataW.trod_struct Tryd.underlying78 h
  have hlen : cs.length = 4 := hl.trans (by kernel_rfl)
  match xs, hxl, cs, hlen with
  | [x0, x1, x2, x3], _, [v0, v1, v2, v3], _ =>
    have c0 : Tryd.prog.cellsOf 3 = 1 := by kernel_rfl
    have c1 : Tryd.prog.cellsOf 9 = 1 := by kernel_rfl
    have g0 := hf 0 _ rfl
    have g1 := hf 1 _ rfl
    have g2 := hf 2 _ rfl
    have g3 := hf 3 _ rfl
    simp only [c0, c1, List.drop_zero, List.drop_succ_cons, List.take_succ_cons, List.take_zero, List.getElem?_cons_zero, List.getElem?_cons_succ] at g0 g1 g2 g3
    obtain ⟨a0, e0, rfl, -⟩ := DataW.trod_string Tryd.underlying9 g0
    cases e0
    obtain ⟨a1, e1, rfl, -⟩ := DataW.trod_string Tryd.underlying9 g1
    cases e1
    obtain ⟨a2, e2, rfl, -⟩ := DataW.trod_string Tryd.underlying9 g2
    cases e2
    obtain ⟨a3, e3, rfl, w3⟩ := DataW.trod_int Tryd.underlying3 g3
    cases e3
    have w3 := lit64 w3
    refine ⟨⟨a0, a1, a2, a3⟩, rfl, w3, ?_⟩
    have q0 := orS_len a0.data.toList
    have q1 := orS_len a1.data.toList
    have q2 := orS_len a2.data.toList
    have q3 := orS_len (verbS a3)
    have q4 := (verbS_ne a3).2
    simp only [Rows.uptoBulk, Rows.uptoBulkAll, List.map_cons, List.map_nil]
    simp only [Bi.txt, tellS, Bi.parts, wordB_list, partsS, Pt.txt, List.flatMap_cons, List.flatMap_nil, List.length_cons, List.length_append, List.length_nil]
    omega
theorem rows_bi {fuel : Nat} {cs : List Value} {x : DataW H × List MemPlace} (h : DataW.trod enc Tryd.prog W base sp hd fuel 37 cs = some x) : ∃ (v : Value) (l : List Bi), cs = [v] ∧ RdS Bi.cells 4 W v l ∧ (∀ a ∈ l, in64 a.verb) ∧ (l.flatMap Bi.txt).length + 64 ≤ 64 * Rows.uptoBulk x.1 := by
  obtain ⟨v, l, h1, h2, h3, h4⟩ := open_rows Bi.cells 4 (fun _ => rfl) (by decide) (fun a => in64 a.verb) (fun a => (Bi.txt a).length) Tryd.underlying37 (by kernel_rfl) (fun _ _ _ h => dec_bi h) h
  exact ⟨v, l, h1, h2, h3, by rw [flatMap_len]; exact h4⟩
set_option maxRecDepth 100000 in
theorem dec_us {fuel : Nat} {cs : List Value} {x : DataW H × List MemPlace} (h : DataW.trod enc Tryd.prog W base sp hd fuel 80 cs = some x) :
    ∃ a : Us, cs = a.cells ∧ a.ok ∧ a.txt.length ≤ 64 * Rows.uptoBulk x.1 := by
  obtain ⟨xs, n, rfl, rfl, hl, hxl, hf⟩ := DataW.trod_struct Tryd.underlying80 h
  have hlen : cs.length = 5 := hl.trans (by kernel_rfl)
  match xs, hxl, cs, hlen with
  | [x0, x1, x2, x3], _, [v0, v1, v2, v3, v4], _ =>
    have c0 : Tryd.prog.cellsOf 65 = 2 := by kernel_rfl
    have c1 : Tryd.prog.cellsOf 2 = 1 := by kernel_rfl
    have c2 : Tryd.prog.cellsOf 9 = 1 := by kernel_rfl
    have g0 := hf 0 _ rfl
    have g1 := hf 1 _ rfl
    have g2 := hf 2 _ rfl
    have g3 := hf 3 _ rfl
    simp only [c0, c1, c2, List.drop_zero, List.drop_succ_cons, List.take_succ_cons, List.take_zero, List.getElem?_cons_zero, List.getElem?_cons_succ] at g0 g1 g2 g3
    obtain ⟨a0, e0, rfl, -⟩ := DataW.trod_string Tryd.underlying9 g0
    cases e0
    obtain ⟨d1_0, d1_1, e1, m1, y0, y1⟩ := dec_sc g1
    cases e1
    obtain ⟨a2, e2, rfl, -⟩ := DataW.trod_string Tryd.underlying9 g2
    cases e2
    obtain ⟨a3, e3, rfl, w3⟩ := DataW.trod_int Tryd.underlying2 g3
    cases e3
    have w3 := lit64 w3
    refine ⟨⟨a0, d1_0, d1_1, a2, a3⟩, rfl, ⟨y0, y1, w3⟩, ?_⟩
    have q0 := orS_len a0.data.toList
    have q1 := orS_len a2.data.toList
    have q2 := orS_len (scopeS d1_0 d1_1)
    have q3 := (scopeS_ne d1_0 d1_1).2
    have q4 := orS_len (printedZ a3)
    have q5 := printedZ_len w3
    simp only [Rows.uptoBulk, Rows.uptoBulkAll, List.map_cons, List.map_nil]
    simp only [Us.txt, tellS, Us.parts, wordB_list, pzB, List.toList_toArray, partsS, Pt.txt, List.flatMap_cons, List.flatMap_nil, List.length_cons, List.length_append, List.length_nil]
    omega
theorem rows_us {fuel : Nat} {cs : List Value} {x : DataW H × List MemPlace} (h : DataW.trod enc Tryd.prog W base sp hd fuel 38 cs = some x) : ∃ (v : Value) (l : List Us), cs = [v] ∧ RdS Us.cells 5 W v l ∧ (∀ a ∈ l, a.ok) ∧ (l.flatMap Us.txt).length + 64 ≤ 64 * Rows.uptoBulk x.1 := by
  obtain ⟨v, l, h1, h2, h3, h4⟩ := open_rows Us.cells 5 (fun _ => rfl) (by decide) (fun a => a.ok) (fun a => (Us.txt a).length) Tryd.underlying38 (by kernel_rfl) (fun _ _ _ h => dec_us h) h
  exact ⟨v, l, h1, h2, h3, by rw [flatMap_len]; exact h4⟩
theorem dec_nd {fuel : Nat} {cs : List Value} {x : DataW H × List MemPlace} (h : DataW.trod enc Tryd.prog W base sp hd fuel 9 cs = some x) : ∃ a : ByteArray, cs = nmCells a ∧ True ∧ (nodeTxt a).length ≤ 64 * Rows.uptoBulk x.1 := by
  obtain ⟨a0, e0, rfl, -⟩ := DataW.trod_string Tryd.underlying9 h
  refine ⟨a0, e0, True.intro, ?_⟩
  have q0 := orS_len a0.data.toList
  simp only [Rows.uptoBulk, nodeTxt, tellS, partsS, Pt.txt, List.flatMap_cons, List.flatMap_nil, List.length_cons, List.length_append, List.length_nil]
  omega
theorem rows_nd {fuel : Nat} {cs : List Value} {x : DataW H × List MemPlace} (h : DataW.trod enc Tryd.prog W base sp hd fuel 28 cs = some x) : ∃ (v : Value) (l : List ByteArray), cs = [v] ∧ RdS nmCells 1 W v l ∧ (∀ a ∈ l, True) ∧ (l.flatMap nodeTxt).length + 64 ≤ 64 * Rows.uptoBulk x.1 := by
  obtain ⟨v, l, h1, h2, h3, h4⟩ := open_rows nmCells 1 (fun _ => rfl) (by decide) (fun _ => True) (fun a => (nodeTxt a).length) Tryd.underlying28 (by kernel_rfl) (fun _ _ _ h => dec_nd h) h
  exact ⟨v, l, h1, h2, h3, by rw [flatMap_len]; exact h4⟩
set_option maxRecDepth 100000 in
theorem dec_du {fuel : Nat} {cs : List Value} {x : DataW H × List MemPlace} (h : DataW.trod enc Tryd.prog W base sp hd fuel 40 cs = some x) :
    ∃ d : Du, cs = [.int .i64 d.ver, d.ndv, d.quv, d.liv, d.obv, d.biv, d.usv] ∧ DuOk W d ∧ d.txt.length ≤ 64 * Rows.uptoBulk x.1 := by
  obtain ⟨xs, n, rfl, rfl, hl, hxl, hf⟩ := DataW.trod_struct Tryd.underlying40 h
  have hlen : cs.length = 7 := hl.trans (by kernel_rfl)
  match xs, hxl, cs, hlen with
  | [x0, x1, x2, x3, x4, x5, x6], _, [v0, v1, v2, v3, v4, v5, v6], _ =>
    have c0 : Tryd.prog.cellsOf 37 = 1 := by kernel_rfl
    have c1 : Tryd.prog.cellsOf 36 = 1 := by kernel_rfl
    have c2 : Tryd.prog.cellsOf 25 = 1 := by kernel_rfl
    have c3 : Tryd.prog.cellsOf 35 = 1 := by kernel_rfl
    have c4 : Tryd.prog.cellsOf 38 = 1 := by kernel_rfl
    have c5 : Tryd.prog.cellsOf 28 = 1 := by kernel_rfl
    have c6 : Tryd.prog.cellsOf 2 = 1 := by kernel_rfl
    have g0 := hf 0 _ rfl
    have g1 := hf 1 _ rfl
    have g2 := hf 2 _ rfl
    have g3 := hf 3 _ rfl
    have g4 := hf 4 _ rfl
    have g5 := hf 5 _ rfl
    have g6 := hf 6 _ rfl
    simp only [c0, c1, c2, c3, c4, c5, c6, List.drop_zero, List.drop_succ_cons, List.take_succ_cons, List.take_zero, List.getElem?_cons_zero, List.getElem?_cons_succ] at g0 g1 g2 g3 g4 g5 g6
    obtain ⟨a0, e0, rfl, w0⟩ := DataW.trod_int Tryd.underlying2 g0
    cases e0
    have w0 := lit64 w0
    obtain ⟨b1, l1, e1, r1, o1, m1⟩ := rows_nd g1
    cases e1
    obtain ⟨b2, l2, e2, r2, o2, m2⟩ := rows_qu g2
    cases e2
    obtain ⟨b3, l3, e3, r3, o3, m3⟩ := rows_li g3
    cases e3
    obtain ⟨b4, l4, e4, r4, o4, m4⟩ := rows_ob g4
    cases e4
    obtain ⟨b5, l5, e5, r5, o5, m5⟩ := rows_bi g5
    cases e5
    obtain ⟨b6, l6, e6, r6, o6, m6⟩ := rows_us g6
    cases e6
    refine ⟨⟨a0, v1, l1, v2, l2, v3, l3, v4, l4, v5, l5, v6, l6⟩, rfl, ⟨w0, r1, ⟨r2, o2⟩, ⟨r3, o3⟩, ⟨r4, o4⟩, ⟨r5, o5⟩, ⟨r6, o6⟩⟩, ?_⟩
    have q0 := itoa_len w0
    simp only [Rows.uptoBulk, Rows.uptoBulkAll, List.map_cons, List.map_nil]
    simp only [Du.txt, Du.t5, Du.t4, Du.t3, Du.t2, Du.t1, Du.t0, tellS, partsS, Pt.txt, List.flatMap_cons, List.flatMap_nil, List.length_cons, List.length_append, List.length_nil]
    omega
end
end Go.Proofs.YtleajmblagddcaaDoor
