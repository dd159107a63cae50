/- How a reply that came in reads, and how long its text may be. -/
import Derived.Test.YtleajmblagddcaaDoorD22
import Derived.Test.YtleajmblagddcaaDoorRows
import Derived.OpenShut
import Derived.Deep.Slices
namespace Go.Proofs.YtleajmblagddcaaDoor
open Go.RowKit
set_option linter.unusedVariables false
set_option linter.unusedSimpArgs false

theorem lit64 {n : Int} (h : (Lit.int .i64 n).wf = true) : in64 n := by
  have e1 : IntKind.i64.min = -9223372036854775808 := by decide
  have e2 : IntKind.i64.max = 9223372036854775807 := by decide
  simp only [Lit.wf, e1, e2, Bool.and_eq_true, decide_eq_true_eq] at h
  exact h
theorem addr_add2 (a : Addr) (i j : Nat) : (a.add i).add j = a.add (i + j) := by
  unfold Addr.add
  by_cases hi : i = 0 <;> by_cases hj : j = 0 <;> simp_all <;> omega
theorem flatMap_len {α : Type} (g : α → List UInt8) (l : List α) : (l.flatMap g).length = (l.map fun a => (g a).length).sum := by
  induction l with
  | nil => rfl
  | cons a r ih => rw [List.flatMap_cons, List.length_append, ih]; simp

section
variable {H : Type} {enc : TypeId × Value → H} {P : Program} {W : World} {base : Nat} {sp : Nat → Bool} {hd : Bool}

theorem open_rows {α : Type} [Inhabited α] (f : α → List Value) (sz : Nat) (hf : ∀ x, (f x).length = sz) (hsz : 0 < sz) (Ok : α → Prop) (len : α → Nat) {t e : TypeId} (ht : P.underlying t = some (.slice e)) (hce : P.cellsOf e = sz)
    (dec : ∀ (fuel : Nat) (cs : List Value) (x : DataW H × List MemPlace), DataW.trod enc P W base sp hd fuel e cs = some x → ∃ a, cs = f a ∧ Ok a ∧ len a ≤ 64 * Rows.uptoBulk x.1)
    {fuel : Nat} {cs : List Value} {x : DataW H × List MemPlace} (h : DataW.trod enc P W base sp hd fuel t cs = some x) :
    ∃ (v : Value) (l : List α), cs = [v] ∧ RdS f sz W v l ∧ (∀ a ∈ l, Ok a) ∧ (l.map len).sum + 64 ≤ 64 * Rows.uptoBulk x.1 := by
  rcases Deep.open_slice ht h with ⟨hcs, hx⟩ | ⟨a, n, cap, m, q, D, Pl, hcs, hb, hl, hm, hmm, hx, hel⟩
  · subst hcs hx
    exact ⟨_, [], rfl, ⟨by simp, none, 0, rfl, Nat.le_refl _, fun _ => rfl, fun ad h => by cases h⟩, (fun a ha => by cases ha), by simp [Rows.uptoBulk]⟩
  · have hnm : n ≤ m := by rw [hmm]; split <;> omega
    have each : ∀ i, i < n → ∃ b : α, (∀ r u, r < sz → (f b)[r]? = some u → W.cell? (a.add (i * sz + r)) = some u) ∧ Ok b ∧ len b ≤ 64 * Rows.uptoBulk (D i) := by
      intro i hi
      obtain ⟨cs', h1, h2⟩ := hel i (by omega)
      rw [hce] at h1
      obtain ⟨_, hlen, hcell⟩ := World.cells?_some h1
      obtain ⟨b, rfl, hok, hbl⟩ := dec _ _ _ h2
      refine ⟨b, fun r u hr hu => ?_, hok, hbl⟩
      have := hcell r hr
      rw [addr_add2] at this
      rw [this]; exact hu
    obtain ⟨F, hF⟩ := Deep.choose_lt (α := α) each
    have hll : ((List.range n).map F).length = n := by simp
    refine ⟨_, (List.range n).map F, hcs, ?_, ?_, ?_⟩
    · refine ⟨by rw [flat_len hf], some a, cap, by rw [hll], by rw [hll]; exact hl, (fun h => by cases h), fun ad hA j u hu => ?_⟩
      cases hA
      have hj : j < n * sz := by
        have := (List.getElem?_eq_some_iff.1 hu).1
        rw [flat_len hf, hll] at this; exact this
      have hi : j / sz < n := (Nat.div_lt_iff_lt_mul hsz).2 hj
      have hr : j % sz < sz := Nat.mod_lt _ hsz
      have hjd : j = j / sz * sz + j % sz := by rw [Nat.mul_comm]; exact (Nat.div_add_mod j sz).symm
      have h1 := flat_at hf ((List.range n).map F) (j / sz) (by rw [hll]; exact hi) (j % sz) hr
      rw [← hjd, hu] at h1
      have hFi : ((List.range n).map F)[j / sz]'(by rw [hll]; exact hi) = F (j / sz) := by simp
      rw [hFi] at h1
      have h2 := (hF (j / sz) hi).1 (j % sz) u hr h1.symm
      rw [← hjd] at h2
      exact h2
    · intro b hb
      obtain ⟨i, hi, rfl⟩ := List.mem_map.1 hb
      exact (hF i (List.mem_range.1 hi)).2.1
    · have hx1 : x.1 = .slice ((List.range n).map D) ((List.range (m - n)).map fun j => D (n + j)) := by rw [hx]
      have hsum : ∀ k, k ≤ n → (((List.range k).map F).map len).sum ≤ 64 * Rows.uptoBulkAll ((List.range k).map D) := by
        intro k
        induction k with
        | zero => intro _; simp
        | succ k ih =>
          intro hk
          have h1 := ih (by omega)
          have h2 := (hF k (by omega)).2.2
          rw [List.range_succ, List.map_append, List.map_append, List.map_append, List.sum_append]
          have h3 : Rows.uptoBulkAll (List.map D (List.range k) ++ List.map D [k]) = Rows.uptoBulkAll (List.map D (List.range k)) + Rows.uptoBulk (D k) := by
            have : ∀ l : List (DataW H), Rows.uptoBulkAll (l ++ [D k]) = Rows.uptoBulkAll l + Rows.uptoBulk (D k) := by
              intro l
              induction l with
              | nil => simp [Rows.uptoBulkAll]
              | cons y r ihr => simp only [List.cons_append, Rows.uptoBulkAll, ihr]; omega
            exact this _
          rw [h3]
          simp only [List.map_cons, List.map_nil, List.sum_cons, List.sum_nil]
          omega
      have h1 := hsum n (Nat.le_refl _)
      rw [hx1]
      simp only [Rows.uptoBulk]
      omega
end

section
variable {H : Type} {enc : TypeId × Value → H} {W : World} {base : Nat} {sp : Nat → Bool} {hd : Bool}
instance : Inhabited Am := ⟨⟨⟨#[]⟩, 0⟩⟩
instance : Inhabited Lb := ⟨⟨⟨#[]⟩, ⟨#[]⟩⟩⟩
instance : Inhabited Pa := ⟨⟨⟨#[]⟩, .nilIface, [], .nilIface, []⟩⟩
instance : Inhabited Ob := ⟨⟨⟨#[]⟩, ⟨#[]⟩, .nilIface, [], 0, 0, .nilIface, [], 0⟩⟩
instance : Inhabited Ln := ⟨⟨⟨#[]⟩, 0, 0⟩⟩
instance : Inhabited Ev := ⟨⟨0, 0, false, ⟨#[]⟩, ⟨#[]⟩⟩⟩
instance : Inhabited ByteArray := ⟨⟨#[]⟩⟩
theorem orS_len (l : List UInt8) : (orS l).length ≤ l.length + 1 := by unfold orS; split <;> simp_all
set_option maxRecDepth 100000 in
theorem dec_am {fuel : Nat} {cs : List Value} {x : DataW H × List MemPlace} (h : DataW.trod enc Tryd.prog W base sp hd fuel 111 cs = some x) :
    ∃ a : Am, cs = a.cells ∧ in64 a.val ∧ a.txt.length ≤ 64 * Rows.uptoBulk x.1 := by
  obtain ⟨xs, n, rfl, rfl, hl, hxl, hf⟩ := DataW.trod_struct Tryd.underlying111 h
  have hlen : cs.length = 2 := hl.trans (by kernel_rfl)
  match xs, hxl, cs, hlen with
  | [x0, x1], _, [v0, v1], _ =>
    have c0 : Tryd.prog.cellsOf 2 = 1 := by kernel_rfl
    have c1 : Tryd.prog.cellsOf 9 = 1 := by kernel_rfl
    have g0 := hf 0 _ rfl
    have g1 := hf 1 _ rfl
    simp only [c0, c1, List.drop_zero, List.drop_succ_cons, List.take_succ_cons, List.take_zero, List.getElem?_cons_zero, List.getElem?_cons_succ] at g0 g1
    obtain ⟨a0, e0, rfl, -⟩ := DataW.trod_string Tryd.underlying9 g0
    cases e0
    obtain ⟨a1, e1, rfl, w1⟩ := DataW.trod_int Tryd.underlying2 g1
    cases e1
    have w1 := lit64 w1
    refine ⟨⟨a0, a1⟩, rfl, w1, ?_⟩
    have := printedZ_len w1
    simp only [Rows.uptoBulk, Rows.uptoBulkAll, List.map_cons, List.map_nil]
    simp only [Am.txt, List.length_cons, List.length_append]
    omega
theorem rows_am {fuel : Nat} {cs : List Value} {x : DataW H × List MemPlace} (h : DataW.trod enc Tryd.prog W base sp hd fuel 66 cs = some x) : ∃ (v : Value) (l : List Am), cs = [v] ∧ RdS Am.cells 2 W v l ∧ (∀ a ∈ l, in64 a.val) ∧ (amsS l).length + 64 ≤ 64 * Rows.uptoBulk x.1 := by
  obtain ⟨v, l, h1, h2, h3, h4⟩ := open_rows Am.cells 2 (fun _ => rfl) (by decide) (fun a => in64 a.val) (fun a => a.txt.length) Tryd.underlying66 (by kernel_rfl) (fun _ _ _ h => dec_am h) h
  exact ⟨v, l, h1, h2, h3, by rw [amsS, flatMap_len]; exact h4⟩
set_option maxRecDepth 100000 in
theorem dec_lb {fuel : Nat} {cs : List Value} {x : DataW H × List MemPlace} (h : DataW.trod enc Tryd.prog W base sp hd fuel 117 cs = some x) :
    ∃ a : Lb, cs = a.cells ∧ True ∧ a.txt.length ≤ 64 * Rows.uptoBulk x.1 := by
  obtain ⟨xs, n, rfl, rfl, hl, hxl, hf⟩ := DataW.trod_struct Tryd.underlying117 h
  have hlen : cs.length = 2 := hl.trans (by kernel_rfl)
  match xs, hxl, cs, hlen with
  | [x0, x1], _, [v0, v1], _ =>
    have c0 : Tryd.prog.cellsOf 9 = 1 := by kernel_rfl
    have g0 := hf 0 _ rfl
    have g1 := hf 1 _ rfl
    simp only [c0, List.drop_zero, List.drop_succ_cons, List.take_succ_cons, List.take_zero, List.getElem?_cons_zero, List.getElem?_cons_succ] at g0 g1
    obtain ⟨a0, e0, rfl, -⟩ := DataW.trod_string Tryd.underlying9 g0
    cases e0
    obtain ⟨a1, e1, rfl, -⟩ := DataW.trod_string Tryd.underlying9 g1
    cases e1
    refine ⟨⟨a0, a1⟩, rfl, True.intro, ?_⟩
    simp only [Rows.uptoBulk, Rows.uptoBulkAll, List.map_cons, List.map_nil]
    simp only [Lb.txt, List.length_cons, List.length_append, List.length_nil]
    omega
theorem rows_lb {fuel : Nat} {cs : List Value} {x : DataW H × List MemPlace} (h : DataW.trod enc Tryd.prog W base sp hd fuel 85 cs = some x) : ∃ (v : Value) (l : List Lb), cs = [v] ∧ RdS Lb.cells 2 W v l ∧ (∀ a ∈ l, True) ∧ (lbsS l).length + 64 ≤ 64 * Rows.uptoBulk x.1 := by
  obtain ⟨v, l, h1, h2, h3, h4⟩ := open_rows Lb.cells 2 (fun _ => rfl) (by decide) (fun _ => True) (fun a => a.txt.length) Tryd.underlying85 (by kernel_rfl) (fun _ _ _ h => dec_lb h) h
  exact ⟨v, l, h1, h2, h3, by rw [lbsS, flatMap_len]; exact h4⟩
theorem optS_len (a b c d : UInt8) (l : List Am) : (optS [a, b, c, d] l).length ≤ (amsS l).length + 4 := by unfold optS; split <;> simp
set_option maxRecDepth 100000 in
theorem dec_pa {fuel : Nat} {cs : List Value} {x : DataW H × List MemPlace} (h : DataW.trod enc Tryd.prog W base sp hd fuel 119 cs = some x) :
    ∃ a : Pa, cs = a.cells ∧ PaOk W a ∧ a.txt.length ≤ 64 * Rows.uptoBulk x.1 := by
  obtain ⟨xs, n, rfl, rfl, hl, hxl, hf⟩ := DataW.trod_struct Tryd.underlying119 h
  have hlen : cs.length = 3 := hl.trans (by kernel_rfl)
  match xs, hxl, cs, hlen with
  | [x0, x1, x2], _, [v0, v1, v2], _ =>
    have c0 : Tryd.prog.cellsOf 66 = 1 := by kernel_rfl
    have c1 : Tryd.prog.cellsOf 9 = 1 := by kernel_rfl
    have g0 := hf 0 _ rfl
    have g1 := hf 1 _ rfl
    have g2 := hf 2 _ rfl
    simp only [c0, c1, List.drop_zero, List.drop_succ_cons, List.take_succ_cons, List.take_zero, List.getElem?_cons_zero, List.getElem?_cons_succ] at g0 g1 g2
    obtain ⟨a0, e0, rfl, -⟩ := DataW.trod_string Tryd.underlying9 g0
    cases e0
    obtain ⟨b1, l1, e1, r1, o1, m1⟩ := rows_am g1
    cases e1
    obtain ⟨b2, l2, e2, r2, o2, m2⟩ := rows_am g2
    cases e2
    refine ⟨⟨a0, v1, l1, v2, l2⟩, rfl, ⟨⟨r1, o1⟩, ⟨r2, o2⟩⟩, ?_⟩
    have q0 := orS_len a0.data.toList
    have q1 := optS_len 32 114 101 113 l1
    have q2 := optS_len 32 108 105 109 l2
    simp only [Rows.uptoBulk, Rows.uptoBulkAll, List.map_cons, List.map_nil]
    simp only [Pa.txt, List.length_cons, List.length_append, List.length_nil]
    omega
theorem rows_pa {fuel : Nat} {cs : List Value} {x : DataW H × List MemPlace} (h : DataW.trod enc Tryd.prog W base sp hd fuel 86 cs = some x) : ∃ (v : Value) (l : List Pa), cs = [v] ∧ RdS Pa.cells 3 W v l ∧ (∀ a ∈ l, PaOk W a) ∧ (pasS l).length + 64 ≤ 64 * Rows.uptoBulk x.1 := by
  obtain ⟨v, l, h1, h2, h3, h4⟩ := open_rows Pa.cells 3 (fun _ => rfl) (by decide) (fun a => PaOk W a) (fun a => a.txt.length) Tryd.underlying86 (by kernel_rfl) (fun _ _ _ h => dec_pa h) h
  exact ⟨v, l, h1, h2, h3, by rw [pasS, flatMap_len]; exact h4⟩
set_option maxRecDepth 100000 in
theorem dec_ob {fuel : Nat} {cs : List Value} {x : DataW H × List MemPlace} (h : DataW.trod enc Tryd.prog W base sp hd fuel 88 cs = some x) :
    ∃ a : Ob, cs = a.cells ∧ ObOk W a ∧ a.txt.length ≤ 64 * Rows.uptoBulk x.1 := by
  obtain ⟨xs, n, rfl, rfl, hl, hxl, hf⟩ := DataW.trod_struct Tryd.underlying88 h
  have hlen : cs.length = 7 := hl.trans (by kernel_rfl)
  match xs, hxl, cs, hlen with
  | [x0, x1, x2, x3, x4, x5, x6], _, [v0, v1, v2, v3, v4, v5, v6], _ =>
    have c0 : Tryd.prog.cellsOf 85 = 1 := by kernel_rfl
    have c1 : Tryd.prog.cellsOf 86 = 1 := by kernel_rfl
    have c2 : Tryd.prog.cellsOf 3 = 1 := by kernel_rfl
    have c3 : Tryd.prog.cellsOf 2 = 1 := by kernel_rfl
    have c4 : Tryd.prog.cellsOf 9 = 1 := by kernel_rfl
    have g0 := hf 0 _ rfl
    have g1 := hf 1 _ rfl
    have g2 := hf 2 _ rfl
    have g3 := hf 3 _ rfl
    have g4 := hf 4 _ rfl
    have g5 := hf 5 _ rfl
    have g6 := hf 6 _ rfl
    simp only [c0, c1, c2, c3, c4, List.drop_zero, List.drop_succ_cons, List.take_succ_cons, List.take_zero, List.getElem?_cons_zero, List.getElem?_cons_succ] at g0 g1 g2 g3 g4 g5 g6
    obtain ⟨a0, e0, rfl, -⟩ := DataW.trod_string Tryd.underlying9 g0
    cases e0
    obtain ⟨a1, e1, rfl, -⟩ := DataW.trod_string Tryd.underlying9 g1
    cases e1
    obtain ⟨b2, l2, e2, r2, o2, m2⟩ := rows_lb g2
    cases e2
    obtain ⟨a3, e3, rfl, w3⟩ := DataW.trod_int Tryd.underlying3 g3
    cases e3
    have w3 := lit64 w3
    obtain ⟨a4, e4, rfl, w4⟩ := DataW.trod_int Tryd.underlying2 g4
    cases e4
    have w4 := lit64 w4
    obtain ⟨b5, l5, e5, r5, o5, m5⟩ := rows_pa g5
    cases e5
    obtain ⟨a6, e6, rfl, w6⟩ := DataW.trod_int Tryd.underlying2 g6
    cases e6
    have w6 := lit64 w6
    refine ⟨⟨a0, a1, v2, l2, a3, a4, v5, l5, a6⟩, rfl, ⟨r2, ⟨r5, o5⟩, w3, w4, w6⟩, ?_⟩
    have q0 := orS_len a0.data.toList
    have q1 := orS_len a1.data.toList
    have q3 := itoa_len w3
    have q4 := itoa_len w4
    have q6 := itoa_len w6
    simp only [Rows.uptoBulk, Rows.uptoBulkAll, List.map_cons, List.map_nil]
    simp only [Ob.txt, Ob.head, Ob.parts, partsS, Pt.txt, List.flatMap_cons, List.flatMap_nil, List.length_cons, List.length_append, List.length_nil]
    omega
theorem rows_ob {fuel : Nat} {cs : List Value} {x : DataW H × List MemPlace} (h : DataW.trod enc Tryd.prog W base sp hd fuel 25 cs = some x) : ∃ (v : Value) (l : List Ob), cs = [v] ∧ RdS Ob.cells 7 W v l ∧ (∀ a ∈ l, ObOk W a) ∧ (obsS l).length + 64 ≤ 64 * Rows.uptoBulk x.1 := by
  obtain ⟨v, l, h1, h2, h3, h4⟩ := open_rows Ob.cells 7 (fun _ => rfl) (by decide) (fun a => ObOk W a) (fun a => a.txt.length) Tryd.underlying25 (by kernel_rfl) (fun _ _ _ h => dec_ob h) h
  exact ⟨v, l, h1, h2, h3, by rw [obsS, flatMap_len]; exact h4⟩
set_option maxRecDepth 100000 in
theorem dec_ln {fuel : Nat} {cs : List Value} {x : DataW H × List MemPlace} (h : DataW.trod enc Tryd.prog W base sp hd fuel 48 cs = some x) :
    ∃ a : Ln, cs = a.cells ∧ (in64 a.hard ∧ in64 a.used) ∧ a.txt.length ≤ 64 * Rows.uptoBulk x.1 := by
  obtain ⟨xs, n, rfl, rfl, hl, hxl, hf⟩ := DataW.trod_struct Tryd.underlying48 h
  have hlen : cs.length = 3 := hl.trans (by kernel_rfl)
  match xs, hxl, cs, hlen with
  | [x0, x1, x2], _, [v0, v1, v2], _ =>
    have c0 : Tryd.prog.cellsOf 2 = 1 := by kernel_rfl
    have c1 : Tryd.prog.cellsOf 9 = 1 := by kernel_rfl
    have g0 := hf 0 _ rfl
    have g1 := hf 1 _ rfl
    have g2 := hf 2 _ rfl
    simp only [c0, c1, List.drop_zero, List.drop_succ_cons, List.take_succ_cons, List.take_zero, List.getElem?_cons_zero, List.getElem?_cons_succ] at g0 g1 g2
    obtain ⟨a0, e0, rfl, -⟩ := DataW.trod_string Tryd.underlying9 g0
    cases e0
    obtain ⟨a1, e1, rfl, w1⟩ := DataW.trod_int Tryd.underlying2 g1
    cases e1
    have w1 := lit64 w1
    obtain ⟨a2, e2, rfl, w2⟩ := DataW.trod_int Tryd.underlying2 g2
    cases e2
    have w2 := lit64 w2
    refine ⟨⟨a0, a1, a2⟩, rfl, ⟨w1, w2⟩, ?_⟩
    have q0 := orS_len a0.data.toList
    have q1 := orS_len (printedZ a1)
    have q2 := orS_len (printedZ a2)
    have q3 := printedZ_len w1
    have q4 := printedZ_len w2
    simp only [Rows.uptoBulk, Rows.uptoBulkAll, List.map_cons, List.map_nil]
    simp only [Ln.txt, tellS, Ln.parts, pzB, List.toList_toArray, partsS, Pt.txt, List.flatMap_cons, List.flatMap_nil, List.length_cons, List.length_append, List.length_nil]
    omega
theorem rows_ln {fuel : Nat} {cs : List Value} {x : DataW H × List MemPlace} (h : DataW.trod enc Tryd.prog W base sp hd fuel 26 cs = some x) : ∃ (v : Value) (l : List Ln), cs = [v] ∧ RdS Ln.cells 3 W v l ∧ (∀ a ∈ l, in64 a.hard ∧ in64 a.used) ∧ (l.flatMap Ln.txt).length + 64 ≤ 64 * Rows.uptoBulk x.1 := by
  obtain ⟨v, l, h1, h2, h3, h4⟩ := open_rows Ln.cells 3 (fun _ => rfl) (by decide) (fun a => in64 a.hard ∧ in64 a.used) (fun a => a.txt.length) Tryd.underlying26 (by kernel_rfl) (fun _ _ _ h => dec_ln h) h
  exact ⟨v, l, h1, h2, h3, by rw [flatMap_len]; exact h4⟩
set_option maxRecDepth 100000 in
theorem dec_ev {fuel : Nat} {cs : List Value} {x : DataW H × List MemPlace} (h : DataW.trod enc Tryd.prog W base sp hd fuel 50 cs = some x) :
    ∃ a : Ev, cs = a.cells ∧ (in64 a.ver ∧ in64 a.kind) ∧ a.txt.length ≤ 64 * Rows.uptoBulk x.1 := by
  obtain ⟨xs, n, rfl, rfl, hl, hxl, hf⟩ := DataW.trod_struct Tryd.underlying50 h
  have hlen : cs.length = 5 := hl.trans (by kernel_rfl)
  match xs, hxl, cs, hlen with
  | [x0, x1, x2, x3, x4], _, [v0, v1, v2, v3, v4], _ =>
    have c0 : Tryd.prog.cellsOf 4 = 1 := by kernel_rfl
    have c1 : Tryd.prog.cellsOf 3 = 1 := by kernel_rfl
    have c2 : Tryd.prog.cellsOf 2 = 1 := by kernel_rfl
    have c3 : Tryd.prog.cellsOf 9 = 1 := by kernel_rfl
    have g0 := hf 0 _ rfl
    have g1 := hf 1 _ rfl
    have g2 := hf 2 _ rfl
    have g3 := hf 3 _ rfl
    have g4 := hf 4 _ rfl
    simp only [c0, c1, c2, c3, List.drop_zero, List.drop_succ_cons, List.take_succ_cons, List.take_zero, List.getElem?_cons_zero, List.getElem?_cons_succ] at g0 g1 g2 g3 g4
    obtain ⟨a0, e0, rfl, w0⟩ := DataW.trod_int Tryd.underlying2 g0
    cases e0
    have w0 := lit64 w0
    obtain ⟨a1, e1, rfl, w1⟩ := DataW.trod_int Tryd.underlying3 g1
    cases e1
    have w1 := lit64 w1
    obtain ⟨a2, e2, rfl⟩ := DataW.trod_bool Tryd.underlying4 g2
    cases e2
    obtain ⟨a3, e3, rfl, -⟩ := DataW.trod_string Tryd.underlying9 g3
    cases e3
    obtain ⟨a4, e4, rfl, -⟩ := DataW.trod_string Tryd.underlying9 g4
    cases e4
    refine ⟨⟨a0, a1, a2, a3, a4⟩, rfl, ⟨w0, w1⟩, ?_⟩
    have q0 := orS_len a3.data.toList
    have q1 := orS_len a4.data.toList
    have q2 := itoa_len w0
    have q3 := itoa_len w1
    have q4 : (if a2 = true then ([49] : List UInt8) else [48]).length = 1 := by cases a2 <;> rfl
    simp only [Rows.uptoBulk, Rows.uptoBulkAll, List.map_cons, List.map_nil]
    simp only [Ev.txt, tellS, Ev.parts, partsS, Pt.txt, List.flatMap_cons, List.flatMap_nil, List.length_cons, List.length_append, List.length_nil]
    omega
theorem rows_ev {fuel : Nat} {cs : List Value} {x : DataW H × List MemPlace} (h : DataW.trod enc Tryd.prog W base sp hd fuel 27 cs = some x) : ∃ (v : Value) (l : List Ev), cs = [v] ∧ RdS Ev.cells 5 W v l ∧ (∀ a ∈ l, in64 a.ver ∧ in64 a.kind) ∧ (l.flatMap Ev.txt).length + 64 ≤ 64 * Rows.uptoBulk x.1 := by
  obtain ⟨v, l, h1, h2, h3, h4⟩ := open_rows Ev.cells 5 (fun _ => rfl) (by decide) (fun a => in64 a.ver ∧ in64 a.kind) (fun a => a.txt.length) Tryd.underlying27 (by kernel_rfl) (fun _ _ _ h => dec_ev h) h
  exact ⟨v, l, h1, h2, h3, by rw [flatMap_len]; exact h4⟩
theorem dec_nm {fuel : Nat} {cs : List Value} {x : DataW H × List MemPlace} (h : DataW.trod enc Tryd.prog W base sp hd fuel 9 cs = some x) : ∃ a : ByteArray, cs = nmCells a ∧ True ∧ (nmTxt a).length ≤ 64 * Rows.uptoBulk x.1 := by
  obtain ⟨a0, e0, rfl, -⟩ := DataW.trod_string Tryd.underlying9 h
  refine ⟨a0, e0, True.intro, ?_⟩
  have q0 := orS_len a0.data.toList
  simp only [Rows.uptoBulk, nmTxt, tellS, partsS, Pt.txt, List.flatMap_cons, List.flatMap_nil, List.length_cons, List.length_append, List.length_nil]
  omega
theorem rows_nm {fuel : Nat} {cs : List Value} {x : DataW H × List MemPlace} (h : DataW.trod enc Tryd.prog W base sp hd fuel 28 cs = some x) : ∃ (v : Value) (l : List ByteArray), cs = [v] ∧ RdS nmCells 1 W v l ∧ (∀ a ∈ l, True) ∧ (l.flatMap nmTxt).length + 64 ≤ 64 * Rows.uptoBulk x.1 := by
  obtain ⟨v, l, h1, h2, h3, h4⟩ := open_rows nmCells 1 (fun _ => rfl) (by decide) (fun _ => True) (fun a => (nmTxt a).length) Tryd.underlying28 (by kernel_rfl) (fun _ _ _ h => dec_nm h) h
  exact ⟨v, l, h1, h2, h3, by rw [flatMap_len]; exact h4⟩
set_option maxRecDepth 100000 in
theorem dec_dt {fuel : Nat} {cs : List Value} {x : DataW H × List MemPlace} (h : DataW.trod enc Tryd.prog W base sp hd fuel 24 cs = some x) :
    ∃ a b c d : ByteArray, cs = [.string a, .string b, .string c, .string d] ∧ 64 * (a.size + b.size + c.size + d.size + 5) ≤ 64 * Rows.uptoBulk x.1 := by
  obtain ⟨xs, n, rfl, rfl, hl, hxl, hf⟩ := DataW.trod_struct Tryd.underlying24 h
  have hlen : cs.length = 4 := hl.trans (by kernel_rfl)
  match xs, hxl, cs, hlen with
  | [x0, x1, x2, x3], _, [v0, v1, v2, v3], _ =>
    have c0 : Tryd.prog.cellsOf 9 = 1 := by kernel_rfl
    have g0 := hf 0 _ rfl
    have g1 := hf 1 _ rfl
    have g2 := hf 2 _ rfl
    have g3 := hf 3 _ rfl
    simp only [c0, List.drop_zero, List.drop_succ_cons, List.take_succ_cons, List.take_zero, List.getElem?_cons_zero, List.getElem?_cons_succ] at g0 g1 g2 g3
    obtain ⟨a0, e0, rfl, -⟩ := DataW.trod_string Tryd.underlying9 g0
    cases e0
    obtain ⟨a1, e1, rfl, -⟩ := DataW.trod_string Tryd.underlying9 g1
    cases e1
    obtain ⟨a2, e2, rfl, -⟩ := DataW.trod_string Tryd.underlying9 g2
    cases e2
    obtain ⟨a3, e3, rfl, -⟩ := DataW.trod_string Tryd.underlying9 g3
    cases e3
    refine ⟨a0, a1, a2, a3, rfl, ?_⟩
    simp only [Rows.uptoBulk, Rows.uptoBulkAll, List.map_cons, List.map_nil]
    rw [size_toList a0, size_toList a1, size_toList a2, size_toList a3]
    omega
set_option maxRecDepth 100000 in
theorem dec_st {fuel : Nat} {cs : List Value} {x : DataW H × List MemPlace} (h : DataW.trod enc Tryd.prog W base sp hd fuel 30 cs = some x) :
    ∃ a b c d e f : Int, cs = [.int .i64 a, .int .i64 b, .int .i64 c, .int .i64 d, .int .i64 e, .int .i64 f] ∧ 64 * 7 ≤ 64 * Rows.uptoBulk x.1 ∧ in64 a ∧ in64 b ∧ in64 c ∧ in64 d ∧ in64 e ∧ in64 f := by
  obtain ⟨xs, n, rfl, rfl, hl, hxl, hf⟩ := DataW.trod_struct Tryd.underlying30 h
  have hlen : cs.length = 6 := hl.trans (by kernel_rfl)
  match xs, hxl, cs, hlen with
  | [x0, x1, x2, x3, x4, x5], _, [v0, v1, v2, v3, v4, v5], _ =>
    have c0 : Tryd.prog.cellsOf 3 = 1 := by kernel_rfl
    have c1 : Tryd.prog.cellsOf 2 = 1 := by kernel_rfl
    have g0 := hf 0 _ rfl
    have g1 := hf 1 _ rfl
    have g2 := hf 2 _ rfl
    have g3 := hf 3 _ rfl
    have g4 := hf 4 _ rfl
    have g5 := hf 5 _ rfl
    simp only [c0, c1, List.drop_zero, List.drop_succ_cons, List.take_succ_cons, List.take_zero, List.getElem?_cons_zero, List.getElem?_cons_succ] at g0 g1 g2 g3 g4 g5
    obtain ⟨a0, e0, rfl, w0⟩ := DataW.trod_int Tryd.underlying2 g0
    cases e0
    have w0 := lit64 w0
    obtain ⟨a1, e1, rfl, w1⟩ := DataW.trod_int Tryd.underlying2 g1
    cases e1
    have w1 := lit64 w1
    obtain ⟨a2, e2, rfl, w2⟩ := DataW.trod_int Tryd.underlying2 g2
    cases e2
    have w2 := lit64 w2
    obtain ⟨a3, e3, rfl, w3⟩ := DataW.trod_int Tryd.underlying3 g3
    cases e3
    have w3 := lit64 w3
    obtain ⟨a4, e4, rfl, w4⟩ := DataW.trod_int Tryd.underlying3 g4
    cases e4
    have w4 := lit64 w4
    obtain ⟨a5, e5, rfl, w5⟩ := DataW.trod_int Tryd.underlying3 g5
    cases e5
    have w5 := lit64 w5
    refine ⟨a0, a1, a2, a3, a4, a5, rfl, ?_, w0, w1, w2, w3, w4, w5⟩
    simp only [Rows.uptoBulk, Rows.uptoBulkAll, List.map_cons, List.map_nil]
    omega
set_option maxRecDepth 100000 in
theorem dec_re {fuel : Nat} {cs : List Value} {x : DataW H × List MemPlace} (h : DataW.trod enc Tryd.prog W base sp hd fuel 32 cs = some x) :
    ∃ r : Re, cs = [.int .i64 r.code, .int .i64 r.ver, .bool r.more, .string r.dp, .string r.dn, .string r.da, .string r.dr, r.obv, r.lnv, r.evv, r.nmv, .int .i64 r.s0, .int .i64 r.s1, .int .i64 r.s2, .int .i64 r.s3, .int .i64 r.s4, .int .i64 r.s5] ∧ ReOk W r ∧ ∀ op, (r.txt op).length ≤ 64 * Rows.uptoBulk x.1 := by
  obtain ⟨xs, n, rfl, rfl, hl, hxl, hf⟩ := DataW.trod_struct Tryd.underlying32 h
  have hlen : cs.length = 17 := hl.trans (by kernel_rfl)
  match xs, hxl, cs, hlen with
  | [x0, x1, x2, x3, x4, x5, x6, x7, x8], _, [v0, v1, v2, v3, v4, v5, v6, v7, v8, v9, v10, v11, v12, v13, v14, v15, v16], _ =>
    have c0 : Tryd.prog.cellsOf 27 = 1 := by kernel_rfl
    have c1 : Tryd.prog.cellsOf 26 = 1 := by kernel_rfl
    have c2 : Tryd.prog.cellsOf 25 = 1 := by kernel_rfl
    have c3 : Tryd.prog.cellsOf 28 = 1 := by kernel_rfl
    have c4 : Tryd.prog.cellsOf 24 = 4 := by kernel_rfl
    have c5 : Tryd.prog.cellsOf 22 = 1 := by kernel_rfl
    have c6 : Tryd.prog.cellsOf 30 = 6 := by kernel_rfl
    have c7 : Tryd.prog.cellsOf 4 = 1 := by kernel_rfl
    have c8 : Tryd.prog.cellsOf 2 = 1 := by kernel_rfl
    have g0 := hf 0 _ rfl
    have g1 := hf 1 _ rfl
    have g2 := hf 2 _ rfl
    have g3 := hf 3 _ rfl
    have g4 := hf 4 _ rfl
    have g5 := hf 5 _ rfl
    have g6 := hf 6 _ rfl
    have g7 := hf 7 _ rfl
    have g8 := hf 8 _ rfl
    simp only [c0, c1, c2, c3, c4, c5, c6, c7, c8, List.drop_zero, List.drop_succ_cons, List.take_succ_cons, List.take_zero, List.getElem?_cons_zero, List.getElem?_cons_succ] at g0 g1 g2 g3 g4 g5 g6 g7 g8
    obtain ⟨a0, e0, rfl, w0⟩ := DataW.trod_int Tryd.underlying22 g0
    cases e0
    have w0 := lit64 w0
    obtain ⟨a1, e1, rfl, w1⟩ := DataW.trod_int Tryd.underlying2 g1
    cases e1
    have w1 := lit64 w1
    obtain ⟨a2, e2, rfl⟩ := DataW.trod_bool Tryd.underlying4 g2
    cases e2
    obtain ⟨d3_0, d3_1, d3_2, d3_3, e3, m3⟩ := dec_dt g3
    cases e3
    obtain ⟨b4, l4, e4, r4, o4, m4⟩ := rows_ob g4
    cases e4
    obtain ⟨b5, l5, e5, r5, o5, m5⟩ := rows_ln g5
    cases e5
    obtain ⟨b6, l6, e6, r6, o6, m6⟩ := rows_ev g6
    cases e6
    obtain ⟨b7, l7, e7, r7, o7, m7⟩ := rows_nm g7
    cases e7
    obtain ⟨d8_0, d8_1, d8_2, d8_3, d8_4, d8_5, e8, m8, y0, y1, y2, y3, y4, y5⟩ := dec_st g8
    cases e8
    refine ⟨⟨a0, a1, a2, d3_0, d3_1, d3_2, d3_3, v7, l4, v8, l5, v9, l6, v10, l7, d8_0, d8_1, d8_2, d8_3, d8_4, d8_5⟩, rfl, ⟨w0, w1, ⟨r4, o4⟩, ⟨r5, o5⟩, ⟨r6, o6⟩, r7, y0, y1, y2, y3, y4, y5⟩, fun op => ?_⟩
    have q0 := itoa_len w0
    have q1 := itoa_len w1
    have p0 := itoa_len y0
    have p1 := itoa_len y1
    have p2 := itoa_len y2
    have p3 := itoa_len y3
    have p4 := itoa_len y4
    have p5 := itoa_len y5
    have u0 := orS_len d3_0.data.toList
    have u1 := orS_len d3_1.data.toList
    have u2 := orS_len d3_2.data.toList
    have u3 := orS_len d3_3.data.toList
    rw [← size_toList] at u0 u1 u2 u3
    have hmore : (moreS a2).length ≤ 5 := by cases a2 <;> simp [moreS]
    have hB : 64 * (7 + (d3_0.size + d3_1.size + d3_2.size + d3_3.size) + 5) + (obsS l4).length + (l5.flatMap Ln.txt).length + (l6.flatMap Ev.txt).length + (l7.flatMap nmTxt).length + 256 ≤ 64 * Rows.uptoBulk (DataW.agg [DataW.lit (Lit.int IntKind.i64 a0), DataW.lit (Lit.int IntKind.i64 a1), DataW.lit (Lit.bool a2), x3.1, x4.1, x5.1, x6.1, x7.1, x8.1] : DataW H) := by
      simp only [Rows.uptoBulk, Rows.uptoBulkAll]
      omega
    refine Nat.le_trans ?_ hB
    unfold Re.txt
    split
    · have hok : (Re.okS ⟨a0, a1, a2, d3_0, d3_1, d3_2, d3_3, v7, l4, v8, l5, v9, l6, v10, l7, d8_0, d8_1, d8_2, d8_3, d8_4, d8_5⟩).length ≤ 64 := by
        simp only [Re.okS, tellS, partsS, Pt.txt, List.flatMap_cons, List.flatMap_nil, List.length_cons, List.length_append, List.length_nil]; omega
      have hrest : (Re.rest ⟨a0, a1, a2, d3_0, d3_1, d3_2, d3_3, v7, l4, v8, l5, v9, l6, v10, l7, d8_0, d8_1, d8_2, d8_3, d8_4, d8_5⟩ op).length ≤ (obsS l4).length + (l5.flatMap Ln.txt).length + (l6.flatMap Ev.txt).length + (l7.flatMap nmTxt).length + 300 := by
        unfold Re.rest
        split
        · simp only [List.length_append]; omega
        · split
          · simp only; omega
          · split
            · simp only [List.length_append]; omega
            · split
              · simp only; omega
              · split
                · simp only; omega
                · split
                  · simp only [tellS, Re.stParts, partsS, Pt.txt, List.flatMap_cons, List.flatMap_nil, List.length_cons, List.length_append, List.length_nil]; omega
                  · simp
      rw [List.length_append]; omega
    · simp only [tellS, Re.noParts, partsS, Pt.txt, List.flatMap_cons, List.flatMap_nil, List.length_cons, List.length_append, List.length_nil]; omega
end
end Go.Proofs.YtleajmblagddcaaDoor
