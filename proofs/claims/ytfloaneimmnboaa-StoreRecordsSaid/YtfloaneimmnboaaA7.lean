/- The contracts of sameChanges and of the law; how the law's arguments read. -/
import Derived.Test.YtfloaneimmnboaaA6
import Derived.OpenShut
import Derived.Deep.Slices
import Derived.SizedLaws
namespace Go.Proofs.Ytfloaneimmnboaa
open Go.RowKit Go.Maps Go.WideMaps
set_option linter.unusedVariables false
set_option linter.unusedSimpArgs false

theorem unrec_calls (w : World) (r : ByteArray) :
    Calls Try.prog 9 #[.string r] w (UnPost w (unrecE r.data.toList)) := by
  by_cases h : 32768 < r.size
  · exact unrec_long w r h
  · exact unrec_short w r (by omega)

theorem toList_inj {a b : ByteArray} : a.toList = b.toList ↔ a = b := by
  rw [ByteArray.toList_eq, ByteArray.toList_eq]
  exact ⟨ba_ext, fun h => by rw [h]⟩
theorem ch_cases (x y : Ch) : (x = y) ∨ (x ≠ y ∧ ¬ x.key.toList = y.key.toList) ∨ (x ≠ y ∧ x.key = y.key ∧ ¬ x.val.toList = y.val.toList) ∨ (x ≠ y ∧ x.key = y.key ∧ x.val = y.val ∧ ¬ x.gone = y.gone) := by
  by_cases h : x = y
  · exact .inl h
  · by_cases h1 : x.key = y.key
    · by_cases h2 : x.val = y.val
      · refine .inr (.inr (.inr ⟨h, h1, h2, fun h3 => h ?_⟩))
        cases x; cases y; simp_all
      · exact .inr (.inr (.inl ⟨h, h1, fun e => h2 (toList_inj.1 e)⟩))
    · exact .inr (.inl ⟨h, fun e => h1 (toList_inj.1 e)⟩)

def SLoop (w : World) (a : List Ch) (b : List Ch) (i : Value) (w1 : World) : Prop := ∃ k : Nat, k ≤ a.length ∧ i = .int .i64 k ∧ (∀ j (h1 : j < a.length) (h2 : j < b.length), j < k → a[j] = b[j]) ∧ Below w.heap.size w w1

theorem same_calls (w : World) (va vb : Value) (a b : List Ch) (ha : RdC w va a) (hb : RdC w vb b) :
    Calls Try.prog 8 #[va, vb] w fun e w' => e = .returned (.bool (decide (a = b))) ∧ Below w.heap.size w w' := by
  by_cases hl : a.length = b.length
  · by_cases h0 : a.length = 0
    · obtain ⟨-, A, c, rfl, -⟩ := ha.rd
      obtain ⟨-, A2, c2, rfl, -⟩ := hb.rd
      have e1 : a = b := by rw [List.eq_nil_of_length_eq_zero h0, List.eq_nil_of_length_eq_zero (by omega : b.length = 0)]
      have hla := ha.len
      have hz : ((a.length : Int) != b.length) = false := by simp; omega
      have hd0 : decide ((0 : Int) < a.length) = false := decide_eq_false (by omega)
      rw [← hl, h0]
      have Hd : Hid (decide (a = b) = true) := by rw [e1]; exact decide_eq_true rfl
      clear e1 hl
      go_enter Try.func8, Try.ntmps8
      go_wp2
      refine wp_loop_rounds 1 ?_
      rw [rounds_succ]
      go_wp2
      go_ret
      exact ⟨by rw [Hd.out]; rfl, Below.refl _ _⟩
    · obtain ⟨b1, off1, c1, rfl, hc1, hb1, hcell1⟩ := ha.some (by intro e; rw [e] at h0; exact h0 rfl)
      obtain ⟨b2, off2, c2, rfl, hc2, hb2, hcell2⟩ := hb.some (by intro e; rw [e] at hl; exact h0 (by simpa using hl))
      have hla := ha.len
      have Hl := Lib.hid hl
      have hz : ((a.length : Int) != b.length) = false := by simp; omega
      clear hl
      go_enter Try.func8, Try.ntmps8
      go_wp2
      go_loopw [5] (fun i w1 => SLoop w a b i w1) (fun i _ => a.length - (intOf i).toNat)
      case atStart => exact ⟨0, Nat.zero_le _, rfl, fun j _ _ h => absurd h (by omega), Below.refl _ _⟩
      case round =>
        obtain ⟨k, hk, rfl, heq, hB⟩ := hrel
        have Heq := Lib.hid heq
        clear heq
        have hw : ∀ n, Below w.heap.size w (wr.drewN n) := fun n => ⟨hB.os, hB.tape, hB.output, hB.size, hB.block⟩
        have Hw := Lib.hid hw
        clear hw
        by_cases hlt : k < a.length
        · have hltd := dT hlt
          have hlt2 : k < b.length := by rw [← Hl.out]; exact hlt
          have hltd2 := dT hlt2
          obtain ⟨q0, q1, q2⟩ := hcell1 k hlt
          replace q0 := (hB.cell (p := ⟨b1, off1 + k * 3, none⟩) hb1).trans q0
          replace q1 := (hB.cell (p := ⟨b1, off1 + k * 3 + 1, none⟩) hb1).trans q1
          replace q2 := (hB.cell (p := ⟨b1, off1 + k * 3 + 2, none⟩) hb1).trans q2
          obtain ⟨s0, s1, s2⟩ := hcell2 k hlt2
          replace s0 := (hB.cell (p := ⟨b2, off2 + k * 3, none⟩) hb2).trans s0
          replace s1 := (hB.cell (p := ⟨b2, off2 + k * 3 + 1, none⟩) hb2).trans s1
          replace s2 := (hB.cell (p := ⟨b2, off2 + k * 3 + 2, none⟩) hb2).trans s2
          have Hne : Hid (a[k] ≠ b[k] → decide (a = b) = false) := fun h => decide_eq_false (fun e => h (by subst e; rfl))
          have Hnx : Hid (a[k] = b[k] → ∀ j (h1 : j < a.length) (h2 : j < b.length), j < k + 1 → a[j] = b[j]) := fun h j h1 h2 h3 => by
            by_cases e : j = k
            · subst e; exact h
            · exact Heq.out j h1 h2 (by omega)
          generalize a[k] = x at q0 q1 q2 Hne Hnx
          generalize b[k] = y at s0 s1 s2 Hne Hnx
          have hcs := ch_cases x y
          obtain ⟨xk, xv, xg⟩ := x
          obtain ⟨yk, yv, yg⟩ := y
          simp only at q0 q1 q2 s0 s1 s2 hcs
          rcases hcs with he | ⟨hd, h1⟩ | ⟨hd, rfl, h2⟩ | ⟨hd, rfl, rfl, h3⟩
          · cases he
            have Hk : Hid (∀ n, SLoop w a b (.int .i64 ((k + 1 : Nat) : Int)) (wr.drewN n)) := fun n => ⟨k + 1, by omega, rfl, Hnx.out rfl, Hw.out n⟩
            go_wp2
            go_quiet (fail)
            go_wp2
            go_roundw
            case rel => exact Hk.out _
            case measure => simp [intOf]; omega
          all_goals
            have Hd := Lib.hid (Hne.out hd)
            clear hd
            go_wp2
            go_quiet (fail)
            go_wp2
            go_ret
            exact ⟨by rw [Hd.out]; rfl, Hw.out _⟩
        · have hltd := dF hlt
          have Hd : Hid (decide (a = b) = true) := decide_eq_true (List.ext_getElem Hl.out (fun j h1 h2 => Heq.out j h1 h2 (by omega)))
          go_wp2
          go_ret
          exact ⟨by rw [Hd.out]; rfl, hB⟩
  · have Hd : Hid (decide (a = b) = false) := decide_eq_false (fun e => hl (by rw [e]))
    have hz : ((a.length : Int) != b.length) = true := by simp; omega
    clear hl
    obtain ⟨-, A, c, rfl, -⟩ := ha.rd
    obtain ⟨-, A2, c2, rfl, -⟩ := hb.rd
    go_enter Try.func8, Try.ntmps8
    go_wp2
    go_ret
    exact ⟨by rw [Hd.out]; rfl, Below.refl _ _⟩

/-! ### how a []api.Change that came in reads -/
theorem trod_ch {H : Type} {enc : TypeId × Value → H} {W : World} {base : Nat} {sp : Nat → Bool} {hd : Bool} {fuel : Nat} {cs : List Value} {x : DataW H × List MemPlace}
    (h : DataW.trod enc Try.prog W base sp hd fuel 32 cs = some x) : ∃ c : Ch, cs = c.cells ∧ x.1 = .agg [.lit (.string c.key.data.toList), .lit (.string c.val.data.toList), .lit (.bool c.gone)] := by
  obtain ⟨xs, n, rfl, rfl, hl, hxl, hf⟩ := DataW.trod_struct Try.underlying32 h
  have hlen : cs.length = 3 := hl
  match xs, hxl, cs, hlen with
  | [x0, x1, x2], _, [v0, v1, v2], _ =>
    have c9 : Try.prog.cellsOf 9 = 1 := by kernel_rfl
    have c4 : Try.prog.cellsOf 4 = 1 := by kernel_rfl
    have g0 := hf 0 _ rfl
    have g1 := hf 1 _ rfl
    have g2 := hf 2 _ rfl
    simp only [c9, c4, List.drop_zero, List.drop_succ_cons, List.take_succ_cons, List.take_zero, List.getElem?_cons_zero, List.getElem?_cons_succ] at g0 g1 g2
    obtain ⟨s0, e0, rfl, -⟩ := DataW.trod_string Try.underlying9 g0
    obtain ⟨s1, e1, rfl, -⟩ := DataW.trod_string Try.underlying9 g1
    obtain ⟨b2, e2, rfl⟩ := DataW.trod_bool Try.underlying4 g2
    cases e0; cases e1; cases e2
    exact ⟨⟨s0, s1, b2⟩, rfl, rfl⟩

theorem mem_weightsAll {H : Type} {P : Program} {e : TypeId} {l : List (DataW H)} {d : DataW H} (hd : d ∈ l) : ∀ n ∈ d.weights P e, n ∈ DataW.weightsAll P e l := by
  induction l with
  | nil => cases hd
  | cons a r ih =>
    intro n hn
    rw [DataW.weightsAll]
    rcases List.mem_cons.1 hd with rfl | h
    · exact List.mem_append_left _ hn
    · exact List.mem_append_right _ (ih h n hn)

theorem open_chs {H : Type} {enc : TypeId × Value → H} {W : World} {base : Nat} {hd : Bool} {v : Value} {d : DataW H} {ps : List MemPlace} {ts : List TypeId} {ds : List (DataW H)} {j : Nat}
    (hsz : (DataW.weightsEach Try.prog ts ds).all (· ≤ reachBytes) = true) (ht : ts[j]? = some 22) (hdj : ds[j]? = some d)
    (h : DataW.Trod enc Try.prog W base (fun _ => true) hd 22 v d ps) (hv : ∃ a n c, v = .slice a n c) : ∃ l : List Ch, RdC W v l := by
  obtain ⟨fuel, hf⟩ := h
  obtain ⟨a0, n0, c0, rfl⟩ := hv
  rcases Deep.open_slice Try.underlying22 hf with ⟨hcs, hx⟩ | ⟨a, len, cap, m, n, D, Pl, hcs, hb, hl, hm, hmm, hx, hel⟩
  · simp [Value.cells] at hcs
    obtain ⟨rfl, rfl, rfl⟩ := hcs
    exact ⟨[], ⟨rfl, none, 0, rfl, Nat.le_refl _, fun _ => rfl, fun ad h => by cases h⟩, by simp, fun c hc => by cases hc⟩
  · simp [Value.cells] at hcs
    obtain ⟨ea, en, ec⟩ := hcs
    rw [ea, en, ec]
    have hx1 := congrArg Prod.fst hx
    simp only at hx1
    subst hx1
    have c32 : Try.prog.cellsOf 32 = 3 := by kernel_rfl
    have b32 : Try.prog.bytesOf 32 = 40 := by kernel_rfl
    rw [if_pos rfl] at hmm
    have hw := fun n hn => of_decide_eq_true (List.all_eq_true.1 hsz n (DataW.weights_mem_each ht hdj n hn))
    have hlenw := sized_slice hsz ht hdj Try.underlying22
    rw [b32] at hlenw
    simp only [List.length_map, List.length_range] at hlenw
    have each : ∀ i, i < m → ∃ c : Ch, (∀ q, q < 3 → W.cell? (a.add (i * 3 + q)) = c.cells[q]?) ∧ D i = .agg [.lit (.string c.key.data.toList), .lit (.string c.val.data.toList), .lit (.bool c.gone)] := by
      intro i hi
      obtain ⟨cs', h1, h2⟩ := hel i hi
      rw [c32] at h1
      obtain ⟨_, hlen, hcell⟩ := World.cells?_some h1
      obtain ⟨c, rfl, hD⟩ := trod_ch h2
      refine ⟨c, fun q hq => ?_, hD⟩
      rw [← hcell q hq, addr_add_add]
    haveI : Inhabited Ch := ⟨⟨⟨#[]⟩, ⟨#[]⟩, false⟩⟩
    obtain ⟨F, hF⟩ := Deep.choose_lt (α := Ch) each
    have hlc : len ≤ cap := hl
    have hget : ∀ i (hi : i < ((List.range len).map F).length), ((List.range len).map F)[i] = F i := fun i hi => by simp
    refine ⟨(List.range len).map F, ?_⟩
    have hll : ((List.range len).map F).length = len := by simp
    refine ⟨?_, ?_, ?_⟩
    · rw [hll]
      refine ⟨by rw [chs_len, hll], some a, cap, rfl, hl, (fun h => by cases h), fun ad hA j u hu => ?_⟩
      cases hA
      have hj : j < len * 3 := by
        have := (List.getElem?_eq_some_iff.1 hu).1
        rw [chs_len, hll] at this; exact this
      have hi : j / 3 < len := by omega
      have hq : j % 3 < 3 := Nat.mod_lt _ (by decide)
      have h1 := (hF (j / 3) (by omega)).1 (j % 3) hq
      rw [show j / 3 * 3 + j % 3 = j from by omega] at h1
      obtain ⟨k0, k1, k2⟩ := chs_at ((List.range len).map F) (j / 3) (by rw [hll]; exact hi)
      have hFi : ((List.range len).map F)[j / 3]'(by rw [hll]; exact hi) = F (j / 3) := by simp
      rw [hFi] at k0 k1 k2
      have hj3 : j = j / 3 * 3 + j % 3 := by omega
      rw [h1, ← hu]
      generalize j / 3 = i at hj3 k0 k1 k2 ⊢
      generalize j % 3 = r at hj3 hq ⊢
      subst hj3
      match r, hq with
      | 0, _ => exact k0.symm
      | 1, _ => exact k1.symm
      | 2, _ => exact k2.symm
    · rw [hll]
      have : (len + (m - len)) * 40 ≤ reachBytes := hlenw
      have hr : reachBytes ≤ 140737488351232 := by decide
      have : len * 40 ≤ (len + (m - len)) * 40 := Nat.mul_le_mul_right _ (by omega)
      omega
    · intro c hc
      obtain ⟨i, hi, rfl⟩ := List.mem_map.1 hc
      have hi := List.mem_range.1 hi
      have hD := (hF i (by omega)).2
      have hmem : ∀ n ∈ (D i).weights Try.prog 32, n ≤ reachBytes := by
        intro n hn
        refine hw n ?_
        rw [DataW.weights, Try.underlying22]
        refine List.mem_cons_of_mem _ (List.mem_append_left _ (mem_weightsAll (List.mem_map.2 ⟨i, List.mem_range.2 hi, rfl⟩) n hn))
      rw [hD, DataW.weights, Try.underlying32] at hmem
      simp only [List.map_cons, List.map_nil, DataW.weightsEach, DataW.weights, List.cons_append, List.nil_append, List.mem_cons, List.not_mem_nil, or_false, forall_eq_or_imp, forall_eq] at hmem
      have hr : reachBytes ≤ 140737488351232 := by decide
      refine ⟨?_, ?_⟩
      · have := hmem.1; rw [Array.length_toList] at this; exact Nat.le_trans this hr
      · have := hmem.2; rw [Array.length_toList] at this; exact Nat.le_trans this hr
end Go.Proofs.Ytfloaneimmnboaa
