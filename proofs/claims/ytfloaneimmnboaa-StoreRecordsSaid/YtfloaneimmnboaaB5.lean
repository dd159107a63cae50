/- The reference's number and Reader.Uint, Count, Text, NewReader. -/
import Derived.Test.YtfloaneimmnboaaB4
namespace Go.Proofs.Ytfloaneimmnboaa
open Go.RowKit Go.Maps Go.WideMaps
set_option linter.unusedVariables false
set_option linter.unusedSimpArgs false

/-- the number that these bytes' low bits make -/
def dv : List UInt8 → Nat
  | [] => 0
  | b :: r => b.toNat % 128 + 128 * dv r
theorem dv_pow (b : UInt8) (r : List UInt8) (k acc : Nat) : acc + b.toNat % 128 * 128 ^ k + dv r * 128 ^ (k + 1) = acc + dv (b :: r) * 128 ^ k := by
  rw [dv, Nat.pow_succ, Nat.add_mul, Nat.mul_comm 128 (dv r), Nat.mul_assoc, Nat.mul_comm 128 (128 ^ k)]; omega

/-- n bytes of more, then this byte -/
theorem scan_walk : ∀ (n : Nat) (l : List UInt8) (k acc : Nat), (∀ i (hi : i < l.length), i < n → 128 ≤ l[i].toNat) → k + n ≤ 10 → n ≤ l.length → 
    (k + n = 10 → 0 < n → scan l k acc = .error 21) ∧
    (n = l.length → k + n < 10 → scan l k acc = .error 20) ∧
    (∀ hn : n < l.length, k + n < 10 → ¬ 128 ≤ l[n].toNat → ((0 < k + n ∧ l[n].toNat = 0) ∨ (k + n = 9 ∧ 1 < l[n].toNat)) → scan l k acc = .error 21) ∧
    (∀ hn : n < l.length, k + n < 10 → ¬ 128 ≤ l[n].toNat → ¬ ((0 < k + n ∧ l[n].toNat = 0) ∨ (k + n = 9 ∧ 1 < l[n].toNat)) → scan l k acc = .ok (acc + dv (l.take (n + 1)) * 128 ^ k, k + n + 1)) := by
  intro n
  induction n with
  | zero =>
    intro l k acc hb hk hl
    refine ⟨fun _ h => by omega, fun h _ => ?_, fun hn _ h1 h2 => ?_, fun hn _ h1 h2 => ?_⟩
    · rw [List.eq_nil_of_length_eq_zero h.symm]; rfl
    · obtain ⟨b, r, rfl⟩ := List.exists_cons_of_length_pos hn
      exact scan_bad rfl h1 h2
    · obtain ⟨b, r, rfl⟩ := List.exists_cons_of_length_pos hn
      have h1 : ¬ 128 ≤ b.toNat := h1
      have h2 : ¬ ((0 < k ∧ b.toNat = 0) ∨ (k = 9 ∧ 1 < b.toNat)) := h2
      rw [scan_ok (r := r) rfl h1 h2]
      simp only [List.take_succ_cons, List.take_zero, dv, Nat.mul_zero, Nat.add_zero]
      rw [Nat.mod_eq_of_lt (by omega)]
  | succ n ih =>
    intro l k acc hb hk hl
    obtain ⟨b, r, rfl⟩ := List.exists_cons_of_length_pos (show 0 < l.length by omega)
    have hb0 : 128 ≤ b.toNat := hb 0 (by simp) (by omega)
    have hl : n ≤ r.length := by simpa using hl
    by_cases h9 : k = 9
    · have hn0 : n = 0 := by omega
      subst hn0
      have he : scan (b :: r) k acc = .error 21 := scan_nine rfl hb0 h9
      exact ⟨fun _ _ => he, fun h1 h2 => by omega, fun hn h1 => by omega, fun hn h1 => by omega⟩
    · have hs : scan (b :: r) k acc = scan r (k + 1) (acc + (b.toNat % 128) * 128 ^ k) := scan_more rfl hb0 h9
      obtain ⟨i1, i2, i3, i4⟩ := ih r (k + 1) (acc + (b.toNat % 128) * 128 ^ k) (fun i hi hin => hb (i + 1) (by simpa using hi) (by omega)) (by omega) hl
      rw [hs]
      refine ⟨fun h1 h2 => ?_, fun h1 h2 => ?_, fun hn h1 h2 h3 => ?_, fun hn h1 h2 h3 => ?_⟩
      · by_cases hn0 : n = 0
        · omega
        · exact i1 (by omega) (by omega)
      · exact i2 (by simpa using h1) (by omega)
      · have hn' : n < r.length := by simpa using hn
        refine i3 hn' (by omega) (by simpa using h2) ?_
        have h3' : (0 < k + (n + 1) ∧ r[n].toNat = 0) ∨ (k + (n + 1) = 9 ∧ 1 < r[n].toNat) := by simpa using h3
        rcases h3' with h3 | h3
        · exact .inl ⟨by omega, h3.2⟩
        · exact .inr ⟨by omega, h3.2⟩
      · have hn' : n < r.length := by simpa using hn
        rw [i4 hn' (by omega) (by simpa using h2) (fun h4 => h3 (by
          have : (0 < k + (n + 1) ∧ r[n].toNat = 0) ∨ (k + (n + 1) = 9 ∧ 1 < r[n].toNat) := by
            rcases h4 with h4 | h4
            · exact .inl ⟨by omega, h4.2⟩
            · exact .inr ⟨by omega, h4.2⟩
          simpa using this))]
        rw [dv_pow, List.take_succ_cons]
        congr 2
        omega

theorem dv_bound (l : List UInt8) : dv l < 128 ^ l.length := by
  induction l with
  | nil => simp [dv]
  | cons b r ih => rw [dv, List.length_cons, Nat.pow_succ]; omega

/-- what 'number' answers -/
def numE (l : List UInt8) : Nat × Nat × Int := match scan l 0 0 with
  | .error e => (0, 0, e)
  | .ok (v, n) => (v, n, 0)

def NL1 (w : World) (l : List UInt8) (i : Value) : Prop := ∃ n : Nat, n ≤ l.length ∧ n ≤ 10 ∧ i = .int .i64 n ∧ ∀ j (hj : j < l.length), j < n → 128 ≤ l[j].toNat
def NL2 (l : List UInt8) (n : Nat) (v i : Value) : Prop := ∃ j : Nat, j ≤ n + 1 ∧ i = .int .i64 ((j : Int) - 1) ∧ v = .int .u64 (dv ((l.take (n + 1)).drop j))

theorem dv_drop (l : List UInt8) (n j : Nat) (hn : n < l.length) (hj : j ≤ n) : dv ((l.take (n + 1)).drop j) = l[j].toNat % 128 + 128 * dv ((l.take (n + 1)).drop (j + 1)) := by
  have hl : j < (l.take (n + 1)).length := by rw [List.length_take]; omega
  rw [List.drop_eq_getElem_cons hl, dv, List.getElem_take]
theorem dv_le (l : List UInt8) (j : Nat) : dv (l.drop j) ≤ dv l := by
  induction l generalizing j with
  | nil => simp
  | cons b r ih =>
    cases j with
    | zero => exact Nat.le_refl _
    | succ j => rw [List.drop_succ_cons, dv]; have := ih j; omega

set_option maxRecDepth 100000 in
set_option maxHeartbeats 3200000 in
theorem numb_calls (w : World) (v : Value) (l : List UInt8) (h : RdB w v l) (hl : l.length ≤ 140737488355328) :
    Calls Try.prog 49 #[v] w fun e w' => e = .returned (.tuple #[.int .u64 (numE l).1, .int .i64 (numE l).2.1, .int .i64 (numE l).2.2]) ∧ w' = w := by
  by_cases h0 : l.length = 0
  · have hnil := List.eq_nil_of_length_eq_zero h0
    obtain ⟨A, c, rfl⟩ := h.slice
    have he : numE l = (0, 0, 20) := by rw [hnil]; rfl
    have He := Lib.hid he
    rw [h0]
    clear h he hnil
    go_enter Try.func49, Try.ntmps49
    go_wp2
    refine wp_loop_rounds 1 ?_
    rw [rounds_succ]
    go_wp2
    go_ret3
    exact ⟨by rw [He.out]; rfl, rfl⟩
  · obtain ⟨b, off, c, rfl, hc, hb, hcell0⟩ := h.some (by intro e; simp [u8s] at e; rw [e] at h0; exact h0 rfl)
    have hcell : ∀ k (hk : k < l.length), w.cell? ⟨b, off + k, none⟩ = some (.int .u8 (l[k].toNat)) := fun k hk => hcell0 k _ (by simp [u8s, hk])
    clear hcell0
    have Hcell := Lib.hid hcell
    clear hcell
    go_enter Try.func49, Try.ntmps49
    go_wp2
    go_loop [5] (fun i => NL1 w l i) (fun i => 10 - (intOf i).toNat)
    case atStart => exact ⟨0, Nat.zero_le _, by omega, rfl, fun j _ h => absurd h (by omega)⟩
    case round =>
      obtain ⟨n, hn, hn10, rfl, hmore⟩ := hrel
      have Hmore := Lib.hid hmore
      clear hmore
      have hs := scan_walk n l 0 0 Hmore.out (by omega) hn
      obtain ⟨s1, s2, s3, s4⟩ := hs
      have S1 := Lib.hid s1
      have S2 := Lib.hid s2
      have S3 := Lib.hid s3
      have S4 := Lib.hid s4
      clear s1 s2 s3 s4
      by_cases hlt : n < l.length
      · have hltd := dT hlt
        have hq := Hcell.out n hlt
        have hx256 := UInt8.toNat_lt l[n]
        have Hx : Hid (∃ x, x = l[n].toNat) := ⟨_, rfl⟩
        obtain ⟨x, hx⟩ := Hx.out
        rw [← hx] at hq hx256
        have HX := Lib.hid hx
        clear hx Hx
        have hne : ((n : Int) == l.length) = false := by simp; omega
        have hne' : ¬ n = l.length := by omega
        by_cases h10 : n < 10
        · have h10d : decide ((n : Int) < 10) = true := decide_eq_true (by omega)
          by_cases h128 : 128 ≤ x
          · have h128d : decide ((128 : Int) ≤ x) = true := decide_eq_true (by omega)
            have Hn : Hid (NL1 w l (.int .i64 ((n + 1 : Nat) : Int))) := ⟨n + 1, by omega, by omega, rfl, fun j hj hjn => by
              by_cases e : j = n
              · subst e; rw [← HX.out]; exact h128
              · exact Hmore.out j hj (by omega)⟩
            go_wp2
            go_round
            case rel => exact Hn.out
            case measure => simp [intOf]; omega
          · have h128d : decide ((128 : Int) ≤ x) = false := decide_eq_false (by omega)
            have h10e : ((n : Int) == 10) = false := by simp; omega
            by_cases hbad : (0 < n ∧ x = 0) ∨ (n = 9 ∧ 1 < x)
            · have he : numE l = (0, 0, 21) := by
                rw [numE, S3.out hlt (by omega) (by rw [← HX.out]; exact h128) (by rw [← HX.out]; simpa using hbad)]
              have He := Lib.hid he
              have hcs : (0 < n ∧ decide (0 < n) = true ∧ x = 0 ∧ ((x : Int) == 0) = true) ∨ (0 < n ∧ decide (0 < n) = true ∧ ¬ x = 0 ∧ ((x : Int) == 0) = false ∧ ((n : Int) == 9) = true ∧ decide ((1 : Int) < x) = true) := by
                rcases hbad with ⟨h1, h2⟩ | ⟨h1, h2⟩
                · exact .inl ⟨h1, decide_eq_true h1, h2, by simp; omega⟩
                · exact .inr ⟨by omega, decide_eq_true (by omega), by omega, by simp; omega, by simp; omega, decide_eq_true (by omega)⟩
              clear hbad he
              rcases hcs with ⟨h1, h1', h2, h2'⟩ | ⟨h1, h1', h2, h2', h3, h4⟩
              all_goals
                go_wp2
                go_ret3
                exact ⟨by rw [He.out]; rfl, rfl⟩
            · have hscan := S4.out hlt (by omega) (by rw [← HX.out]; exact h128) (by rw [← HX.out]; simpa using hbad)
              have he : numE l = (dv (l.take (n + 1)), n + 1, 0) := by rw [numE, hscan]; simp
              have hdv := (scan_bound l 0 0 (by decide) (by decide) _ _ hscan).1
              simp only [Nat.zero_add, Nat.pow_zero, Nat.mul_one] at hdv
              have He := Lib.hid he
              have hcs : (0 < n ∧ decide (0 < n) = true ∧ ¬ x = 0 ∧ ((x : Int) == 0) = false ∧ ((n : Int) == 9) = true ∧ decide ((1 : Int) < x) = false) ∨ (0 < n ∧ decide (0 < n) = true ∧ ¬ x = 0 ∧ ((x : Int) == 0) = false ∧ ((n : Int) == 9) = false) ∨
                  (¬ 0 < n ∧ decide (0 < n) = false ∧ ((n : Int) == 9) = false) := by
                by_cases h1 : 0 < n
                · by_cases h2 : n = 9
                  · exact .inl ⟨h1, decide_eq_true h1, by omega, by simp; omega, by simp; omega, decide_eq_false (by omega)⟩
                  · exact .inr (.inl ⟨h1, decide_eq_true h1, by omega, by simp; omega, by simp; omega⟩)
                · exact .inr (.inr ⟨h1, decide_eq_false h1, by simp; omega⟩)
              clear hbad he hscan
              have Hst : Hid (NL2 l n (.int .u64 0) (.int .i64 n)) := ⟨n + 1, Nat.le_refl _, by rw [show ((n + 1 : Nat) : Int) - 1 = n from by omega], by
                rw [List.drop_eq_nil_of_le (by rw [List.length_take]; omega)]; rfl⟩
              rcases hcs with ⟨h1, h1', h2, h2', h3, h4⟩ | ⟨h1, h1', h2, h2', h3⟩ | ⟨h1, h1', h3⟩
              all_goals
                go_wp2
                go_loop [6, 7] (fun v i => NL2 l n v i) (fun _ i => ((intOf i) + 1).toNat)
                case atStart => exact Hst.out
                case round =>
                  clear hq
                  obtain ⟨j, hj, rfl, rfl⟩ := hrel
                  by_cases hj0 : 0 < j
                  · obtain ⟨j, rfl⟩ : ∃ q, j = q + 1 := ⟨j - 1, by omega⟩
                    have hjl : j < l.length := by omega
                    have hq2 := Hcell.out j hjl
                    have hstep := dv_drop l n j hlt (by omega)
                    have hble := dv_le (l.take (n + 1)) j
                    have Hstep := Lib.hid hstep
                    have hy256 := UInt8.toNat_lt l[j]
                    rw [hstep] at hble
                    clear hstep
                    rw [show ((j + 1 : Nat) : Int) - 1 = (j : Int) from by omega]
                    generalize l[j].toNat = y at hq2 Hstep hble hy256
                    generalize hD : dv ((l.take (n + 1)).drop (j + 1)) = D at Hstep hble
                    have Hk : Hid (NL2 l n (.int .u64 ((D : Int) * 128 + (y : Int) % 128)) (.int .i64 ((j : Int) - 1))) := ⟨j, by omega, rfl, by rw [Hstep.out]; congr 1; push_cast; omega⟩
                    clear hD
                    have hj0d : decide ((0 : Int) ≤ j) = true := decide_eq_true (by omega)
                    go_wp2
                    go_round
                    case rel => exact Hk.out
                    case measure => first | (simp [intOf]; done) | (simp [intOf]; omega)
                  · obtain rfl : j = 0 := by omega
                    rw [List.drop_zero]
                    go_wp2
                    go_ret3
                    exact ⟨by rw [He.out]; rfl, rfl⟩
        · have h10d : decide ((n : Int) < 10) = false := decide_eq_false (by omega)
          obtain rfl : n = 10 := by omega
          have he : numE l = (0, 0, 21) := by rw [numE, S1.out (by omega) (by omega)]
          have He := Lib.hid he
          clear he
          go_wp2
          go_ret3
          exact ⟨by rw [He.out]; rfl, rfl⟩
      · have hltd := dF hlt
        have hnl : n = l.length := by omega
        have hne : ((n : Int) == l.length) = true := by simp; omega
        by_cases h10 : n = 10
        · have he : numE l = (0, 0, 21) := by rw [numE, S1.out (by omega) (by omega)]
          have He := Lib.hid he
          have h10e : ((n : Int) == 10) = true := by simp; omega
          clear he hnl h10
          go_wp2
          go_ret3
          exact ⟨by rw [He.out]; rfl, rfl⟩
        · have he : numE l = (0, 0, 20) := by rw [numE, S2.out hnl (by omega)]
          have He := Lib.hid he
          have h10e : ((n : Int) == 10) = false := by simp; omega
          clear he hnl h10
          go_wp2
          go_ret3
          exact ⟨by rw [He.out]; rfl, rfl⟩

theorem numE_uint {p : PR} (h : p.err = 0) : p.uint = ((numE (p.b.drop p.pos)).1, { p with pos := p.pos + (numE (p.b.drop p.pos)).2.1, err := (numE (p.b.drop p.pos)).2.2 }) := by
  rw [PR.uint, if_neg (by simpa using h), numE]
  cases hs : scan (p.b.drop p.pos) 0 0 with
  | error e => rfl
  | ok x => obtain ⟨v, n⟩ := x; simp only [h]
theorem numE_fit (l : List UInt8) : (numE l).1 < 18446744073709551616 ∧ (numE l).2.1 ≤ l.length := by
  unfold numE
  split
  · exact ⟨show (0 : Nat) < 18446744073709551616 by decide, Nat.zero_le _⟩
  · rename_i h
    have := scan_bound l 0 0 (by decide) (by decide) _ _ h
    exact ⟨this.1, by simpa using this.2.2⟩

/-- 'b[l:]' of bytes -/
theorem cut_tail {P : Program} (t e : TypeId) {i : TypeInfo} (ht : P.underlying t = some (.slice e)) (hi : P.info? e = some i) (hsz : i.size = 1) {w : World} {v : Value} {b : List UInt8} (h : RdB w v b) (l : Nat) (hl : l ≤ b.length) :
    ∃ A c, (∀ W : World, (Instr.slice t v (some (.int .i64 (l : Int))) none none).run P W = .ok (.slice A (b.drop l).length c) W) ∧ RdB w (.slice A (b.drop l).length c) (b.drop l) := by
  obtain ⟨h1, A, c, rfl, h2, h3, h4⟩ := h
  have hel : P.elem t = e := by simp [Program.elem, ht]
  have hu : P.underlying t = some (.slice (P.elem t)) := by rw [hel]; exact ht
  have hlen : (b.drop l).length = b.length - l := by rw [List.length_drop]
  refine ⟨if c = l then A else A.map (·.add l), c - l, fun W => ?_, ?_⟩
  · rw [run_slice_l W t A _ c hu .i64 (l : Int) (by omega) (by omega), hel, hlen]
    simp [sizeOf, typeInfo, hi, hsz, sliced, Result.andThen]
  · unfold RdB
    refine ⟨by rw [u8s_len, Nat.mul_one], _, _, rfl, by rw [hlen]; omega, fun hA => ?_, fun ad hA j u hu => ?_⟩
    · rw [hlen]
      split at hA
      · subst hA; have := h3 rfl; omega
      · cases A with
        | none => have := h3 rfl; omega
        | some a => cases hA
    · have hj : j < b.length - l := by
        have := (List.getElem?_eq_some_iff.1 hu).1
        rw [u8s_len, hlen] at this; exact this
      rw [if_neg (by omega)] at hA
      cases A with
      | none => cases hA
      | some a =>
        cases hA
        show w.cell? ((a.add l).add j) = _
        rw [addr_add_add]
        refine h4 a rfl (l + j) u ?_
        rw [← hu]
        simp only [u8s, List.getElem?_map, List.getElem?_drop]

set_option maxHeartbeats 1600000 in
theorem quint_calls (w : World) (g : Nat) (rv : Value) (p : PR) (h : IsQ w g rv p) :
    Calls Try.prog 37 #[.pointer (some ⟨g, 0, none⟩)] w (QPost w g rv (.int .u64 p.uint.1) p.uint.2) := by
  obtain ⟨c0, c1, c2, f0, f1, f2⟩ := cells3 h.blk
  have hfit := h.fit
  have hlen := h.len
  by_cases he : p.err = 0
  · have hu := numE_uint he
    have hnf := numE_fit (p.b.drop p.pos)
    rw [List.length_drop] at hnf
    have hdl : (p.b.drop p.pos).length ≤ 140737488355328 := by rw [List.length_drop]; omega
    obtain ⟨i5, hi5, -, hs5, -⟩ := info_parts infoU8
    obtain ⟨A2, k2, hsl, hrd2⟩ := cut_tail (P := Try.prog) 42 5 Try.underlying42 hi5 hs5 h.rd p.pos hfit
    have hnum : ∀ n, Calls Try.prog 49 #[.slice A2 (p.b.drop p.pos).length k2] (w.drewN n) fun e w' => e = .returned (.tuple #[.int .u64 (numE (p.b.drop p.pos)).1, .int .i64 (numE (p.b.drop p.pos)).2.1, .int .i64 (numE (p.b.drop p.pos)).2.2]) ∧ w' = w.drewN n :=
      fun n => numb_calls _ _ _ (show RdB (w.drewN n) _ _ from hrd2) hdl
    have Hu := Lib.hid hu
    clear hu hrd2
    generalize numE (p.b.drop p.pos) = q at hnf hnum Hu
    generalize (p.b.drop p.pos).length = dl at hsl hnum hdl
    obtain ⟨x, m, er⟩ := q
    simp only at hnf hnum
    have Hnum := Lib.hid hnum
    clear hnum
    rw [he] at c2
    obtain ⟨A, c, rfl⟩ := h.rd.slice
    have Hfin : Hid (∀ n, QPost w g (.slice A p.b.length c) (.int .u64 p.uint.1) p.uint.2 (.returned (.int .u64 x)) (((w.drewN n).setCell ⟨g, 2, none⟩ (.int .i64 er)).setCell ⟨g, 1, none⟩ (.int .i64 ((p.pos : Int) + m)))) := by
      intro n
      rw [Hu.out]
      have hf2 : Fr (Only g) w (((w.drewN n).setCell ⟨g, 2, none⟩ (.int .i64 er)).setCell ⟨g, 1, none⟩ (.int .i64 ((p.pos : Int) + m))) := (((Fr.refl (Only g) w).drewN n).setCell (p := ⟨g, 2, none⟩) (.inl rfl) _).setCell (p := ⟨g, 1, none⟩) (.inl rfl) _
      exact ⟨rfl, h.set hf2 _ rfl (show p.pos + m ≤ _ by omega) (blk_setCell (blk_setCell h.blk 2 _) 1 _), hf2⟩
    clear he
    go_enter Try.func37, Try.ntmps37
    go_wp2
    go_quiet ((go_at_call 49; exact Calls.quiet_of_same (Hnum.out _)))
    go_wp2
    go_ret
    exact Hfin.out _
  · have hne : (p.err != 0) = true := by simpa using he
    have hp : p.uint = (0, p) := by rw [PR.uint, if_pos he]
    rw [hp]
    go_enter Try.func37, Try.ntmps37
    go_wp2
    go_ret
    exact ⟨rfl, h, Fr.refl _ _⟩
end Go.Proofs.Ytfloaneimmnboaa
