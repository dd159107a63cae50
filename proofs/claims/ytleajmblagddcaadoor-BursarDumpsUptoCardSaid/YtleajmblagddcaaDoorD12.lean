/- quant.Print: the value's text is what the document's Print tells. -/
import Derived.Test.YtleajmblagddcaaDoorD11
namespace Go.Proofs.YtleajmblagddcaaDoor
open Go.RowKit
set_option linter.unusedVariables false
set_option linter.unusedSimpArgs false

def units12 : List (ByteArray × Nat) := [(⟨#[75, 105]⟩, 1024000), (⟨#[77, 105]⟩, 1048576000), (⟨#[71, 105]⟩, 1073741824000), (⟨#[84, 105]⟩, 1099511627776000), (⟨#[80, 105]⟩, 1125899906842624000),
  (⟨#[107]⟩, 1000000), (⟨#[77]⟩, 1000000000), (⟨#[71]⟩, 1000000000000), (⟨#[84]⟩, 1000000000000000), (⟨#[80]⟩, 1000000000000000000), (⟨#[109]⟩, 1), (⟨#[]⟩, 1000)]
def unitsB : List (ByteArray × Nat) := units12.take 5
def unitsD : List (ByteArray × Nat) := (units12.drop 5).take 5
def Uni (w : World) : Prop := UnitsAt w 0 0 units12
theorem Uni.below {w w1 : World} (h : Uni w) (hb : Below w.heap.size w w1) : Uni w1 := UnitsAt.below h hb
theorem Uni.B {w : World} (h : Uni w) : UnitsAt w 0 0 unitsB := by
  refine ⟨h.1, fun i hi => ?_⟩
  have hi5 : i < 5 := hi
  have := h.2 i (by show i < 12; omega)
  rw [show unitsB[i] = units12[i]'(by show i < 12; omega) from by simp [unitsB]]
  exact this
theorem Uni.D {w : World} (h : Uni w) : UnitsAt w 0 10 unitsD := by
  refine ⟨h.1, fun i hi => ?_⟩
  have hi5 : i < 5 := hi
  have := h.2 (5 + i) (by show 5 + i < 12; omega)
  rw [show unitsD[i] = units12[5 + i]'(by show 5 + i < 12; omega) from by simp [unitsD], show 10 + i * 2 = 0 + (5 + i) * 2 from by omega]
  exact this

theorem fold_fit (n : Nat) (t : List (List UInt8 × Nat)) : ∀ acc, t.foldl (fitStep n) acc = if lastFit n t = [] then acc else lastFit n t := by
  have hne : ∀ m, asc m ≠ [] := by
    intro m h
    unfold asc at h
    split at h
    · simp at h
    · simp at h; exact absurd (dig_eq_nil.1 h) (by assumption)
  induction t with
  | nil => intro acc; simp [lastFit]
  | cons e r ih =>
    intro acc
    rw [List.foldl_cons, ih, show lastFit n (e :: r) = r.foldl (fitStep n) (fitStep n [] e) from rfl, ih]
    by_cases h : lastFit n r = []
    · rw [if_pos h, if_pos h]
      unfold fitStep
      by_cases h2 : n % e.2 = 0
      · rw [if_pos h2, if_pos h2, if_neg]; intro h3; exact hne _ (List.append_eq_nil_iff.1 h3).1
      · rw [if_neg h2, if_neg h2, if_pos rfl]
    · rw [if_neg h, if_neg h, if_neg h]
theorem binAt_units (n : Nat) : binAt n 12 = lastFit n (uTab unitsB) := by
  unfold binAt; congr 1
theorem decAt_units (n : Nat) (h : n % 1000 = 0) : decAt n 12 = if lastFit n (uTab unitsD) = [] then asc (n / 1000) else lastFit n (uTab unitsD) := by
  have e : ((tabB 5).take (min 12 7)).drop 1 = ([], 1000) :: uTab unitsD := by decide
  unfold decAt
  rw [e, show lastFit n (([], 1000) :: uTab unitsD) = (uTab unitsD).foldl (fitStep n) (fitStep n [] ([], 1000)) from rfl, fold_fit, fitStep, if_pos h]
  simp

theorem str_ne {s : ByteArray} (h : s.data.toList ≠ []) : ¬ s = ByteArray.mk #[] ∧ ¬ s.toList = [] ∧ s.toList.isEmpty = false := by
  have h1 : ¬ s.toList = [] := fun h2 => h (List.eq_nil_of_length_eq_zero (by rw [← size_toList]; exact (empty_iff s).1 h2))
  refine ⟨fun h2 => h (by rw [h2]), h1, ?_⟩
  cases h2 : s.toList with
  | nil => exact absurd h2 h1
  | cons a b => rfl
theorem str_nil {s : ByteArray} (h : s.data.toList = []) : s = ByteArray.mk #[] := by
  cases s with | mk d => simp at h; rw [h]

theorem units_ok : (∀ e ∈ unitsD, e.1.size ≤ 3 ∧ 0 < e.2 ∧ e.2 < 18446744073709551616) ∧ (∀ e ∈ unitsB, e.1.size ≤ 3 ∧ 0 < e.2 ∧ e.2 < 18446744073709551616) := by decide
theorem lastFit_len {n : Nat} (hn : n ≤ 9223372036854775807) : ∀ (t : List (List UInt8 × Nat)), (∀ e ∈ t, e.1.length ≤ 3) → (lastFit n t).length ≤ 22 := by
  have hd : ∀ m, m ≤ n → (asc m).length ≤ 19 := fun m hm => asc_len (dig_len_le (by omega)) (by omega)
  have : ∀ (t : List (List UInt8 × Nat)) (acc : List UInt8), acc.length ≤ 22 → (∀ e ∈ t, e.1.length ≤ 3) → (t.foldl (fitStep n) acc).length ≤ 22 := by
    intro t
    induction t with
    | nil => intro acc h _; exact h
    | cons e r ih =>
      intro acc h ht
      rw [List.foldl_cons]
      refine ih _ ?_ (fun e he => ht e (List.mem_cons_of_mem _ he))
      unfold fitStep
      split
      · have h1 := hd (n / e.2) (Nat.div_le_self _ _)
        have h2 := ht e List.mem_cons_self
        rw [List.length_append]; omega
      · exact h
  intro t ht
  exact this t [] (by simp) ht
theorem printed_len {n : Nat} (hn : n ≤ 9223372036854775807) : (printed n).length ≤ 22 := by
  have hd : ∀ m, m ≤ n → (asc m).length ≤ 19 := fun m hm => asc_len (dig_len_le (by omega)) (by omega)
  have ht : ∀ e ∈ tabB 5, e.1.length ≤ 3 := tab_names
  have h1 : (binAt n 12).length ≤ 22 := lastFit_len hn _ (fun e he => ht e (List.mem_of_mem_take (List.mem_of_mem_drop he)))
  have h2 : (decAt n 12).length ≤ 22 := lastFit_len hn _ (fun e he => ht e (List.mem_of_mem_take (List.mem_of_mem_drop he)))
  unfold printed
  split
  · split
    · simp
    · split
      · exact h1
      · exact h2
  · have := hd n (Nat.le_refl n); simp; omega

set_option maxRecDepth 100000 in
set_option maxHeartbeats 1600000 in
theorem qprint_calls (n : Nat) (hn : n ≤ 9223372036854775807) (w : World) (hU : Uni w) (htab : PowTab w) :
    Calls Tryd.prog 19 #[.int .i64 n] w fun e w' => ∃ sv, e = .returned sv ∧ StrIs sv (printed n) ∧ Below w.heap.size w w' := by
  have HU := Lib.hid hU
  have Htab := Lib.hid htab
  clear hU htab
  have hn0 : ¬ (n : Int) < 0 := by omega
  have hn00 : decide ((n : Int) < 0) = false := decide_eq_false hn0
  have hw : IntKind.u64.wrap (n : Int) = n := by rw [IntKind.wrap_u64]; omega
  have hdl : (asc n).length ≤ 19 := asc_len (dig_len_le (by omega)) (by omega)
  by_cases hm : n % 1000 = 0
  · have hb : ((n : Int) % 1000 != 0) = false := by simp; omega
    have hb2 : (n : Int) % 1000 = 0 := by omega
    by_cases h0 : n = 0
    · subst h0
      have hp : Hid (printed 0 = [48]) := rfl
      go_enter Tryd.func19, Tryd.ntmps19
      go_wp2
      go_ret
      exact ⟨_, rfl, ⟨_, rfl, by rw [hp.out]⟩, Below.refl _ _⟩
    · have hb3 : ((n : Int) == 0) = false := by simp; omega
      have hb4 : ¬ (n : Int) = 0 := by omega
      have Hbin := Lib.hid (binAt_units n)
      have Hdec := Lib.hid (decAt_units n hm)
      have Hres : Hid (printed n = if binAt n 12 ≠ [] ∧ (binAt n 12).length < (decAt n 12).length then binAt n 12 else decAt n 12) := by
        show _ = _
        rw [printed, if_pos hm, if_neg h0]
      have Hm := Lib.hid hm
      clear hm
      have hal : Tryd.prog.arrayLen 105 = 12 := by simp [Program.arrayLen, Tryd.underlying105]
      go_enter Tryd.func19, Tryd.ntmps19
      go_wp2_with fail
      refine (form_calls n (by omega) unitsD 0 10 7 _ HU.out.D (by decide) units_ok.1 Htab.out).mono ?_
      rintro e w1 ⟨sv, rfl, ⟨s1, rfl, hs1⟩, hb1⟩
      have HU1 := Lib.hid (HU.out.below hb1)
      have Htab1 := Lib.hid (Htab.out.below hb1)
      have Hb1 := Lib.hid hb1
      have hl1 : s1.size ≤ 22 := by rw [size_toList, hs1]; exact lastFit_len hn _ (by decide)
      clear hb1
      by_cases hd : lastFit n (uTab unitsD) = []
      · have h1 : s1 = ByteArray.mk #[] := str_nil (by rw [hs1, hd])
        have Hd := Lib.hid (Hdec.out)
        have Hd2 : Hid (decAt n 12 = asc (n / 1000)) := by show _ = _; rw [Hd.out, if_pos hd]
        subst h1
        have hq : (n : Int) / 1000 = ((n / 1000 : Nat) : Int) := by omega
        have Hq := Lib.hid hq
        have hal2 : (asc (n / 1000)).length ≤ 19 := asc_len (dig_len_le (by omega)) (by omega)
        clear hd hq hs1
        go_wp2_with fail
        rw [Hq.out]
        refine (formatUint_calls (n / 1000) (by omega) _ Htab1.out).mono ?_
        rintro e w2 ⟨rfl, hb2⟩
        have HU2 := Lib.hid (HU1.out.below hb2)
        have Htab2 := Lib.hid (Htab1.out.below hb2)
        have Hb2 := Lib.hid (Hb1.out.trans (hb2.mono Hb1.out.size))
        rw [dec_asc]
        clear hb2
        go_wp2_with fail
        refine (form_calls n (by omega) unitsB 0 0 12 _ HU2.out.B (by decide) units_ok.2 Htab2.out).mono ?_
        rintro e w3 ⟨sv, rfl, ⟨s3, rfl, hs3⟩, hb3⟩
        have Hb3 := Lib.hid (Hb2.out.trans (hb3.mono Hb2.out.size))
        have hl3 : s3.size ≤ 22 := by rw [size_toList, hs3]; exact lastFit_len hn _ (by decide)
        clear hb3
        by_cases hb0 : lastFit n (uTab unitsB) = []
        · have h3 : s3 = ByteArray.mk #[] := str_nil (by rw [hs3, hb0])
          have Hr : Hid (printed n = asc (n / 1000)) := by show _ = _; rw [Hres.out, if_neg (fun h => h.1 (by rw [Hbin.out, hb0])), Hd2.out]
          subst h3
          clear hb0 hs3
          go_wp2
          go_ret
          exact ⟨_, rfl, ⟨_, rfl, by rw [Hr.out]⟩, Hb3.out⟩
        · obtain ⟨q1, q2, q3⟩ := str_ne (s := s3) (by rw [hs3]; exact hb0)
          have l3 := size_toList s3
          rw [hs3] at l3
          by_cases hll : s3.size < (asc (n / 1000)).length
          · have hll2 := dT hll
            have Hr : Hid (printed n = lastFit n (uTab unitsB)) := by show _ = _; rw [Hres.out, if_pos ⟨by rw [Hbin.out]; exact hb0, by rw [Hbin.out, Hd2.out]; omega⟩, Hbin.out]
            have Hs3 := Lib.hid hs3
            clear hb0 l3 hs3
            go_wp2
            go_ret
            exact ⟨_, rfl, ⟨_, rfl, by rw [Hr.out, Hs3.out]⟩, Hb3.out⟩
          · have hll2 := dF hll
            have Hr : Hid (printed n = asc (n / 1000)) := by show _ = _; rw [Hres.out, if_neg (fun h => hll (by have := h.2; rw [Hbin.out, Hd2.out] at this; omega)), Hd2.out]
            have Hs3 := Lib.hid hs3
            clear hb0 l3 hs3
            go_wp2
            go_ret
            exact ⟨_, rfl, ⟨_, rfl, by rw [Hr.out]⟩, Hb3.out⟩
      · obtain ⟨p1, p2, p3⟩ := str_ne (s := s1) (by rw [hs1]; exact hd)
        have Hd2 : Hid (decAt n 12 = s1.data.toList) := by show _ = _; rw [Hdec.out, if_neg hd, hs1]
        clear hd hs1
        go_wp2_with fail
        refine (form_calls n (by omega) unitsB 0 0 12 _ HU1.out.B (by decide) units_ok.2 Htab1.out).mono ?_
        rintro e w3 ⟨sv, rfl, ⟨s3, rfl, hs3⟩, hb3⟩
        have Hb3 := Lib.hid (Hb1.out.trans (hb3.mono Hb1.out.size))
        clear hb3
        by_cases hb0 : lastFit n (uTab unitsB) = []
        · have h3 : s3 = ByteArray.mk #[] := str_nil (by rw [hs3, hb0])
          have Hr : Hid (printed n = s1.data.toList) := by show _ = _; rw [Hres.out, if_neg (fun h => h.1 (by rw [Hbin.out, hb0])), Hd2.out]
          subst h3
          clear hb0 hs3
          go_wp2
          go_ret
          exact ⟨_, rfl, ⟨_, rfl, by rw [Hr.out]⟩, Hb3.out⟩
        · obtain ⟨q1, q2, q3⟩ := str_ne (s := s3) (by rw [hs3]; exact hb0)
          have l3 := size_toList s3
          have l1 := size_toList s1
          rw [hs3] at l3
          by_cases hll : s3.size < s1.size
          · have hll2 := dT hll
            have Hr : Hid (printed n = lastFit n (uTab unitsB)) := by show _ = _; rw [Hres.out, if_pos ⟨by rw [Hbin.out]; exact hb0, by rw [Hbin.out, Hd2.out]; omega⟩, Hbin.out]
            have Hs3 := Lib.hid hs3
            clear hb0 l3 l1 hs3
            go_wp2
            go_ret
            exact ⟨_, rfl, ⟨_, rfl, by rw [Hr.out, Hs3.out]⟩, Hb3.out⟩
          · have hll2 := dF hll
            have Hr : Hid (printed n = s1.data.toList) := by show _ = _; rw [Hres.out, if_neg (fun h => hll (by have := h.2; rw [Hbin.out, Hd2.out] at this; omega)), Hd2.out]
            have Hs3 := Lib.hid hs3
            clear hb0 l3 l1 hs3
            go_wp2
            go_ret
            exact ⟨_, rfl, ⟨_, rfl, by rw [Hr.out]⟩, Hb3.out⟩
  · have hb : ((n : Int) % 1000 != 0) = true := by simp; omega
    have hb2 : ¬ (n : Int) % 1000 = 0 := by omega
    have hp : Hid (printed n = asc n ++ [109]) := by show _ = _; rw [printed, if_neg hm]
    have Hm := Lib.hid hm
    clear hm
    go_enter Tryd.func19, Tryd.ntmps19
    go_wp2_with fail
    refine (formatInt_calls n (by omega) (by omega) _ Htab.out).mono ?_
    rintro e w1 ⟨rfl, hb1⟩
    have hd : Lib.itoa (n : Int) = asc n := by rw [Lib.itoa_nonneg, dec_asc]
    rw [hd]
    clear hd
    have hsz : ¬ 9223372036854775807 < (asc n).length + 1 := by omega
    go_wp2
    go_ret
    exact ⟨_, rfl, ⟨_, rfl, by rw [hp.out]; simp⟩, hb1⟩
end Go.Proofs.YtleajmblagddcaaDoor
