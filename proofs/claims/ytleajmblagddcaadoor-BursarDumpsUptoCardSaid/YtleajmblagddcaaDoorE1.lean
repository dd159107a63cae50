/- Scopes' and verbs' words. -/
import Derived.Test.YtleajmblagddcaaDoorD21
namespace Go.Proofs.YtleajmblagddcaaDoor
open Go.RowKit
set_option linter.unusedVariables false
set_option linter.unusedSimpArgs false

def scTexts : List ByteArray := [⟨#[97, 108, 108]⟩, ⟨#[98, 101, 115, 116]⟩, ⟨#[110, 111, 116, 98, 101, 115, 116]⟩, ⟨#[101, 110, 100, 115]⟩, ⟨#[110, 111, 116, 101, 110, 100, 115]⟩, ⟨#[112, 114, 105, 111, 114, 105, 116, 121, 61]⟩]
def vbTexts : List ByteArray := [⟨#[114, 101, 97, 100]⟩, ⟨#[119, 114, 105, 116, 101]⟩, ⟨#[103, 111, 118, 101, 114, 110]⟩, ⟨#[98, 105, 110, 100]⟩]
def StrTab (w : World) (g : Nat) (l : List ByteArray) : Prop := g < w.heap.size ∧ ∀ i (h : i < l.length), w.cell? ⟨g, i, none⟩ = some (.string l[i])
theorem StrTab.below {w w1 : World} {g : Nat} {l : List ByteArray} (h : StrTab w g l) (hb : Below w.heap.size w w1) : StrTab w1 g l :=
  ⟨Nat.lt_of_lt_of_le h.1 hb.size, fun i hi => (hb.cell (p := ⟨g, i, none⟩) h.1).trans (h.2 i hi)⟩
def Scs (w : World) : Prop := StrTab w 2 scTexts
def Vbs (w : World) : Prop := StrTab w 1 vbTexts

def verbS (n : Int) : List UInt8 := if n = 0 then [114, 101, 97, 100] else if n = 1 then [119, 114, 105, 116, 101] else if n = 2 then [103, 111, 118, 101, 114, 110] else if n = 3 then [98, 105, 110, 100] else [45]
theorem verbS_ne (n : Int) : verbS n ≠ [] ∧ (verbS n).length ≤ 6 := by unfold verbS; split <;> (try split) <;> (try split) <;> (try split) <;> simp
theorem bverb_calls (n : Int) (h : in64 n) (w : World) (hV : Vbs w) : Calls Tryd.prog 30 #[.int .i64 n] w fun e w' => (∃ sv, e = .returned sv ∧ StrIs sv (verbS n)) ∧ w = w' := by
  by_cases h0 : n < 0
  · have Hr : Hid (verbS n = [45]) := by show _ = _; unfold verbS; rw [if_neg (by omega), if_neg (by omega), if_neg (by omega), if_neg (by omega)]
    have hd : decide (n < 0) = true := decide_eq_true h0
    clear hV h
    go_enter Tryd.func30, Tryd.ntmps30
    go_wp2
    go_ret
    exact ⟨⟨_, rfl, _, rfl, by rw [Hr.out]⟩, rfl⟩
  · by_cases h4 : 4 ≤ n
    · have Hr : Hid (verbS n = [45]) := by show _ = _; unfold verbS; rw [if_neg (by omega), if_neg (by omega), if_neg (by omega), if_neg (by omega)]
      have hd : decide (n < 0) = false := decide_eq_false h0
      have hd4 : decide (4 ≤ n) = true := decide_eq_true h4
      clear hV h
      go_enter Tryd.func30, Tryd.ntmps30
      go_wp2
      go_ret
      exact ⟨⟨_, rfl, _, rfl, by rw [Hr.out]⟩, rfl⟩
    · have k0 := hV.2 0 (by decide)
      have k1 := hV.2 1 (by decide)
      have k2 := hV.2 2 (by decide)
      have k3 := hV.2 3 (by decide)
      simp only [vbTexts, List.getElem_cons_zero, List.getElem_cons_succ] at k0 k1 k2 k3
      have hc : n = 0 ∨ n = 1 ∨ n = 2 ∨ n = 3 := by omega
      clear hV h h0 h4
      rcases hc with rfl | rfl | rfl | rfl
      all_goals
        go_enter Tryd.func30, Tryd.ntmps30
        go_wp2
        go_ret
        exact ⟨⟨_, rfl, _, rfl, rfl⟩, rfl⟩
theorem rverb_calls (n : Int) (w : World) : Calls Tryd.prog 24 #[.int .i64 n] w fun e w' => (∃ sv, e = .returned sv ∧ StrIs sv (verbS n)) ∧ w = w' := by
  by_cases hc : n = 0 ∨ n = 1 ∨ n = 2 ∨ n = 3
  · rcases hc with rfl | rfl | rfl | rfl
    all_goals
      go_enter Tryd.func24, Tryd.ntmps24
      go_wp2
      go_ret
      exact ⟨⟨_, rfl, _, rfl, rfl⟩, rfl⟩
  · have h0 : (n == 0) = false := by simp; omega
    have h1 : (n == 1) = false := by simp; omega
    have h2 : (n == 2) = false := by simp; omega
    have h3 : (n == 3) = false := by simp; omega
    have Hr : Hid (verbS n = [45]) := by show _ = _; unfold verbS; rw [if_neg (by omega), if_neg (by omega), if_neg (by omega), if_neg (by omega)]
    go_enter Tryd.func24, Tryd.ntmps24
    go_wp2
    go_ret
    exact ⟨⟨_, rfl, _, rfl, by rw [Hr.out]⟩, rfl⟩

/-! ### scopes -/
def scOk (k a : Int) : Prop := (0 ≤ k ∧ k < 5 ∧ a = 0) ∨ (k = 5 ∧ 0 ≤ a ∧ a ≤ 9)
instance (k a : Int) : Decidable (scOk k a) := by unfold scOk; infer_instance
def scWord (k a : Int) : List UInt8 := (scTexts.getD k.toNat ⟨#[]⟩).data.toList ++ (if k = 5 then [UInt8.ofNat (48 + a.toNat)] else [])
def scopeS (k a : Int) : List UInt8 := if scOk k a then scWord k a else [45]
theorem scOk_cases {k a : Int} (h : scOk k a) : (k = 0 ∧ a = 0) ∨ (k = 1 ∧ a = 0) ∨ (k = 2 ∧ a = 0) ∨ (k = 3 ∧ a = 0) ∨ (k = 4 ∧ a = 0) ∨ (k = 5 ∧ a = 0) ∨ (k = 5 ∧ a = 1) ∨ (k = 5 ∧ a = 2) ∨ (k = 5 ∧ a = 3) ∨ (k = 5 ∧ a = 4) ∨ (k = 5 ∧ a = 5) ∨ (k = 5 ∧ a = 6) ∨ (k = 5 ∧ a = 7) ∨ (k = 5 ∧ a = 8) ∨ (k = 5 ∧ a = 9) := by
  unfold scOk at h
  rcases h with ⟨h1, h2, rfl⟩ | ⟨rfl, h1, h2⟩
  · have h : k = 0 ∨ k = 1 ∨ k = 2 ∨ k = 3 ∨ k = 4 := by omega
    clear h1 h2
    rcases h with rfl | rfl | rfl | rfl | rfl <;> simp
  · have h : a = 0 ∨ a = 1 ∨ a = 2 ∨ a = 3 ∨ a = 4 ∨ a = 5 ∨ a = 6 ∨ a = 7 ∨ a = 8 ∨ a = 9 := by omega
    clear h1 h2
    rcases h with rfl | rfl | rfl | rfl | rfl | rfl | rfl | rfl | rfl | rfl <;> simp
theorem scopeS_ne (k a : Int) : scopeS k a ≠ [] ∧ (scopeS k a).length ≤ 10 := by
  unfold scopeS
  split
  · rename_i h
    rcases scOk_cases h with ⟨rfl, rfl⟩ | ⟨rfl, rfl⟩ | ⟨rfl, rfl⟩ | ⟨rfl, rfl⟩ | ⟨rfl, rfl⟩ | ⟨rfl, rfl⟩ | ⟨rfl, rfl⟩ | ⟨rfl, rfl⟩ | ⟨rfl, rfl⟩ | ⟨rfl, rfl⟩ | ⟨rfl, rfl⟩ | ⟨rfl, rfl⟩ | ⟨rfl, rfl⟩ | ⟨rfl, rfl⟩ | ⟨rfl, rfl⟩
    all_goals decide
  · simp

/-- Valid, of both -/
theorem bvalid_calls (k a : Int) (w : World) : Calls Tryd.prog 54 #[.agg #[.int .i64 k, .int .i64 a]] w fun e w' => e = .returned (.bool (decide (scOk k a))) ∧ Below w.heap.size w w' := by
  by_cases h0 : k < 0
  · have Hr : Hid (decide (scOk k a) = false) := decide_eq_false (by unfold scOk; omega)
    have hd : decide (k < 0) = true := decide_eq_true h0
    go_enter Tryd.func54, Tryd.ntmps54
    go_wp2
    go_ret
    exact ⟨by rw [Hr.out]; rfl, (Below.refl _ _).alloc (Nat.le_refl _) _⟩
  · by_cases h6 : 6 ≤ k
    · have Hr : Hid (decide (scOk k a) = false) := decide_eq_false (by unfold scOk; omega)
      have hd : decide (k < 0) = false := decide_eq_false h0
      have hd6 : decide (6 ≤ k) = true := decide_eq_true h6
      go_enter Tryd.func54, Tryd.ntmps54
      go_wp2
      go_ret
      exact ⟨by rw [Hr.out]; rfl, (Below.refl _ _).alloc (Nat.le_refl _) _⟩
    · have hd : decide (k < 0) = false := decide_eq_false h0
      have hd6 : decide (6 ≤ k) = false := decide_eq_false h6
      by_cases h5 : k = 5
      · subst h5
        by_cases ha0 : 0 ≤ a
        · have hda : decide (0 ≤ a) = true := decide_eq_true ha0
          by_cases ha : a < 10
          · have Hr : Hid (decide (scOk 5 a) = true) := decide_eq_true (by unfold scOk; omega)
            have hdb : decide (a < 10) = true := decide_eq_true ha
            go_enter Tryd.func54, Tryd.ntmps54
            go_wp2
            go_ret
            exact ⟨by rw [Hr.out]; rfl, (Below.refl _ _).alloc (Nat.le_refl _) _⟩
          · have Hr : Hid (decide (scOk 5 a) = false) := decide_eq_false (by unfold scOk; omega)
            have hdb : decide (a < 10) = false := decide_eq_false ha
            go_enter Tryd.func54, Tryd.ntmps54
            go_wp2
            go_ret
            exact ⟨by rw [Hr.out]; rfl, (Below.refl _ _).alloc (Nat.le_refl _) _⟩
        · have Hr : Hid (decide (scOk 5 a) = false) := decide_eq_false (by unfold scOk; omega)
          have hda : decide (0 ≤ a) = false := decide_eq_false ha0
          go_enter Tryd.func54, Tryd.ntmps54
          go_wp2
          go_ret
          exact ⟨by rw [Hr.out]; rfl, (Below.refl _ _).alloc (Nat.le_refl _) _⟩
      · have h5b : (k == 5) = false := by simpa using h5
        by_cases ha : a = 0
        · have Hr : Hid (decide (scOk k a) = true) := decide_eq_true (by unfold scOk; omega)
          have hda : (a == 0) = true := by simpa using ha
          clear ha
          go_enter Tryd.func54, Tryd.ntmps54
          go_wp2
          go_ret
          exact ⟨by rw [Hr.out]; rfl, (Below.refl _ _).alloc (Nat.le_refl _) _⟩
        · have Hr : Hid (decide (scOk k a) = false) := decide_eq_false (by unfold scOk; omega)
          have hda : (a == 0) = false := by simpa using ha
          go_enter Tryd.func54, Tryd.ntmps54
          go_wp2
          go_ret
          exact ⟨by rw [Hr.out]; rfl, (Below.refl _ _).alloc (Nat.le_refl _) _⟩
theorem rvalid_calls (k a : Int) (w : World) : Calls Tryd.prog 53 #[.agg #[.int .i64 k, .int .i64 a]] w fun e w' => e = .returned (.bool (decide (scOk k a))) ∧ Below w.heap.size w w' := by
  by_cases h5 : k = 5
  · subst h5
    by_cases ha0 : 0 ≤ a
    · have hda : decide (0 ≤ a) = true := decide_eq_true ha0
      by_cases ha : a ≤ 9
      · have Hr : Hid (decide (scOk 5 a) = true) := decide_eq_true (by unfold scOk; omega)
        have hdb : decide (a ≤ 9) = true := decide_eq_true ha
        go_enter Tryd.func53, Tryd.ntmps53
        go_wp2
        go_ret
        exact ⟨by rw [Hr.out]; rfl, (Below.refl _ _).alloc (Nat.le_refl _) _⟩
      · have Hr : Hid (decide (scOk 5 a) = false) := decide_eq_false (by unfold scOk; omega)
        have hdb : decide (a ≤ 9) = false := decide_eq_false ha
        go_enter Tryd.func53, Tryd.ntmps53
        go_wp2
        go_ret
        exact ⟨by rw [Hr.out]; rfl, (Below.refl _ _).alloc (Nat.le_refl _) _⟩
    · have Hr : Hid (decide (scOk 5 a) = false) := decide_eq_false (by unfold scOk; omega)
      have hda : decide (0 ≤ a) = false := decide_eq_false ha0
      go_enter Tryd.func53, Tryd.ntmps53
      go_wp2
      go_ret
      exact ⟨by rw [Hr.out]; rfl, (Below.refl _ _).alloc (Nat.le_refl _) _⟩
  · have h5b : (k == 5) = false := by simpa using h5
    by_cases hk0 : 0 ≤ k
    · have hdk : decide (0 ≤ k) = true := decide_eq_true hk0
      by_cases hk5 : k < 5
      · have hdl : decide (k < 5) = true := decide_eq_true hk5
        by_cases ha : a = 0
        · have Hr : Hid (decide (scOk k a) = true) := decide_eq_true (by unfold scOk; omega)
          have hda : (a == 0) = true := by simpa using ha
          clear ha
          go_enter Tryd.func53, Tryd.ntmps53
          go_wp2
          go_ret
          exact ⟨by rw [Hr.out]; rfl, (Below.refl _ _).alloc (Nat.le_refl _) _⟩
        · have Hr : Hid (decide (scOk k a) = false) := decide_eq_false (by unfold scOk; omega)
          have hda : (a == 0) = false := by simpa using ha
          go_enter Tryd.func53, Tryd.ntmps53
          go_wp2
          go_ret
          exact ⟨by rw [Hr.out]; rfl, (Below.refl _ _).alloc (Nat.le_refl _) _⟩
      · have hdl : decide (k < 5) = false := decide_eq_false hk5
        have Hr : Hid (decide (scOk k a) = false) := decide_eq_false (by unfold scOk; omega)
        go_enter Tryd.func53, Tryd.ntmps53
        go_wp2
        go_ret
        exact ⟨by rw [Hr.out]; rfl, (Below.refl _ _).alloc (Nat.le_refl _) _⟩
    · have hdk : decide (0 ≤ k) = false := decide_eq_false hk0
      have Hr : Hid (decide (scOk k a) = false) := decide_eq_false (by unfold scOk; omega)
      go_enter Tryd.func53, Tryd.ntmps53
      go_wp2
      go_ret
      exact ⟨by rw [Hr.out]; rfl, (Below.refl _ _).alloc (Nat.le_refl _) _⟩

end Go.Proofs.YtleajmblagddcaaDoor
