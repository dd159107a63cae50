/- Decimal digits, lowest first: plain lemmas; and how a []int of them reads. -/
import Derived.Test.YtleajmblagddcaaDoorA0
namespace Go.Proofs.YtleajmblagddcaaDoor
open Go.RowKit
set_option linter.unusedVariables false
set_option linter.unusedSimpArgs false

def dig (n : Nat) : List Nat := if n = 0 then [] else n % 10 :: dig (n / 10)
  termination_by n
  decreasing_by omega
def vald : List Nat → Nat
  | [] => 0
  | d :: r => d + 10 * vald r
def DLt (l : List Nat) : Prop := ∀ d ∈ l, d < 10
def trim : List Nat → List Nat
  | [] => []
  | d :: r => if d = 0 ∧ trim r = [] then [] else d :: trim r

theorem dig_zero : dig 0 = [] := by rw [dig, if_pos rfl]
theorem dig_pos {n : Nat} (h : 0 < n) : dig n = n % 10 :: dig (n / 10) := by rw [dig, if_neg (by omega)]
theorem vald_dig (n : Nat) : vald (dig n) = n := by
  induction n using Nat.strongRecOn with
  | ind n ih =>
    by_cases h : n = 0
    · subst h; rw [dig_zero]; rfl
    · rw [dig_pos (by omega), vald, ih (n / 10) (by omega)]; omega
theorem dlt_dig (n : Nat) : DLt (dig n) := by
  induction n using Nat.strongRecOn with
  | ind n ih =>
    by_cases h : n = 0
    · subst h; rw [dig_zero]; intro d hd; cases hd
    · rw [dig_pos (by omega)]
      intro d hd
      rcases List.mem_cons.1 hd with rfl | hd
      · omega
      · exact ih (n / 10) (by omega) d hd
theorem dig_eq_nil {n : Nat} : dig n = [] ↔ n = 0 := by
  constructor
  · intro h; have := vald_dig n; rw [h] at this; exact this.symm
  · rintro rfl; exact dig_zero
theorem trim_eq {l : List Nat} (h : DLt l) : trim l = dig (vald l) := by
  induction l with
  | nil => rw [vald, dig_zero]; rfl
  | cons d r ih =>
    have hd : d < 10 := h d List.mem_cons_self
    have ih := ih (fun x hx => h x (List.mem_cons_of_mem _ hx))
    rw [trim, vald]
    by_cases h0 : d = 0 ∧ vald r = 0
    · rw [if_pos ⟨h0.1, by rw [ih, dig_eq_nil]; exact h0.2⟩, h0.1, h0.2]; exact dig_zero.symm
    · rw [if_neg (fun h => h0 ⟨h.1, by have := h.2; rw [ih, dig_eq_nil] at this; exact this⟩), ih, dig_pos (n := d + 10 * vald r) (by omega), show (d + 10 * vald r) % 10 = d from by omega, show (d + 10 * vald r) / 10 = vald r from by omega]
theorem vald_app (a b : List Nat) : vald (a ++ b) = vald a + 10 ^ a.length * vald b := by
  induction a with
  | nil => simp [vald]
  | cons d r ih =>
    rw [List.cons_append, vald, vald, ih, List.length_cons, Nat.pow_succ, Nat.mul_add, Nat.mul_comm (10 ^ r.length) 10, Nat.mul_assoc]; omega
theorem vald_lt {l : List Nat} (h : DLt l) : vald l < 10 ^ l.length := by
  induction l with
  | nil => simp [vald]
  | cons d r ih =>
    have hd : d < 10 := h d List.mem_cons_self
    have ih := ih (fun x hx => h x (List.mem_cons_of_mem _ hx))
    rw [vald, List.length_cons, Nat.pow_succ]; omega
theorem dig_len_le {n k : Nat} (h : n < 10 ^ k) : (dig n).length ≤ k := by
  induction k generalizing n with
  | zero => have : n = 0 := by simpa using h
            subst this; rw [dig_zero]; exact Nat.le_refl _
  | succ k ih =>
    by_cases h0 : n = 0
    · subst h0; rw [dig_zero]; exact Nat.zero_le _
    · rw [dig_pos (by omega), List.length_cons]
      have := ih (n := n / 10) (by rw [Nat.pow_succ] at h; omega)
      omega
theorem dig_len_ge {n k : Nat} (h : 10 ^ k ≤ n) : k < (dig n).length := by
  induction k generalizing n with
  | zero =>
    have h1 : 1 ≤ n := by simpa using h
    rw [dig_pos h1, List.length_cons]; omega
  | succ k ih =>
    have hp : 0 < 10 ^ (k + 1) := Nat.pow_pos (by decide)
    rw [dig_pos (by omega), List.length_cons]
    have := ih (n := n / 10) (by rw [Nat.pow_succ] at h; omega)
    omega
theorem vald_take_succ (l : List Nat) (k : Nat) (hk : k < l.length) : vald (l.take (k + 1)) = vald (l.take k) + 10 ^ k * l[k] := by
  rw [List.take_add_one, List.getElem?_eq_getElem hk, vald_app, List.length_take, Nat.min_eq_left (by omega)]
  simp [vald]
theorem dig_lt_of_len {a b : Nat} (h : (dig a).length < (dig b).length) : a < b := by
  have h1 := vald_lt (dlt_dig a)
  rw [vald_dig] at h1
  rcases Nat.lt_or_ge b (10 ^ (dig a).length) with h2 | h2
  · have := dig_len_le h2; omega
  · omega
/-- from the top: equal above i, apart at i -/
theorem dig_cmp {x y : List Nat} (hx : DLt x) (hy : DLt y) (hl : x.length = y.length) (i : Nat) (hi : i < x.length) (hup : ∀ j (h1 : j < x.length) (h2 : j < y.length), i < j → x[j] = y[j])
    (hlt : x[i] < y[i]'(by omega)) : vald x < vald y := by
  have ex : x = x.take i ++ (x[i] :: x.drop (i + 1)) := by rw [← List.drop_eq_getElem_cons hi, List.take_append_drop]
  have ey : y = y.take i ++ (y[i]'(by omega) :: y.drop (i + 1)) := by rw [← List.drop_eq_getElem_cons (by omega), List.take_append_drop]
  have ed : x.drop (i + 1) = y.drop (i + 1) := by
    apply List.ext_getElem (by simp; omega)
    intro n h1 h2
    simp only [List.getElem_drop]
    exact hup _ _ _ (by omega)
  have h1 := vald_lt (l := x.take i) (fun d hd => hx d (List.mem_of_mem_take hd))
  rw [List.length_take, Nat.min_eq_left (by omega)] at h1
  rw [ex, ey, vald_app, vald_app, ed, List.length_take, List.length_take, Nat.min_eq_left (by omega), Nat.min_eq_left (by omega), vald, vald]
  have h2 : 10 ^ i * (x[i] + 10 * vald (y.drop (i + 1))) + 10 ^ i ≤ 10 ^ i * (y[i]'(by omega) + 10 * vald (y.drop (i + 1))) := by
    rw [← Nat.mul_succ]
    exact Nat.mul_le_mul_left _ (by omega)
  omega

def ints (l : List Nat) : List Value := l.map fun (d : Nat) => .int .i64 (d : Int)
theorem ints_len (l : List Nat) : (ints l).length = l.length := by simp [ints]
theorem ints_app (a b : List Nat) : ints (a ++ b) = ints a ++ ints b := by simp [ints]
theorem ints_one (l : List Nat) : ∀ u ∈ ints l, u.oneCell' = true := by
  intro u hu; simp only [ints, List.mem_map] at hu; obtain ⟨b, -, rfl⟩ := hu; rfl
def RdI (w : World) (v : Value) (l : List Nat) : Prop := Rd w 1 v l.length (ints l)
theorem RdI.slice {w : World} {v : Value} {l : List Nat} (h : RdI w v l) : ∃ A c, v = .slice A l.length c := by
  obtain ⟨-, A, c, h, -⟩ := h; exact ⟨A, c, h⟩
theorem RdI.of_own {w : World} {e : TypeId} {base : Nat} {v : Value} {l : List Nat} (h : w.ownsRow base e 1 v l.length (ints l)) : RdI w v l := Rd.of_own h
theorem RdI.one (w : World) (t : TypeId) (d : Nat) : RdI (w.alloc (.cells #[.int .i64 d] t)) (.slice (some ⟨w.heap.size, 0, none⟩) 1 1) [d] := by
  refine ⟨rfl, _, _, rfl, Nat.le_refl _, (fun h => by cases h), fun ad hA j u hu => ?_⟩
  cases hA
  match j, hu with
  | 0, hu => cases hu; rw [show (⟨w.heap.size, 0, none⟩ : Addr).add 0 = ⟨w.heap.size, 0, none⟩ from rfl]; simp only [World.cell?, blk_new]; rfl
theorem RdI.nil (w : World) : RdI w (.slice none 0 0) [] := ⟨rfl, none, 0, rfl, Nat.le_refl _, fun _ => rfl, fun ad h => by cases h⟩
theorem Rd.some {w : World} {size n : Nat} {v : Value} {xs : List Value} (h : Rd w size v n xs) (hn : xs ≠ []) :
    ∃ b off c, v = .slice (some ⟨b, off, none⟩) n c ∧ n ≤ c ∧ b < w.heap.size ∧ ∀ j u, xs[j]? = some u → w.cell? ⟨b, off + j, none⟩ = some u := by
  obtain ⟨h1, A, c, rfl, h2, h3, h4⟩ := h
  cases A with
  | none =>
    have := h3 rfl
    subst this
    exact absurd (List.eq_nil_of_length_eq_zero (by simpa using h1)) hn
  | some ad =>
    have h4 := h4 ad rfl
    obtain ⟨x, r, rfl⟩ := List.exists_cons_of_ne_nil hn
    have h0 := h4 0 x rfl
    obtain ⟨b, off, sp⟩ := ad
    have hsp : sp = none := by
      cases sp with
      | none => rfl
      | some q => simp [Addr.add, World.cell?] at h0; split at h0 <;> simp at h0
    subst hsp
    refine ⟨b, off, c, rfl, h2, ?_, fun j u hu => ?_⟩
    · exact World.block_lt_of_cell? w (a := ⟨b, off, none⟩) h0
    · have := h4 j u hu
      have e : (⟨b, off, none⟩ : Addr).add j = ⟨b, off + j, none⟩ := by unfold Addr.add; split <;> simp_all
      rw [e] at this; exact this
theorem RdI.some {w : World} {v : Value} {l : List Nat} (h : RdI w v l) (hn : l ≠ []) :
    ∃ b off c, v = .slice (some ⟨b, off, none⟩) l.length c ∧ l.length ≤ c ∧ b < w.heap.size ∧ ∀ k (hk : k < l.length), w.cell? ⟨b, off + k, none⟩ = some (.int .i64 (l[k] : Nat)) := by
  obtain ⟨b, off, c, hv, hc, hb, hcell⟩ := Rd.some h (by intro e; exact hn (by simpa [ints] using e))
  exact ⟨b, off, c, hv, hc, hb, fun k hk => hcell k _ (by simp [ints, hk])⟩

theorem drewB {B : Nat} {w w1 : World} (h : Below B w w1) (n : Nat) : Below B w (w1.drewN n) := ⟨h.os, h.tape, h.output, h.size, h.block⟩
theorem infoInt : (Tryd.prog.info? 3).map (fun i => (i.zero, i.size, i.bytes)) = some (some (.int .i64 0), 1, 8) := by kernel_rfl

/-- a Long handed back -/
def LPost (w : World) (ds : List Nat) : Ending → World → Prop := fun e w' => ∃ sv, e = .returned (.agg #[sv]) ∧ RdI w' sv ds ∧ (∀ k, sv.ownBlock = some k → w.heap.size ≤ k) ∧ Below w.heap.size w w'

def LgLoop (w : World) (v : Nat) (v0 v3 : Value) (w1 : World) : Prop :=
  ∃ (done : List Nat) (x : Nat), v0 = .int .i64 x ∧ x ≤ v ∧ dig v = done ++ dig x ∧ w1.heap[w.heap.size]? = some (.cells #[.slice none 0 0] 91 (0, 0)) ∧ w1.ownsRow 0 3 1 v3 done.length (ints done) ∧ (∀ k, v3.ownBlock = some k → w.heap.size ≤ k) ∧ Below w.heap.size w w1

set_option maxHeartbeats 1600000 in
theorem long_calls (w : World) (v : Nat) (hv : v ≤ 9223372036854775807) : Calls Tryd.prog 34 #[.int .i64 v] w (LPost w (dig v)) := by
  have hdl : (dig v).length ≤ 19 := dig_len_le (Nat.lt_of_le_of_lt hv (by decide))
  go_enter Tryd.func34, Tryd.ntmps34
  go_wp2
  go_loopw [0, 3] (fun v0 v3 w1 => LgLoop w v v0 v3 w1) (fun v0 _ _ => (intOf v0).toNat)
  case atStart => exact ⟨[], v, rfl, Nat.le_refl _, rfl, blk_new _ _, World.ownsRow_nil _ _ _ _, (fun k hk => by cases hk), (Below.refl _ _).alloc (Nat.le_refl _) _⟩
  case round =>
    obtain ⟨done, x, rfl, hxv, hf, hcell, hown, hnew, hb⟩ := hrel
    have Hf := Lib.hid hf
    clear hf
    obtain ⟨A, c, rfl⟩ := own_slice hown
    have hl := congrArg List.length Hf.out
    rw [List.length_append] at hl
    have hne := own_ne_blk hown hcell (by decide)
    by_cases h : 0 < x
    · have hlt : decide ((0 : Int) < x) = true := by simp; omega
      have hl2 : done.length + 1 ≤ 20 := by omega
      clear hl
      have hm : (x : Int) % 10 = ((x % 10 : Nat) : Int) := by omega
      have Hm := Lib.hid hm
      clear hm
      have Hnew := Lib.hid hnew
      clear hnew
      go_wp2_with (at_builtin; refine wpList_append2 _ rfl (.tmp 6) (.tmp 9) 89 rfl 3 (.int .i64 0) 1 8 Tryd.underlying89 infoInt rfl (by decide) _ done.length (ints done) rfl (hown.alloc _) _ 1 (ints [x % 10]) rfl ?c1 (ints_one _) ?c2 ?c3 ?_)
      case c1 => rw [Hm.out]; exact RdI.one _ _ _
      case c2 => unfold maxLen; omega
      case c3 => omega
      intro v' w2 ho2 hg2 hn2 _
      have Hk : Hid (LgLoop w v (.int .i64 ((x / 10 : Nat) : Int)) v' w2) := by
        refine ⟨done ++ [x % 10], x / 10, rfl, by omega, ?_, ?_, ?_, ?_, ?_⟩
        · rw [Hf.out, dig_pos h]; simp
        · exact blk_grown (blk_alloc hcell _) hg2 hne
        · rw [ints_app, List.length_append]; exact ho2
        · intro k hk
          rcases hn2 k hk with h1 | h1
          · exact Hnew.out k h1
          · have := hb.size; have h2 : wr.heap.size + 1 ≤ k := by simpa using h1
            omega
        · refine (hb.alloc hb.size _).grown hg2 ?_ ?_
          · have := hb.size; simp; omega
          · intro k hk; exact Hnew.out k hk
      clear ho2 hg2 hn2 hown hb hcell
      have hdiv : ((x / 10 : Nat) : Int) = (x : Int) / 10 := by omega
      rw [hdiv] at Hk
      clear hdiv
      go_wp2
      go_roundw
      case rel => exact Hk.out
      case measure => simp [intOf]; omega
    · have hlt : decide ((0 : Int) < x) = false := by simp; omega
      obtain rfl : x = 0 := by omega
      have hd : dig v = done := by rw [Hf.out, dig_zero, List.append_nil]
      have Hd := Lib.hid hd
      clear hd hl
      have hc1 : wr.cell? ⟨w.heap.size, 0, none⟩ = some (.slice none 0 0) := by simp [World.cell?, hcell]
      have hf1 : wr.frozen? ⟨w.heap.size, 0, none⟩ = false := by simp [World.frozen?, hcell]
      have Hnew := Lib.hid hnew
      have Hown := Lib.hid hown
      clear hnew hown
      go_wp2
      refine bodyPost_ret (v := .agg #[.slice A done.length c]) (by simp [results, Tryd.results34, go_sem, hc1]) rfl ⟨_, rfl, ?_, Hnew.out, ?_⟩
      · rw [Hd.out]
        exact (RdI.of_own Hown.out).fr ((Fr.refl (Only w.heap.size) wr).setCell (p := ⟨w.heap.size, 0, none⟩) (.inl rfl) _) (fun k hk e => hne (by rw [hk, show k = w.heap.size from e]))
      · exact hb.setCell (p := ⟨w.heap.size, 0, none⟩) (Nat.le_refl _) _
end Go.Proofs.YtleajmblagddcaaDoor
