/- ref03's by. -/
import Derived.Test.YtleajmblagddcaaDoorD4
import Derived.Deep.RegionLaw
namespace Go.Proofs.YtleajmblagddcaaDoor
open Go.RowKit
set_option linter.unusedVariables false
set_option linter.unusedSimpArgs false

theorem dig_len_mono {a b : Nat} (h : a ≤ b) : (dig a).length ≤ (dig b).length := by
  rcases Nat.lt_or_ge (dig b).length (dig a).length with h1 | h1
  · have := dig_lt_of_len h1; omega
  · exact h1
theorem dig_lt_pow (b : Nat) : b < 10 ^ (dig b).length := by
  have := vald_lt (dlt_dig b); rwa [vald_dig] at this

def DB (w : World) (va vb : Value) (qs : List Nat) (L : Nat) (lv : Value) (w1 : World) : Prop :=
  w1.heap[w.heap.size]? = some (.cells #[va] 91 (0, 0)) ∧ w1.heap[w.heap.size + 1]? = some (.cells #[vb] 91 (0, 0)) ∧
  w1.heap[w.heap.size + 1 + 1]? = some (.cells #[.slice none 0 0] 91 (0, 0)) ∧ w1.heap[w.heap.size + 1 + 1 + 1]? = some (.cells #[.slice none 0 0] 91 (0, 0)) ∧
  IBlk w1 (w.heap.size + 1 + 1 + 1 + 1) qs ∧ w1.heap[w.heap.size + 1 + 1 + 1 + 1 + 1]? = some (.cells #[lv] 91 (0, 0)) ∧
  RdI w1 lv (dig L) ∧ (∀ k, lv.ownBlock = some k → w.heap.size + 1 + 1 + 1 + 1 + 1 < k) ∧ Below w.heap.size w w1

theorem DB.below {w w1 w2 : World} {va vb lv : Value} {qs : List Nat} {L : Nat} (h : DB w va vb qs L lv w1) (hb : Below w1.heap.size w1 w2) : DB w va vb qs L lv w2 := by
  obtain ⟨h0, h1, h2, h3, h4, h5, h6, h7, h8⟩ := h
  exact ⟨blk_below h0 hb, blk_below h1 hb, blk_below h2 hb, blk_below h3 hb, h4.below hb, blk_below h5 hb, h6.below hb, h7, h8.trans (hb.mono h8.size)⟩
theorem DB.left {w w1 : World} {va vb lv lv' : Value} {qs : List Nat} {L L' : Nat} (h : DB w va vb qs L lv w1) (hr : RdI w1 lv' (dig L')) (hn : ∀ k, lv'.ownBlock = some k → w.heap.size + 1 + 1 + 1 + 1 + 1 < k) :
    DB w va vb qs L' lv' (w1.setCell ⟨w.heap.size + 1 + 1 + 1 + 1 + 1, 0, none⟩ lv') := by
  obtain ⟨h0, h1, h2, h3, h4, h5, h6, h7, h8⟩ := h
  refine ⟨blk_far h0 ?_ _, blk_far h1 ?_ _, blk_far h2 ?_ _, blk_far h3 ?_ _, blk_far h4 ?_ _, by simpa using blk_setCell h5 0 lv', hr.fr ((Fr.refl (Only (w.heap.size + 1 + 1 + 1 + 1 + 1)) w1).setCell (p := ⟨w.heap.size + 1 + 1 + 1 + 1 + 1, 0, none⟩) (.inl rfl) lv') (fun k hk e => ?_), hn, h8.setCell ?_ _⟩
  · show w.heap.size ≠ w.heap.size + 1 + 1 + 1 + 1 + 1; omega
  · show w.heap.size + 1 ≠ w.heap.size + 1 + 1 + 1 + 1 + 1; omega
  · show w.heap.size + 1 + 1 ≠ w.heap.size + 1 + 1 + 1 + 1 + 1; omega
  · show w.heap.size + 1 + 1 + 1 ≠ w.heap.size + 1 + 1 + 1 + 1 + 1; omega
  · show w.heap.size + 1 + 1 + 1 + 1 ≠ w.heap.size + 1 + 1 + 1 + 1 + 1; omega
  · have h1 := hn k hk
    have h2 : k = w.heap.size + 1 + 1 + 1 + 1 + 1 := e
    omega
  · show w.heap.size ≤ w.heap.size + 1 + 1 + 1 + 1 + 1; omega
theorem DB.q {w w1 : World} {va vb lv : Value} {qs : List Nat} {L : Nat} (h : DB w va vb qs L lv w1) (i d : Nat) : DB w va vb (qs.set i d) L lv (w1.setCell ⟨w.heap.size + 1 + 1 + 1 + 1, i, none⟩ (.int .i64 (d : Int))) := by
  obtain ⟨h0, h1, h2, h3, h4, h5, h6, h7, h8⟩ := h
  refine ⟨blk_far h0 ?_ _, blk_far h1 ?_ _, blk_far h2 ?_ _, blk_far h3 ?_ _, h4.set i d, blk_far h5 ?_ _, h6.fr ((Fr.refl (Only (w.heap.size + 1 + 1 + 1 + 1)) w1).setCell (p := ⟨w.heap.size + 1 + 1 + 1 + 1, i, none⟩) (.inl rfl) _) (fun k hk e => ?_), h7, h8.setCell ?_ _⟩
  · show w.heap.size ≠ w.heap.size + 1 + 1 + 1 + 1; omega
  · show w.heap.size + 1 ≠ w.heap.size + 1 + 1 + 1 + 1; omega
  · show w.heap.size + 1 + 1 ≠ w.heap.size + 1 + 1 + 1 + 1; omega
  · show w.heap.size + 1 + 1 + 1 ≠ w.heap.size + 1 + 1 + 1 + 1; omega
  · show w.heap.size + 1 + 1 + 1 + 1 + 1 ≠ w.heap.size + 1 + 1 + 1 + 1; omega
  · have h1 := h7 k hk
    have h2 : k = w.heap.size + 1 + 1 + 1 + 1 := e
    omega
  · show w.heap.size ≤ w.heap.size + 1 + 1 + 1 + 1; omega

def DOut (w : World) (x : List Nat) (b : Nat) (va vb v8 : Value) (w1 : World) : Prop := ∃ (k : Nat) (Q : List Nat) (L : Nat) (lv : Value), k ≤ x.length ∧ v8 = .int .i64 ((k : Int) - 1) ∧ Q.length = x.length ∧ DLt Q ∧
  (∀ j (h : j < Q.length), j < k → Q[j] = 0) ∧ vald (x.drop k) = vald (Q.drop k) * b + L ∧ L < b ∧ DB w va vb Q L lv w1
def DIn (w : World) (Q : List Nat) (i T b : Nat) (va vb : Value) (w1 : World) : Prop := ∃ (t M : Nat) (lv : Value), M + t * b = T ∧ DB w va vb (Q.set i t) M lv w1
def LPost2 (w : World) (ds es : List Nat) : Ending → World → Prop := fun e w' => ∃ sv su, e = .returned (.tuple #[.agg #[sv], .agg #[su]]) ∧ RdI w' sv ds ∧ RdI w' su es ∧ (∀ k, sv.ownBlock = some k → w.heap.size ≤ k) ∧ (∀ k, su.ownBlock = some k → w.heap.size ≤ k) ∧ Below w.heap.size w w'

theorem rdI_cons {w : World} {base n p : Nat} {v : Value} {e : TypeId} {l : List Nat} (h : w.ownsRow base e 1 v n (ints [p] ++ ints l)) (hn : n = l.length + 1) : RdI w v (p :: l) := by
  subst hn; exact RdI.of_own h
theorem trim_cons (p L : Nat) (hp : p < 10) : trim (p :: dig L) = dig (p + 10 * L) := by
  rw [trim_eq (fun d hd => by
    rcases List.mem_cons.1 hd with rfl | h
    · exact hp
    · exact dlt_dig L d h), vald, vald_dig]

theorem drop_set_self {l : List Nat} {i t : Nat} (h : i < l.length) : (l.set i t).drop i = t :: l.drop (i + 1) := by
  have h2 : i < (l.set i t).length := by simpa using h
  rw [List.drop_eq_getElem_cons h2, List.getElem_set_self]
  congr 1
  rw [List.drop_set_of_lt (by omega)]
theorem bsum {p V L t M b : Nat} (hT : M + t * b = p + 10 * L) : p + 10 * (V * b + L) = (t + 10 * V) * b + M := by
  rw [Nat.add_mul, Nat.mul_add, Nat.mul_assoc]; omega
theorem t_lt {T M t b : Nat} (hT : M + t * b = T) (h : T < 10 * b) : t < 10 := Nat.lt_of_mul_lt_mul_right (a := b) (by omega)
theorem t_lt2 {T M t b : Nat} (hT : M + t * b = T) (h : T < 10 * b) (hM : b ≤ M) : t + 1 < 10 := Nat.lt_of_mul_lt_mul_right (a := b) (by rw [Nat.add_mul]; omega)

theorem DB.post {w w1 : World} {va vb sv su : Value} {qs ds : List Nat} {L n m : Nat} (h : DB w va vb qs L su w1) (hr : RdI w1 sv ds) (hs : ∀ k, sv.ownBlock = some k → (Value.slice (some ⟨w.heap.size + 1 + 1 + 1 + 1, 0, none⟩) n m).ownBlock = some k) :
    LPost2 w ds (dig L) (.returned (.tuple #[.agg #[sv], .agg #[su]])) ((w1.setCell ⟨w.heap.size + 1 + 1, 0, none⟩ sv).setCell ⟨w.heap.size + 1 + 1 + 1, 0, none⟩ su) ∧
    ((w1.setCell ⟨w.heap.size + 1 + 1, 0, none⟩ sv).setCell ⟨w.heap.size + 1 + 1 + 1, 0, none⟩ su).cell? ⟨w.heap.size + 1 + 1, 0, none⟩ = some sv ∧
    ((w1.setCell ⟨w.heap.size + 1 + 1, 0, none⟩ sv).setCell ⟨w.heap.size + 1 + 1 + 1, 0, none⟩ su).cell? ⟨w.heap.size + 1 + 1 + 1, 0, none⟩ = some su := by
  obtain ⟨h0, h1, h2, h3, h4, h5, h6, h7, h8⟩ := h
  have hF : Fr (fun k => k = w.heap.size + 1 + 1 ∨ k = w.heap.size + 1 + 1 + 1) w1 ((w1.setCell ⟨w.heap.size + 1 + 1, 0, none⟩ sv).setCell ⟨w.heap.size + 1 + 1 + 1, 0, none⟩ su) :=
    ((Fr.refl _ w1).setCell (p := ⟨w.heap.size + 1 + 1, 0, none⟩) (.inl (.inl rfl)) sv).setCell (p := ⟨w.heap.size + 1 + 1 + 1, 0, none⟩) (.inl (.inr rfl)) su
  have hsv : ∀ k, sv.ownBlock = some k → k = w.heap.size + 1 + 1 + 1 + 1 := fun k hk => by
    have := hs k hk; simp [Value.ownBlock] at this; exact this.symm
  have g2 := blk_setCell h2 0 sv
  have g3 := blk_far h3 (p := ⟨w.heap.size + 1 + 1, 0, none⟩) (by show w.heap.size + 1 + 1 + 1 ≠ w.heap.size + 1 + 1; omega) sv
  refine ⟨⟨sv, su, rfl, hr.fr hF (fun k hk e => ?_), h6.fr hF (fun k hk e => ?_), fun k hk => ?_, fun k hk => ?_, (h8.setCell (p := ⟨w.heap.size + 1 + 1, 0, none⟩) (by show _ ≤ _; simp; omega) _).setCell (by show _ ≤ _; simp; omega) _⟩, ?_, ?_⟩
  · have := hsv k hk; have e : k = w.heap.size + 1 + 1 ∨ k = w.heap.size + 1 + 1 + 1 := e; omega
  · have := h7 k hk; have e : k = w.heap.size + 1 + 1 ∨ k = w.heap.size + 1 + 1 + 1 := e; omega
  · have := hsv k hk; omega
  · have := h7 k hk; omega
  · exact (cells1 (blk_far g2 (by show w.heap.size + 1 + 1 ≠ w.heap.size + 1 + 1 + 1; omega) su)).1
  · exact (cells1 (blk_setCell g3 0 su)).1

set_option maxRecDepth 100000 in
set_option maxHeartbeats 3200000 in
theorem by_calls (w : World) (va vb : Value) (a b : Nat) (hb0 : 0 < b) (ha : RdI w va (dig a)) (hb : RdI w vb (dig b)) (hla : (dig a).length ≤ 1048000) (hlb : (dig b).length ≤ 1048000) :
    Calls Tryd.prog 37 #[.agg #[va], .agg #[vb]] w (LPost2 w (dig (a / b)) (dig (a % b))) := by
  have hda := dlt_dig a
  have Hva : Hid (vald (dig a) = a) := vald_dig a
  generalize dig a = x at ha hda hla Hva
  obtain ⟨A, c0, rfl⟩ := ha.slice
  obtain ⟨A2, c2, rfl⟩ := hb.slice
  have hmk := run_make_row' (P := Tryd.prog) 89 3 (.int .i64 0) 8 Tryd.underlying89 infoInt rfl .i64 .i64 x.length (by omega) (by omega)
  have Hst : ∀ W1 W2 : World, W1 = ((((w.alloc (.cells #[.slice A x.length c0] 91)).alloc (.cells #[.slice A2 (dig b).length c2] 91)).alloc (.cells #[.slice none 0 0] 91)).alloc (.cells #[.slice none 0 0] 91)) →
      W2 = (W1.alloc (.cells (madeCells #[.int .i64 0] x.length) 3)).alloc (.cells #[.slice none 0 0] 91) → Hid (DOut w x b (.slice A x.length c0) (.slice A2 (dig b).length c2) (.int .i64 ((x.length : Int) - 1)) W2) := by
    intro W1 W2 h1 h2
    have s1 : W1.heap.size = w.heap.size + 1 + 1 + 1 + 1 := by rw [h1]; simp
    have b0 : W1.heap[w.heap.size]? = some (.cells #[.slice A x.length c0] 91 (0, 0)) := by rw [h1]; exact blk_alloc (blk_alloc (blk_alloc (blk_new _ _) _) _) _
    have b1 : W1.heap[w.heap.size + 1]? = some (.cells #[.slice A2 (dig b).length c2] 91 (0, 0)) := by rw [h1]; exact blk_alloc (blk_alloc (by simpa using blk_new (w.alloc (.cells #[.slice A x.length c0] 91)) _) _) _
    have b2 : W1.heap[w.heap.size + 1 + 1]? = some (.cells #[.slice none 0 0] 91 (0, 0)) := by rw [h1]; exact blk_alloc (by simpa using blk_new ((w.alloc (.cells #[.slice A x.length c0] 91)).alloc (.cells #[.slice A2 (dig b).length c2] 91)) _) _
    have b3 : W1.heap[w.heap.size + 1 + 1 + 1]? = some (.cells #[.slice none 0 0] 91 (0, 0)) := by rw [h1]; simpa using blk_new (((w.alloc (.cells #[.slice A x.length c0] 91)).alloc (.cells #[.slice A2 (dig b).length c2] 91)).alloc (.cells #[.slice none 0 0] 91)) _
    have bB : Below w.heap.size w W1 := by rw [h1]; exact (((((Below.refl _ _).alloc (Nat.le_refl _) _).alloc (by simp) _).alloc (by simp; omega) _).alloc (by simp; omega) _)
    have b4 := IBlk.new W1 x.length
    rw [s1] at b4
    have b5 := blk_new (W1.alloc (.cells (madeCells #[.int .i64 0] x.length) 3)) (.cells #[.slice none 0 0] 91)
    have s2 : (W1.alloc (.cells (madeCells #[.int .i64 0] x.length) 3)).heap.size = w.heap.size + 1 + 1 + 1 + 1 + 1 := by simp [s1]
    rw [s2] at b5
    have hDB : DB w (.slice A x.length c0) (.slice A2 (dig b).length c2) (List.replicate x.length 0) 0 (.slice none 0 0) W2 := by
      rw [h2]
      refine ⟨blk_alloc (blk_alloc b0 _) _, blk_alloc (blk_alloc b1 _) _, blk_alloc (blk_alloc b2 _) _, blk_alloc (blk_alloc b3 _) _, blk_alloc b4 _, b5, by rw [dig_zero]; exact RdI.nil _, (fun k hk => by cases hk), (bB.alloc (by omega) _).alloc (by omega) _⟩
    refine ⟨x.length, List.replicate x.length 0, 0, .slice none 0 0, Nat.le_refl _, rfl, by simp, (fun d hd => by have := (List.mem_replicate.1 hd).2; omega), fun j h _ => by simp, by simp [vald], hb0, hDB⟩
  have HB0 := Lib.hid hb0
  go_enter Tryd.func37, Tryd.ntmps37
  go_wp2
  go_loopw [8] (fun v8 w1 => DOut w x b (.slice A x.length c0) (.slice A2 (dig b).length c2) v8 w1) (fun i _ => (intOf i + 1).toNat)
  case atStart => exact (Hst _ _ rfl rfl).out
  case round =>
    clear Hst hmk
    obtain ⟨k, Q, L, lv, hk, rfl, hql, hdq, hz, hval, hL, hDB⟩ := hrel
    have Hz := Lib.hid hz
    have Hval := Lib.hid hval
    have Hql := Lib.hid hql
    have HDB := Lib.hid hDB
    obtain ⟨A4, c4, rfl⟩ := hDB.2.2.2.2.2.2.1.slice
    have hLlen := dig_len_mono (Nat.le_of_lt hL)
    obtain ⟨d0, -⟩ := cells1 hDB.1
    obtain ⟨d1, -⟩ := cells1 hDB.2.1
    obtain ⟨d5, -⟩ := cells1 hDB.2.2.2.2.2.1
    have hB := hDB.2.2.2.2.2.2.2.2
    have hrl := hDB.2.2.2.2.2.2.1
    have hs6 := blk_lt hDB.2.2.2.2.2.1
    clear hz hval hql hDB
    by_cases hk0 : 0 < k
    · obtain ⟨i, rfl⟩ : ∃ m, k = m + 1 := ⟨k - 1, by omega⟩
      rw [show ((i + 1 : Nat) : Int) - 1 = (i : Int) from by omega]
      have hix : i < x.length := by omega
      obtain ⟨bx, ox, kx, hv, hkx, hbbx, hcx⟩ := ha.some (by intro e; rw [e] at hix; simp at hix)
      cases hv
      have q1 := (hB.cell (p := ⟨bx, ox + i, none⟩) hbbx).trans (hcx i hix)
      have hp10 := hda _ (List.getElem_mem hix)
      have HX : Hid (vald (x.drop i) = x[i] + 10 * vald (x.drop (i + 1))) := by
        show _ = _
        rw [List.drop_eq_getElem_cons hix]; rfl
      clear hcx
      generalize x[i] = p at q1 hp10 HX
      have hi0 : (0 : Int) ≤ i := by omega
      have HTL : Hid ((dig (p + 10 * L)).length ≤ (dig b).length + 1) := by
        show _ ≤ _
        apply dig_len_le
        have := dig_lt_pow b
        rw [Nat.pow_succ]; omega
      have HTb : Hid (p + 10 * L < 10 * b) := by show _ < _; omega
      have HL := Lib.hid hL
      clear hk0
      have HB := Lib.hid hB
      clear hB hL
      go_wp2_with (at_builtin; refine wpList_append2 _ rfl (.tmp 23) (.tmp 29) 89 rfl 3 (.int .i64 0) 1 8 Tryd.underlying89 infoInt rfl (by decide) _ 0 (ints []) rfl (World.ownsRow_nil _ 0 _ _) _ 1 (ints [p]) rfl ?c1 (ints_one _) ?c2 ?c3 ?_)
      case c1 => exact RdI.one _ _ _
      case c2 => unfold maxLen; omega
      case c3 => omega
      intro v1 w1 ho1 hg1 hn1 _
      have hW1 : Below wr.heap.size wr w1 := ((Below.refl wr.heap.size wr).alloc (Nat.le_refl _) _).grown hg1 (by simp) (fun k hk => by cases hk)
      obtain ⟨A5, c5, rfl⟩ := own_slice ho1
      have hd5 := (hW1.cell (p := ⟨w.heap.size + 1 + 1 + 1 + 1 + 1, 0, none⟩) hs6).trans d5
      have hrl1 := hrl.below hW1
      have hnw5 : ∀ k, (Value.slice A5 1 c5).ownBlock = some k → wr.heap.size ≤ k := fun k hk => by
        rcases hn1 k hk with h | h
        · cases h
        · omega
      have Hnw5 := Lib.hid hnw5
      clear hnw5 hn1 hg1
      go_wp2_with (at_builtin; refine wpList_append2 _ rfl (.tmp 31) (.tmp 33) 89 rfl 3 (.int .i64 0) 1 8 Tryd.underlying89 infoInt rfl (by decide) _ 1 (ints [p]) rfl ho1 _ (dig L).length (ints (dig L)) rfl ?c1 (ints_one _) ?c2 ?c3 ?_)
      case c1 => exact hrl1
      case c2 => unfold maxLen; omega
      case c3 => omega
      intro v2 w2 ho2 hg2 hn2 _
      have hW2 : Below wr.heap.size wr w2 := hW1.grown hg2 hW1.size (fun k hk => Hnw5.out k hk)
      have hr9 := rdI_cons ho2 (by omega)
      have hnw2 : ∀ k, v2.ownBlock = some k → wr.heap.size ≤ k := fun k hk => by
        rcases hn2 k hk with h | h
        · exact Hnw5.out k h
        · have := hW1.size; omega
      have Hnw2 := Lib.hid hnw2
      have HDB2 := Lib.hid (HDB.out.below hW2)
      have hs2 := hW2.size
      obtain ⟨A6, c6, rfl⟩ := hr9.slice
      have H9 := Lib.hid hr9
      clear hnw2 hn2 hg2 ho2 ho1 hrl1 hr9 hW1 hd5
      go_wp2_with fail
      refine (cut_calls _ _ _ H9.out (by simp; omega)).mono ?_
      rintro e w3 ⟨sv, rfl, hr, hsv, hw3⟩
      have HT := trim_cons p L hp10
      rw [HT] at hr
      clear HT
      obtain ⟨A7, c7, rfl⟩ := hr.slice
      have HDB3 := Lib.hid (HDB2.out.below hw3)
      obtain ⟨e5, f5⟩ := cells1 HDB3.out.2.2.2.2.2.1
      have Hst : Hid (DIn w Q i (p + 10 * L) b (.slice (some ⟨bx, ox, none⟩) x.length c0) (.slice A2 (dig b).length c2) (w3.setCell ⟨w.heap.size + 1 + 1 + 1 + 1 + 1, 0, none⟩ (.slice A7 (dig (p + 10 * L)).length c7))) := by
        refine ⟨0, p + 10 * L, .slice A7 (dig (p + 10 * L)).length c7, by simp, ?_⟩
        have hQ : Q.set i 0 = Q := by
          apply List.ext_getElem (by simp)
          intro n h1 h2
          rw [List.getElem_set]
          by_cases e : i = n
          · subst e; rw [if_pos rfl]; exact (Hz.out i h2 (by omega)).symm
          · rw [if_neg e]
        rw [hQ]
        refine HDB3.out.left hr (fun k hk => ?_)
        have := Hnw2.out k (hsv k hk)
        omega
      clear hr hsv hw3
      go_wp2
      clear HDB3 HDB2 HDB e5 f5 H9 Hnw2 Hnw5 d0 d1 d5 q1 hrl hs2 hs6
      go_loopw [] (fun w1 => DIn w Q i (p + 10 * L) b (.slice (some ⟨bx, ox, none⟩) x.length c0) (.slice A2 (dig b).length c2) w1) (fun w1 => 10 - (intOf ((w1.cell? ⟨w.heap.size + 1 + 1 + 1 + 1, i, none⟩).getD (.int .i64 0))).toNat)
      case atStart => exact Hst.out
      case round =>
        clear Hst
        obtain ⟨t, M, lv, hT, hDB⟩ := hrel
        have hM : M ≤ p + 10 * L := by rw [← hT]; exact Nat.le_add_right _ _
        have hMl := dig_len_mono hM
        have HMl : Hid ((dig M).length ≤ 1048001) := by have := HTL.out; show _ ≤ _; omega
        clear hMl hM
        obtain ⟨A4, c4, rfl⟩ := hDB.2.2.2.2.2.2.1.slice
        obtain ⟨d1, -⟩ := cells1 hDB.2.1
        obtain ⟨d5, -⟩ := cells1 hDB.2.2.2.2.2.1
        have HrM := Lib.hid hDB.2.2.2.2.2.2.1
        have HrB := Lib.hid (hb.below hDB.2.2.2.2.2.2.2.2)
        have HT := Lib.hid hT
        have HDB := Lib.hid hDB
        clear hT hDB
        go_wp2_with fail
        refine (less_calls _ _ _ M b HrM.out HrB.out (by have := HMl.out; omega) (by omega)).mono ?_
        rintro e w4 ⟨rfl, hw4⟩
        have HDB4 := Lib.hid (HDB.out.below hw4)
        have HrM4 := Lib.hid (HrM.out.below hw4)
        have HrB4 := Lib.hid (HrB.out.below hw4)
        obtain ⟨d1, -⟩ := cells1 HDB4.out.2.1
        obtain ⟨d5, -⟩ := cells1 HDB4.out.2.2.2.2.2.1
        clear HrM HrB hw4
        by_cases hlt : M < b
        · have Hnext : Hid (DOut w x b (.slice (some ⟨bx, ox, none⟩) x.length c0) (.slice A2 (dig b).length c2) (.int .i64 ((i : Int) - 1)) w4) := by
            have hiQ : i < Q.length := by rw [Hql.out]; omega
            refine ⟨i, Q.set i t, M, .slice A4 (dig M).length c4, by omega, rfl, by simp [Hql.out], ?_, ?_, ?_, hlt, HDB4.out⟩
            · intro d hd
              rcases List.mem_or_eq_of_mem_set hd with h | rfl
              · exact hdq d h
              · exact t_lt HT.out HTb.out
            · intro j h hj
              rw [List.getElem_set_ne (by omega)]
              exact Hz.out j (by simpa using h) (by omega)
            · rw [drop_set_self hiQ, HX.out, Hval.out]; exact bsum HT.out
          clear HDB HDB4
          go_wp2
          go_roundw
          case rel => exact Hnext.out
          case measure => first | (simp [intOf]; done) | (simp [intOf]; omega)
        · have hbM : b ≤ M := by omega
          go_wp2_with fail
          refine (minus_calls _ _ _ M b hbM HrM4.out HrB4.out (by have := HMl.out; omega) (by omega)).mono ?_
          rintro e w5 ⟨su, rfl, hr, hsu, hw5⟩
          obtain ⟨A8, c8, rfl⟩ := hr.slice
          have HDB5 := Lib.hid (HDB4.out.below hw5)
          obtain ⟨e5, f5⟩ := cells1 HDB5.out.2.2.2.2.2.1
          have HDB6 := Lib.hid (HDB5.out.left (L' := M - b) hr (fun k hk => by
            have h1 := hsu k hk
            have h2 := blk_lt HDB4.out.2.2.2.2.2.1
            omega))
          have hiQ : i < (Q.set i t).length := by rw [List.length_set, Hql.out]; omega
          have z1 := HDB6.out.2.2.2.2.1.cell i hiQ
          have z2 := HDB6.out.2.2.2.2.1.frozen i
          rw [List.getElem_set_self] at z1
          have ht := t_lt2 HT.out HTb.out hbM
          have Hz3 : Hid (DIn w Q i (p + 10 * L) b (.slice (some ⟨bx, ox, none⟩) x.length c0) (.slice A2 (dig b).length c2) ((w5.setCell ⟨w.heap.size + 1 + 1 + 1 + 1 + 1, 0, none⟩ (.slice A8 (dig (M - b)).length c8)).setCell ⟨w.heap.size + 1 + 1 + 1 + 1, i, none⟩ (.int .i64 ((t : Int) + 1)))) := by
            refine ⟨t + 1, M - b, .slice A8 (dig (M - b)).length c8, ?_, ?_⟩
            · have := HT.out; rw [Nat.add_mul, Nat.one_mul]; omega
            · have := HDB6.out.q i (t + 1)
              rw [List.set_set] at this
              exact this
          have hc1 := HDB.out.2.2.2.2.1.cell i hiQ
          rw [List.getElem_set_self] at hc1
          have hm1 := (HDB6.out.q i (t + 1)).2.2.2.2.1.cell i (by simpa using hiQ)
          rw [List.getElem_set_self] at hm1
          have Hc1 := Lib.hid hc1
          have Hm1 := Lib.hid hm1
          clear hc1 hm1
          clear hr hsu hw5
          go_wp2
          go_roundw
          case rel => exact Hz3.out
          case measure =>
            rw [show ((t : Int) + 1) = ((t + 1 : Nat) : Int) from by omega, Hm1.out, Hc1.out]
            simp [intOf]; omega
    · obtain rfl : k = 0 := by omega
      have hW : Below wr.heap.size wr wr.drew := drewB (Below.refl _ _) 1
      have HDBd := Lib.hid (HDB.out.below hW)
      have hqr := HDBd.out.2.2.2.2.1.rd Hql.out
      have Hqr := Lib.hid hqr
      have hLdig : Hid (trim Q = dig (a / b) ∧ L = a % b) := by
        have h1 := Hval.out
        rw [List.drop_zero, List.drop_zero, Hva.out] at h1
        have h2 : a / b = vald Q := by
          rw [h1, Nat.add_comm, Nat.add_mul_div_right _ _ HB0.out, Nat.div_eq_of_lt hL]; omega
        have h3 : a % b = L := by
          rw [h1, Nat.add_comm, Nat.add_mul_mod_self_right, Nat.mod_eq_of_lt hL]
        refine ⟨?_, h3.symm⟩
        rw [trim_eq hdq, h2]
      have hql1 : Q.length ≤ 1048000 := by rw [Hql.out]; exact hla
      clear hqr hW hB hrl hs6
      go_wp2
      go_region_with ((go_at_call 47; refine (cut_calls _ _ _ Hqr.out (by omega)).mono ?_; rintro e w1 ⟨sv, rfl, hr, hsv, hw1⟩; obtain ⟨A7, c7, rfl⟩ := hr.slice; have HDB1 := Lib.hid (HDBd.out.below hw1); have e2 := (cells1 HDB1.out.2.2.1).1; have f2 := (cells1 HDB1.out.2.2.1).2; have e3 := (cells1 HDB1.out.2.2.2.1).1; have f3 := (cells1 HDB1.out.2.2.2.1).2; have e5 := (cells1 HDB1.out.2.2.2.2.2.1).1))
      all_goals
        obtain ⟨hp, g2, g3⟩ := HDB1.out.post hr hsv
        have Hp := Lib.hid hp
        clear hp hr hsv hw1 e2 f2 e3 f3 e5
        go_wp2
        refine bodyPost_ret (v := .tuple #[.agg #[.slice A7 (trim Q).length c7], .agg #[.slice A4 (dig L).length c4]]) (by simp [results, Tryd.results37, go_sem, g2, g3]) rfl ?_
        have h1 := Hp.out
        have h2 := hLdig.out
        rw [← h2.1, ← h2.2]; exact h1
end Go.Proofs.YtleajmblagddcaaDoor
