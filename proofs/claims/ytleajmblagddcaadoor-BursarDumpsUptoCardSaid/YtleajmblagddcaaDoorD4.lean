/- ref03's times. -/
import Derived.Test.YtleajmblagddcaaDoorD3
import Derived.Deep.OwnRows
namespace Go.Proofs.YtleajmblagddcaaDoor
open Go.RowKit
set_option linter.unusedVariables false
set_option linter.unusedSimpArgs false

/-- block g is a row of the call's own: just these numbers -/
def IBlk (w : World) (g : Nat) (l : List Nat) : Prop := w.heap[g]? = some (.cells (ints l).toArray 3 (0, 0))
theorem ints_getElem? (l : List Nat) (k : Nat) (hk : k < l.length) : (ints l)[k]? = some (.int .i64 (l[k] : Nat)) := by simp [ints, hk]
theorem IBlk.cell {w : World} {g : Nat} {l : List Nat} (h : IBlk w g l) (k : Nat) (hk : k < l.length) : w.cell? ⟨g, k, none⟩ = some (.int .i64 (l[k] : Nat)) := by
  unfold IBlk at h; simp [World.cell?, h, ints, hk]
theorem IBlk.frozen {w : World} {g : Nat} {l : List Nat} (h : IBlk w g l) (k : Nat) : w.frozen? ⟨g, k, none⟩ = false := by
  unfold IBlk at h; simp [World.frozen?, h]
theorem IBlk.set {w : World} {g : Nat} {l : List Nat} (h : IBlk w g l) (k d : Nat) : IBlk (w.setCell ⟨g, k, none⟩ (.int .i64 (d : Int))) g (l.set k d) := by
  unfold IBlk; rw [blk_setCell h]; simp [ints, List.map_set]
theorem IBlk.far {w : World} {g : Nat} {l : List Nat} (h : IBlk w g l) {p : Addr} (hp : g ≠ p.block) (u : Value) : IBlk (w.setCell p u) g l := blk_far h hp u
theorem IBlk.below {w w1 : World} {g : Nat} {l : List Nat} (h : IBlk w g l) (hb : Below w.heap.size w w1) : IBlk w1 g l := blk_below h hb
theorem IBlk.rd {w : World} {g : Nat} {l : List Nat} (h : IBlk w g l) {n : Nat} (hn : l.length = n) : RdI w (.slice (some ⟨g, 0, none⟩) n n) l := by
  subst hn
  refine ⟨by simp [ints], _, _, rfl, Nat.le_refl _, (fun h => by cases h), fun ad hA j u hu => ?_⟩
  cases hA
  have hj : j < l.length := by
    have := (List.getElem?_eq_some_iff.1 hu).1; simpa [ints] using this
  rw [ints_getElem? l j hj] at hu
  cases hu
  have e : (⟨g, 0, none⟩ : Addr).add j = ⟨g, j, none⟩ := by unfold Addr.add; split <;> simp_all
  rw [e]; exact h.cell j hj
theorem IBlk.new (w : World) (n : Nat) : IBlk (w.alloc (.cells (madeCells #[.int .i64 0] n) 3)) w.heap.size (List.replicate n 0) := by
  unfold IBlk
  rw [blk_new]
  congr 2
  apply Array.ext
  · simp [ints, size_madeCells]
  · intro i h1 h2; simp [ints, madeCells, Nat.mod_one]

theorem vald_set {l : List Nat} {k d : Nat} (hk : k < l.length) : vald (l.set k d) + 10 ^ k * l[k] = vald l + 10 ^ k * d := by
  induction l generalizing k with
  | nil => simp at hk
  | cons a r ih =>
    cases k with
    | zero => simp [vald]; omega
    | succ k =>
      have := ih (k := k) (by simpa using hk)
      simp only [List.set_cons_succ, vald, List.getElem_cons_succ, Nat.pow_succ]
      rw [Nat.mul_comm (10 ^ k) 10, Nat.mul_assoc, Nat.mul_assoc]; omega
theorem vald_zeros (n : Nat) : vald (List.replicate n 0) = 0 := by
  induction n with
  | zero => rfl
  | succ n ih => rw [List.replicate_succ, vald, ih]
theorem vald_take_le (l : List Nat) (k : Nat) : vald (l.take k) ≤ vald l := by
  have := vald_app (l.take k) (l.drop k)
  rw [List.take_append_drop] at this
  rw [this]; exact Nat.le_add_right _ _

def TB (w : World) (va vb : Value) (out : List Nat) (w1 : World) : Prop :=
  w1.heap[w.heap.size]? = some (.cells #[va] 91 (0, 0)) ∧ w1.heap[w.heap.size + 1]? = some (.cells #[vb] 91 (0, 0)) ∧
  w1.heap[w.heap.size + 1 + 1]? = some (.cells #[.slice none 0 0] 91 (0, 0)) ∧ IBlk w1 (w.heap.size + 1 + 1 + 1) out ∧ Below w.heap.size w w1
def TOut (N : Nat) (w : World) (x y : List Nat) (va vb v6 : Value) (w1 : World) : Prop := ∃ (i : Nat) (out : List Nat), i ≤ x.length ∧ v6 = .int .i64 i ∧ out.length = N ∧ DLt out ∧
  vald out = vald (x.take i) * vald y ∧ TB w va vb out w1
def TIn (N : Nat) (w : World) (x y : List Nat) (i p : Nat) (va vb v7 v8 : Value) (w1 : World) : Prop := ∃ (c j : Nat) (out : List Nat), v7 = .int .i64 c ∧ v8 = .int .i64 j ∧ c ≤ 9 ∧ j ≤ y.length + 1 ∧ out.length = N ∧ DLt out ∧
  vald out + c * 10 ^ (i + j) = vald (x.take i) * vald y + 10 ^ i * (p * vald (y.take j)) ∧ TB w va vb out w1

theorem TB.below {w w1 w2 : World} {va vb : Value} {out : List Nat} (h : TB w va vb out w1) (hb : Below w1.heap.size w1 w2) : TB w va vb out w2 :=
  ⟨blk_below h.1 hb, blk_below h.2.1 hb, blk_below h.2.2.1 hb, h.2.2.2.1.below hb, h.2.2.2.2.trans (hb.mono h.2.2.2.2.size)⟩
theorem TB.set {w w1 : World} {va vb : Value} {out : List Nat} (h : TB w va vb out w1) (k d : Nat) : TB w va vb (out.set k d) (w1.setCell ⟨w.heap.size + 1 + 1 + 1, k, none⟩ (.int .i64 (d : Int))) :=
  ⟨blk_far h.1 (by show w.heap.size ≠ w.heap.size + 1 + 1 + 1; omega) _, blk_far h.2.1 (by show w.heap.size + 1 ≠ w.heap.size + 1 + 1 + 1; omega) _, blk_far h.2.2.1 (by show w.heap.size + 1 + 1 ≠ w.heap.size + 1 + 1 + 1; omega) _, h.2.2.2.1.set k d, h.2.2.2.2.setCell (by show _ ≤ _; simp; omega) _⟩

theorem tbound {X Y p P i m c v : Nat} (h : v + c * P = X * Y + 10 ^ i * (p * Y)) (hX : X < 10 ^ i) (hp : p < 10) (hY : Y < 10 ^ m) (hc : 0 < c) : P < 10 ^ (i + m + 1) := by
  have h1 : P ≤ X * Y + 10 ^ i * (p * Y) := by
    have := Nat.le_mul_of_pos_left P hc
    omega
  have h2 : X * Y + 10 ^ i * (p * Y) = (X + 10 ^ i * p) * Y := by rw [Nat.add_mul, Nat.mul_assoc]
  rw [h2] at h1
  have h3 : X + 10 ^ i * p < 10 ^ (i + 1) := by
    have : 10 ^ i * p ≤ 10 ^ i * 9 := Nat.mul_le_mul_left _ (by omega)
    rw [Nat.pow_succ]; omega
  have h4 : (X + 10 ^ i * p) * Y < 10 ^ (i + 1) * 10 ^ m := Nat.mul_lt_mul'' h3 hY
  rw [← Nat.pow_add] at h4
  rw [show i + m + 1 = i + 1 + m from by omega]
  omega

theorem tsum {V V' R p t q o d c c' v I J P : Nat} (hIJ : P = I * J) (h : V + c * P = R + I * (p * t)) (hs : V' + P * o = V + P * d) (hv : v = o + p * q + c) (hd : d + 10 * c' = v) : V' + c' * (P * 10) = R + I * (p * (t + J * q)) := by
  subst hv
  have e1 : P * (d + 10 * c') = P * (o + p * q + c) := by rw [hd]
  rw [Nat.mul_add, Nat.mul_add, Nat.mul_add] at e1
  have e2 : I * (p * (t + J * q)) = I * (p * t) + P * (p * q) := by
    subst hIJ; rw [Nat.mul_add, Nat.mul_add]; congr 1; rw [Nat.mul_assoc, Nat.mul_left_comm p J q]
  have e3 : c' * (P * 10) = P * (10 * c') := by rw [Nat.mul_comm c', Nat.mul_assoc]
  rw [e2, e3]
  rw [Nat.mul_comm c P] at h
  omega

set_option maxRecDepth 100000 in
set_option maxHeartbeats 3200000 in
theorem times_calls (w : World) (va vb : Value) (a b : Nat) (ha : RdI w va (dig a)) (hb : RdI w vb (dig b)) (hla : (dig a).length ≤ 1048576) (hlb : (dig b).length ≤ 1048576) :
    Calls Tryd.prog 46 #[.agg #[va], .agg #[vb]] w (LPost w (dig (a * b))) := by
  have hda := dlt_dig a
  have hdb := dlt_dig b
  have Hva : Hid (vald (dig a) = a) := vald_dig a
  have Hvb : Hid (vald (dig b) = b) := vald_dig b
  generalize dig a = x at ha hda hla Hva
  generalize dig b = y at hb hdb hlb Hvb
  obtain ⟨A, c0, rfl⟩ := ha.slice
  obtain ⟨A2, c2, rfl⟩ := hb.slice
  have hmk := run_make_row' (P := Tryd.prog) 89 3 (.int .i64 0) 8 Tryd.underlying89 infoInt rfl .i64 .i64 (x.length + y.length + 1) (by omega) (by omega)
  have hN : (x.length : Int) + y.length + 1 = ((x.length + y.length + 1 : Nat) : Int) := by omega
  rw [← hN] at hmk
  clear hN
  obtain ⟨N, hNN⟩ : ∃ N, x.length + y.length + 1 = N := ⟨_, rfl⟩
  rw [hNN] at hmk
  have HN := Lib.hid hNN
  have Hst : Hid (TOut N w x y (.slice A x.length c0) (.slice A2 y.length c2) (.int .i64 0) ((((w.alloc (.cells #[.slice A x.length c0] 91)).alloc (.cells #[.slice A2 y.length c2] 91)).alloc (.cells #[.slice none 0 0] 91)).alloc (.cells (madeCells #[.int .i64 0] N) 3))) :=
    ⟨0, List.replicate N 0, Nat.zero_le _, rfl, by simp, (fun d hd => by have := (List.mem_replicate.1 hd).2; omega), by simp [vald, vald_zeros], blk_alloc (blk_alloc (blk_alloc (blk_new _ _) _) _) _, blk_alloc (blk_alloc (by simpa using blk_new (w.alloc (.cells #[.slice A x.length c0] 91)) _) _) _,
      blk_alloc (by simpa using blk_new ((w.alloc (.cells #[.slice A x.length c0] 91)).alloc (.cells #[.slice A2 y.length c2] 91)) _) _,
      by simpa using IBlk.new (((w.alloc (.cells #[.slice A x.length c0] 91)).alloc (.cells #[.slice A2 y.length c2] 91)).alloc (.cells #[.slice none 0 0] 91)) N, (((((Below.refl _ _).alloc (Nat.le_refl _) _).alloc (by simp) _).alloc (by simp; omega) _).alloc (by simp; omega) _)⟩
  clear hNN
  go_enter Tryd.func46, Tryd.ntmps46
  go_wp2
  go_loopw [6] (fun v6 w1 => TOut N w x y (.slice A x.length c0) (.slice A2 y.length c2) v6 w1) (fun i _ => x.length - (intOf i).toNat)
  case atStart => exact Hst.out
  case round =>
    obtain ⟨i, out, hi, rfl, hol, hdo, hval, hTB⟩ := hrel
    have Hval := Lib.hid hval
    have Hol := Lib.hid hol
    have HTB := Lib.hid hTB
    clear hval hol
    obtain ⟨d0, -⟩ := cells1 hTB.1
    obtain ⟨d1, -⟩ := cells1 hTB.2.1
    by_cases hlt : i < x.length
    · have hltd := dT hlt
      obtain ⟨bx, ox, kx, hv, hkx, hbbx, hcx⟩ := ha.some (by intro e; rw [e] at hlt; simp at hlt)
      cases hv
      have hpc := hcx i hlt
      have hp10 := hda _ (List.getElem_mem hlt)
      have HX := Lib.hid (vald_take_succ x i hlt)
      clear hcx
      generalize x[i] = p at hpc hp10 HX
      have HXlt : Hid (vald (x.take i) < 10 ^ i) := by
        have := vald_lt (l := x.take i) (fun d hd => hda d (List.mem_of_mem_take hd))
        rwa [List.length_take, Nat.min_eq_left hi] at this
      have HYlt := Lib.hid (vald_lt hdb)
      have Hst2 : Hid (TIn N w x y i p (.slice (some ⟨bx, ox, none⟩) x.length c0) (.slice A2 y.length c2) (.int .i64 0) (.int .i64 0) wr) := ⟨0, 0, out, rfl, rfl, by omega, by omega, Hol.out, hdo, by rw [Hval.out]; simp [vald], HTB.out⟩
      clear hTB HTB
      go_wp2
      go_loopw [7, 8] (fun v7 v8 w1 => TIn N w x y i p (.slice (some ⟨bx, ox, none⟩) x.length c0) (.slice A2 y.length c2) v7 v8 w1) (fun _ j _ => y.length + 1 - (intOf j).toNat)
      case atStart => exact Hst2.out
      case round =>
        obtain ⟨c, j, out2, rfl, rfl, hc9, hj, hol2, hdo2, hval2, hTB⟩ := hrel
        have Hval2 := Lib.hid hval2
        have Hol2 := Lib.hid hol2
        have HTB := Lib.hid hTB
        obtain ⟨d0, -⟩ := cells1 hTB.1
        obtain ⟨d1, -⟩ := cells1 hTB.2.1
        by_cases hgo : j < y.length ∨ 0 < c
        · have hjm : j ≤ y.length := by
            rcases hgo with h | h
            · omega
            · rcases Nat.lt_or_ge y.length j with hlj | hlj
              · exfalso
                have h1 := hval2
                rw [List.take_of_length_le (by omega : y.length ≤ j)] at h1
                have h2 := tbound h1 HXlt.out hp10 HYlt.out h
                have h3 := Nat.pow_lt_pow_iff_right (a := 10) (by decide) |>.1 h2
                omega
              · exact hlj
          clear hval2
          obtain ⟨k, hk⟩ : ∃ k, k = i + j := ⟨_, rfl⟩
          have hkk : (i : Int) + j = k := by omega
          have hkw : IntKind.i64.wrap (k : Int) = k := by rw [IntKind.wrap_i64]; omega
          have hk0 : (0 : Int) ≤ k := by omega
          have hkN1 : (k : Int) < (N : Int) := by have := HN.out; omega
          have hkl : k < out2.length := by have := HN.out; have := Hol2.out; omega
          have hkN : k < N := by have := HN.out; omega
          have hoc := hTB.2.2.2.1.cell k hkl
          have hof := hTB.2.2.2.1.frozen k
          have ho10 := hdo2 _ (List.getElem_mem hkl)
          have hq10 := getD_lt hdb j
          have HY := Lib.hid (vald_take_getD y j)
          have HS2 := Lib.hid (fun d => vald_set (d := d) hkl)
          have hB := hTB.2.2.2.2
          have Hat : Hid (∀ W, Below wr.heap.size wr W → Calls Tryd.prog 60 #[.agg #[.slice A2 y.length c2], .int .i64 j] W fun e w' => e = .returned (.int .i64 (y.getD j 0 : Nat)) ∧ Below W.heap.size W w') := fun W hW => at_calls W _ y (hb.below (hB.trans (hW.mono hB.size))) j (by omega) hlb
          have q1 := (hB.cell (p := ⟨bx, ox + i, none⟩) hbbx).trans hpc
          generalize out2[k] = o at hoc ho10 HS2
          generalize y.getD j 0 = q at Hat hq10 HY
          have HT : Hid (∀ W W', Below wr.heap.size wr W → Below W.heap.size W W' → Below wr.heap.size wr W') := fun W W' h1 h2 => h1.trans (h2.mono h1.size)
          have HB0 : Hid (Below wr.heap.size wr wr.drew) := drewB (Below.refl _ _) 1
          have HS : Hid (∀ W, Below wr.heap.size wr W → W.cell? ⟨w.heap.size, 0, none⟩ = some (.slice (some ⟨bx, ox, none⟩) x.length c0) ∧ W.cell? ⟨bx, ox + i, none⟩ = some (.int .i64 p) ∧ W.cell? ⟨w.heap.size + 1, 0, none⟩ = some (.slice A2 y.length c2) ∧ W.cell? ⟨w.heap.size + 1 + 1 + 1, k, none⟩ = some (.int .i64 o) ∧ Below wr.heap.size wr W) := by
            intro W hW
            refine ⟨(hW.cell (p := ⟨w.heap.size, 0, none⟩) (World.block_lt_of_cell? _ _ d0)).trans d0, (hW.cell (p := ⟨bx, ox + i, none⟩) (World.block_lt_of_cell? _ _ q1)).trans q1, (hW.cell (p := ⟨w.heap.size + 1, 0, none⟩) (World.block_lt_of_cell? _ _ d1)).trans d1, (hW.cell (p := ⟨w.heap.size + 1 + 1 + 1, k, none⟩) (World.block_lt_of_cell? _ _ hoc)).trans hoc, hW⟩
          have hpq : p * q ≤ 81 := Nat.mul_le_mul (by omega : p ≤ 9) (by omega : q ≤ 9)
          have hpq2 : (p : Int) * q = ((p * q : Nat) : Int) := by simp
          obtain ⟨v, hv⟩ : ∃ v, v = o + p * q + c := ⟨_, rfl⟩
          have Hv := Lib.hid hv
          have e1 : IntKind.i64.wrap ((p:Int) * q) = ((p * q : Nat) : Int) := by rw [hpq2, IntKind.wrap_i64]; omega
          have e2 : IntKind.i64.wrap ((o:Int) + ((p * q : Nat) : Int)) = (o:Int) + ((p * q : Nat) : Int) := by rw [IntKind.wrap_i64]; omega
          have e3 : IntKind.i64.wrap ((o:Int) + ((p * q : Nat) : Int) + c) = v := by rw [IntKind.wrap_i64]; omega
          have E1 := Lib.hid e1
          have E2 := Lib.hid e2
          have E3 := Lib.hid e3
          clear hTB hB e1 e2 e3 hpq2
          have hcond : j < y.length ∨ (¬ j < y.length ∧ 0 < c) := by omega
          have hv99 : v ≤ 99 := by omega
          have hm : (v : Int) % 10 = ((v % 10 : Nat) : Int) := by omega
          have hm2 : (v : Int) / 10 = ((v / 10 : Nat) : Int) := by omega
          have Hnext : Hid (∀ W, Below wr.heap.size wr W → TIn N w x y i p (.slice (some ⟨bx, ox, none⟩) x.length c0) (.slice A2 y.length c2) (.int .i64 ((v / 10 : Nat) : Int)) (.int .i64 ((j : Int) + 1)) (W.setCell ⟨w.heap.size + 1 + 1 + 1, k, none⟩ (.int .i64 ((v % 10 : Nat) : Int)))) := by
            intro W hW
            refine ⟨v / 10, j + 1, out2.set k (v % 10), rfl, rfl, by omega, by omega, by simp [Hol2.out], ?_, ?_, (HTB.out.below hW).set k (v % 10)⟩
            · intro d hd
              rcases List.mem_or_eq_of_mem_set hd with h | rfl
              · exact hdo2 d h
              · omega
            · rw [HY.out]
              have h1 := Hval2.out
              have h2 := HS2.out (v % 10)
              subst hk
              rw [show i + (j + 1) = i + j + 1 from by omega, Nat.pow_succ]
              exact tsum (d := v % 10) (by rw [Nat.pow_add]) h1 h2 Hv.out (by omega)
          have Hm := Lib.hid hm.symm
          have Hm2 := Lib.hid hm2.symm
          clear hm hm2 hv hk hj hkl hgo hpq hp10 hq10 ho10 hc9
          rcases hcond with hc1 | ⟨hc1, hc2⟩
          all_goals go_wp2
          all_goals
            go_region_held3 (fun w' : World => w'.cell? ⟨w.heap.size, 0, none⟩ = some (.slice (some ⟨bx, ox, none⟩) x.length c0) ∧ w'.cell? ⟨bx, ox + i, none⟩ = some (.int .i64 p) ∧ w'.cell? ⟨w.heap.size + 1, 0, none⟩ = some (.slice A2 y.length c2) ∧ w'.cell? ⟨w.heap.size + 1 + 1 + 1, k, none⟩ = some (.int .i64 o) ∧ Below wr.heap.size wr w')
              (first | exact HS.out _ HB0.out | (exact HS.out _ (HT.out _ _ (by assumption) (by assumption))))
              ((go_at_call 60; refine (Hat.out _ (by assumption)).mono ?_; rintro e w' ⟨rfl, hq⟩))
            rw [E1.out, E2.out, E3.out]
            have hW := HT.out _ _ (by assumption) hq
            have hTB2 := HTB.out.below hW
            have z1 := hTB2.2.2.2.1.cell k (by have := HN.out; have := Hol2.out; omega)
            have z2 := hTB2.2.2.2.1.frozen k
            have Hk := Lib.hid (Hnext.out _ hW)
            rw [Hm.out, Hm2.out] at Hk
            clear hTB2 Hnext HB0 HS HT E1 E2 E3
            go_wp2
            go_roundw
            case rel => exact Hk.out
            case measure => simp [intOf]; omega
        · have hc0 : c = 0 := by omega
          have hjm : ¬ j < y.length := by omega
          subst hc0
          have Hnext : Hid (TOut N w x y (.slice (some ⟨bx, ox, none⟩) x.length c0) (.slice A2 y.length c2) (.int .i64 ((i : Int) + 1)) wr) := by
            refine ⟨i + 1, out2, by omega, rfl, hol2, hdo2, ?_, HTB.out⟩
            have h1 := hval2
            rw [Nat.zero_mul, Nat.add_zero, List.take_of_length_le (by omega : y.length ≤ j)] at h1
            rw [h1, HX.out, Nat.add_mul, Nat.mul_assoc]
          clear hval2 hTB HTB hc9
          go_wp2
          go_roundw
          case rel => exact Hnext.out
          case measure => simp [intOf]; omega
    · have hin : i = x.length := by omega
      have hltd := dF hlt
      have hB := hTB.2.2.2.2
      have hcall : ∀ W, Below wr.heap.size wr W → Calls Tryd.prog 47 #[.slice (some ⟨w.heap.size + 1 + 1 + 1, 0, none⟩) N N] W (CutPost W (.slice (some ⟨w.heap.size + 1 + 1 + 1, 0, none⟩) N N) (trim out)) := fun W hW => by
        have h1 := cut_calls W _ out ((hTB.2.2.2.1.below hW).rd Hol.out) (by have := HN.out; have := Hol.out; omega)
        exact h1
      have Hcall := Lib.hid hcall
      have hz2 := hTB.2.2.1
      have hres : Hid (trim out = dig (a * b)) := by
        show _ = _
        have h1 := Hval.out
        rw [hin, List.take_of_length_le (Nat.le_refl _), Hva.out, Hvb.out] at h1
        rw [trim_eq hdo, h1]
      clear hcall hTB HTB
      go_wp2_with fail
      refine (Hcall.out _ (Below.refl _ _)).mono ?_
      rintro e w1 ⟨sv, rfl, hr, hsv, hw1⟩
      obtain ⟨A4, c4, rfl⟩ := hr.slice
      have z2 := blk_below hz2 hw1
      obtain ⟨cd, cg⟩ := cells1 z2
      have hns : (Value.slice A4 (trim out).length c4).ownBlock ≠ some (w.heap.size + 1 + 1) := fun h => by
        have := hsv _ h
        simp [Value.ownBlock] at this
      have Hf := Lib.hid (((hB.trans (hw1.mono hB.size)).setCell (p := ⟨w.heap.size + 1 + 1, 0, none⟩) (by show _ ≤ _; simp; omega) (.slice A4 (trim out).length c4)))
      have Hr := Lib.hid (hr.fr ((Fr.refl (Only (w.heap.size + 1 + 1)) w1).setCell (p := ⟨w.heap.size + 1 + 1, 0, none⟩) (.inl rfl) (.slice A4 (trim out).length c4)) (fun k hk e => hns (by rw [hk, show k = _ from e])))
      have Hn : Hid (∀ k, (Value.slice A4 (trim out).length c4).ownBlock = some k → w.heap.size ≤ k) := fun k hk => by
        have := hsv k hk
        simp [Value.ownBlock] at this
        omega
      have Hc := Lib.hid (cells1 (blk_setCell z2 0 (.slice A4 (trim out).length c4))).1
      clear hr hsv hw1 hns
      go_wp2
      have HC := Hc.out
      refine bodyPost_ret (v := .agg #[.slice A4 (trim out).length c4]) (by simp [results, Tryd.results46, go_sem, HC]) rfl ⟨_, rfl, ?_, Hn.out, Hf.out⟩
      rw [← hres.out]; exact Hr.out
end Go.Proofs.YtleajmblagddcaaDoor
