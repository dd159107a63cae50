/- ref03's cut, at, less. -/
import Derived.Test.YtleajmblagddcaaDoorD1
namespace Go.Proofs.YtleajmblagddcaaDoor
open Go.RowKit
set_option linter.unusedVariables false
set_option linter.unusedSimpArgs false

theorem cells1 {w : World} {g : Nat} {a : Value} {t : TypeId} (h : w.heap[g]? = some (.cells #[a] t (0, 0))) : w.cell? ⟨g, 0, none⟩ = some a ∧ w.frozen? ⟨g, 0, none⟩ = false := by
  simp [World.cell?, World.frozen?, h]
theorem RdI.below {w w1 : World} {v : Value} {l : List Nat} (h : RdI w v l) (hb : Below w.heap.size w w1) : RdI w1 v l := Rd.below h hb

theorem trim_take {l : List Nat} : ∀ {n : Nat}, n ≤ l.length → (∀ j (h : j < l.length), n ≤ j → l[j] = 0) → (∀ h : 0 < n, ∀ h2 : n - 1 < l.length, l[n - 1] ≠ 0) → trim l = l.take n := by
  induction l with
  | nil => intro n hn _ _; simp [trim]
  | cons d r ih =>
    intro n hn hz hp
    cases n with
    | zero =>
      have hd : d = 0 := hz 0 (by simp) (by omega)
      have hr : trim r = r.take 0 := ih (by omega) (fun j h _ => by have := hz (j + 1) (by simpa using h) (by omega); simpa using this) (fun h => by omega)
      rw [trim, if_pos ⟨hd, by simpa using hr⟩]; simp
    | succ n =>
      have hr : trim r = r.take n := ih (by simpa using hn) (fun j h hj => by have := hz (j + 1) (by simpa using h) (by omega); simpa using this) (fun h h2 => by
        have := hp (by omega) (by simpa using (by omega : n < r.length + 1))
        obtain ⟨m, rfl⟩ : ∃ m, n = m + 1 := ⟨n - 1, by omega⟩
        simpa using this)
      rw [trim, if_neg, hr]; · rfl
      rintro ⟨h1, h2⟩
      rw [hr] at h2
      by_cases h0 : n = 0
      · subst h0
        exact hp (by omega) (by simp) (by simpa using h1)
      · have : (r.take n).length = 0 := by rw [h2]; rfl
        rw [List.length_take] at this
        simp at hn
        omega

/-- 'd[:n]' of ints -/
theorem cut_head {w : World} {A : Option Addr} {c : Nat} {l : List Nat} (h : RdI w (.slice A l.length c) l) (n : Nat) (hn : n ≤ l.length) : RdI w (.slice A n c) (l.take n) := by
  obtain ⟨h1, A', c', hv, h2, h3, h4⟩ := h
  cases hv
  have hlen : (l.take n).length = n := by rw [List.length_take]; omega
  unfold RdI
  rw [hlen]
  refine ⟨by rw [ints_len, hlen, Nat.mul_one], _, _, rfl, by omega, fun hA => by have := h3 hA; omega, fun ad hA j u hu => ?_⟩
  refine h4 ad hA j u ?_
  have hj : j < n := by
    have := (List.getElem?_eq_some_iff.1 hu).1
    rw [ints_len, hlen] at this; exact this
  rw [← hu]
  simp only [ints, List.getElem?_map, List.getElem?_take, if_pos hj]

def CutPost (w : World) (v : Value) (ds : List Nat) : Ending → World → Prop := fun e w' => ∃ sv, e = .returned (.agg #[sv]) ∧ RdI w' sv ds ∧ (∀ k, sv.ownBlock = some k → v.ownBlock = some k) ∧ Below w.heap.size w w'

def CLoop (l : List Nat) (i : Value) : Prop := ∃ n : Nat, n ≤ l.length ∧ i = .int .i64 n ∧ ∀ j (h : j < l.length), n ≤ j → l[j] = 0

set_option maxHeartbeats 1600000 in
theorem cut_calls (w : World) (v : Value) (l : List Nat) (h : RdI w v l) (hl : l.length ≤ 4194304) : Calls Tryd.prog 47 #[v] w (CutPost w v (trim l)) := by
  obtain ⟨A, c, rfl⟩ := h.slice
  have hlc : l.length ≤ c := by obtain ⟨-, A', c', hv, h2, -⟩ := h; cases hv; exact h2
  have Hfin : Hid (∀ n, n ≤ l.length → (∀ j (h : j < l.length), n ≤ j → l[j] = 0) → (∀ h : 0 < n, ∀ h2 : n - 1 < l.length, l[n - 1] ≠ 0) →
      CutPost w (.slice A l.length c) (trim l) (.returned (.agg #[.slice A n c])) (w.alloc (.cells #[.slice A n c] 91))) := by
    intro n hn h1 h2
    refine ⟨_, rfl, by rw [trim_take hn h1 h2]; exact (cut_head h n hn).below ((Below.refl _ _).alloc (Nat.le_refl _) _), fun k hk => ?_, (Below.refl _ _).alloc (Nat.le_refl _) _⟩
    cases A with
    | none => cases hk
    | some a => exact hk
  by_cases h0 : l = []
  · subst h0
    have g2 := Hfin.out 0 (Nat.le_refl _) (fun j h => by simp at h) (fun h => by omega)
    have hlen : ([] : List Nat).length = 0 := rfl
    rw [hlen] at g2 ⊢
    have G2 := Lib.hid g2
    clear g2 Hfin h hlen
    go_enter Tryd.func47, Tryd.ntmps47
    go_wp2
    refine wp_loop_rounds 1 ?_
    rw [rounds_succ]
    go_wp2
    exact bodyPost_ret (v := .agg #[.slice A 0 c]) (by simp [results, Tryd.results47, go_sem]) rfl G2.out
  · obtain ⟨b, off, c', hv, hc, hb, hcell⟩ := h.some h0
    cases hv
    have Hcell := Lib.hid hcell
    clear hcell
    go_enter Tryd.func47, Tryd.ntmps47
    go_wp2
    go_loop [3] (fun i => CLoop l i) (fun i => (intOf i).toNat)
    case atStart => exact ⟨l.length, Nat.le_refl _, rfl, fun j h1 h2 => by omega⟩
    case round =>
      obtain ⟨n, hn, rfl, hz⟩ := hrel
      have Hz := Lib.hid hz
      clear hz
      by_cases hn0 : 0 < n
      · have hn0d : decide ((0 : Int) < n) = true := decide_eq_true (by omega)
        have hnl : n - 1 < l.length := by omega
        have hq := Hcell.out (n - 1) hnl
        have hq2 : (w.alloc (.cells #[.slice none 0 0] 91)).cell? ⟨b, off + (n - 1), none⟩ = some (.int .i64 (l[n - 1] : Nat)) := by
          have := ((Below.refl w.heap.size w).alloc (Nat.le_refl _) (.cells #[.slice none 0 0] 91)).cell (p := ⟨b, off + (n - 1), none⟩) hb
          rw [this]; exact hq
        have hi1 : (0 : Int) ≤ (n : Int) - 1 := by omega
        have hi2 : (n : Int) - 1 < l.length := by omega
        have hi3 : ((n : Int) - 1).toNat = n - 1 := by omega
        by_cases hd : l[n - 1] = 0
        · rw [hd] at hq hq2
          have Hk : Hid (CLoop l (.int .i64 ((n : Int) - 1))) := ⟨n - 1, by omega, by rw [show ((n - 1 : Nat) : Int) = (n : Int) - 1 from by omega], fun j h1 h2 => by
            by_cases e : j = n - 1
            · subst e; exact hd
            · exact Hz.out j h1 (by omega)⟩
          clear hd
          go_wp2
          go_round
          case rel => exact Hk.out
          case measure => simp [intOf]; omega
        · have g2 := Hfin.out n hn Hz.out (fun _ _ => hd)
          have G2 := Lib.hid g2
          have hdd : ((l[n - 1] : Int) == 0) = false := by simp; omega
          have hdp : ¬ l[n - 1] = 0 := hd
          generalize l[n - 1] = y at hq hq2 hdd hdp
          clear g2 hd
          go_wp2
          exact bodyPost_ret (v := .agg #[.slice (some ⟨b, off, none⟩) n c]) (by simp [results, Tryd.results47, go_sem]) rfl G2.out
      · obtain rfl : n = 0 := by omega
        have g2 := Hfin.out 0 hn Hz.out (fun h => by omega)
        have G2 := Lib.hid g2
        clear g2
        go_wp2
        exact bodyPost_ret (v := .agg #[.slice (some ⟨b, off, none⟩) 0 c]) (by simp [results, Tryd.results47, go_sem]) rfl G2.out

theorem at_calls (w : World) (v : Value) (l : List Nat) (h : RdI w v l) (i : Nat) (hi : i ≤ 1048576) (hl : l.length ≤ 1048576) :
    Calls Tryd.prog 60 #[.agg #[v], .int .i64 i] w fun e w' => e = .returned (.int .i64 (l.getD i 0 : Nat)) ∧ Below w.heap.size w w' := by
  by_cases hlt : i < l.length
  · obtain ⟨b, off, c, rfl, hc, hb, hcell⟩ := h.some (by intro e; rw [e] at hlt; simp at hlt)
    have hq := hcell i hlt
    have hq2 : ∀ o, (w.alloc o).cell? ⟨b, off + i, none⟩ = some (.int .i64 (l[i] : Nat)) := fun o => by
      rw [((Below.refl w.heap.size w).alloc (Nat.le_refl _) o).cell (p := ⟨b, off + i, none⟩) hb]; exact hq
    have hg : l.getD i 0 = l[i] := by simp [List.getD, hlt]
    rw [hg]
    have hltd := dT hlt
    generalize l[i] = y at hq hq2
    clear hcell hg
    go_enter Tryd.func60, Tryd.ntmps60
    go_wp2
    go_ret
    exact ⟨rfl, (Below.refl _ _).alloc (Nat.le_refl _) _⟩
  · obtain ⟨A, c, rfl⟩ := h.slice
    have hg : l.getD i 0 = 0 := by simp [List.getD, List.getElem?_eq_none (by omega : l.length ≤ i)]
    rw [hg]
    have hltd := dF hlt
    clear hg
    go_enter Tryd.func60, Tryd.ntmps60
    go_wp2
    go_ret
    exact ⟨rfl, (Below.refl _ _).alloc (Nat.le_refl _) _⟩

def LsLoop (w : World) (x y : List Nat) (i : Value) (w1 : World) : Prop := ∃ n : Nat, n ≤ x.length ∧ i = .int .i64 ((n : Int) - 1) ∧ (∀ j (h1 : j < x.length) (h2 : j < y.length), n ≤ j → x[j] = y[j]) ∧ Below w.heap.size w w1 ∧
  ∃ vx vy, w1.heap[w.heap.size]? = some (.cells #[vx] 91 (0, 0)) ∧ w1.heap[w.heap.size + 1]? = some (.cells #[vy] 91 (0, 0)) ∧ RdI w vx x ∧ RdI w vy y

set_option maxHeartbeats 1600000 in
theorem less_calls (w : World) (va vb : Value) (a b : Nat) (ha : RdI w va (dig a)) (hb : RdI w vb (dig b)) (hla : (dig a).length ≤ 1048576) (hlb : (dig b).length ≤ 1048576) :
    Calls Tryd.prog 48 #[.agg #[va], .agg #[vb]] w fun e w' => e = .returned (.bool (decide (a < b))) ∧ Below w.heap.size w w' := by
  have hda := dlt_dig a
  have hdb := dlt_dig b
  have hva := vald_dig a
  have hvb := vald_dig b
  have hlen1 := @dig_lt_of_len a b
  have hlen2 := @dig_lt_of_len b a
  have HV : Hid (decide (a < b) = decide (vald (dig a) < vald (dig b))) := by rw [hva, hvb]; rfl
  generalize dig a = x at ha hda hla hlen1 hlen2 HV
  generalize dig b = y at hb hdb hlb hlen1 hlen2 HV
  clear hva hvb
  obtain ⟨A, c, rfl⟩ := ha.slice
  obtain ⟨A2, c2, rfl⟩ := hb.slice
  by_cases hl : x.length = y.length
  · have hne : ((x.length : Int) != y.length) = false := by simp; omega
    have Hl := Lib.hid hl
    have hBB : ∀ o o2, Below w.heap.size w ((w.alloc o).alloc o2) := fun o o2 => ((Below.refl _ _).alloc (Nat.le_refl _) _).alloc (by simp) _
    have Hst : Hid (LsLoop w x y (.int .i64 ((x.length : Int) - 1)) ((w.alloc (.cells #[.slice A x.length c] 91)).alloc (.cells #[.slice A2 y.length c2] 91))) :=
      ⟨x.length, Nat.le_refl _, rfl, fun j h1 _ h2 => by omega, hBB _ _, _, _, blk_alloc (blk_new _ _) _, by simpa using blk_new (w.alloc (.cells #[.slice A x.length c] 91)) (.cells #[.slice A2 y.length c2] 91), ha, hb⟩
    have heq : x.length = y.length := hl
    clear hlen1 hlen2 hl heq hBB
    go_enter Tryd.func48, Tryd.ntmps48
    go_wp2
    go_loopw [5] (fun i w1 => LsLoop w x y i w1) (fun i _ => (intOf i + 1).toNat)
    case atStart => exact Hst.out
    case round =>
      obtain ⟨n, hn, rfl, hup, hB, vx, vy, hbx, hby, hrx, hry⟩ := hrel
      have Hup := Lib.hid hup
      clear hup
      obtain ⟨cx, -⟩ := cells1 hbx
      obtain ⟨cy, -⟩ := cells1 hby
      by_cases hn0 : 0 < n
      · obtain ⟨n, rfl⟩ : ∃ m, n = m + 1 := ⟨n - 1, by omega⟩
        have hnx : n < x.length := by omega
        have hny : n < y.length := by have := Hl.out; omega
        rw [show ((n + 1 : Nat) : Int) - 1 = (n : Int) from by omega]
        obtain ⟨bx, ox, kx, rfl, hkx, hbbx, hcx⟩ := hrx.some (by intro e; rw [e] at hnx; simp at hnx)
        obtain ⟨by_, oy, ky, rfl, hky, hbby, hcy⟩ := hry.some (by intro e; rw [e] at hny; simp at hny)
        have q1 := (hB.cell (p := ⟨bx, ox + n, none⟩) hbbx).trans (hcx n hnx)
        have q2 := (hB.cell (p := ⟨by_, oy + n, none⟩) hbby).trans (hcy n hny)
        have hn0d : decide ((0 : Int) ≤ n) = true := decide_eq_true (by omega)
        have hyl : (n : Int) < y.length := by omega
        have hxl : (n : Int) < x.length := by omega
        have hcs : (x[n] = y[n]) ∨ (x[n] < y[n] ∧ Hid (decide (a < b) = true)) ∨ (y[n] < x[n] ∧ Hid (decide (a < b) = false)) := by
          by_cases h1 : x[n] = y[n]
          · exact .inl h1
          · by_cases h2 : x[n] < y[n]
            · refine .inr (.inl ⟨h2, HV.out.trans (decide_eq_true (dig_cmp hda hdb Hl.out n hnx (fun j h1 h2 h3 => Hup.out j h1 h2 (by omega)) h2))⟩)
            · refine .inr (.inr ⟨by omega, HV.out.trans (decide_eq_false ?_)⟩)
              have := dig_cmp hdb hda Hl.out.symm n hny (fun j h1 h2 h3 => (Hup.out j h2 h1 (by omega)).symm) (by omega : y[n] < x[n])
              omega
        have Hnx : Hid (x[n] = y[n] → ∀ m, LsLoop w x y (.int .i64 ((n : Int) - 1)) (wr.drewN m)) := fun he m => ⟨n, by omega, rfl, fun j h1 h2 h3 => by
            by_cases e : j = n
            · subst e; exact he
            · exact Hup.out j h1 h2 (by omega), drewB hB m, _, _, hbx, hby, hrx, hry⟩
        generalize x[n] = p at q1 hcs Hnx
        generalize y[n] = q at q2 hcs Hnx
        have HB := Lib.hid hB
        clear hB hcx hcy hrx hry
        rcases hcs with rfl | ⟨h1, Hr⟩ | ⟨h1, Hr⟩
        · have Hnx2 := Lib.hid (Hnx.out rfl)
          clear Hnx
          go_wp2
          go_quiet (fail)
          go_wp2
          go_roundw
          case rel => exact Hnx2.out _
          case measure => first | (simp [intOf]; done) | (simp [intOf]; omega)
        · have hpq : ((p : Int) != q) = true := by simp; omega
          have hpq' : ¬ p = q := by omega
          have hd := dT h1
          go_wp2
          go_quiet (fail)
          go_wp2
          go_quiet (fail)
          go_wp2
          go_ret
          exact ⟨by rw [Hr.out]; rfl, drewB (drewB HB.out _) _⟩
        · have hpq : ((p : Int) != q) = true := by simp; omega
          have hpq' : ¬ p = q := by omega
          have hd := dF (a := p) (b := q) (by omega)
          have hd' : ¬ p < q := by omega
          go_wp2
          go_quiet (fail)
          go_wp2
          go_quiet (fail)
          go_wp2
          go_ret
          exact ⟨by rw [Hr.out]; rfl, drewB (drewB HB.out _) _⟩
      · obtain rfl : n = 0 := by omega
        have hxy : x = y := List.ext_getElem Hl.out (fun j h1 h2 => Hup.out j h1 h2 (by omega))
        have Hr : Hid (decide (a < b) = false) := HV.out.trans (decide_eq_false (by rw [hxy]; omega))
        clear hxy
        go_wp2
        go_ret
        exact ⟨by rw [Hr.out]; rfl, hB⟩
  · have hne : ((x.length : Int) != y.length) = true := by simp; omega
    have hne' : ¬ x.length = y.length := hl
    by_cases hlt : x.length < y.length
    · have hres : Hid (decide (a < b) = true) := decide_eq_true (hlen1 hlt)
      have hltd := dT hlt
      clear hlen1 hlen2 hl
      go_enter Tryd.func48, Tryd.ntmps48
      go_wp2
      go_ret
      exact ⟨by rw [hres.out]; rfl, ((Below.refl _ _).alloc (Nat.le_refl _) _).alloc (by simp) _⟩
    · have hres : Hid (decide (a < b) = false) := decide_eq_false (by have := hlen2 (by omega); omega)
      have hltd := dF hlt
      clear hlen1 hlen2 hl
      go_enter Tryd.func48, Tryd.ntmps48
      go_wp2
      go_ret
      exact ⟨by rw [hres.out]; rfl, ((Below.refl _ _).alloc (Nat.le_refl _) _).alloc (by simp) _⟩
end Go.Proofs.YtleajmblagddcaaDoor
