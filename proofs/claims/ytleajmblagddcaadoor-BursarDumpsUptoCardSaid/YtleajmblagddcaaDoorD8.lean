/- ref03's Print. -/
import Derived.Test.YtleajmblagddcaaDoorD7
import Derived.Deep.CutRange
namespace Go.Proofs.YtleajmblagddcaaDoor
open Go.RowKit
set_option linter.unusedVariables false
set_option linter.unusedSimpArgs false

def fitStep (n : Nat) (acc : List UInt8) (e : List UInt8 × Nat) : List UInt8 := if n % e.2 = 0 then asc (n / e.2) ++ e.1 else acc
def lastFit (n : Nat) (t : List (List UInt8 × Nat)) : List UInt8 := t.foldl (fitStep n) []
def decAt (n i : Nat) : List UInt8 := lastFit n (((tabB 5).take (min i 7)).drop 1)
def binAt (n i : Nat) : List UInt8 := lastFit n (((tabB 5).take i).drop 7)
def printed (n : Nat) : List UInt8 :=
  if n % 1000 = 0 then (if n = 0 then [48] else if binAt n 12 ≠ [] ∧ (binAt n 12).length < (decAt n 12).length then binAt n 12 else decAt n 12) else asc n ++ [109]

theorem take_drop_succ {α : Type} {l : List α} {i j : Nat} (h : i < l.length) (hj : j ≤ i) : (l.take (i + 1)).drop j = (l.take i).drop j ++ [l[i]] := by
  rw [List.take_add_one, List.getElem?_eq_getElem h, List.drop_append_of_le_length (by rw [List.length_take]; omega)]; rfl
theorem lastFit_app (n : Nat) (a : List (List UInt8 × Nat)) (e : List UInt8 × Nat) : lastFit n (a ++ [e]) = fitStep n (lastFit n a) e := by simp [lastFit]
theorem tab_len : (tabB 5).length = 12 := rfl
theorem decAt_low {n i : Nat} (h1 : 1 ≤ i) (h2 : i < 7) (h : i < (tabB 5).length) : decAt n (i + 1) = fitStep n (decAt n i) (tabB 5)[i] := by
  rw [decAt, decAt, Nat.min_eq_left (by omega), Nat.min_eq_left (by omega), take_drop_succ h h1, lastFit_app]
theorem decAt_high {n i : Nat} (h2 : 7 ≤ i) : decAt n (i + 1) = decAt n i := by
  rw [decAt, decAt, Nat.min_eq_right (by omega), Nat.min_eq_right (by omega)]
theorem binAt_high {n i : Nat} (h2 : 7 ≤ i) (h : i < (tabB 5).length) : binAt n (i + 1) = fitStep n (binAt n i) (tabB 5)[i] := by
  rw [binAt, binAt, take_drop_succ h h2, lastFit_app]
theorem binAt_low {n i : Nat} (h2 : i < 7) : binAt n (i + 1) = binAt n i := by
  rw [binAt, binAt, List.drop_of_length_le (by rw [List.length_take]; omega), List.drop_of_length_le (by rw [List.length_take]; omega)]

theorem asc_len {n k : Nat} (h : (dig n).length ≤ k) (hk : 1 ≤ k) : (asc n).length ≤ k := by
  unfold asc; split <;> simp <;> omega
theorem tab_small : ∀ e ∈ tabB 5, e.2 < 10 ^ 20 := by decide
theorem empty_iff (s : ByteArray) : s.toList = [] ↔ s.size = 0 := by
  rw [ByteArray.toList_eq, ← List.length_eq_zero_iff, Array.length_toList]; rfl
theorem isEmpty_iff (s : ByteArray) : s.toList.isEmpty = true ↔ s.size = 0 := by rw [List.isEmpty_iff, empty_iff]
theorem tab_names : ∀ e ∈ tabB 5, e.1.length ≤ 3 := by decide
theorem entCells_at (l : List Ent) (i : Nat) (h : i < l.length) : (entCells l)[i * 2]? = some (.string l[i].name) ∧ (entCells l)[i * 2 + 1]? = some l[i].lv := by
  induction l generalizing i with
  | nil => simp at h
  | cons e r ih =>
    have he : entCells (e :: r) = .string e.name :: e.lv :: entCells r := rfl
    cases i with
    | zero => rw [he]; exact ⟨rfl, rfl⟩
    | succ i =>
      have := ih i (by simpa using h)
      rw [he, show (i + 1) * 2 = i * 2 + 1 + 1 from by omega]
      simpa using this
theorem SRow.some {w : World} {v : Value} {ents : List Ent} (h : SRow w v ents) (hn : 0 < ents.length) : ∃ g c, v = .slice (some ⟨g, 0, none⟩) ents.length c ∧ g < w.heap.size ∧ ∀ i (hi : i < ents.length), w.cell? ⟨g, i * 2, none⟩ = some (.string ents[i].name) ∧ w.cell? ⟨g, i * 2 + 1, none⟩ = some ents[i].lv := by
  rcases h.1.2 with ⟨-, h0⟩ | ⟨g, cap, cur, hv, -⟩
  · omega
  · refine ⟨g, cap, hv, ?_, fun i hi => ?_⟩
    · exact (h.1.lt g (by rw [hv]; rfl)).2
    · obtain ⟨h1, h2⟩ := entCells_at ents i hi
      have hc := h.1.cells (g := g) (by rw [hv]; rfl)
      have e1 := hc _ _ h1
      have e2 := hc _ _ h2
      rw [show (⟨g, 0, none⟩ : Addr).add (i * 2) = ⟨g, i * 2, none⟩ from by unfold Addr.add; split <;> simp_all] at e1
      rw [show (⟨g, 0, none⟩ : Addr).add (i * 2 + 1) = ⟨g, i * 2 + 1, none⟩ from by unfold Addr.add; split <;> simp_all] at e2
      exact ⟨e1, e2⟩

def PLoop (w : World) (n : Nat) (ents : List Ent) (sv v4 v5 v6 : Value) (w1 : World) : Prop := ∃ i : Nat, 1 ≤ i ∧ i ≤ 12 ∧ v6 = .int .i64 i ∧ StrIs v4 (decAt n i) ∧ StrIs v5 (binAt n i) ∧ SRow w1 sv ents ∧ Below w.heap.size w w1

def PCut (wr : World) (n fv : Nat) (v7 v8 : Value) (wx : World) : Prop := ∃ (p7 p8 : Nat) (sq sr : Value), v7 = .pointer (some ⟨p7, 0, none⟩) ∧ v8 = .pointer (some ⟨p8, 0, none⟩) ∧ wx.heap[p7]? = some (.cells #[sq] 91 (0, 0)) ∧ wx.heap[p8]? = some (.cells #[sr] 91 (0, 0)) ∧
  RdI wx sq (dig (n / fv)) ∧ RdI wx sr (dig (n % fv)) ∧ Below wr.heap.size wr wx

theorem pCut_mk {wr : World} {n fv p7 p8 : Nat} {sq sr : Value} {wx : World} (h7 : wx.heap[p7]? = some (.cells #[sq] 91 (0, 0))) (h8 : wx.heap[p8]? = some (.cells #[sr] 91 (0, 0)))
    (hq : RdI wx sq (dig (n / fv))) (hr : RdI wx sr (dig (n % fv))) (hb : Below wr.heap.size wr wx) : PCut wr n fv (.pointer (some ⟨p7, 0, none⟩)) (.pointer (some ⟨p8, 0, none⟩)) wx := ⟨p7, p8, sq, sr, rfl, rfl, h7, h8, hq, hr, hb⟩
theorem blk_newE {w : World} {k : Nat} (o : Obj) (h : k = w.heap.size) : (w.alloc o).heap[k]? = some o := by rw [h]; exact blk_new w o
theorem blk_set1 {w : World} {g : Nat} {t : TypeId} {a u : Value} (h : w.heap[g]? = some (.cells #[a] t (0, 0))) : (w.setCell ⟨g, 0, none⟩ u).heap[g]? = some (.cells #[u] t (0, 0)) := blk_setCell h 0 u
theorem rdI_keep {w w1 : World} {v : Value} {l : List Nat} {N : Nat} (h : RdI w v l) (hN : ∀ k, v.ownBlock = some k → N ≤ k) (hf : Fr (fun k => k < N) w w1) : RdI w1 v l :=
  Rd.fr h hf (fun k hk e => by have := hN k hk; omega)

set_option maxRecDepth 100000 in
set_option maxHeartbeats 1600000 in
theorem print_calls (w : World) (n : Nat) (hn : n ≤ 9223372036854775807) : Calls Tryd.prog 13 #[.int .i64 n] w fun e w' => ∃ sv, e = .returned sv ∧ StrIs sv (printed n) ∧ Below w.heap.size w w' := by
  have hdl : (dig n).length ≤ 19 := dig_len_le (Nat.lt_of_le_of_lt hn (by decide))
  have hn0 : ¬ (n : Int) < 0 := by omega
  by_cases hm : n % 1000 = 0
  · by_cases h0 : n = 0
    · subst h0
      have hp : Hid (printed 0 = [48]) := rfl
      go_enter Tryd.func13, Tryd.ntmps13
      go_wp2
      go_ret
      exact ⟨_, rfl, ⟨_, rfl, by rw [hp.out]⟩, Below.refl _ _⟩
    · have hb : ((n : Int) % 1000 != 0) = false := by simp; omega
      have hb2 : (n : Int) % 1000 = 0 := by omega
      have hb3 : ((n : Int) == 0) = false := by simp; omega
      have hb4 : ¬ (n : Int) = 0 := by omega
      go_enter Tryd.func13, Tryd.ntmps13
      go_wp2_with fail
      refine (suffixes_calls _).mono ?_
      rintro e w1 ⟨sv, ents, rfl, htab, hrow, hw1⟩
      have hlen : ents.length = 12 := by
        have := congrArg List.length htab
        simpa [tab_len] using this
      obtain ⟨g, c, hv, -, -⟩ := hrow.some (by omega)
      rw [hlen] at hv
      subst hv
      have Hst : Hid (PLoop w n ents (.slice (some ⟨g, 0, none⟩) 12 c) (.string ⟨#[]⟩) (.string ⟨#[]⟩) (.int .i64 1) w1) := ⟨1, by omega, by omega, rfl, ⟨_, rfl, rfl⟩, ⟨_, rfl, rfl⟩, hrow, hw1⟩
      have Htab := Lib.hid htab
      have Hlen := Lib.hid hlen
      clear hrow hw1 htab hlen
      go_wp2
      go_loopw [4, 5, 6] (fun v4 v5 v6 w1 => PLoop w n ents (.slice (some ⟨g, 0, none⟩) 12 c) v4 v5 v6 w1) (fun _ _ i _ => 12 - (intOf i).toNat)
      case atStart => exact Hst.out
      case round =>
        clear Hst
        obtain ⟨i, hi1, hi, rfl, ⟨s4, rfl, hs4⟩, ⟨s5, rfl, hs5⟩, hrow, hB⟩ := hrel
        have Hs4 := Lib.hid hs4
        have Hs5 := Lib.hid hs5
        have Hrow := Lib.hid hrow
        have HB := Lib.hid hB
        obtain ⟨g', c', hv, hgl, hcells⟩ := hrow.some (by have := Hlen.out; omega)
        rw [Hlen.out] at hv
        cases hv
        clear hs4 hs5 hB
        by_cases hlt : i < 12
        · have hie : i < ents.length := by have := Hlen.out; omega
          obtain ⟨hc1, hc2⟩ := hcells i hie
          obtain ⟨hv0, hrv, -⟩ := hrow.2 ents[i] (List.getElem_mem hie)
          have hT : (tabB 5)[i]'(by have := tab_len; omega) = (ents[i].name.data.toList, ents[i].val) := by
            have h1 : (ents.map Ent.tab)[i]'(by simpa using hie) = Ent.tab ents[i] := by simp
            have h2 := Htab.out
            rw [← show Ent.tab ents[i] = (ents[i].name.data.toList, ents[i].val) from rfl, ← h1]
            congr 1
            exact h2.symm
          have HT := Lib.hid hT
          have Hlow := Lib.hid (fun (a : 1 ≤ i) (b : i < 7) => (decAt_low (n := n) a b (by have := tab_len; omega)).trans (by rw [hT]))
          have Hhigh := Lib.hid (fun (a : 7 ≤ i) => (binAt_high (n := n) a (by have := tab_len; omega)).trans (by rw [hT]))
          generalize hnm : ents[i].name = nm at hc1 hT HT Hlow Hhigh
          generalize hlv : ents[i].lv = lv at hc2 hrv
          generalize hvl : ents[i].val = fv at hv0 hrv hT HT Hlow Hhigh
          clear hnm hlv hvl hT hcells
          obtain ⟨Al, kl, rfl⟩ := hrv.slice
          have hfl : (dig fv).length ≤ 1048000 := by
            have h1 := tab_small _ (List.getElem_mem (l := tabB 5) (n := i) (by have := tab_len; omega))
            rw [HT.out] at h1
            have h2 : (dig fv).length ≤ 20 := dig_len_le h1
            omega
          have Hrv := Lib.hid hrv
          have hd : decide ((i : Int) < 12) = true := decide_eq_true (by omega)
          have hi0 : (0 : Int) ≤ i := by omega
          have hi12 : (i : Int) < 12 := by omega
          have HS : Hid (∀ W, Below wr.heap.size wr W → W.cell? ⟨g, i * 2 + 1, none⟩ = some (.slice Al (dig fv).length kl) ∧ Below wr.heap.size wr W) := by
            intro W hW
            exact ⟨(hW.cell (p := ⟨g, i * 2 + 1, none⟩) hgl).trans hc2, hW⟩
          have HB0 : Hid (Below wr.heap.size wr wr.drew) := drewB (Below.refl _ _) 1
          clear hrow hrv
          go_wp2
          go_cut [7, 8] from 21 to 59 (fun v7 v8 wx => PCut wr n fv v7 v8 wx)
          case first =>
            have HA : Hid (∀ W o, Below wr.heap.size wr W → Below wr.heap.size wr (World.alloc W o)) := fun W o h => h.alloc h.size o
            have HDr : Hid (∀ W, Below wr.heap.size wr W → Below wr.heap.size wr (World.drew W)) := fun W h => drewB h 1
            have HSt : Hid (∀ W p v, wr.heap.size ≤ p → Below wr.heap.size wr W → Below wr.heap.size wr (World.setCell W ⟨p, 0, none⟩ v)) := fun W p v hp h => h.setCell (p := ⟨p, 0, none⟩) hp v
            have HT : Hid (∀ W W', Below wr.heap.size wr W → Below W.heap.size W W' → Below wr.heap.size wr W') := fun W W' h1 h2 => h1.trans (h2.mono h1.size)
            have HR : Hid (Below wr.heap.size wr wr) := Below.refl _ _
            go_region_held3 (fun w' : World => w'.cell? ⟨g, i * 2 + 1, none⟩ = some (.slice Al (dig fv).length kl) ∧ Below wr.heap.size wr w')
              ((refine HS.out _ ?_; (repeat' (first | exact HR.out | exact HWb.out | exact HWl.out | refine HDr.out _ ?_ | refine HA.out _ _ ?_ | (refine HSt.out _ _ _ ?_ ?_; first | exact Nat.le_refl _ | exact Nat.le_succ _ | exact HWl.out.size | exact Nat.le_trans HWl.out.size (Nat.le_succ _) | exact HWb.out.size | exact Nat.le_trans HWb.out.size (Nat.le_succ _) | skip)))))
              (first
              | ((go_at_call 34); (refine (long_calls _ n hn).mono ?_); (rintro e wl ⟨ll, rfl, hrl, hnl, hwl⟩); (obtain ⟨A5, k5, rfl⟩ := hrl.slice); (have Hrl := Lib.hid hrl); (have HWl := Lib.hid (HT.out _ _ (by repeat' (first | exact HR.out | refine HDr.out _ ?_ | refine HA.out _ _ ?_)) hwl));
                  (try (have z1 : wl.heap[wr.heap.size]? = some (.cells #[.slice none 0 0] 91 (0, 0)) := blk_below (by first | exact blk_new wr _ | exact blk_alloc (blk_new wr _) _) hwl); (have z1' := cells1 z1); (obtain ⟨z1a, z1b⟩ := z1'));
                  (try (have z2 : wl.heap[wr.heap.size + 1]? = some (.cells #[.slice none 0 0] 91 (0, 0)) := (by refine blk_below ?_ hwl; show (Array.push (Array.push wr.heap _) _)[wr.heap.size + 1]? = _; rw [Array.getElem?_push, if_pos (by simp)])); (have z2' := cells1 z2); (obtain ⟨z2a, z2b⟩ := z2'));
                  (clear hrl hnl hwl))
              | ((go_at_call 37); (refine (by_calls _ _ _ n fv hv0 (Rd.below Hrl.out ?hx1) (Hrv.out.below (by repeat' (first | exact HR.out | exact HWl.out | refine HDr.out _ ?_ | refine HA.out _ _ ?_))) (by omega) hfl).mono ?_);
                  (case hx1 => first | exact Below.refl _ _ | exact (Below.refl _ _).alloc (Nat.le_refl _) _ | exact ((Below.refl _ _).alloc (Nat.le_refl _) _).alloc (by simp) _);
                  (rintro e wb ⟨sq, sr, rfl, hrq, hrr, hnq, hnr, hwb⟩); (obtain ⟨Aq, kq, rfl⟩ := hrq.slice); (obtain ⟨Ar, kr, rfl⟩ := hrr.slice); (have Hrq := Lib.hid hrq); (have Hrr := Lib.hid hrr); (have Hnq := Lib.hid hnq); (have Hnr := Lib.hid hnr); (have HWb := Lib.hid (HT.out _ _ (by repeat' (first | exact HR.out | exact HWl.out | refine HDr.out _ ?_ | refine HA.out _ _ ?_)) hwb));
                  (try (have y1 : wb.heap[wr.heap.size]? = some (.cells #[.slice none 0 0] 91 (0, 0)) := blk_below (by first | exact z1 | exact blk_alloc z1 _ | exact blk_alloc (blk_alloc z1 _) _) hwb); (have y1' := cells1 y1); (obtain ⟨y1a, y1b⟩ := y1'); (have y1c : ∀ o, (wb.alloc o).cell? ⟨wr.heap.size, 0, none⟩ = some (.slice none 0 0) := fun o => (cells1 (blk_alloc y1 o)).1); (have y1d : ∀ o, (wb.alloc o).frozen? ⟨wr.heap.size, 0, none⟩ = false := fun o => (cells1 (blk_alloc y1 o)).2); (have y1e : ∀ q v, ¬ wr.heap.size = q → (wb.setCell ⟨q, 0, none⟩ v).cell? ⟨wr.heap.size, 0, none⟩ = some (.slice none 0 0) := fun q v hq => (cells1 (blk_far (p := ⟨q, 0, none⟩) y1 hq v)).1); (have y1f : ∀ q v, ¬ wr.heap.size = q → (wb.setCell ⟨q, 0, none⟩ v).frozen? ⟨wr.heap.size, 0, none⟩ = false := fun q v hq => (cells1 (blk_far (p := ⟨q, 0, none⟩) y1 hq v)).2); (have y1g : ¬ wb.heap.size = wr.heap.size := (by have := blk_lt y1; omega)); (have y1h : ¬ wr.heap.size = wb.heap.size := (by have := blk_lt y1; omega)));
                  (try (have y2 : wb.heap[wr.heap.size + 1]? = some (.cells #[.slice none 0 0] 91 (0, 0)) := blk_below (by first | exact z2 | exact blk_alloc z2 _ | exact blk_alloc (blk_alloc z2 _) _) hwb); (have y2' := cells1 y2); (obtain ⟨y2a, y2b⟩ := y2'); (have y2c : ∀ o, (wb.alloc o).cell? ⟨wr.heap.size + 1, 0, none⟩ = some (.slice none 0 0) := fun o => (cells1 (blk_alloc y2 o)).1); (have y2d : ∀ o, (wb.alloc o).frozen? ⟨wr.heap.size + 1, 0, none⟩ = false := fun o => (cells1 (blk_alloc y2 o)).2); (have y2e : ∀ q v, ¬ wr.heap.size + 1 = q → (wb.setCell ⟨q, 0, none⟩ v).cell? ⟨wr.heap.size + 1, 0, none⟩ = some (.slice none 0 0) := fun q v hq => (cells1 (blk_far (p := ⟨q, 0, none⟩) y2 hq v)).1); (have y2f : ∀ q v, ¬ wr.heap.size + 1 = q → (wb.setCell ⟨q, 0, none⟩ v).frozen? ⟨wr.heap.size + 1, 0, none⟩ = false := fun q v hq => (cells1 (blk_far (p := ⟨q, 0, none⟩) y2 hq v)).2); (have y2g : ¬ wb.heap.size = wr.heap.size + 1 := (by have := blk_lt y2; omega)); (have y2h : ¬ wr.heap.size + 1 = wb.heap.size := (by have := blk_lt y2; omega)));
                  (try (have y3 : wb.heap[wl.heap.size]? = some (.cells #[.slice none 0 0] 91 (0, 0)) := blk_below (by first | exact blk_new wl _ | exact blk_alloc (blk_new wl _) _) hwb); (have y3' := cells1 y3); (obtain ⟨y3a, y3b⟩ := y3'); (have y3c : ∀ o, (wb.alloc o).cell? ⟨wl.heap.size, 0, none⟩ = some (.slice none 0 0) := fun o => (cells1 (blk_alloc y3 o)).1); (have y3d : ∀ o, (wb.alloc o).frozen? ⟨wl.heap.size, 0, none⟩ = false := fun o => (cells1 (blk_alloc y3 o)).2); (have y3e : ∀ q v, ¬ wl.heap.size = q → (wb.setCell ⟨q, 0, none⟩ v).cell? ⟨wl.heap.size, 0, none⟩ = some (.slice none 0 0) := fun q v hq => (cells1 (blk_far (p := ⟨q, 0, none⟩) y3 hq v)).1); (have y3f : ∀ q v, ¬ wl.heap.size = q → (wb.setCell ⟨q, 0, none⟩ v).frozen? ⟨wl.heap.size, 0, none⟩ = false := fun q v hq => (cells1 (blk_far (p := ⟨q, 0, none⟩) y3 hq v)).2); (have y3g : ¬ wb.heap.size = wl.heap.size := (by have := blk_lt y3; omega)); (have y3h : ¬ wl.heap.size = wb.heap.size := (by have := blk_lt y3; omega)));
                  (try (have y4 : wb.heap[wl.heap.size + 1]? = some (.cells #[.slice none 0 0] 91 (0, 0)) := blk_below (by simpa using blk_new (wl.alloc (.cells #[.slice none 0 0] 91)) (.cells #[.slice none 0 0] 91)) hwb); (have y4' := cells1 y4); (obtain ⟨y4a, y4b⟩ := y4'); (have y4c : ∀ o, (wb.alloc o).cell? ⟨wl.heap.size + 1, 0, none⟩ = some (.slice none 0 0) := fun o => (cells1 (blk_alloc y4 o)).1); (have y4d : ∀ o, (wb.alloc o).frozen? ⟨wl.heap.size + 1, 0, none⟩ = false := fun o => (cells1 (blk_alloc y4 o)).2); (have y4e : ∀ q v, ¬ wl.heap.size + 1 = q → (wb.setCell ⟨q, 0, none⟩ v).cell? ⟨wl.heap.size + 1, 0, none⟩ = some (.slice none 0 0) := fun q v hq => (cells1 (blk_far (p := ⟨q, 0, none⟩) y4 hq v)).1); (have y4f : ∀ q v, ¬ wl.heap.size + 1 = q → (wb.setCell ⟨q, 0, none⟩ v).frozen? ⟨wl.heap.size + 1, 0, none⟩ = false := fun q v hq => (cells1 (blk_far (p := ⟨q, 0, none⟩) y4 hq v)).2); (have y4g : ¬ wb.heap.size = wl.heap.size + 1 := (by have := blk_lt y4; omega)); (have y4h : ¬ wl.heap.size + 1 = wb.heap.size := (by have := blk_lt y4; omega)));
                  (try (have hne1 : ¬ wr.heap.size = wl.heap.size := (by have := blk_lt z1; omega); have hne2 : ¬ wl.heap.size = wr.heap.size := (by have := blk_lt z1; omega))); (clear hrq hrr hnq hnr hwb)))
            all_goals
              rename_i hHeld
              have Hfin := Lib.hid hHeld.2
              clear hHeld
              go_wp2_with fail
              go_meet
              case rel =>
                refine pCut_mk (sq := .slice Aq (dig (n / fv)).length kq) (sr := .slice Ar (dig (n % fv)).length kr) ?_ ?_ ?_ ?_ Hfin.out
                · repeat' (first
                    | exact y1 | exact y2 | exact y3 | exact y4
                    | (with_reducible refine blk_newE _ ?_; first | (with_reducible rfl) | (simp; done))
                    | (with_reducible refine blk_set1 (a := .slice none 0 0) ?_)
                    | (with_reducible refine blk_far ?_ (by first | assumption | (simp; done) | (simp; omega)) _)
                    | (with_reducible refine blk_alloc ?_ _))
                · repeat' (first
                    | exact y1 | exact y2 | exact y3 | exact y4
                    | (with_reducible refine blk_newE _ ?_; first | (with_reducible rfl) | (simp; done))
                    | (with_reducible refine blk_set1 (a := .slice none 0 0) ?_)
                    | (with_reducible refine blk_far ?_ (by first | assumption | (simp; done) | (simp; omega)) _)
                    | (with_reducible refine blk_alloc ?_ _))
                · refine rdI_keep Hrq.out Hnq.out ?_
                  repeat' (first | exact Fr.refl _ _ | refine Fr.alloc ?_ _ | (refine Fr.setCell ?_ ?_ _))
                  all_goals (try (have h2 := blk_lt z1)); (try (have h3 := blk_lt z2)); (try (have h4 := blk_lt y1)); (try (have h5 := blk_lt y2)); (try (have h6 := blk_lt y3)); (try (have h7 := blk_lt y4)); (try simp); (try omega)
                · refine rdI_keep Hrr.out Hnr.out ?_
                  repeat' (first | exact Fr.refl _ _ | refine Fr.alloc ?_ _ | (refine Fr.setCell ?_ ?_ _))
                  all_goals (try (have h2 := blk_lt z1)); (try (have h3 := blk_lt z2)); (try (have h4 := blk_lt y1)); (try (have h5 := blk_lt y2)); (try (have h6 := blk_lt y3)); (try (have h7 := blk_lt y4)); (try simp); (try omega)
          case rest =>
            clear HS HB0 hc2 hd
            obtain ⟨p7, p8, sq, sr, rfl, rfl, h7, h8, hq, hr, hW⟩ := hcut
            obtain ⟨Aq, kq, rfl⟩ := hq.slice
            obtain ⟨Ar, kr, rfl⟩ := hr.slice
            obtain ⟨c7, -⟩ := cells1 h7
            obtain ⟨c8, -⟩ := cells1 h8
            have hcn := (hW.cell (p := ⟨g, i * 2, none⟩) hgl).trans hc1
            have HB2 : Hid (Below w.heap.size w wc) := HB.out.trans (hW.mono HB.out.size)
            have Hrow2 := Lib.hid (Hrow.out.below hW)
            have Hq := Lib.hid hq
            have hdq : (dig (n / fv)).length ≤ 19 := Nat.le_trans (dig_len_mono (Nat.div_le_self n fv)) hdl
            have hnms : nm.size ≤ 3 := by
              have h1 := tab_names _ (List.getElem_mem (l := tabB 5) (n := i) (by have := tab_len; omega))
              rw [HT.out] at h1
              rw [size_toList]; exact h1
            clear hq hr hW h7 h8 hc1
            have HT2 : Hid (∀ W W', Below wc.heap.size wc W → Below W.heap.size W W' → Below wc.heap.size wc W') := fun W W' h1 h2 => h1.trans (h2.mono h1.size)
            have HB1 : Hid (Below wc.heap.size wc wc.drew) := drewB (Below.refl _ _) 1
            have HS2 : Hid (∀ W, Below wc.heap.size wc W → W.cell? ⟨p7, 0, none⟩ = some (.slice Aq (dig (n / fv)).length kq) ∧ W.cell? ⟨g, i * 2, none⟩ = some (.string nm) ∧ Below wc.heap.size wc W) := fun W hW =>
              ⟨(hW.cell (p := ⟨p7, 0, none⟩) (World.block_lt_of_cell? _ _ c7)).trans c7, (hW.cell (p := ⟨g, i * 2, none⟩) (World.block_lt_of_cell? _ _ hcn)).trans hcn, hW⟩
            by_cases hrem : n % fv = 0
            · have hl0 : (dig (n % fv)).length = 0 := by rw [hrem, dig_zero]; rfl
              have Hrem := Lib.hid hrem
              clear hrem
              by_cases hlow : i < 7
              · have hlow2 : (i : Int) < 7 := by omega
                go_wp2
                go_region_held3 (fun w' : World => w'.cell? ⟨p7, 0, none⟩ = some (.slice Aq (dig (n / fv)).length kq) ∧ w'.cell? ⟨g, i * 2, none⟩ = some (.string nm) ∧ Below wc.heap.size wc w')
                  (first | exact HS2.out _ HB1.out | exact HS2.out _ HWt.out)
                  (first | ((go_at_call 35); (refine (text_calls _ _ (n / fv) (Hq.out.below (by assumption)) (by omega)).mono ?_); (rintro e wt ⟨st, rfl, ⟨ss, rfl, hss⟩, hwt⟩); (have HWt := Lib.hid (HT2.out _ _ (by assumption) hwt)); (have Hss := Lib.hid hss); (have hsz : ss.size + nm.size ≤ 9223372036854775807 := (by have h1 := asc_len (k := 19) hdq (by omega); rw [size_toList, hss]; omega)); (have hsz2 : ¬ 9223372036854775807 < ss.size + nm.size := (by omega))))
                all_goals
                  have Hn : Hid (PLoop w n ents (.slice (some ⟨g, 0, none⟩) 12 c) (.string (ss ++ nm)) (.string s5) (.int .i64 ((i : Int) + 1)) wt) := by
                    refine ⟨i + 1, by omega, by omega, rfl, ?_, ?_, Hrow2.out.below HWt.out, HB2.out.trans (HWt.out.mono HB2.out.size)⟩
                    · rw [Hlow.out hi1 hlow]
                      exact ⟨_, rfl, by simp [fitStep, Hrem.out, hss]⟩
                    · rw [binAt_low hlow]; exact ⟨_, rfl, Hs5.out⟩
                  clear hss hwt
                  go_wp2
                  go_roundw
                  case rel => exact Hn.out
                  case measure => simp [intOf]; omega
              · have hlow2 : ¬ (i : Int) < 7 := by omega
                go_wp2
                go_region_held3 (fun w' : World => w'.cell? ⟨p7, 0, none⟩ = some (.slice Aq (dig (n / fv)).length kq) ∧ w'.cell? ⟨g, i * 2, none⟩ = some (.string nm) ∧ Below wc.heap.size wc w')
                  (first | exact HS2.out _ HB1.out | exact HS2.out _ HWt.out)
                  (first | ((go_at_call 35); (refine (text_calls _ _ (n / fv) (Hq.out.below (by assumption)) (by omega)).mono ?_); (rintro e wt ⟨st, rfl, ⟨ss, rfl, hss⟩, hwt⟩); (have HWt := Lib.hid (HT2.out _ _ (by assumption) hwt)); (have Hss := Lib.hid hss); (have hsz : ss.size + nm.size ≤ 9223372036854775807 := (by have h1 := asc_len (k := 19) hdq (by omega); rw [size_toList, hss]; omega)); (have hsz2 : ¬ 9223372036854775807 < ss.size + nm.size := (by omega))))
                all_goals
                  have Hn : Hid (PLoop w n ents (.slice (some ⟨g, 0, none⟩) 12 c) (.string s4) (.string (ss ++ nm)) (.int .i64 ((i : Int) + 1)) wt) := by
                    refine ⟨i + 1, by omega, by omega, rfl, ?_, ?_, Hrow2.out.below HWt.out, HB2.out.trans (HWt.out.mono HB2.out.size)⟩
                    · rw [decAt_high (by omega)]; exact ⟨_, rfl, Hs4.out⟩
                    · rw [Hhigh.out (by omega)]
                      exact ⟨_, rfl, by simp [fitStep, Hrem.out, hss]⟩
                  clear hss hwt
                  go_wp2
                  go_roundw
                  case rel => exact Hn.out
                  case measure => simp [intOf]; omega
            · have hl0 : 0 < (dig (n % fv)).length := by
                rcases Nat.eq_zero_or_pos (dig (n % fv)).length with h | h
                · exact absurd (dig_eq_nil.1 (List.eq_nil_of_length_eq_zero h)) hrem
                · exact h
              have Hrem := Lib.hid hrem
              have Hn : Hid (PLoop w n ents (.slice (some ⟨g, 0, none⟩) 12 c) (.string s4) (.string s5) (.int .i64 ((i : Int) + 1)) wc) := by
                refine ⟨i + 1, by omega, by omega, rfl, ⟨_, rfl, ?_⟩, ⟨_, rfl, ?_⟩, Hrow2.out, HB2.out⟩
                · by_cases hlow : i < 7
                  · rw [Hlow.out hi1 hlow, fitStep, if_neg hrem]; exact Hs4.out
                  · rw [decAt_high (by omega)]; exact Hs4.out
                · by_cases hlow : i < 7
                  · rw [binAt_low hlow]; exact Hs5.out
                  · rw [Hhigh.out (by omega), fitStep, if_neg hrem]; exact Hs5.out
              clear hrem
              go_wp2
              go_roundw
              case rel => exact Hn.out
              case measure => simp [intOf]; omega
        · obtain rfl : i = 12 := by omega
          have hres : Hid (printed n = if binAt n 12 ≠ [] ∧ (binAt n 12).length < (decAt n 12).length then binAt n 12 else decAt n 12) := by
            show _ = _
            rw [printed, if_pos hm, if_neg h0]
          have l4 := size_toList s4
          have l5 := size_toList s5
          rw [Hs4.out] at l4
          rw [Hs5.out] at l5
          by_cases hb0 : binAt n 12 = []
          · have h5 : s5 = ByteArray.mk #[] := by
              have := Hs5.out
              rw [hb0] at this
              cases s5 with | mk d => simp at this; rw [this]
            have hr2 : Hid (printed n = decAt n 12) := by
              show _ = _
              rw [hres.out, if_neg (fun h => h.1 hb0)]
            subst h5
            clear l4 l5 hcells hrow hb0
            go_wp2
            go_ret
            exact ⟨_, rfl, ⟨_, rfl, by rw [hr2.out, Hs4.out]⟩, HB.out⟩
          · have hne : ¬ s5 = ByteArray.mk #[] := fun h => hb0 (by rw [← Hs5.out, h])
            have hne2 : ¬ s5.data.toList = [] := by rw [Hs5.out]; exact hb0
            have hne3 : ¬ s5.toList = [] := fun h => hne2 (List.eq_nil_of_length_eq_zero (by rw [← size_toList]; exact (empty_iff s5).1 h))
            have hne4 : s5.toList.isEmpty = false := by
              cases h : s5.toList with
              | nil => exact absurd h hne3
              | cons a b => rfl
            by_cases hll : s5.size < s4.size
            · have hr2 : Hid (printed n = binAt n 12) := by
                show _ = _
                rw [hres.out, if_pos ⟨hb0, by omega⟩]
              clear l4 l5 hcells hrow hb0
              go_wp2
              go_ret
              exact ⟨_, rfl, ⟨_, rfl, by rw [hr2.out, Hs5.out]⟩, HB.out⟩
            · have hr2 : Hid (printed n = decAt n 12) := by
                show _ = _
                rw [hres.out, if_neg (fun h => hll (by omega))]
              clear l4 l5 hcells hrow hb0
              go_wp2
              go_ret
              exact ⟨_, rfl, ⟨_, rfl, by rw [hr2.out, Hs4.out]⟩, HB.out⟩
  · have hp : Hid (printed n = asc n ++ [109]) := by show _ = _; rw [printed, if_neg hm]
    have hb : ((n : Int) % 1000 != 0) = true := by simp; omega
    have hb2 : ¬ (n : Int) % 1000 = 0 := by omega
    go_enter Tryd.func13, Tryd.ntmps13
    go_wp2_with fail
    refine (long_calls _ n hn).mono ?_
    rintro e w1 ⟨l1, rfl, hr1, hn1, hw1⟩
    obtain ⟨A1, c1, rfl⟩ := hr1.slice
    go_wp2_with fail
    refine (text_calls _ _ n hr1 (by omega)).mono ?_
    rintro e w2 ⟨sv, rfl, ⟨s, rfl, hs⟩, hw2⟩
    have hsz : s.size + (ByteArray.mk #[109]).size ≤ 9223372036854775807 := by
      have := asc_len hdl (by omega); rw [size_toList, hs, show (ByteArray.mk #[109]).size = 1 from rfl]; omega
    go_wp2
    go_ret
    refine ⟨_, rfl, ⟨_, rfl, ?_⟩, hw1.trans (hw2.mono hw1.size)⟩
    rw [hp.out]; simp [hs]
end Go.Proofs.YtleajmblagddcaaDoor
