/- The reference's wrong. -/
import Derived.Test.YtfloaneimmnboaaB1
namespace Go.Proofs.Ytfloaneimmnboaa
open Go.RowKit Go.Maps Go.WideMaps
set_option linter.unusedVariables false
set_option linter.unusedSimpArgs false

theorem tl_inj {a b : ByteArray} : a.toList = b.toList ↔ a = b := by
  rw [ByteArray.toList_eq, ByteArray.toList_eq]
  exact ⟨ba_ext, fun h => by rw [h]⟩
theorem drewB {B : Nat} {w w1 : World} (h : Below B w w1) (n : Nat) : Below B w (w1.drewN n) := ⟨h.os, h.tape, h.output, h.size, h.block⟩

def WL1 (w : World) (l : List Ch) (i : Value) (w1 : World) : Prop := ∃ k : Nat, k ≤ l.length ∧ i = .int .i64 k ∧ goodTo l k ∧ Below w.heap.size w w1
def WL2 (w : World) (l : List Ch) (k : Nat) (i : Value) (w1 : World) : Prop := ∃ j : Nat, j ≤ k ∧ i = .int .i64 j ∧ (∀ q (hq : q < l.length) (hk : k < l.length), q < j → l[q].key ≠ l[k].key) ∧ Below w.heap.size w w1
def WL3 (w : World) (l : List Ch) (i : Value) (w1 : World) : Prop := ∃ k : Nat, k ≤ l.length ∧ i = .int .i64 k ∧ (∀ j, j < k → ¬ longAt l j) ∧ Below w.heap.size w w1

theorem wrong_cases (l : List Ch) (k : Nat) (hlt : k < l.length) (xk xv : ByteArray) (xg : Bool) (hx : l[k] = ⟨xk, xv, xg⟩) :
    (xk.toList = [] ∧ xk.toList.isEmpty = true ∧ Hid (rightE l = 1)) ∨ (¬ xk.toList = [] ∧ xk.toList.isEmpty = false ∧ xg = true ∧ ¬ xv.toList = [] ∧ xv.toList.isEmpty = false ∧ Hid (rightE l = 1)) ∨
    (¬ xk.toList = [] ∧ xk.toList.isEmpty = false ∧ xg = true ∧ xv.toList = [] ∧ xv.toList.isEmpty = true ∧ Hid (xk.size ≠ 0 ∧ (xg = true → xv.size = 0))) ∨
    (¬ xk.toList = [] ∧ xk.toList.isEmpty = false ∧ xg = false ∧ Hid (xk.size ≠ 0 ∧ (xg = true → xv.size = 0))) := by
  have hbad : ¬ okAt l k → rightE l = 1 := fun hno => by
    rw [rightE, if_pos (.inr (fun hg => hno (hg k hlt)))]
  have hne : ∀ xk : ByteArray, xk.toList ≠ [] → xk.toList.isEmpty = false := fun xk h => by
    cases e : xk.toList with
    | nil => exact absurd e h
    | cons => rfl
  by_cases h1 : xk.toList = []
  · exact .inl ⟨h1, by rw [h1]; rfl, hbad (fun hok => (hok hlt).1 (by rw [hx]; exact (empty_iff _).1 h1))⟩
  have h1' := hne _ h1
  have h1s : xk.size ≠ 0 := fun e => h1 ((empty_iff _).2 e)
  cases xg
  · exact .inr (.inr (.inr ⟨h1, h1', rfl, h1s, fun h => by cases h⟩))
  · by_cases h3 : xv.toList = []
    · exact .inr (.inr (.inl ⟨h1, h1', rfl, h3, by rw [h3]; rfl, h1s, fun _ => (empty_iff _).1 h3⟩))
    · exact .inr (.inl ⟨h1, h1', rfl, h3, hne _ h3, hbad (fun hok => h3 ((empty_iff _).2 (by have := (hok hlt).2.1; rw [hx] at this; exact this rfl)))⟩)

set_option maxRecDepth 100000 in
set_option maxHeartbeats 3200000 in
theorem wrong_calls (w : World) (v : Value) (l : List Ch) (h : RdC w v l) :
    Calls Try.prog 19 #[v] w fun e w' => e = .returned (.int .i64 (rightE l)) ∧ Below w.heap.size w w' := by
  by_cases hl : l = []
  · obtain ⟨-, A, c, rfl, -⟩ := h.rd
    subst hl
    have e0 : ([] : List Ch).length = 0 := rfl
    rw [e0]
    clear h e0
    go_enter Try.func19, Try.ntmps19
    go_wp2
    go_ret
    exact ⟨by rw [show rightE [] = 1 from by rw [rightE, if_pos (.inl rfl)]]; rfl, Below.refl _ _⟩
  · obtain ⟨b, off, c, rfl, hc, hb, hcell⟩ := h.some hl
    have hlen := h.len
    have hpos : 0 < l.length := List.length_pos_iff.2 hl
    have h0 : ((l.length : Int) == 0) = false := by simp; omega
    go_enter Try.func19, Try.ntmps19
    go_wp2
    go_loopw [3] (fun i w1 => WL1 w l i w1) (fun i _ => l.length - (intOf i).toNat)
    case atStart => exact ⟨0, Nat.zero_le _, rfl, fun k hk => absurd hk (by omega), Below.refl _ _⟩
    case round =>
      obtain ⟨k, hk, rfl, hgood, hbe⟩ := hrel
      have Hgood := Lib.hid hgood
      clear hgood
      by_cases hlt : k < l.length
      · obtain ⟨q0, q1, q2⟩ := hcell k hlt
        replace q0 := (hbe.cell (p := ⟨b, off + k * 3, none⟩) hb).trans q0
        replace q1 := (hbe.cell (p := ⟨b, off + k * 3 + 1, none⟩) hb).trans q1
        replace q2 := (hbe.cell (p := ⟨b, off + k * 3 + 2, none⟩) hb).trans q2
        have hltd := dT hlt
        generalize hx : l[k] = x at q0 q1 q2
        obtain ⟨xk, xv, xg⟩ := x
        simp only at q0 q1 q2
        have hcs := wrong_cases l k hlt xk xv xg hx
        have Hx := Lib.hid hx
        clear hx
        have Hbe := Lib.hid hbe
        rcases hcs with ⟨s1, s2, Hr⟩ | ⟨s1, s2, rfl, s3, s4, Hr⟩ | ⟨s1, s2, rfl, s3, s4, Ho⟩ | ⟨s1, s2, rfl, Ho⟩
        · go_wp2
          go_ret
          exact ⟨by rw [Hr.out]; rfl, Hbe.out⟩
        · go_wp2
          go_ret
          exact ⟨by rw [Hr.out]; rfl, Hbe.out⟩
        all_goals
          have Hw1 : Hid (WL2 w l k (.int .i64 0) wr) := ⟨0, Nat.zero_le _, rfl, fun q _ _ h => absurd h (by omega), hbe⟩
          clear hbe
          go_wp2
          clear q0 q1 q2
          go_loopw [4] (fun i w1 => WL2 w l k i w1) (fun i _ => k - (intOf i).toNat)
          case atStart => exact Hw1.out
          case round =>
            obtain ⟨j, hj, rfl, hno, hbe⟩ := hrel
            have Hno := Lib.hid hno
            clear hno
            have Hbe2 := Lib.hid hbe
            by_cases hjk : j < k
            · have hjkd := dT hjk
              obtain ⟨r0, -, -⟩ := hcell j (by omega)
              obtain ⟨q0, -, -⟩ := hcell k hlt
              replace r0 := (hbe.cell (p := ⟨b, off + j * 3, none⟩) hb).trans r0
              replace q0 := (hbe.cell (p := ⟨b, off + k * 3, none⟩) hb).trans q0
              have hjl : j < l.length := by omega
              clear hbe
              by_cases he : l[j].key = l[k].key
              · have Hr1 : Hid (rightE l = 1) := by
                  show rightE l = 1
                  rw [rightE, if_pos (.inr (fun hg => (hg k hlt hlt).2.2 j hjk he))]
                rw [he] at r0
                generalize l[k].key = yk at q0 r0
                clear he
                go_wp2
                go_quiet (fail)
                go_wp2
                go_ret
                exact ⟨by rw [Hr1.out]; rfl, drewB Hbe2.out _⟩
              · have Hw2 : Hid (∀ n, WL2 w l k (.int .i64 ((j + 1 : Nat) : Int)) (wr.drewN n)) := fun n => ⟨j + 1, by omega, rfl, fun q hq hk2 hqj => by
                  by_cases e : q = j
                  · subst e; exact he
                  · exact Hno.out q hq hk2 (by omega), drewB Hbe2.out _⟩
                have hne : ¬ l[j].key.toList = l[k].key.toList := fun e => he (tl_inj.1 e)
                have hne2 : (l[j].key == l[k].key) = false := by rw [beq_toListBytes, beq_eq_false_iff_ne]; exact hne
                have hne3 : (l[j].key.toList == l[k].key.toList) = false := by rw [beq_eq_false_iff_ne]; exact hne
                have hne4 := he
                generalize l[k].key = yk at q0 hne hne2 hne3 hne4
                generalize l[j].key = zk at r0 hne hne2 hne3 hne4
                clear he
                go_wp2
                go_quiet (fail)
                go_wp2
                go_roundw
                case rel => exact Hw2.out _
                case measure => simp [intOf]; omega
            · have hjkd := dF hjk
              have Hw3 : Hid (WL1 w l (.int .i64 ((k + 1 : Nat) : Int)) wr) := ⟨k + 1, by omega, rfl, fun i hi => by
                by_cases e : i = k
                · subst e
                  intro hk2
                  have h2 := Ho.out
                  rw [Hx.out]
                  refine ⟨h2.1, fun hg => (by first | exact h2.2 hg | exact h2.2 trivial | cases hg), fun q hq e => ?_⟩
                  exact Hno.out q (by omega) hk2 (by omega) (by rw [e, Hx.out])
                · exact Hgood.out i (by omega), Hbe2.out⟩
              clear hbe
              go_wp2
              go_roundw
              case rel => exact Hw3.out
              case measure => simp [intOf]; omega
      · have Hg2 : Hid (goodTo l l.length) := by
          have := Hgood.out
          rw [show k = l.length from by omega] at this; exact this
        have hltd := dF hlt
        have Hw4 : Hid (WL3 w l (.int .i64 0) wr) := ⟨0, Nat.zero_le _, rfl, fun j h => absurd h (by omega), hbe⟩
        clear hbe
        go_wp2
        go_loopw [5] (fun i w1 => WL3 w l i w1) (fun i _ => l.length - (intOf i).toNat)
        case atStart => exact Hw4.out
        case round =>
          obtain ⟨k2, hk2, rfl, hno, hbe2⟩ := hrel
          have Hno := Lib.hid hno
          clear hno
          have Hbe2 := Lib.hid hbe2
          by_cases hlt2 : k2 < l.length
          · have hltd2 := dT hlt2
            obtain ⟨q0, q1, -⟩ := hcell k2 hlt2
            replace q0 := (hbe2.cell (p := ⟨b, off + k2 * 3, none⟩) hb).trans q0
            replace q1 := (hbe2.cell (p := ⟨b, off + k2 * 3 + 1, none⟩) hb).trans q1
            have hs1 := (h.str _ (List.getElem_mem hlt2)).1
            have hs2 := (h.str _ (List.getElem_mem hlt2)).2
            have hlg : longAt l k2 ↔ (120 < l[k2].key.size ∨ 8192 < l[k2].val.size) := ⟨fun ⟨_, h⟩ => h, fun h => ⟨hlt2, h⟩⟩
            have hr23 : longAt l k2 → rightE l = 23 := fun hlo => by rw [rightE_end l Hg2.out (by omega), rightL, if_pos (.inl ⟨_, hlo⟩)]
            generalize l[k2].key = xk at q0 hs1 hlg
            generalize l[k2].val = xv at q1 hs2 hlg
            have hcs : ((120 : Int) < xk.size ∧ decide ((120 : Int) < xk.size) = true ∧ Hid (rightE l = 23)) ∨ (¬ (120 : Int) < xk.size ∧ decide ((120 : Int) < xk.size) = false ∧ decide ((8192 : Int) < xv.size) = true ∧ Hid (rightE l = 23)) ∨
                (¬ (120 : Int) < xk.size ∧ decide ((120 : Int) < xk.size) = false ∧ decide ((8192 : Int) < xv.size) = false ∧ Hid (¬ longAt l k2)) := by
              by_cases h1 : 120 < xk.size
              · exact .inl ⟨by omega, dT (a := 120) h1, hr23 (hlg.2 (.inl h1))⟩
              · by_cases h2 : 8192 < xv.size
                · exact .inr (.inl ⟨by omega, dF (a := 120) h1, dT (a := 8192) h2, hr23 (hlg.2 (.inr h2))⟩)
                · exact .inr (.inr ⟨by omega, dF (a := 120) h1, dF (a := 8192) h2, fun h => (hlg.1 h).elim h1 h2⟩)
            clear hlg hr23 hbe2
            rcases hcs with ⟨s0, s1, Hr⟩ | ⟨s0, s1, s2, Hr⟩ | ⟨s0, s1, s2, Hr⟩
            all_goals
              go_wp2
              first
                | (go_ret
                   exact ⟨by rw [Hr.out]; rfl, Hbe2.out⟩)
                | (go_roundw
                   case rel => exact ⟨k2 + 1, by omega, by go_num, fun j hj => (Nat.lt_or_eq_of_le (Nat.le_of_lt_succ hj)).elim (fun h => Hno.out j h) (fun e => by rw [e]; exact Hr.out), Hbe2.out⟩
                   case measure => simp [intOf]; omega)
          · have hltd2 := dF hlt2
            have hall : ¬ ∃ k, longAt l k := fun ⟨j, hj⟩ => Hno.out j (by have := hj.1; omega) hj
            have hE := rightE_end l Hg2.out (by omega)
            rw [rightL] at hE
            have HE := Lib.hid hE
            have Hall := Lib.hid hall
            clear hE hall hbe2
            by_cases h4 : 4096 < l.length
            · have h4d : decide ((4096 : Int) < l.length) = true := by simp; omega
              go_wp2
              go_ret
              exact ⟨by rw [HE.out, if_pos (.inr h4)]; rfl, Hbe2.out⟩
            · have h4d : decide ((4096 : Int) < l.length) = false := by simp; omega
              go_wp2
              go_ret
              exact ⟨by rw [HE.out, if_neg (fun h => h.elim Hall.out h4)]; rfl, Hbe2.out⟩
end Go.Proofs.Ytfloaneimmnboaa
