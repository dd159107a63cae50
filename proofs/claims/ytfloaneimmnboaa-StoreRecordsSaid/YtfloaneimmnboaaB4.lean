/- The reference's Reader. -/
import Derived.Test.YtfloaneimmnboaaB1
import Derived.Test.YtfloaneimmnboaaA5
import Derived.Deep.RegionLaw
namespace Go.Proofs.Ytfloaneimmnboaa
open Go.RowKit Go.Maps Go.WideMaps
set_option linter.unusedVariables false
set_option linter.unusedSimpArgs false

theorem drewC {B : Nat} {w w1 : World} (h : Below B w w1) (n : Nat) : Below B w (w1.drewN n) := ⟨h.os, h.tape, h.output, h.size, h.block⟩
structure IsQ (w : World) (g : Nat) (rv : Value) (p : PR) : Prop where
  blk : w.heap[g]? = some (.cells #[rv, .int .i64 p.pos, .int .i64 p.err] 71 (0, 0))
  rd : RdB w rv p.b
  ne : rv.ownBlock ≠ some g
  fit : p.pos ≤ p.b.length
  len : p.b.length ≤ 140737488355328
  lt : ∀ k, rv.ownBlock = some k → k < w.heap.size
theorem IsQ.fr {S : Nat → Prop} {w w1 : World} {g : Nat} {p : PR} {rv : Value} (h : IsQ w g rv p) (hf : Fr S w w1) (hn : ¬ S g) (hn2 : ∀ k, rv.ownBlock = some k → ¬ S k) : IsQ w1 g rv p :=
  ⟨hf.blk h.blk hn, h.rd.fr hf hn2, h.ne, h.fit, h.len, fun k hk => Nat.lt_of_lt_of_le (h.lt k hk) hf.size⟩
theorem IsQ.below {w w1 : World} {g : Nat} {p : PR} {rv : Value} (h : IsQ w g rv p) (hb : Below w.heap.size w w1) : IsQ w1 g rv p :=
  h.fr (Fr.of_below hb (fun _ => False)) (fun h => h) (fun _ _ h => h)
theorem IsQ.set {w w1 : World} {g : Nat} {p : PR} {rv : Value} (h : IsQ w g rv p) (hf : Fr (Only g) w w1) (p' : PR) (hb : p'.b = p.b) (hfit : p'.pos ≤ p.b.length)
    (hblk : w1.heap[g]? = some (.cells #[rv, .int .i64 p'.pos, .int .i64 p'.err] 71 (0, 0))) : IsQ w1 g rv p' :=
  ⟨hblk, by rw [hb]; exact h.rd.fr hf (fun k hk e => h.ne (by rw [hk, show k = g from e])), h.ne, by rw [hb]; exact hfit, by rw [hb]; exact h.len, fun k hk => Nat.lt_of_lt_of_le (h.lt k hk) hf.size⟩
def QPost (w : World) (g : Nat) (rv : Value) (v : Value) (p : PR) : Ending → World → Prop := fun e w' => e = .returned v ∧ IsQ w' g rv p ∧ Fr (Only g) w w'

theorem qerr_calls (w : World) (g : Nat) (rv : Value) (p : PR) (h : IsQ w g rv p) :
    Calls Try.prog 39 #[.pointer (some ⟨g, 0, none⟩)] w (QPost w g rv (.int .i64 p.err) p) := by
  obtain ⟨c0, c1, c2, f0, f1, f2⟩ := cells3 h.blk
  go_enter Try.func39, Try.ntmps39
  go_wp2
  go_ret
  exact ⟨rfl, h, Fr.refl _ _⟩

theorem qbyte_calls (w : World) (g : Nat) (rv : Value) (p : PR) (h : IsQ w g rv p) :
    Calls Try.prog 36 #[.pointer (some ⟨g, 0, none⟩)] w (QPost w g rv (.int .u8 p.byte.1) p.byte.2) := by
  obtain ⟨c0, c1, c2, f0, f1, f2⟩ := cells3 h.blk
  have hfit := h.fit
  have hlen := h.len
  by_cases he : p.err = 0
  · by_cases hlt : p.pos < p.b.length
    · have hp : p.byte = (p.b[p.pos].toNat, { p with pos := p.pos + 1 }) := by rw [PR.byte, if_neg (by simpa using he), dif_pos hlt]
      have Hp := Lib.hid hp
      clear hp
      rw [he] at c2
      have He := Lib.hid he
      obtain ⟨b, off, c, rfl, hc, hb, hcell⟩ := h.rd.some (by intro e; simp [u8s] at e; rw [e] at hlt; simp at hlt)
      have hcl := hcell p.pos (.int .u8 (p.b[p.pos].toNat)) (by simp [u8s, hlt])
      have h0 : ((p.pos : Int) == p.b.length) = false := by simp; omega
      have h0' : ¬ p.pos = p.b.length := by omega
      generalize p.b[p.pos] = x at hcl Hp
      have hng : ¬ Only g b := fun e => h.ne (by rw [show g = b from (show b = g from e).symm]; rfl)
      have hcl1 : ∀ n, ((w.drewN n).setCell ⟨g, 1, none⟩ (.int .i64 ((p.pos : Int) + 1))).cell? ⟨b, off + p.pos, none⟩ = some (.int .u8 x.toNat) := fun n =>
        (((Fr.refl (Only g) w).drewN n).setCell (p := ⟨g, 1, none⟩) (.inl rfl) _).cell hcl hng
      have Hfin : Hid (∀ n m, QPost w g (.slice (some ⟨b, off, none⟩) p.b.length c) (.int .u8 p.byte.1) p.byte.2 (.returned (.int .u8 x.toNat)) (((w.drewN n).setCell ⟨g, 1, none⟩ (.int .i64 ((p.pos : Int) + 1))).drewN m)) := by
        intro n m
        rw [Hp.out]
        have hf2 : Fr (Only g) w (((w.drewN n).setCell ⟨g, 1, none⟩ (.int .i64 ((p.pos : Int) + 1))).drewN m) := (((Fr.refl (Only g) w).drewN n).setCell (p := ⟨g, 1, none⟩) (.inl rfl) _).drewN m
        exact ⟨rfl, h.set hf2 _ rfl (show p.pos + 1 ≤ _ by omega) (blk_setCell h.blk 1 _), hf2⟩
      go_enter Try.func36, Try.ntmps36
      go_wp2
      go_quiet (fail)
      go_wp2
      go_quiet (fail)
      go_wp2
      go_ret
      exact Hfin.out _ _
    · have hp : p.byte = (0, { p with err := 20 }) := by rw [PR.byte, if_neg (by simpa using he), dif_neg hlt]
      have Hp := Lib.hid hp
      clear hp
      rw [he] at c2
      obtain ⟨A, c, rfl⟩ := h.rd.slice
      have h0 : ((p.pos : Int) == p.b.length) = true := by simp; omega
      have h0' : p.pos = p.b.length := by omega
      have Hfin : Hid (∀ n, QPost w g (.slice A p.b.length c) (.int .u8 p.byte.1) p.byte.2 (.returned (.int .u8 0)) ((w.drewN n).setCell ⟨g, 2, none⟩ (.int .i64 20))) := by
        intro n
        rw [Hp.out]
        have hf2 : Fr (Only g) w ((w.drewN n).setCell ⟨g, 2, none⟩ (.int .i64 20)) := (((Fr.refl (Only g) w).drewN n).setCell (p := ⟨g, 2, none⟩) (.inl rfl) _)
        exact ⟨rfl, h.set hf2 _ rfl hfit (blk_setCell h.blk 2 _), hf2⟩
      clear h0'
      go_enter Try.func36, Try.ntmps36
      go_wp2
      go_quiet (fail)
      go_wp2
      go_ret
      exact Hfin.out _
  · have hne : (p.err == 0) = false := by simpa using he
    have hne2 : (p.err != 0) = true := by simpa using he
    have hp : p.byte = (0, p) := by rw [PR.byte, if_pos he]
    rw [hp]
    have Hfin : Hid (∀ n, QPost w g rv (.int .u8 0) p (.returned (.int .u8 0)) (w.drewN n)) := fun n => ⟨rfl, h.below (drewC (Below.refl _ _) n), Fr.of_below (drewC (Below.refl _ _) n) _⟩
    go_enter Try.func36, Try.ntmps36
    go_wp2
    go_quiet (fail)
    go_wp2
    go_ret
    exact Hfin.out _

theorem qend_calls (w : World) (g : Nat) (rv : Value) (p : PR) (h : IsQ w g rv p) :
    Calls Try.prog 42 #[.pointer (some ⟨g, 0, none⟩)] w (QPost w g rv (.int .i64 p.fin.err) p.fin) := by
  obtain ⟨c0, c1, c2, f0, f1, f2⟩ := cells3 h.blk
  have hfit := h.fit
  have hlen := h.len
  obtain ⟨A, c, rfl⟩ := h.rd.slice
  have Hsame : Hid (∀ n, QPost w g (.slice A p.b.length c) (.int .i64 p.err) p (.returned (.int .i64 p.err)) (w.drewN n)) := fun n => ⟨rfl, h.below (drewC (Below.refl _ _) n), Fr.of_below (drewC (Below.refl _ _) n) _⟩
  by_cases he : p.err = 0
  · rw [he] at c2
    by_cases hlt : p.pos < p.b.length
    · have hp : p.fin = { p with err := 22 } := by rw [PR.fin, if_pos ⟨he, hlt⟩]
      rw [hp]
      clear hp he
      have h0 := dT hlt
      have Hfin : Hid (∀ n, QPost w g (.slice A p.b.length c) (.int .i64 22) { p with err := 22 } (.returned (.int .i64 22)) ((w.drewN n).setCell ⟨g, 2, none⟩ (.int .i64 22))) := by
        intro n
        have hf2 : Fr (Only g) w ((w.drewN n).setCell ⟨g, 2, none⟩ (.int .i64 22)) := (((Fr.refl (Only g) w).drewN n).setCell (p := ⟨g, 2, none⟩) (.inl rfl) _)
        exact ⟨rfl, h.set hf2 _ rfl hfit (blk_setCell h.blk 2 _), hf2⟩
      go_enter Try.func42, Try.ntmps42
      go_wp2
      go_quiet (fail)
      go_wp2
      go_ret
      exact Hfin.out _
    · have hp : p.fin = p := by rw [PR.fin, if_neg (fun h => hlt h.2)]
      rw [hp]
      have He := Lib.hid he
      clear hp he
      have h0 := dF hlt
      have h0' : ¬ p.pos < p.b.length := hlt
      go_enter Try.func42, Try.ntmps42
      go_wp2
      go_quiet (fail)
      go_wp2
      go_ret
      have := Hsame.out nq
      rw [He.out] at this ⊢
      exact this
  · have hne : (p.err == 0) = false := by simpa using he
    have hp : p.fin = p := by rw [PR.fin, if_neg (fun h => he h.1)]
    rw [hp]
    go_enter Try.func42, Try.ntmps42
    go_wp2
    go_quiet (fail)
    go_wp2
    go_ret
    exact Hsame.out _

theorem qbool_calls (w : World) (g : Nat) (rv : Value) (p : PR) (h : IsQ w g rv p) :
    Calls Try.prog 40 #[.pointer (some ⟨g, 0, none⟩)] w (QPost w g rv (.bool p.bool.1) p.bool.2) := by
  have hb := qbyte_calls w g rv p h
  have hlt := p.byte_lt
  have hbb := p.byte_b
  have h00 : p.byte.2.err ≠ 0 → p.byte.1 = 0 := by
    unfold PR.byte; split
    · intro _; rfl
    · split
      · rename_i h1 h2; intro h3; exact absurd h3 h1
      · intro _; rfl
  have hpb : p.bool = if 1 < p.byte.1 then (false, { p.byte.2 with pos := p.pos, err := 21 }) else (p.byte.1 == 1, p.byte.2) := rfl
  generalize hq : p.byte = q at hb hlt hbb hpb h00
  obtain ⟨x, q⟩ := q
  simp only at hb hlt hbb hpb h00
  clear hq
  have Hb := Lib.hid hb
  have Hpb := Lib.hid hpb
  have Hbb := Lib.hid hbb
  have H00 := Lib.hid h00
  clear hb hpb hbb h00
  obtain ⟨c0, c1, c2, f0, f1, f2⟩ := cells3 h.blk
  by_cases he : q.err = 0
  · have He := Lib.hid he
    clear he
    by_cases h1 : 1 < x
    · have h1d : decide ((1 : Int) < x) = true := decide_eq_true (by omega)
      go_enter Try.func40, Try.ntmps40
      go_wp2_with fail
      refine Hb.out.mono ?_
      rintro e w1 ⟨rfl, hR, hf⟩
      obtain ⟨d0, d1, d2, e0, e1, e2⟩ := cells3 hR.blk
      rw [He.out] at d2
      have Hfin : Hid (QPost w g rv (.bool p.bool.1) p.bool.2 (.returned (.bool false)) ((w1.setCell ⟨g, 2, none⟩ (.int .i64 21)).setCell ⟨g, 1, none⟩ (.int .i64 p.pos))) := by
        rw [Hpb.out, if_pos h1]
        have hf2 := (hf.setCell (p := ⟨g, 2, none⟩) (.inl rfl) (.int .i64 21)).setCell (p := ⟨g, 1, none⟩) (.inl rfl) (.int .i64 p.pos)
        exact ⟨rfl, h.set hf2 _ Hbb.out h.fit (blk_setCell (blk_setCell hR.blk 2 _) 1 _), hf2⟩
      go_wp2
      go_ret
      exact Hfin.out
    · have h1d : decide ((1 : Int) < x) = false := decide_eq_false (by omega)
      go_enter Try.func40, Try.ntmps40
      go_wp2_with fail
      refine Hb.out.mono ?_
      rintro e w1 ⟨rfl, hR, hf⟩
      obtain ⟨d0, d1, d2, e0, e1, e2⟩ := cells3 hR.blk
      rw [He.out] at d2
      have Hfin : Hid (QPost w g rv (.bool p.bool.1) p.bool.2 (.returned (.bool ((x : Int) == 1))) w1) := by
        rw [Hpb.out, if_neg h1]
        refine ⟨ret_eq ?_, hR, hf⟩
        congr 1
        rw [Bool.eq_iff_iff]; simp; omega
      have hcs : ((x : Int) == 1) = true ∨ ((x : Int) == 1) = false := by cases ((x : Int) == 1) <;> simp
      rcases hcs with h2 | h2
      all_goals
        go_wp2
        go_ret
        have := Hfin.out
        rw [h2] at this
        exact this
  · have hx := H00.out he
    subst hx
    have hne : (q.err == 0) = false := by simpa using he
    go_enter Try.func40, Try.ntmps40
    go_wp2_with fail
    refine Hb.out.mono ?_
    rintro e w1 ⟨rfl, hR, hf⟩
    obtain ⟨d0, d1, d2, e0, e1, e2⟩ := cells3 hR.blk
    go_wp2
    go_ret
    rw [Hpb.out, if_neg (by decide)]
    exact ⟨rfl, hR, hf⟩
end Go.Proofs.Ytfloaneimmnboaa
