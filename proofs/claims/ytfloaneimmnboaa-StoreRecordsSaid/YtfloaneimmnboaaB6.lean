/- The reference's Reader.Count, Text, NewReader. -/
import Derived.Test.YtfloaneimmnboaaB5
namespace Go.Proofs.Ytfloaneimmnboaa
open Go.RowKit Go.Maps Go.WideMaps
set_option linter.unusedVariables false
set_option linter.unusedSimpArgs false

theorem PR.uint_errpos (p : PR) (h : p.uint.2.err ≠ 0) : p.uint.2.pos = p.pos := by
  unfold PR.uint at h ⊢
  split
  · rfl
  · rename_i h1
    rw [if_neg h1] at h
    split
    · rfl
    · rename_i h2; rw [h2] at h; exact absurd h h1

set_option maxHeartbeats 1600000 in
theorem qcount_calls (w : World) (g : Nat) (rv : Value) (p : PR) (h : IsQ w g rv p) (most : Nat) (hm : most ≤ 9223372036854775807) :
    Calls Try.prog 38 #[.pointer (some ⟨g, 0, none⟩), .int .i64 most] w (QPost w g rv (.int .i64 (p.count most).1) (p.count most).2) := by
  have hb := quint_calls w g rv p h
  have hbb := p.uint_b
  have hlt := p.uint_lt
  have hpb : p.count most = if p.uint.2.err ≠ 0 then (0, p.uint.2) else if most < p.uint.1 ∨ 4096 < p.uint.1 then (0, { p.uint.2 with pos := p.pos, err := 23 }) else (p.uint.1, p.uint.2) := rfl
  generalize hq : p.uint = q at hb hpb hbb hlt
  obtain ⟨x, q⟩ := q
  simp only at hb hpb hbb hlt
  clear hq
  have Hb := Lib.hid hb
  have Hpb := Lib.hid hpb
  have Hbb := Lib.hid hbb
  clear hb hpb hbb
  obtain ⟨c0, c1, c2, f0, f1, f2⟩ := cells3 h.blk
  have hw : IntKind.u64.wrap (most : Int) = most := wraps_u64 _ (by omega) (by omega)
  have hm0 : ¬ (most : Int) < 0 := by omega
  have hm0d : decide ((most : Int) < 0) = false := decide_eq_false hm0
  by_cases he : q.err = 0
  · have He := Lib.hid he
    by_cases hbad : most < x ∨ 4096 < x
    · have Hfin : Hid (p.count most = (0, { q with pos := p.pos, err := 23 })) := by
        rw [Hpb.out, if_neg (by simpa using he), if_pos hbad]; rfl
      have hcs : (most < x ∧ ¬ x ≤ most ∧ decide ((most : Int) < x) = true) ∨ (x ≤ most ∧ ¬ most < x ∧ decide ((most : Int) < x) = false ∧ decide ((4096 : Int) < x) = true ∧ (4096 : Int) < x) := by
        by_cases h1 : most < x
        · exact .inl ⟨h1, by omega, dT h1⟩
        · exact .inr ⟨by omega, h1, dF h1, decide_eq_true (by omega), by omega⟩
      clear hbad he
      rcases hcs with ⟨h1, n1, h1'⟩ | ⟨h1, n1, h1', h2, h2'⟩
      all_goals
        go_enter Try.func38, Try.ntmps38
        go_wp2_with fail
        refine Hb.out.mono ?_
        rintro e w1 ⟨rfl, hR, hf⟩
        obtain ⟨d0, d1, d2, e0, e1, e2⟩ := cells3 hR.blk
        rw [He.out] at d2
        have Hfin2 : Hid (QPost w g rv (.int .i64 (p.count most).1) (p.count most).2 (.returned (.int .i64 0)) ((w1.setCell ⟨g, 2, none⟩ (.int .i64 23)).setCell ⟨g, 1, none⟩ (.int .i64 p.pos))) := by
          rw [Hfin.out]
          have hf2 := (hf.setCell (p := ⟨g, 2, none⟩) (.inl rfl) (.int .i64 23)).setCell (p := ⟨g, 1, none⟩) (.inl rfl) (.int .i64 p.pos)
          exact ⟨rfl, h.set hf2 _ Hbb.out h.fit (blk_setCell (blk_setCell hR.blk 2 _) 1 _), hf2⟩
        go_wp2
        go_ret
        exact Hfin2.out
    · have Hfin : Hid (p.count most = (x, q)) := by
        rw [Hpb.out, if_neg (by simpa using he), if_neg hbad]; rfl
      have h1 : decide ((most : Int) < x) = false := dF (fun h => hbad (.inl h))
      have h2 : decide ((4096 : Int) < x) = false := decide_eq_false (by omega)
      have hx : x ≤ 4096 := by omega
      have hx2 : x ≤ most := by omega
      have hx3 : ¬ most < x := by omega
      have hx4 : ¬ (4096 : Int) < x := by omega
      clear hbad he
      go_enter Try.func38, Try.ntmps38
      go_wp2_with fail
      refine Hb.out.mono ?_
      rintro e w1 ⟨rfl, hR, hf⟩
      obtain ⟨d0, d1, d2, e0, e1, e2⟩ := cells3 hR.blk
      rw [He.out] at d2
      go_wp2
      go_ret
      rw [Hfin.out]
      exact ⟨rfl, hR, hf⟩
  · have Hfin : Hid (p.count most = (0, q)) := by
        rw [Hpb.out, if_pos he]; rfl
    have hne : (q.err != 0) = true := by simpa using he
    have hne2 : (q.err == 0) = false := by simpa using he
    go_enter Try.func38, Try.ntmps38
    go_wp2_with fail
    refine Hb.out.mono ?_
    rintro e w1 ⟨rfl, hR, hf⟩
    obtain ⟨d0, d1, d2, e0, e1, e2⟩ := cells3 hR.blk
    go_wp2
    go_ret
    rw [Hfin.out]
    exact ⟨rfl, hR, hf⟩

set_option maxRecDepth 100000 in
set_option maxHeartbeats 3200000 in
theorem qtext_calls (w : World) (g : Nat) (rv : Value) (p : PR) (h : IsQ w g rv p) (most : Nat) (hm : most ≤ 9223372036854775807) :
    Calls Try.prog 41 #[.pointer (some ⟨g, 0, none⟩), .int .i64 most] w (QPost w g rv (.string ⟨(p.text most).1.toArray⟩) (p.text most).2) := by
  have hb := quint_calls w g rv p h
  have hbb := p.uint_b
  have hlt := p.uint_lt
  have hep := p.uint_errpos
  have hpb : p.text most = if p.uint.2.err ≠ 0 then ([], p.uint.2) else if most < p.uint.1 then ([], { p.uint.2 with pos := p.pos, err := 23 })
    else if p.b.length - p.uint.2.pos < p.uint.1 then ([], { p.uint.2 with pos := p.pos, err := 20 })
    else ((p.b.drop p.uint.2.pos).take p.uint.1, { p.uint.2 with pos := p.uint.2.pos + p.uint.1 }) := rfl
  generalize hq : p.uint = q at hb hpb hbb hlt hep
  obtain ⟨x, q⟩ := q
  simp only at hb hpb hbb hlt hep
  clear hq
  have Hb := Lib.hid hb
  have Hpb := Lib.hid hpb
  have Hbb := Lib.hid hbb
  have Hep := Lib.hid hep
  clear hb hpb hbb hep
  obtain ⟨c0, c1, c2, f0, f1, f2⟩ := cells3 h.blk
  have hw : IntKind.u64.wrap (most : Int) = most := wraps_u64 _ (by omega) (by omega)
  have hlen := h.len
  have hm0 : ¬ (most : Int) < 0 := by omega
  have hm0d : decide ((most : Int) < 0) = false := decide_eq_false hm0
  by_cases he : q.err = 0
  · have He := Lib.hid he
    by_cases hbad : most < x
    · have Hfin : Hid (p.text most = ([], { q with pos := p.pos, err := 23 })) := by
        rw [Hpb.out, if_neg (by simpa using he), if_pos hbad]; rfl
      have h1 : decide ((most : Int) < x) = true := dT hbad
      have n1 : ¬ x ≤ most := by omega
      clear he
      go_enter Try.func41, Try.ntmps41
      go_wp2_with fail
      refine Hb.out.mono ?_
      rintro e w1 ⟨rfl, hR, hf⟩
      obtain ⟨d0, d1, d2, e0, e1, e2⟩ := cells3 hR.blk
      rw [He.out] at d2
      obtain ⟨A, c, rfl⟩ := h.rd.slice
      have Hfin2 : Hid (∀ n, QPost w g (.slice A p.b.length c) (.string ⟨(p.text most).1.toArray⟩) (p.text most).2 (.returned (.string ⟨#[]⟩)) (((w1.setCell ⟨g, 2, none⟩ (.int .i64 23)).drewN n).setCell ⟨g, 1, none⟩ (.int .i64 p.pos))) := by
        intro n
        rw [Hfin.out]
        have hf2 := ((hf.setCell (p := ⟨g, 2, none⟩) (.inl rfl) (.int .i64 23)).drewN n).setCell (p := ⟨g, 1, none⟩) (.inl rfl) (.int .i64 p.pos)
        exact ⟨rfl, h.set hf2 _ Hbb.out h.fit (blk_setCell (blk_setCell hR.blk 2 _) 1 _), hf2⟩
      go_wp2
      go_quiet (fail)
      go_wp2
      go_ret
      exact Hfin2.out _
    · have h1 : decide ((most : Int) < x) = false := dF hbad
      have n1 : x ≤ most := by omega
      by_cases hsh : p.b.length - q.pos < x
      · have Hfin : Hid (p.text most = ([], { q with pos := p.pos, err := 20 })) := by
          rw [Hpb.out, if_neg (by simpa using he), if_neg hbad, if_pos hsh]; rfl
        clear he
        go_enter Try.func41, Try.ntmps41
        go_wp2_with fail
        refine Hb.out.mono ?_
        rintro e w1 ⟨rfl, hR, hf⟩
        obtain ⟨d0, d1, d2, e0, e1, e2⟩ := cells3 hR.blk
        rw [He.out] at d2
        obtain ⟨A, c, rfl⟩ := h.rd.slice
        have hqf : q.pos ≤ p.b.length := by rw [← Hbb.out]; exact hR.fit
        have h2 : decide ((p.b.length : Int) - q.pos < x) = true := decide_eq_true (by omega)
        have h2' : (p.b.length : Int) - q.pos < x := by omega
        have hw1 : IntKind.i64.wrap ((p.b.length : Int) - q.pos) = (p.b.length : Int) - q.pos := IntWalk.i64_in _ (by omega)
        have hw2 : IntKind.u64.wrap ((p.b.length : Int) - q.pos) = (p.b.length : Int) - q.pos := wraps_u64 _ (by omega) (by omega)
        have Hfin2 : Hid (∀ n, QPost w g (.slice A p.b.length c) (.string ⟨(p.text most).1.toArray⟩) (p.text most).2 (.returned (.string ⟨#[]⟩)) (((w1.drewN n).setCell ⟨g, 2, none⟩ (.int .i64 20)).setCell ⟨g, 1, none⟩ (.int .i64 p.pos))) := by
          intro n
          rw [Hfin.out]
          have hf2 := ((hf.drewN n).setCell (p := ⟨g, 2, none⟩) (.inl rfl) (.int .i64 20)).setCell (p := ⟨g, 1, none⟩) (.inl rfl) (.int .i64 p.pos)
          exact ⟨rfl, h.set hf2 _ Hbb.out h.fit (blk_setCell (blk_setCell hR.blk 2 _) 1 _), hf2⟩
        go_wp2
        go_quiet (fail)
        go_wp2
        go_ret
        exact Hfin2.out _
      · have Hfin : Hid (p.text most = ((p.b.drop q.pos).take x, { q with pos := q.pos + x })) := by
          rw [Hpb.out, if_neg (by simpa using he), if_neg hbad, if_neg hsh]; rfl
        clear he
        go_enter Try.func41, Try.ntmps41
        go_wp2_with fail
        refine Hb.out.mono ?_
        rintro e w1 ⟨rfl, hR, hf⟩
        obtain ⟨d0, d1, d2, e0, e1, e2⟩ := cells3 hR.blk
        rw [He.out] at d2
        obtain ⟨A, c, rfl⟩ := h.rd.slice
        have hqf : q.pos ≤ p.b.length := by rw [← Hbb.out]; exact hR.fit
        have hw3 : IntKind.i64.wrap (x : Int) = x := IntWalk.i64_in _ (by omega)
        have h2 : decide ((p.b.length : Int) - q.pos < x) = false := decide_eq_false (by omega)
        have h2' : ¬ (p.b.length : Int) - q.pos < x := by omega
        have hw1 : IntKind.i64.wrap ((p.b.length : Int) - q.pos) = (p.b.length : Int) - q.pos := IntWalk.i64_in _ (by omega)
        have hw2 : IntKind.u64.wrap ((p.b.length : Int) - q.pos) = (p.b.length : Int) - q.pos := wraps_u64 _ (by omega) (by omega)
        have hxl : q.pos + x ≤ p.b.length := by omega
        obtain ⟨i5, hi5, -, hs5, -⟩ := info_parts infoU8
        have hrd : ∀ n, RdB ((w1.drewN n).setCell ⟨g, 1, none⟩ (.int .i64 ((q.pos : Int) + x))) (.slice A p.b.length c) p.b := fun n => by
          have hr := hR.rd.fr (((Fr.refl (Only g) w1).drewN n).setCell (p := ⟨g, 1, none⟩) (.inl rfl) (.int .i64 ((q.pos : Int) + x))) (fun k hk e => hR.ne (by rw [hk, show k = g from e]))
          have hr2 : RdB _ _ q.b := hr
          rw [Hbb.out] at hr2
          exact hr2
        obtain ⟨A2, c2', hsl, hrd2⟩ := cut_bytes (P := Try.prog) 42 5 Try.underlying42 hi5 hs5 (hrd 0) q.pos x hxl
        have hcv := fun n m => conv_bytes (P := Try.prog) 42 9 5 Try.underlying42 Try.underlying5 Try.underlying9 (show RdB (((w1.drewN n).setCell ⟨g, 1, none⟩ (.int .i64 ((q.pos : Int) + x))).drewN m) _ _ from hrd2)
        have hfin2 : ∀ n m, QPost w g (.slice A p.b.length c) (.string ⟨(p.text most).1.toArray⟩) (p.text most).2 (.returned (.string ⟨((p.b.drop q.pos).take x).toArray⟩)) (((w1.drewN n).setCell ⟨g, 1, none⟩ (.int .i64 ((q.pos : Int) + x))).drewN m) := by
          intro n m
          rw [Hfin.out]
          have hf2 := ((hf.drewN n).setCell (p := ⟨g, 1, none⟩) (.inl rfl) (.int .i64 ((q.pos : Int) + x))).drewN m
          exact ⟨rfl, h.set hf2 _ Hbb.out (show q.pos + x ≤ _ by omega) (blk_setCell hR.blk 1 _), hf2⟩
        have Hfin2 := Lib.hid hfin2
        clear hfin2 hrd2 hrd Hfin hf
        generalize ((p.b.drop q.pos).take x).toArray = res at hcv Hfin2
        go_wp2
        go_quiet (fail)
        go_wp2
        go_quiet (fail)
        go_wp2
        go_ret
        exact Hfin2.out _ _
  · have Hfin : Hid (p.text most = ([], q)) := by
        rw [Hpb.out, if_pos he]; rfl
    have hne : (q.err != 0) = true := by simpa using he
    have hne2 : (q.err == 0) = false := by simpa using he
    have hqp := Hep.out he
    go_enter Try.func41, Try.ntmps41
    go_wp2_with fail
    refine Hb.out.mono ?_
    rintro e w1 ⟨rfl, hR, hf⟩
    obtain ⟨d0, d1, d2, e0, e1, e2⟩ := cells3 hR.blk
    have Hfin2 : Hid (∀ n, QPost w g rv (.string ⟨(p.text most).1.toArray⟩) (p.text most).2 (.returned (.string ⟨#[]⟩)) ((w1.drewN n).setCell ⟨g, 1, none⟩ (.int .i64 p.pos))) := by
      intro n
      rw [Hfin.out]
      have hf2 := (hf.drewN n).setCell (p := ⟨g, 1, none⟩) (.inl rfl) (.int .i64 p.pos)
      refine ⟨rfl, h.set hf2 _ Hbb.out (by rw [← Hbb.out]; exact hR.fit) ?_, hf2⟩
      have := blk_setCell (w := w1.drewN n) hR.blk 1 (.int .i64 p.pos)
      rw [hqp]; exact this
    clear hqp he
    go_wp2
    go_quiet (fail)
    go_wp2
    go_ret
    exact Hfin2.out _
end Go.Proofs.Ytfloaneimmnboaa
