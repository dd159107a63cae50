/- The contracts of pack's Reader, the rest: Uint, Count, Text, NewReader. -/
import Derived.Test.YtfloaneimmnboaaA4
namespace Go.Proofs.Ytfloaneimmnboaa
open Go.RowKit Go.Maps Go.WideMaps
set_option linter.unusedVariables false
set_option linter.unusedSimpArgs false

theorem uint_calls (w : World) (g : Nat) (rv : Value) (p : PR) (h : IsR w g rv p) :
    Calls Try.prog 29 #[.pointer (some ⟨g, 0, none⟩)] w (RPost w g rv (.int .u64 p.uint.1) p.uint.2) := by
  by_cases he : p.err = 0
  · exact uint_good w g rv p h he
  · obtain ⟨c0, c1, c2, f0, f1, f2⟩ := cells3 h.blk
    have hne : (p.err != 0) = true := by simpa using he
    have hp : p.uint = (0, p) := by rw [PR.uint, if_pos he]
    rw [hp]
    go_enter Try.func29, Try.ntmps29
    go_wp2
    go_ret
    exact ⟨rfl, h, Fr.refl _ _⟩

theorem scan_bound : ∀ (l : List UInt8) (k v : Nat), k ≤ 9 → v < 128 ^ k → ∀ x n, scan l k v = .ok (x, n) → x < 18446744073709551616 ∧ k < n ∧ n ≤ k + l.length := by
  intro l
  induction l with
  | nil => intro k v _ _ x n h; cases h
  | cons b r ih =>
    intro k v hk hv x n h
    rw [scan] at h
    split at h
    · split at h
      · cases h
      · rename_i h9
        have := ih (k + 1) _ (by omega) (grow128 hv (Nat.mod_lt _ (by decide))) x n h
        simp only [List.length_cons]; omega
    · split at h
      · cases h
      · rename_i h1 h2
        cases h
        refine ⟨?_, by omega, by simp only [List.length_cons]; omega⟩
        have hp := pow128_le hk
        by_cases h8 : k ≤ 8
        · have h3 : 128 ^ k ≤ 128 ^ 8 := Nat.pow_le_pow_right (by decide) h8
          have : b.toNat * 128 ^ k ≤ 127 * 128 ^ 8 := Nat.mul_le_mul (by omega) h3
          have e : (127 : Nat) * 128 ^ 8 = 9151314442816847872 := by decide
          have e2 : (128 : Nat) ^ 8 = 72057594037927936 := by decide
          omega
        · have : k = 9 := by omega
          subst this
          have : b.toNat * 128 ^ 9 ≤ 1 * 128 ^ 9 := Nat.mul_le_mul_right _ (by omega)
          have e : (128 : Nat) ^ 9 = 9223372036854775808 := by decide
          omega

theorem PR.uint_b (p : PR) : p.uint.2.b = p.b := by
  unfold PR.uint; split
  · rfl
  · split <;> rfl
theorem PR.uint_lt (p : PR) : p.uint.1 < 18446744073709551616 := by
  unfold PR.uint; split
  · simp
  · split
    · simp
    · rename_i h; exact (scan_bound _ 0 0 (by decide) (by decide) _ _ h).1

/-- 'most' above any length that is there -/
def PR.count (p : PR) (most : Nat) : Nat × PR :=
  if p.uint.2.err ≠ 0 then (0, p.uint.2) else if most < p.uint.1 ∨ 4096 < p.uint.1 then (0, { p.uint.2 with pos := p.pos, err := 23 }) else (p.uint.1, p.uint.2)

theorem count_calls (w : World) (g : Nat) (rv : Value) (p : PR) (h : IsR w g rv p) (most : Nat) (hm : most ≤ 9223372036854775807) :
    Calls Try.prog 30 #[.pointer (some ⟨g, 0, none⟩), .int .i64 most] w (RPost w g rv (.int .i64 (p.count most).1) (p.count most).2) := by
  have hb := uint_calls w g rv p h
  have hbb := p.uint_b
  have hlt := p.uint_lt
  have hpb : p.count most = if p.uint.2.err ≠ 0 then (0, p.uint.2) else if most < p.uint.1 ∨ 4096 < p.uint.1 then (0, { p.uint.2 with pos := p.pos, err := 23 }) else (p.uint.1, p.uint.2) := rfl
  generalize hq : p.uint = q at hb hpb hbb hlt
  obtain ⟨x, q⟩ := q
  simp only at hb hpb hbb hlt
  clear hq
  have Hb := Lib.hid hb
  have Hpb := Lib.hid hpb
  have Hbb := Lib.hid hbb
  clear hb hpb hbb
  obtain ⟨c0, c1, c2, f0, f1, f2⟩ := cells3 h.blk
  have hw : IntKind.u64.wrap (most : Int) = most := wraps_u64 _ (by omega) (by omega)
  by_cases he : q.err = 0
  · by_cases hbad : most < x ∨ 4096 < x
    · have Hfin : Hid (p.count most = (0, { q with pos := p.pos, err := 23 })) := by
        rw [Hpb.out, if_neg (by simpa using he), if_pos hbad]; rfl
      have hcs : (most < x ∧ ¬ x ≤ most ∧ decide ((most : Int) < x) = true) ∨ (x ≤ most ∧ ¬ most < x ∧ decide ((most : Int) < x) = false ∧ decide ((4096 : Int) < x) = true ∧ (4096 : Int) < x) := by
        by_cases h1 : most < x
        · exact .inl ⟨h1, by omega, dT h1⟩
        · exact .inr ⟨by omega, h1, dF h1, decide_eq_true (by omega), by omega⟩
      clear hbad
      have He := Lib.hid he
      clear he
      rcases hcs with ⟨h1, n1, h1'⟩ | ⟨h1, n1, h1', h2, h2'⟩
      all_goals
        go_enter Try.func30, Try.ntmps30
        go_wp2_with fail
        refine Hb.out.mono ?_
        rintro e w1 ⟨rfl, hR, hf⟩
        obtain ⟨d0, d1, d2, e0, e1, e2⟩ := cells3 hR.blk
        rw [He.out] at d2
        go_wp2_with fail
        refine (fail_calls w1 g rv q hR p.pos (by rw [Hbb.out]; exact h.fit) 23).mono ?_
        rintro e w2 ⟨rfl, hR2, hf2⟩
        go_wp2
        go_ret
        rw [Hfin.out]
        exact ⟨rfl, hR2, hf.trans hf2 (fun _ h => .inl h)⟩
    · have Hfin : Hid (p.count most = (x, q)) := by
        rw [Hpb.out, if_neg (by simpa using he), if_neg hbad]; rfl
      have h1 : decide ((most : Int) < x) = false := dF (fun h => hbad (.inl h))
      have h2 : decide ((4096 : Int) < x) = false := decide_eq_false (by omega)
      have hx : x ≤ 4096 := by omega
      have hx2 : x ≤ most := by omega
      have hx3 : ¬ most < x := by omega
      have hx4 : ¬ (4096 : Int) < x := by omega
      clear hbad
      have He := Lib.hid he
      clear he
      go_enter Try.func30, Try.ntmps30
      go_wp2_with fail
      refine Hb.out.mono ?_
      rintro e w1 ⟨rfl, hR, hf⟩
      obtain ⟨d0, d1, d2, e0, e1, e2⟩ := cells3 hR.blk
      rw [He.out] at d2
      go_wp2
      go_ret
      rw [Hfin.out]
      exact ⟨rfl, hR, hf⟩
  · have Hfin : Hid (p.count most = (0, q)) := by
        rw [Hpb.out, if_pos he]; rfl
    have hne : (q.err != 0) = true := by simpa using he
    go_enter Try.func30, Try.ntmps30
    go_wp2_with fail
    refine Hb.out.mono ?_
    rintro e w1 ⟨rfl, hR, hf⟩
    obtain ⟨d0, d1, d2, e0, e1, e2⟩ := cells3 hR.blk
    go_wp2
    go_ret
    rw [Hfin.out]
    exact ⟨rfl, hR, hf⟩

theorem addr_add_add (ad : Addr) (i j : Nat) : (ad.add i).add j = ad.add (i + j) := by
  unfold Addr.add
  by_cases h1 : i = 0 <;> by_cases h2 : j = 0 <;> simp [h1, h2, Nat.add_assoc]
/-- 'b[l:h]' of bytes -/
theorem cut_bytes {P : Program} (t e : TypeId) {i : TypeInfo} (ht : P.underlying t = some (.slice e)) (hi : P.info? e = some i) (hsz : i.size = 1) {w : World} {v : Value} {b : List UInt8} (h : RdB w v b) (l n : Nat) (hn : l + n ≤ b.length) :
    ∃ A c, (∀ W : World, (Instr.slice t v (some (.int .i64 (l : Int))) (some (.int .i64 ((l : Int) + (n : Int)))) none).run P W = .ok (.slice A n c) W) ∧ RdB w (.slice A n c) ((b.drop l).take n) := by
  obtain ⟨h1, A, c, rfl, h2, h3, h4⟩ := h
  have hel : P.elem t = e := by simp [Program.elem, ht]
  have hu : P.underlying t = some (.slice (P.elem t)) := by rw [hel]; exact ht
  refine ⟨if c = l then A else A.map (·.add l), c - l, fun W => ?_, ?_⟩
  · rw [run_slice_lh W t A _ c hu .i64 .i64 (l : Int) ((l : Int) + (n : Int)) (by omega) (by omega) (by omega), hel]
    have e1 : ((l : Int) + (n : Int)).toNat - l = n := by omega
    simp [sizeOf, typeInfo, hi, hsz, sliced, Result.andThen, e1]
  · have hlen : ((b.drop l).take n).length = n := by rw [List.length_take, List.length_drop]; omega
    unfold RdB
    rw [hlen]
    refine ⟨by rw [u8s_len, hlen, Nat.mul_one], _, _, rfl, by omega, fun hA => ?_, fun ad hA j u hu => ?_⟩
    · split at hA
      · subst hA; have := h3 rfl; omega
      · cases A with
        | none => have := h3 rfl; omega
        | some a => cases hA
    · have hj : j < n := by
        have := (List.getElem?_eq_some_iff.1 hu).1
        rw [u8s_len, hlen] at this; exact this
      rw [if_neg (by omega)] at hA
      cases A with
      | none => cases hA
      | some a =>
        cases hA
        show w.cell? ((a.add l).add j) = _
        rw [addr_add_add]
        refine h4 a rfl (l + j) u ?_
        rw [← hu]
        simp only [u8s, List.getElem?_map, List.getElem?_take, List.getElem?_drop, if_pos hj]

def PR.text (p : PR) (most : Nat) : List UInt8 × PR :=
  if p.uint.2.err ≠ 0 then ([], p.uint.2) else if most < p.uint.1 then ([], { p.uint.2 with pos := p.pos, err := 23 })
  else if p.b.length - p.uint.2.pos < p.uint.1 then ([], { p.uint.2 with pos := p.pos, err := 20 })
  else ((p.b.drop p.uint.2.pos).take p.uint.1, { p.uint.2 with pos := p.uint.2.pos + p.uint.1 })

set_option maxHeartbeats 800000 in
theorem text_calls (w : World) (g : Nat) (rv : Value) (p : PR) (h : IsR w g rv p) (most : Nat) (hm : most ≤ 9223372036854775807) :
    Calls Try.prog 32 #[.pointer (some ⟨g, 0, none⟩), .int .i64 most] w (RPost w g rv (.string ⟨(p.text most).1.toArray⟩) (p.text most).2) := by
  have hb := uint_calls w g rv p h
  have hbb := p.uint_b
  have hlt := p.uint_lt
  have hpb : p.text most = if p.uint.2.err ≠ 0 then ([], p.uint.2) else if most < p.uint.1 then ([], { p.uint.2 with pos := p.pos, err := 23 })
    else if p.b.length - p.uint.2.pos < p.uint.1 then ([], { p.uint.2 with pos := p.pos, err := 20 })
    else ((p.b.drop p.uint.2.pos).take p.uint.1, { p.uint.2 with pos := p.uint.2.pos + p.uint.1 }) := rfl
  generalize hq : p.uint = q at hb hpb hbb hlt
  obtain ⟨x, q⟩ := q
  simp only at hb hpb hbb hlt
  clear hq
  have Hb := Lib.hid hb
  have Hpb := Lib.hid hpb
  have Hbb := Lib.hid hbb
  clear hb hpb hbb
  obtain ⟨c0, c1, c2, f0, f1, f2⟩ := cells3 h.blk
  have hw : IntKind.u64.wrap (most : Int) = most := wraps_u64 _ (by omega) (by omega)
  have hlen := h.len
  by_cases he : q.err = 0
  · have He := Lib.hid he
    by_cases hbad : most < x
    · have Hfin : Hid (p.text most = ([], { q with pos := p.pos, err := 23 })) := by
        rw [Hpb.out, if_neg (by simpa using he), if_pos hbad]; rfl
      have h1 : decide ((most : Int) < x) = true := dT hbad
      clear he
      go_enter Try.func32, Try.ntmps32
      go_wp2_with fail
      refine Hb.out.mono ?_
      rintro e w1 ⟨rfl, hR, hf⟩
      obtain ⟨d0, d1, d2, e0, e1, e2⟩ := cells3 hR.blk
      rw [He.out] at d2
      go_wp2_with fail
      refine (fail_calls w1 g rv q hR p.pos (by rw [Hbb.out]; exact h.fit) 23).mono ?_
      rintro e w2 ⟨rfl, hR2, hf2⟩
      go_wp2
      go_ret
      rw [Hfin.out]
      exact ⟨rfl, hR2, hf.trans hf2 (fun _ h => .inl h)⟩
    · have h1 : decide ((most : Int) < x) = false := dF hbad
      by_cases hsh : p.b.length - q.pos < x
      · have Hfin : Hid (p.text most = ([], { q with pos := p.pos, err := 20 })) := by
          rw [Hpb.out, if_neg (by simpa using he), if_neg hbad, if_pos hsh]; rfl
        clear he
        have h2 : decide (((p.b.length - q.pos : Nat) : Int) < x) = true := dT hsh
        have hw2 : IntKind.u64.wrap ((p.b.length - q.pos : Nat) : Int) = ((p.b.length - q.pos : Nat) : Int) := wraps_u64 _ (by omega) (by omega)
        go_enter Try.func32, Try.ntmps32
        go_wp2_with fail
        refine Hb.out.mono ?_
        rintro e w1 ⟨rfl, hR, hf⟩
        obtain ⟨d0, d1, d2, e0, e1, e2⟩ := cells3 hR.blk
        rw [He.out] at d2
        go_wp2_with fail
        have hl := left_calls w1 g rv q hR
        rw [Hbb.out] at hl
        refine hl.mono ?_
        rintro e w2 ⟨rfl, hR2, hf2⟩
        go_wp2_with fail
        refine (fail_calls w2 g rv q hR2 p.pos (by rw [Hbb.out]; exact h.fit) 20).mono ?_
        rintro e w3 ⟨rfl, hR3, hf3⟩
        go_wp2
        go_ret
        rw [Hfin.out]
        exact ⟨rfl, hR3, (hf.trans hf2 (fun _ h => .inl h)).trans hf3 (fun _ h => .inl h)⟩
      · have Hfin : Hid (p.text most = ((p.b.drop q.pos).take x, { q with pos := q.pos + x })) := by
          rw [Hpb.out, if_neg (by simpa using he), if_neg hbad, if_neg hsh]; rfl
        clear he
        have h2 : decide (((p.b.length - q.pos : Nat) : Int) < x) = false := dF hsh
        have hw2 : IntKind.u64.wrap ((p.b.length - q.pos : Nat) : Int) = ((p.b.length - q.pos : Nat) : Int) := wraps_u64 _ (by omega) (by omega)
        have hw3 : IntKind.i64.wrap (x : Int) = x := IntWalk.i64_in _ (by omega)
        go_enter Try.func32, Try.ntmps32
        go_wp2_with fail
        refine Hb.out.mono ?_
        rintro e w1 ⟨rfl, hR, hf⟩
        obtain ⟨d0, d1, d2, e0, e1, e2⟩ := cells3 hR.blk
        rw [He.out] at d2
        go_wp2_with fail
        have hl := left_calls w1 g rv q hR
        rw [Hbb.out] at hl
        refine hl.mono ?_
        rintro e w2 ⟨rfl, hR2, hf2⟩
        have hfit2 : q.pos ≤ p.b.length := by rw [← Hbb.out]; exact hR2.fit
        clear d0 d1 d2 e0 e1 e2
        obtain ⟨d0, d1, d2, e0, e1, e2⟩ := cells3 hR2.blk
        rw [He.out] at d2
        obtain ⟨A, c, rfl⟩ := h.rd.slice
        have hxl : q.pos + x ≤ p.b.length := by omega
        obtain ⟨i5, hi5, -, hs5, -⟩ := info_parts infoU8
        have hrd : RdB (w2.setCell ⟨g, 1, none⟩ (.int .i64 ((q.pos : Int) + x))) (.slice A p.b.length c) p.b := by
          have hr := hR2.rd.fr ((Fr.refl (Only g) w2).setCell (p := ⟨g, 1, none⟩) (.inl rfl) (.int .i64 ((q.pos : Int) + x))) (fun k hk e => hR2.ne (by rw [hk, show k = g from e]))
          have hr2 : RdB _ _ q.b := hr
          rw [Hbb.out] at hr2
          exact hr2
        obtain ⟨A2, c2', hsl, hrd2⟩ := cut_bytes (P := Try.prog) 42 5 Try.underlying42 hi5 hs5 hrd q.pos x hxl
        have hcv := fun n => conv_bytes (P := Try.prog) 42 9 5 Try.underlying42 Try.underlying5 Try.underlying9 (show RdB ((w2.setCell ⟨g, 1, none⟩ (.int .i64 ((q.pos : Int) + x))).drewN n) _ _ from hrd2)
        have hf2' : ∀ n, Fr (Only g) w ((w2.setCell ⟨g, 1, none⟩ (.int .i64 ((q.pos : Int) + x))).drewN n) := fun n => ((hf.trans hf2 (fun _ h => .inl h)).setCell (p := ⟨g, 1, none⟩) (.inl rfl) _).drewN n
        have hfin2 : ∀ n, RPost w g (.slice A p.b.length c) (.string ⟨(p.text most).1.toArray⟩) (p.text most).2 (.returned (.string ⟨((p.b.drop q.pos).take x).toArray⟩)) ((w2.setCell ⟨g, 1, none⟩ (.int .i64 ((q.pos : Int) + x))).drewN n) := by
          intro n
          rw [Hfin.out]
          refine ⟨rfl, h.set (hf2' n) _ Hbb.out (show q.pos + x ≤ _ by omega) ?_, hf2' n⟩
          exact blk_setCell hR2.blk 1 _
        have Hfin2 := Lib.hid hfin2
        clear hfin2 hf2' hrd2 hrd Hfin hf hf2
        generalize ((p.b.drop q.pos).take x).toArray = res at hcv Hfin2
        go_wp2
        go_quiet (fail)
        go_wp2
        go_ret
        exact Hfin2.out _
  · have Hfin : Hid (p.text most = ([], q)) := by
        rw [Hpb.out, if_pos he]; rfl
    have hne : (q.err != 0) = true := by simpa using he
    go_enter Try.func32, Try.ntmps32
    go_wp2_with fail
    refine Hb.out.mono ?_
    rintro e w1 ⟨rfl, hR, hf⟩
    obtain ⟨d0, d1, d2, e0, e1, e2⟩ := cells3 hR.blk
    go_wp2
    go_ret
    rw [Hfin.out]
    exact ⟨rfl, hR, hf⟩

theorem newReader_calls (w : World) (v : Value) (b : List UInt8) (h : RdB w v b) (hb : b.length ≤ 140737488355328) :
    Calls Try.prog 27 #[v] w fun e w' => ∃ g rv, e = .returned (.pointer (some ⟨g, 0, none⟩)) ∧ IsR w' g rv ⟨b, 0, 0⟩ ∧ w.heap.size ≤ g ∧ (∀ k, rv.ownBlock = some k → w.heap.size ≤ k) ∧ Below w.heap.size w w' := by
  obtain ⟨A, c, rfl⟩ := h.slice
  go_enter Try.func27, Try.ntmps27
  go_wp2_with (at_builtin; refine wpList_append2 _ rfl (.const (.slice none 0 0)) (.tmp 3) 42 rfl 5 (.int .u8 0) 1 1 Try.underlying42 infoU8 rfl (by decide) _ 0 [] rfl (World.ownsRow_nil _ _ _ _) _ b.length (u8s b) rfl h (u8s_one _) ?c2 ?c3 ?_)
  case c2 => exact Nat.le_trans (show 0 + b.length ≤ 140737488355328 by omega) (by decide)
  case c3 => omega
  intro v1 w1 ho1 hg1 hn1 _
  obtain ⟨A1, c1, rfl⟩ := own_slice ho1
  go_wp2
  go_ret
  have hsz := hg1.size
  have hnew : ∀ k, (Value.slice A1 b.length c1).ownBlock = some k → w.heap.size ≤ k := fun k hk => (hn1 k hk).elim (fun h => by cases h) id
  refine ⟨w1.heap.size, .slice A1 b.length c1, rfl, ⟨blk_new _ _, (RdB.of_own ho1).below ((Below.refl _ _).alloc (Nat.le_refl _) _), fun e => ?_, Nat.zero_le _, hb, fun k hk => ?_⟩, hsz, hnew, ((Below.refl _ _).grown hg1 (Nat.le_refl _) (fun k hk => by cases hk)).alloc hsz _⟩
  · have := (ho1.lt _ e).2; omega
  · have := (ho1.lt _ hk).2; simp; omega
end Go.Proofs.Ytfloaneimmnboaa
