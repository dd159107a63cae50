/- The law StoreRecordsBack, walked. -/
import Derived.Test.YtfloaneimmnboaaA8
namespace Go.Proofs.Ytfloaneimmnboaa
open Go.RowKit Go.Maps Go.WideMaps
set_option linter.unusedVariables false
set_option linter.unusedSimpArgs false

def l0 : List Ch := [⟨⟨#[97]⟩, ⟨#[49]⟩, false⟩, ⟨⟨#[98]⟩, ⟨#[]⟩, true⟩]
theorem l0_right : rightE l0 = 0 := by
  have hlen : l0.length = 2 := rfl
  have hg : goodTo l0 l0.length := by
    intro k hk
    rw [hlen] at hk
    have h : k = 0 ∨ k = 1 := by omega
    rcases h with rfl | rfl
    · exact fun _ => ⟨show (1 : Nat) ≠ 0 by decide, (fun h => by cases h), fun j hj => by omega⟩
    · refine fun _ => ⟨show (1 : Nat) ≠ 0 by decide, fun _ => rfl, fun j hj => ?_⟩
      have : j = 0 := by omega
      subst this
      show (⟨#[97]⟩ : ByteArray) ≠ ⟨#[98]⟩
      decide
  have hl : ¬ ((∃ k, longAt l0 k) ∨ 4096 < l0.length) := by
    rintro (⟨k, hk, h⟩ | h)
    · rw [hlen] at hk
      have hk2 : k = 0 ∨ k = 1 := by omega
      rcases hk2 with rfl | rfl
      · rcases h with h | h
        · exact absurd h (show ¬ 120 < 1 by decide)
        · exact absurd h (show ¬ 8192 < 1 by decide)
      · rcases h with h | h
        · exact absurd h (show ¬ 120 < 1 by decide)
        · exact absurd h (show ¬ 8192 < 0 by decide)
    · rw [hlen] at h; omega
  rw [rightE, if_neg, if_neg hl]
  rintro (h | h)
  · rw [hlen] at h; omega
  · exact h hg
theorem form_small {v : Nat} (h : v < 128) : form v = [loB v] := by rw [form, if_pos h]
theorem l0_record : recordE 1 l0 = (⟨#[195, 1, 2, 0, 1, 97, 1, 49, 1, 1, 98]⟩, 0) := by
  have e : recEnc 1 l0 = [195, 1, 2, 0, 1, 97, 1, 49, 1, 1, 98] := by
    have f1 := form_small (v := 1) (by decide)
    have f2 := form_small (v := 2) (by decide)
    unfold recEnc headEnc
    rw [show l0.length = 2 from rfl]
    simp only [l0, Ch.enc, List.flatMap_cons, List.flatMap_nil]
    rw [show (⟨#[97]⟩ : ByteArray).size = 1 from rfl, show (⟨#[49]⟩ : ByteArray).size = 1 from rfl, show (⟨#[98]⟩ : ByteArray).size = 1 from rfl, f1, f2]
    rfl
  rw [recordE, if_neg (by omega), if_neg (by rw [l0_right]; decide), show (1 : Int).toNat = 1 from rfl, e, if_neg (by decide)]

theorem rd_two (W : World) (t : TypeId) (c d : Ch) : Rd (W.alloc (.cells #[.string c.key, .string c.val, .bool c.gone, .string d.key, .string d.val, .bool d.gone] t)) 3 (.slice (some ⟨W.heap.size, 0, none⟩) 2 2) 2 (chs [c, d]) := by
  refine ⟨rfl, _, _, rfl, Nat.le_refl _, (fun h => by cases h), fun ad hA j u hu => ?_⟩
  cases hA
  have hb := blk_new W (.cells #[.string c.key, .string c.val, .bool c.gone, .string d.key, .string d.val, .bool d.gone] t)
  have e : (⟨W.heap.size, 0, none⟩ : Addr).add j = ⟨W.heap.size, j, none⟩ := by unfold Addr.add; split <;> simp_all
  rw [e]
  simp only [World.cell?, hb]
  rw [← hu]
  simp [chs, Ch.cells]

def LawPost (w : World) : Ending → World → Prop := fun e w' => e = .returned (.bool true) ∧ Below w.heap.size w w'

theorem rdc_l0 (w : World) : RdC (w.alloc (.cells #[.string ⟨#[97]⟩, .string ⟨#[49]⟩, .bool false, .string ⟨#[98]⟩, .string ⟨#[]⟩, .bool true] 32)) (.slice (some ⟨w.heap.size, 0, none⟩) 2 2) l0 :=
  ⟨rd_two w _ ⟨⟨#[97]⟩, ⟨#[49]⟩, false⟩ ⟨⟨#[98]⟩, ⟨#[]⟩, true⟩, by decide, by
    intro c hc
    simp only [l0, List.mem_cons, List.not_mem_nil, or_false] at hc
    rcases hc with rfl | rfl
    · exact ⟨by decide, by decide⟩
    · exact ⟨by decide, by decide⟩⟩
theorem RdC.below {w w1 : World} {v : Value} {l : List Ch} (h : RdC w v l) (hb : Below w.heap.size w w1) : RdC w1 v l := ⟨h.rd.below hb, h.len, h.str⟩

set_option maxRecDepth 100000 in
set_option maxHeartbeats 3200000 in
theorem back_calls (w : World) (v : Int) (hv1 : -9223372036854775808 ≤ v) (hv2 : v ≤ 9223372036854775807) (sv : Value) (l : List Ch) (h : RdC w sv l) (r : ByteArray) :
    Calls Try.prog 4 #[.int .i64 v, sv, .string r] w (LawPost w) := by
  have h0 := record_calls (w.alloc (.cells #[.string ⟨#[97]⟩, .string ⟨#[49]⟩, .bool false, .string ⟨#[98]⟩, .string ⟨#[]⟩, .bool true] 32)) 1 _ l0 (rdc_l0 w)
  rw [l0_record] at h0
  have H0 := Lib.hid h0
  clear h0
  have hsl : ∃ A c, sv = .slice A l.length c := by obtain ⟨-, A, c, rfl, -⟩ := h.rd; exact ⟨A, c, rfl⟩
  obtain ⟨A, c, rfl⟩ := hsl
  have Hun : Hid (∀ W, Calls Try.prog 9 #[.string r] W (UnPost W (unrecE r.data.toList))) := fun W => unrec_calls W r
  have Hok : Hid (∀ vv ll, unrecE r.data.toList = some (vv, ll) → recordE (vv : Int) ll = (r, 0) ∧ 1 ≤ vv ∧ vv ≤ 1152921504606846976 ∧ ll.length ≤ 4096) := fun vv ll h => by
    have := unrec_ok h
    rw [ba_mk] at this
    exact this
  by_cases he : (recordE v l).2 = 0
  · obtain ⟨g1, g2, -⟩ := recordE_ok he
    obtain ⟨vn, rfl⟩ : ∃ n : Nat, v = n := ⟨v.toNat, by omega⟩
    have hu := unrec_record he
    rw [show (vn : Int).toNat = vn from rfl] at hu
    obtain ⟨s, hs⟩ : ∃ s, s = (recordE vn l).1 := ⟨_, rfl⟩
    rw [← hs] at hu
    have hrec : recordE vn l = (s, 0) := by rw [hs]; exact Prod.ext rfl he
    clear hs he hv1 hv2
    have Hu := Lib.hid hu
    have Hrec := Lib.hid hrec
    clear hu hrec
    go_enter Try.func4, Try.ntmps4
    go_wp2_with fail
    refine H0.out.mono ?_
    rintro e w1 ⟨rfl, hb1⟩
    have B1 : Below w.heap.size w w1 := ((Below.refl _ _).alloc (Nat.le_refl _) _).trans (hb1.mono (by simp))
    clear hb1
    go_wp2_with fail
    refine (own_calls w1 _ l (h.below B1)).mono ?_
    rintro e w2 ⟨rv, rfl, ho, hn, hb2⟩
    have B2 := B1.trans (hb2.mono B1.size)
    have hrd2 : RdC w2 rv l := ⟨Rd.of_own ho, h.len, h.str⟩
    clear hb2 B1
    go_wp2_with fail
    refine (record_calls w2 vn rv l hrd2).mono ?_
    rintro e w3 ⟨rfl, hb3⟩
    rw [Hrec.out]
    have B3 := B2.trans (hb3.mono B2.size)
    clear hb3 B2 ho hn hrd2
    go_wp2_with fail
    refine (unrec_calls w3 s).mono ?_
    rintro e w4 ⟨hb4, hp4⟩
    rw [Hu.out] at hp4
    obtain ⟨mv, rfl, ho4, hn4⟩ := hp4
    have B4 := B3.trans (hb4.mono B3.size)
    clear hb4 B3
    have hrd4 : RdC w4 mv l := ⟨Rd.of_own ho4, h.len, h.str⟩
    obtain ⟨A4, c4, rfl⟩ := own_slice ho4
    have hs5 := same_calls w4 _ _ l l hrd4 (h.below B4)
    rw [decide_eq_true rfl] at hs5
    have Hs5 := Lib.hid hs5
    clear hs5 hrd4 ho4 hn4
    go_wp2_with fail
    refine Hs5.out.mono ?_
    rintro e w5 ⟨rfl, hb5⟩
    have B5 := B4.trans (hb5.mono B4.size)
    clear hb5 B4 Hs5
    go_wp2_with fail
    refine (Hun.out w5).mono ?_
    rintro e w6 ⟨hb6, hp6⟩
    have B6 := B5.trans (hb6.mono B5.size)
    clear hb6 B5
    cases hU : unrecE r.data.toList with
    | none =>
      rw [hU] at hp6
      obtain rfl := hp6
      clear hU
      go_wp2
      go_ret
      exact ⟨rfl, B6⟩
    | some x =>
      obtain ⟨vv, ll⟩ := x
      rw [hU] at hp6
      obtain ⟨mv6, rfl, ho6, hn6⟩ := hp6
      obtain ⟨k1, k2, k3, k4⟩ := Hok.out vv ll hU
      have hok := unrec_chok hU
      have hrd6 : RdC w6 mv6 ll := RdC.of_own ho6 k4 hok
      obtain ⟨A6, c6, rfl⟩ := own_slice ho6
      have hr7 := record_calls w6 (vv : Int) _ ll hrd6
      rw [k1] at hr7
      have Hr7 := Lib.hid hr7
      clear hU hr7 k1 hrd6 ho6 hn6 hok
      go_wp2_with fail
      refine Hr7.out.mono ?_
      rintro e w7 ⟨rfl, hb7⟩
      have B7 := B6.trans (hb7.mono B6.size)
      clear hb7 B6
      go_wp2
      go_ret
      exact ⟨rfl, B7⟩
  · have hbad := recordE_bad he
    obtain ⟨er, her⟩ : ∃ er, er = (recordE v l).2 := ⟨_, rfl⟩
    rw [← her] at he
    have hrec : recordE v l = (⟨#[]⟩, er) := by rw [her, ← hbad]
    have hene : (er == 0) = false := by simpa using he
    clear hbad her
    have Hrec := Lib.hid hrec
    clear hrec
    go_enter Try.func4, Try.ntmps4
    go_wp2_with fail
    refine H0.out.mono ?_
    rintro e w1 ⟨rfl, hb1⟩
    have B1 : Below w.heap.size w w1 := ((Below.refl _ _).alloc (Nat.le_refl _) _).trans (hb1.mono (by simp))
    clear hb1
    go_wp2_with fail
    refine (own_calls w1 _ l (h.below B1)).mono ?_
    rintro e w2 ⟨rv, rfl, ho, hn, hb2⟩
    have B2 := B1.trans (hb2.mono B1.size)
    have hrd2 : RdC w2 rv l := ⟨Rd.of_own ho, h.len, h.str⟩
    clear hb2 B1
    go_wp2_with fail
    refine (record_calls w2 v rv l hrd2).mono ?_
    rintro e w5 ⟨rfl, hb3⟩
    rw [Hrec.out]
    have B5 := B2.trans (hb3.mono B2.size)
    clear hb3 B2 ho hn hrd2
    go_wp2_with fail
    refine (Hun.out w5).mono ?_
    rintro e w6 ⟨hb6, hp6⟩
    have B6 := B5.trans (hb6.mono B5.size)
    clear hb6 B5
    cases hU : unrecE r.data.toList with
    | none =>
      rw [hU] at hp6
      obtain rfl := hp6
      clear hU
      go_wp2
      go_ret
      exact ⟨rfl, B6⟩
    | some x =>
      obtain ⟨vv, ll⟩ := x
      rw [hU] at hp6
      obtain ⟨mv6, rfl, ho6, hn6⟩ := hp6
      obtain ⟨k1, k2, k3, k4⟩ := Hok.out vv ll hU
      have hok := unrec_chok hU
      have hrd6 : RdC w6 mv6 ll := RdC.of_own ho6 k4 hok
      obtain ⟨A6, c6, rfl⟩ := own_slice ho6
      have hr7 := record_calls w6 (vv : Int) _ ll hrd6
      rw [k1] at hr7
      have Hr7 := Lib.hid hr7
      clear hU hr7 k1 hrd6 ho6 hn6 hok
      go_wp2_with fail
      refine Hr7.out.mono ?_
      rintro e w7 ⟨rfl, hb7⟩
      have B7 := B6.trans (hb7.mono B6.size)
      clear hb7 B6
      go_wp2
      go_ret
      exact ⟨rfl, B7⟩
end Go.Proofs.Ytfloaneimmnboaa
