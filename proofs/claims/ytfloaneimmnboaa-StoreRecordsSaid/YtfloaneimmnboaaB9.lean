/- The law StoreRecords, walked. -/
import Derived.Test.YtfloaneimmnboaaB8
namespace Go.Proofs.Ytfloaneimmnboaa
open Go.RowKit Go.Maps Go.WideMaps
set_option linter.unusedVariables false
set_option linter.unusedSimpArgs false

theorem rdc_nil (w : World) : RdC w (.slice none 0 0) [] := ⟨⟨rfl, none, 0, rfl, Nat.le_refl _, fun _ => rfl, fun ad h => by cases h⟩, by simp, fun c hc => by cases hc⟩
theorem RdC.below2 {w w1 : World} {v : Value} {l : List Ch} (h : RdC w v l) (hb : Below w.heap.size w w1) : RdC w1 v l := ⟨h.rd.below hb, h.len, h.str⟩

set_option maxRecDepth 100000 in
set_option maxHeartbeats 3200000 in
theorem recs_calls (w : World) (v : Int) (hv1 : -9223372036854775808 ≤ v) (hv2 : v ≤ 9223372036854775807) (sv : Value) (l : List Ch) (h : RdC w sv l) (r : ByteArray) :
    Calls Try.prog 3 #[.int .i64 v, sv, .string r] w fun e w' => e = .returned (.bool true) ∧ Below w.heap.size w w' := by
  have hsl : ∃ A c, sv = .slice A l.length c := by obtain ⟨-, A, c, rfl, -⟩ := h.rd; exact ⟨A, c, rfl⟩
  obtain ⟨A, c, rfl⟩ := hsl
  have Hun : Hid (∀ W, Calls Try.prog 9 #[.string r] W (UnPost W (unrecE r.data.toList))) := fun W => unrec_calls W r
  have Hvun : Hid (∀ W, Calls Try.prog 10 #[.string r] W (UnPost W (unrecE r.data.toList))) := fun W => vunrec_calls W r
  have Hok : Hid (∀ vv ll, unrecE r.data.toList = some (vv, ll) → vv ≤ 1152921504606846976 ∧ ll.length ≤ 4096 ∧ ∀ c ∈ ll, ChOk c) := fun vv ll h => ⟨(unrec_ok h).2.2.1, (unrec_ok h).2.2.2, unrec_chok h⟩
  have Hrec : Hid (∀ W sv2, RdC W sv2 l → Calls Try.prog 6 #[.int .i64 v, sv2] W (RecPost W (recordE v l))) := fun W sv2 h => record_calls W v sv2 l h
  have Hvrec : Hid (∀ W sv2, RdC W sv2 l → Calls Try.prog 7 #[.int .i64 v, sv2] W (RecPost W (recordE v l))) := fun W sv2 h => vrecord_calls W v sv2 l h
  generalize recordE v l = q at Hrec Hvrec
  generalize unrecE r.data.toList = u at Hun Hvun Hok
  obtain ⟨s, er⟩ := q
  go_enter Try.func3, Try.ntmps3
  go_wp2_with fail
  refine (own_calls w _ l h).mono ?_
  rintro e w2 ⟨rv, rfl, ho, hn, hb2⟩
  have B2 := hb2
  have hrd2 : RdC w2 rv l := ⟨Rd.of_own ho, h.len, h.str⟩
  obtain ⟨A0, c0, rfl⟩ := own_slice ho
  clear hb2 ho hn
  go_wp2_with fail
  refine (Hrec.out w2 _ hrd2).mono ?_
  rintro e w3 ⟨rfl, hb3⟩
  have B3 := B2.trans (hb3.mono B2.size)
  have hrd3 := hrd2.below2 hb3
  clear hb3 B2 hrd2
  go_wp2_with fail
  refine (Hvrec.out w3 _ (h.below2 B3)).mono ?_
  rintro e w4 ⟨rfl, hb4⟩
  have B4 := B3.trans (hb4.mono B3.size)
  have hs5 := same_calls w4 _ _ l l (hrd3.below2 hb4) (h.below2 B4)
  rw [decide_eq_true rfl] at hs5
  have Hs5 := Lib.hid hs5
  clear hs5 hb4 B3 hrd3
  have herr : (er != er) = false := by simp
  go_wp2_with fail
  refine Hs5.out.mono ?_
  rintro e w5 ⟨rfl, hb5⟩
  have B5 := B4.trans (hb5.mono B4.size)
  clear hb5 B4 Hs5
  go_wp2_with fail
  refine (Hun.out w5).mono ?_
  rintro e w6 ⟨hb6, hp6⟩
  have B6 := B5.trans (hb6.mono B5.size)
  clear hb6 B5
  cases u with
  | none =>
    obtain rfl := hp6
    go_wp2_with fail
    refine (Hvun.out w6).mono ?_
    rintro e w7 ⟨hb7, hp7⟩
    have B7 := B6.trans (hb7.mono B6.size)
    clear hb7 B6
    obtain rfl := hp7
    have hs8 := same_calls w7 _ _ [] [] (rdc_nil w7) (rdc_nil w7)
    rw [decide_eq_true rfl] at hs8
    have Hs8 := Lib.hid hs8
    clear hs8
    go_wp2_with fail
    refine Hs8.out.mono ?_
    rintro e w8 ⟨rfl, hb8⟩
    have B8 := B7.trans (hb8.mono B7.size)
    clear hb8 B7 Hs8
    go_wp2
    go_ret
    exact ⟨rfl, B8⟩
  | some x =>
    obtain ⟨vv, ll⟩ := x
    obtain ⟨mv6, rfl, ho6, hn6⟩ := hp6
    obtain ⟨k3, k4, hok⟩ := Hok.out vv ll rfl
    have hrd6 : RdC w6 mv6 ll := RdC.of_own ho6 k4 hok
    obtain ⟨A6, c6, rfl⟩ := own_slice ho6
    clear ho6 hn6
    go_wp2_with fail
    refine (Hvun.out w6).mono ?_
    rintro e w7 ⟨hb7, hp7⟩
    obtain ⟨mv7, rfl, ho7, hn7⟩ := hp7
    have B7 := B6.trans (hb7.mono B6.size)
    have hrd7 : RdC w7 mv7 ll := RdC.of_own ho7 k4 hok
    obtain ⟨A7, c7, rfl⟩ := own_slice ho7
    have hs8 := same_calls w7 _ _ ll ll (hrd6.below2 hb7) hrd7
    rw [decide_eq_true rfl] at hs8
    have Hs8 := Lib.hid hs8
    clear hs8 hb7 B6 ho7 hn7 hrd6 hrd7 hok
    have hvv : ((vv : Int) == vv) = true := by simp
    go_wp2_with fail
    refine Hs8.out.mono ?_
    rintro e w8 ⟨rfl, hb8⟩
    have B8 := B7.trans (hb8.mono B7.size)
    clear hb8 B7 Hs8
    go_wp2
    go_ret
    exact ⟨rfl, B8⟩
end Go.Proofs.Ytfloaneimmnboaa
