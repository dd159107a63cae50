/- The law BursarTells, walked. -/
import Derived.Test.YtleajmblagddcaaDoorD20
import Derived.Test.YtleajmblagddcaaDoorD21
import Derived.Laws.Rows
namespace Go.Proofs.YtleajmblagddcaaDoor
open Go.RowKit
set_option linter.unusedVariables false
set_option linter.unusedSimpArgs false

theorem tellRe_calls (op : Int) (r : Re) (w : World) (hr : ReOk w r) (hlen : (r.txt op).length ≤ 1099511627776) (hU : Uni w) (htab : PowTab w) :
    Calls Tryd.prog 6 #[.int .i64 op, reAgg r] w fun e w' => ∃ sv, e = .returned sv ∧ StrIs sv (r.txt op) ∧ Below w.heap.size w w' := by
  obtain ⟨code, ver, more, dp, dn, da, dr, obv, obl, lnv, lnl, evv, evl, nmv, nml, s0, s1, s2, s3, s4, s5⟩ := r
  obtain ⟨Ao, co, h1⟩ := hr.ob.1.slice
  obtain ⟨Al, cl, h2⟩ := hr.ln.1.slice
  obtain ⟨Ae, ce, h3⟩ := hr.ev.1.slice
  obtain ⟨An, cn, h4⟩ := RdS.slice hr.nm
  change obv = .slice Ao obl.length co at h1
  change lnv = .slice Al lnl.length cl at h2
  change evv = .slice Ae evl.length ce at h3
  change nmv = .slice An nml.length cn at h4
  subst h1 h2 h3 h4
  by_cases hc : code = 0
  · subst hc
    by_cases h10 : op = 10
    · exact tell_get_calls op ver more dp dn da dr Ao co obl Al cl lnl Ae ce evl An cn nml s0 s1 s2 s3 s4 s5 w h10 hr hlen hU htab
    · by_cases ho : op = 7 ∨ op = 8 ∨ op = 9 ∨ op = 16
      · exact tell_obj_calls op ver more dp dn da dr Ao co obl Al cl lnl Ae ce evl An cn nml s0 s1 s2 s3 s4 s5 w ho hr hlen hU htab
      · by_cases h11 : op = 11
        · exact tell_list_calls op ver more dp dn da dr Ao co obl Al cl lnl Ae ce evl An cn nml s0 s1 s2 s3 s4 s5 w h11 hr hlen hU htab
        · by_cases h12 : op = 12
          · exact tell_status_calls op ver more dp dn da dr Ao co obl Al cl lnl Ae ce evl An cn nml s0 s1 s2 s3 s4 s5 w h12 hr hlen hU htab
          · by_cases h13 : op = 13
            · exact tell_watch_calls op ver more dp dn da dr Ao co obl Al cl lnl Ae ce evl An cn nml s0 s1 s2 s3 s4 s5 w h13 hr hlen hU htab
            · by_cases h19 : op = 19
              · exact tell_stat_calls op ver more dp dn da dr Ao co obl Al cl lnl Ae ce evl An cn nml s0 s1 s2 s3 s4 s5 w h19 hr hlen hU htab
              · exact tell_other_calls op ver more dp dn da dr Ao co obl Al cl lnl Ae ce evl An cn nml s0 s1 s2 s3 s4 s5 w (fun h => ho (.inl h)) (fun h => ho (.inr (.inl h))) (fun h => ho (.inr (.inr (.inl h)))) h10 h11 h12 h13 (fun h => ho (.inr (.inr (.inr h)))) h19 hr hlen hU htab
  · exact tell_no_calls code op ver more dp dn da dr Ao co obl Al cl lnl Ae ce evl An cn nml s0 s1 s2 s3 s4 s5 w hr hc hlen htab
theorem rtell_calls (op : Int) (r : Re) (w : World) (hr : ReOk w r) (hlen : (r.txt op).length ≤ 1099511627776) (htab : PowTab w) :
    Calls Tryd.prog 5 #[.int .i64 op, reAgg r] w fun e w' => ∃ sv, e = .returned sv ∧ StrIs sv (r.txt op) ∧ Below w.heap.size w w' := by
  obtain ⟨code, ver, more, dp, dn, da, dr, obv, obl, lnv, lnl, evv, evl, nmv, nml, s0, s1, s2, s3, s4, s5⟩ := r
  obtain ⟨Ao, co, h1⟩ := hr.ob.1.slice
  obtain ⟨Al, cl, h2⟩ := hr.ln.1.slice
  obtain ⟨Ae, ce, h3⟩ := hr.ev.1.slice
  obtain ⟨An, cn, h4⟩ := RdS.slice hr.nm
  change obv = .slice Ao obl.length co at h1
  change lnv = .slice Al lnl.length cl at h2
  change evv = .slice Ae evl.length ce at h3
  change nmv = .slice An nml.length cn at h4
  subst h1 h2 h3 h4
  by_cases hc : code = 0
  · subst hc
    by_cases h10 : op = 10
    · exact rtell_get_calls op ver more dp dn da dr Ao co obl Al cl lnl Ae ce evl An cn nml s0 s1 s2 s3 s4 s5 w h10 hr hlen htab
    · by_cases ho : op = 7 ∨ op = 8 ∨ op = 9 ∨ op = 16
      · exact rtell_obj_calls op ver more dp dn da dr Ao co obl Al cl lnl Ae ce evl An cn nml s0 s1 s2 s3 s4 s5 w ho hr hlen htab
      · by_cases h11 : op = 11
        · exact rtell_list_calls op ver more dp dn da dr Ao co obl Al cl lnl Ae ce evl An cn nml s0 s1 s2 s3 s4 s5 w h11 hr hlen htab
        · by_cases h12 : op = 12
          · exact rtell_status_calls op ver more dp dn da dr Ao co obl Al cl lnl Ae ce evl An cn nml s0 s1 s2 s3 s4 s5 w h12 hr hlen htab
          · by_cases h13 : op = 13
            · exact rtell_watch_calls op ver more dp dn da dr Ao co obl Al cl lnl Ae ce evl An cn nml s0 s1 s2 s3 s4 s5 w h13 hr hlen htab
            · by_cases h19 : op = 19
              · exact rtell_stat_calls op ver more dp dn da dr Ao co obl Al cl lnl Ae ce evl An cn nml s0 s1 s2 s3 s4 s5 w h19 hr hlen htab
              · exact rtell_other_calls op ver more dp dn da dr Ao co obl Al cl lnl Ae ce evl An cn nml s0 s1 s2 s3 s4 s5 w (fun h => ho (.inl h)) (fun h => ho (.inr (.inl h))) (fun h => ho (.inr (.inr (.inl h)))) h10 h11 h12 h13 (fun h => ho (.inr (.inr (.inr h)))) h19 hr hlen htab
  · exact rtell_no_calls code op ver more dp dn da dr Ao co obl Al cl lnl Ae ce evl An cn nml s0 s1 s2 s3 s4 s5 w hr hc hlen htab

theorem run_cells_row (W : World) (g : Nat) (c : Array Value) (t : TypeId) (h : W.heap[g]? = some (.cells c t (0, 0))) : (loadCellsFrom ⟨g, 0, none⟩ 0 c.size #[]).run Tryd.prog W = .ok c W := by
  have := run_loadCells_list (P := Tryd.prog) W ⟨g, 0, none⟩ c.toList (fun j v hv => by
    have hadd : (⟨g, 0, none⟩ : Addr).add j = ⟨g, j, none⟩ := by unfold Addr.add; split <;> simp_all
    rw [hadd, cell_of_row W g j c t (0, 0) h]
    simpa using hv)
  simpa [loadCells] using this
theorem strIs_eq {v : Value} {l : List UInt8} (h : StrIs v l) : v = .string ⟨l.toArray⟩ := by
  obtain ⟨s, rfl, rfl⟩ := h; rfl

set_option maxRecDepth 100000 in
set_option maxHeartbeats 1600000 in
theorem tells_calls (op : Int) (code ver : Int) (more : Bool) (dp dn da dr : ByteArray) (obv : Value) (obl : List Ob) (lnv : Value) (lnl : List Ln) (evv : Value) (evl : List Ev) (nmv : Value) (nml : List ByteArray) (s0 s1 s2 s3 s4 s5 : Int) (w : World) (hr : ReOk w (⟨code, ver, more, dp, dn, da, dr, obv, obl, lnv, lnl, evv, evl, nmv, nml, s0, s1, s2, s3, s4, s5⟩ : Re)) (hlen : ((⟨code, ver, more, dp, dn, da, dr, obv, obl, lnv, lnl, evv, evl, nmv, nml, s0, s1, s2, s3, s4, s5⟩ : Re).txt op).length ≤ 1099511627776) (hU : Uni w) (htab : PowTab w) :
    Calls Tryd.prog 3 #[.int .i64 op, .agg #[.int .i64 code, .int .i64 ver, .bool more, .string dp, .string dn, .string da, .string dr, obv, lnv, evv, nmv, .int .i64 s0, .int .i64 s1, .int .i64 s2, .int .i64 s3, .int .i64 s4, .int .i64 s5]] w fun e w' => e = .returned (.bool true) ∧ Below w.heap.size w w' := by
  have Hr := Lib.hid hr
  have Hlen := Lib.hid hlen
  have HU := Lib.hid hU
  have Htab := Lib.hid htab
  have HB0 : Hid (Below w.heap.size w (w.alloc (.cells #[.int .i64 code, .int .i64 ver, .bool more, .string dp, .string dn, .string da, .string dr, obv, lnv, evv, nmv, .int .i64 s0, .int .i64 s1, .int .i64 s2, .int .i64 s3, .int .i64 s4, .int .i64 s5] 32))) := (Below.refl _ _).alloc (Nat.le_refl _) _
  have hbx : (w.alloc (.cells #[.int .i64 code, .int .i64 ver, .bool more, .string dp, .string dn, .string da, .string dr, obv, lnv, evv, nmv, .int .i64 s0, .int .i64 s1, .int .i64 s2, .int .i64 s3, .int .i64 s4, .int .i64 s5] 32)).heap[w.heap.size]? = some (.cells #[.int .i64 code, .int .i64 ver, .bool more, .string dp, .string dn, .string da, .string dr, obv, lnv, evv, nmv, .int .i64 s0, .int .i64 s1, .int .i64 s2, .int .i64 s3, .int .i64 s4, .int .i64 s5] 32) := blk_new w _
  have Hbx := Lib.hid hbx
  clear hr hlen hU htab hbx
  go_enter Tryd.func3, Tryd.ntmps3
  go_wp2_with (refine wpList_load_row (o := ⟨_, .load 32 (.tmp 3), _, _, _, _⟩) rfl 32 (.tmp 3) rfl w.heap.size rfl 32 #[.int .i64 code, .int .i64 ver, .bool more, .string dp, .string dn, .string da, .string dr, obv, lnv, evv, nmv, .int .i64 s0, .int .i64 s1, .int .i64 s2, .int .i64 s3, .int .i64 s4, .int .i64 s5] (0, 0) _ Hbx.out Tryd.underlying32 rfl (by kernel_rfl) ?_)
  refine (rtell_calls op (⟨code, ver, more, dp, dn, da, dr, obv, obl, lnv, lnl, evv, evl, nmv, nml, s0, s1, s2, s3, s4, s5⟩ : Re) _ (Hr.out.below HB0.out) Hlen.out (Htab.out.below HB0.out)).mono ?_
  rintro e w1 ⟨sv1, rfl, hs1, h1⟩
  obtain rfl := strIs_eq hs1
  have H1 := Lib.hid (HB0.out.trans (h1.mono HB0.out.size))
  have hb1 := blk_below Hbx.out h1
  have Hb1 := Lib.hid hb1
  clear hb1
  clear hs1 h1
  go_wp2_with (refine wpList_load_row (o := ⟨_, .load 32 (.tmp 3), _, _, _, _⟩) rfl 32 (.tmp 3) rfl w.heap.size rfl 32 #[.int .i64 code, .int .i64 ver, .bool more, .string dp, .string dn, .string da, .string dr, obv, lnv, evv, nmv, .int .i64 s0, .int .i64 s1, .int .i64 s2, .int .i64 s3, .int .i64 s4, .int .i64 s5] (0, 0) _ Hb1.out Tryd.underlying32 rfl (by kernel_rfl) ?_)
  refine (tellRe_calls op (⟨code, ver, more, dp, dn, da, dr, obv, obl, lnv, lnl, evv, evl, nmv, nml, s0, s1, s2, s3, s4, s5⟩ : Re) _ (Hr.out.below H1.out) Hlen.out (HU.out.below H1.out) (Htab.out.below H1.out)).mono ?_
  rintro e w2 ⟨sv2, rfl, hs2, h2⟩
  obtain rfl := strIs_eq hs2
  have H2 := Lib.hid (H1.out.trans (h2.mono H1.out.size))
  have hb2 := blk_below Hb1.out h2
  have Hb2 := Lib.hid hb2
  clear hb2
  clear hs2 h2 Hb1
  go_wp2_with (refine wpList_load_row (o := ⟨_, .load 32 (.tmp 3), _, _, _, _⟩) rfl 32 (.tmp 3) rfl w.heap.size rfl 32 #[.int .i64 code, .int .i64 ver, .bool more, .string dp, .string dn, .string da, .string dr, obv, lnv, evv, nmv, .int .i64 s0, .int .i64 s1, .int .i64 s2, .int .i64 s3, .int .i64 s4, .int .i64 s5] (0, 0) _ Hb2.out Tryd.underlying32 rfl (by kernel_rfl) ?_)
  refine (rtell_calls op (⟨code, ver, more, dp, dn, da, dr, obv, obl, lnv, lnl, evv, evl, nmv, nml, s0, s1, s2, s3, s4, s5⟩ : Re) _ (Hr.out.below H2.out) Hlen.out (Htab.out.below H2.out)).mono ?_
  rintro e w3 ⟨sv3, rfl, hs3, h3⟩
  obtain rfl := strIs_eq hs3
  have H3 := Lib.hid (H2.out.trans (h3.mono H2.out.size))
  clear hs3 h3 Hb2
  go_wp2
  go_ret
  exact ⟨rfl, H3.out⟩
end Go.Proofs.YtleajmblagddcaaDoor
