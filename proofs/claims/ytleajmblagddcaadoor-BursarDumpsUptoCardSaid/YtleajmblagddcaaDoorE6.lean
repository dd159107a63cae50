/- The law BursarDumps, walked. -/
import Derived.Test.YtleajmblagddcaaDoorE4
import Derived.Test.YtleajmblagddcaaDoorE5
import Derived.Test.YtleajmblagddcaaDoorD22
import Derived.Laws.Rows
namespace Go.Proofs.YtleajmblagddcaaDoor
open Go.RowKit
set_option linter.unusedVariables false
set_option linter.unusedSimpArgs false

theorem bdumpDu_calls (d : Du) (w : World) (hr : DuOk w d) (hlen : d.txt.length ≤ 1099511627776) (hU : Uni w) (htab : PowTab w) (hSc : Scs w) (hVb : Vbs w) :
    Calls Tryd.prog 8 #[.agg #[.int .i64 d.ver, d.ndv, d.quv, d.liv, d.obv, d.biv, d.usv]] w fun e w' => ∃ sv, e = .returned sv ∧ StrIs sv d.txt ∧ Below w.heap.size w w' := by
  obtain ⟨ver, ndv, ndl, quv, qul, liv, lil, obv, obl, biv, bil, usv, usl⟩ := d
  obtain ⟨An, cn, h1⟩ := RdS.slice hr.nd
  obtain ⟨Aq, cq, h2⟩ := hr.qu.1.slice
  obtain ⟨Al, cl, h3⟩ := hr.li.1.slice
  obtain ⟨Ao, co, h4⟩ := hr.ob.1.slice
  obtain ⟨Ab, cb, h5⟩ := hr.bi.1.slice
  obtain ⟨Au, cu, h6⟩ := hr.us.1.slice
  change ndv = .slice An ndl.length cn at h1
  change quv = .slice Aq qul.length cq at h2
  change liv = .slice Al lil.length cl at h3
  change obv = .slice Ao obl.length co at h4
  change biv = .slice Ab bil.length cb at h5
  change usv = .slice Au usl.length cu at h6
  subst h1 h2 h3 h4 h5 h6
  exact bdump_calls ver An cn ndl Aq cq qul Al cl lil Ao co obl Ab cb bil Au cu usl w hr hlen hU htab hSc hVb
theorem rdumpDu_calls (d : Du) (w : World) (hr : DuOk w d) (hlen : d.txt.length ≤ 1099511627776) (htab : PowTab w) :
    Calls Tryd.prog 7 #[.agg #[.int .i64 d.ver, d.ndv, d.quv, d.liv, d.obv, d.biv, d.usv]] w fun e w' => ∃ sv, e = .returned sv ∧ StrIs sv d.txt ∧ Below w.heap.size w w' := by
  obtain ⟨ver, ndv, ndl, quv, qul, liv, lil, obv, obl, biv, bil, usv, usl⟩ := d
  obtain ⟨An, cn, h1⟩ := RdS.slice hr.nd
  obtain ⟨Aq, cq, h2⟩ := hr.qu.1.slice
  obtain ⟨Al, cl, h3⟩ := hr.li.1.slice
  obtain ⟨Ao, co, h4⟩ := hr.ob.1.slice
  obtain ⟨Ab, cb, h5⟩ := hr.bi.1.slice
  obtain ⟨Au, cu, h6⟩ := hr.us.1.slice
  change ndv = .slice An ndl.length cn at h1
  change quv = .slice Aq qul.length cq at h2
  change liv = .slice Al lil.length cl at h3
  change obv = .slice Ao obl.length co at h4
  change biv = .slice Ab bil.length cb at h5
  change usv = .slice Au usl.length cu at h6
  subst h1 h2 h3 h4 h5 h6
  exact rdump_calls ver An cn ndl Aq cq qul Al cl lil Ao co obl Ab cb bil Au cu usl w hr hlen htab

set_option maxRecDepth 100000 in
set_option maxHeartbeats 1600000 in
theorem dumps_calls (ver : Int) (ndv : Value) (ndl : List ByteArray) (quv : Value) (qul : List Qu) (liv : Value) (lil : List Li) (obv : Value) (obl : List Ob) (biv : Value) (bil : List Bi) (usv : Value) (usl : List Us) (w : World) (hr : DuOk w (⟨ver, ndv, ndl, quv, qul, liv, lil, obv, obl, biv, bil, usv, usl⟩ : Du)) (hlen : (⟨ver, ndv, ndl, quv, qul, liv, lil, obv, obl, biv, bil, usv, usl⟩ : Du).txt.length ≤ 1099511627776) (hU : Uni w) (htab : PowTab w) (hSc : Scs w) (hVb : Vbs w) :
    Calls Tryd.prog 4 #[.agg #[.int .i64 ver, ndv, quv, liv, obv, biv, usv]] w fun e w' => e = .returned (.bool true) ∧ Below w.heap.size w w' := by
  have Hr := Lib.hid hr
  have Hlen := Lib.hid hlen
  have HU := Lib.hid hU
  have Htab := Lib.hid htab
  have HSc := Lib.hid hSc
  have HVb := Lib.hid hVb
  have HB0 : Hid (Below w.heap.size w (w.alloc (.cells #[.int .i64 ver, ndv, quv, liv, obv, biv, usv] 40))) := (Below.refl _ _).alloc (Nat.le_refl _) _
  have Hbx : Hid ((w.alloc (.cells #[.int .i64 ver, ndv, quv, liv, obv, biv, usv] 40)).heap[w.heap.size]? = some (.cells #[.int .i64 ver, ndv, quv, liv, obv, biv, usv] 40)) := blk_new w _
  clear hr hlen hU htab hSc hVb
  go_enter Tryd.func4, Tryd.ntmps4
  go_wp2_with (refine wpList_load_row (o := ⟨_, .load 40 (.tmp 1), _, _, _, _⟩) rfl 40 (.tmp 1) rfl w.heap.size rfl 40 #[.int .i64 ver, ndv, quv, liv, obv, biv, usv] (0, 0) _ Hbx.out Tryd.underlying40 rfl (by kernel_rfl) ?_)
  refine (rdumpDu_calls (⟨ver, ndv, ndl, quv, qul, liv, lil, obv, obl, biv, bil, usv, usl⟩ : Du) _ (Hr.out.below HB0.out) Hlen.out (Htab.out.below HB0.out)).mono ?_
  rintro e w1 ⟨sv1, rfl, hs1, h1⟩
  obtain rfl := strIs_eq hs1
  have H1 := Lib.hid (HB0.out.trans (h1.mono HB0.out.size))
  have Hb1 := Lib.hid (blk_below Hbx.out h1)
  clear hs1 h1
  go_wp2_with (refine wpList_load_row (o := ⟨_, .load 40 (.tmp 1), _, _, _, _⟩) rfl 40 (.tmp 1) rfl w.heap.size rfl 40 #[.int .i64 ver, ndv, quv, liv, obv, biv, usv] (0, 0) _ Hb1.out Tryd.underlying40 rfl (by kernel_rfl) ?_)
  refine (bdumpDu_calls (⟨ver, ndv, ndl, quv, qul, liv, lil, obv, obl, biv, bil, usv, usl⟩ : Du) _ (Hr.out.below H1.out) Hlen.out (HU.out.below H1.out) (Htab.out.below H1.out) (StrTab.below HSc.out H1.out) (StrTab.below HVb.out H1.out)).mono ?_
  rintro e w2 ⟨sv2, rfl, hs2, h2⟩
  obtain rfl := strIs_eq hs2
  have H2 := Lib.hid (H1.out.trans (h2.mono H1.out.size))
  have Hb2 := Lib.hid (blk_below Hb1.out h2)
  clear hs2 h2 Hb1
  go_wp2_with (refine wpList_load_row (o := ⟨_, .load 40 (.tmp 1), _, _, _, _⟩) rfl 40 (.tmp 1) rfl w.heap.size rfl 40 #[.int .i64 ver, ndv, quv, liv, obv, biv, usv] (0, 0) _ Hb2.out Tryd.underlying40 rfl (by kernel_rfl) ?_)
  refine (rdumpDu_calls (⟨ver, ndv, ndl, quv, qul, liv, lil, obv, obl, biv, bil, usv, usl⟩ : Du) _ (Hr.out.below H2.out) Hlen.out (Htab.out.below H2.out)).mono ?_
  rintro e w3 ⟨sv3, rfl, hs3, h3⟩
  obtain rfl := strIs_eq hs3
  have H3 := Lib.hid (H2.out.trans (h3.mono H2.out.size))
  clear hs3 h3 Hb2
  go_wp2
  go_ret
  exact ⟨rfl, H3.out⟩
end Go.Proofs.YtleajmblagddcaaDoor
