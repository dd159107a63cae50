/- For every input of bulk at most 1048576 the law BursarTells returns true and its arguments read behind the call as they read before; the listed tables are tied to the program's own text; no other condition. -/
import Derived.Test.YtleajmblagddcaaDoorCards
import Derived.Test.YtleajmblagddcaaDoorTie
import Derived.Test.YtleajmblagddcaaDoorD23
import Derived.WalkKit
import Derived.ProofKit
import Derived.OpenShut
import Derived.ShutString
import Derived.ChangeOld
import Derived.SizedLaws
import Derived.Deep.DeepHandedRow
import Derived.Lib.LaidTab
namespace Go.Proofs.YtleajmblagddcaaDoor.bursarTells
open Go.ChangeShapes Go.WideShapes Go.ChangeAt Go.RowKit
set_option linter.unusedVariables false
set_option linter.unusedSimpArgs false

theorem own : ownKnob Tryd.prog.godebug = none := by kernel_rfl
theorem laidOut : laidOutB Tryd.prog = true := by kernel_rfl

/-! ### the tables -/
theorem cells_units {H : Type} {enc : TypeId × Value → H} {w : World} {base : Nat} {sp : Nat → Bool} {held : Bool} {fuel : Nat} {cs : List Value} {p : List MemPlace}
    (h : DataW.trod enc Tryd.prog w base sp held fuel 105 cs = some (Rows.laid_bursar_quant_units, p)) (i : Nat) (hi : i < 12) :
    cs[i * 2]? = some (.string (units12[i]'hi).1) ∧ cs[i * 2 + 1]? = some (.int .u64 ((units12[i]'hi).2 : Nat)) := by
  have hce : Tryd.prog.cellsOf 104 = 2 := by kernel_rfl
  have hct : Tryd.prog.cellsOf 105 = 24 := by kernel_rfl
  have cs9 : Tryd.prog.cellsOf 9 = 1 := by kernel_rfl
  have cs101 : Tryd.prog.cellsOf 101 = 1 := by kernel_rfl
  cases fuel with
  | zero => simp [DataW.trod] at h
  | succ fuel =>
    simp only [DataW.trod, Tryd.underlying105, hce, hct] at h
    split at h
    · rename_i hl
      obtain ⟨xs, hm, hx⟩ := Option.map_eq_some_iff.1 h
      have hxs : xs.map (·.1) = units12.map fun e => (DataW.agg [.lit (.string e.1.data.toList), .lit (.int .u64 (e.2 : Nat))] : DataW H) := by
        have := congrArg Prod.fst hx
        simpa [Rows.laid_bursar_quant_units, units12] using this
      obtain ⟨b, hb, hf⟩ := Lib.mapM_at hm i i (by simp [hi])
      have h2 : (xs.map (·.1))[i]? = some b.1 := by simp [hb]
      rw [hxs] at h2
      have h3 : b.1 = .agg [.lit (.string (units12[i]'hi).1.data.toList), .lit (.int .u64 ((units12[i]'hi).2 : Nat))] := by
        rw [List.getElem?_map, List.getElem?_eq_getElem (show i < units12.length from hi)] at h2
        exact (Option.some.inj h2).symm
      obtain ⟨ys, n, rfl, rfl, hlen, hyl, hg⟩ := DataW.trod_struct Tryd.underlying104 hf
      match ys, hyl with
      | [y0, y1], _ =>
        have g0 := hg 0 _ rfl
        have g1 := hg 1 _ rfl
        simp only [cs9, cs101, List.getElem?_cons_zero, List.getElem?_cons_succ] at g0 g1
        obtain ⟨s0, e0, rfl, -⟩ := DataW.trod_string Tryd.underlying9 g0
        obtain ⟨n1, e1, rfl, -⟩ := DataW.trod_int Tryd.underlying101 g1
        simp only [List.map_cons, List.map_nil, DataW.agg.injEq, List.cons.injEq, DataW.lit.injEq, Lit.string.injEq, Lit.int.injEq, and_true, true_and] at h3
        obtain ⟨hs, hn⟩ := h3
        have q0 := congrArg (·[0]?) e0
        have q1 := congrArg (·[0]?) e1
        simp [List.getElem?_take, List.getElem?_drop] at q0 q1
        have hse : s0 = (units12[i]'hi).1 := by
          cases s0 with | mk d => cases hu : (units12[i]'hi).1 with | mk d2 =>
            rw [hu] at hs; simp at hs; rw [hs]
        rw [← hse, ← hn]
        exact ⟨q0.2, q1.2⟩
    · cases h

theorem pow_units {W : World} (h : laidMetH Tryd.prog Rows.bursarTellsRow.laid W) : PowTab W ∧ Uni W := by
  have h' : laidMet Tryd.prog Rows.bursarTellsRow.laid W := h
  obtain ⟨ps, ⟨g0, t0, cs0, f0, p0, q0, -, -, -, -, ⟨g1, t1, cs1, f1, p1, q1, -, -, -, -, ⟨g2, t2, cs2, f2, p2, q2, hg2, ht2, hv2, hd2, ⟨g3, t3, cs3, f3, p3, q3, hg3, ht3, hv3, hd3, -, -⟩, -⟩, -⟩, -⟩, -⟩ := h'
  constructor
  · obtain rfl := Option.some.inj ((show (Tryd.prog.globals[g2]?).map (·.type) = some 141 from by
      obtain rfl := Option.some.inj (pow_global.symm.trans hg2); kernel_rfl).symm.trans ht2)
    show Lib.TabIs _ _ _ _ _
    unfold Lib.TabIs
    have := Lib.cells_of_tab (k := .u64) (zs := Lib.pow10Tab) Tryd.underlying141 Tryd.underlying101 (by kernel_rfl) (by kernel_rfl) hd2
    rw [hv2, ← this]
  · have hgu : Tryd.prog.globalNamed "bursar/quant.units" = some 0 := by kernel_rfl
    obtain rfl := Option.some.inj (hgu.symm.trans hg3)
    obtain rfl := Option.some.inj ((show (Tryd.prog.globals[0]?).map (·.type) = some 105 from by kernel_rfl).symm.trans ht3)
    refine ⟨?_, fun i hi => ?_⟩
    · unfold World.var? at hv3
      simp only [hgu, Option.bind_some] at hv3
      rcases Nat.lt_or_ge 0 W.heap.size with h' | h'
      · exact h'
      · rw [Array.getElem?_eq_none h'] at hv3; simp at hv3
    · obtain ⟨k1, k2⟩ := cells_units hd3 i hi
      have e1 := World.var?_cell hgu hv3 (i * 2)
      have e2 := World.var?_cell hgu hv3 (i * 2 + 1)
      rw [Nat.zero_add]
      exact ⟨by rw [e1, ← Array.getElem?_toList]; exact k1, by rw [e2, ← Array.getElem?_toList]; exact k2⟩

/-! ### the arguments -/
theorem agg_of {v : Value} {l : List Value} (h : v.cells.toList = l) (hl : l.length ≠ 1) : v = .agg l.toArray := by
  cases v with
  | agg cs => simp [Value.cells] at h; subst h; simp
  | _ => (simp [Value.cells] at h; subst h; simp at hl)

set_option maxRecDepth 100000 in
theorem contract (H : Type) (enc : TypeId × Value → H) (W : World) (base : Nat) (args : Array Value) (ds gs : List (DataW H)) (before : List MemPlace)
    (hval : ∀ (j : Nat) t v, Tryd.f3.params[j]? = some t → args[j]? = some v → Value.okWide Tryd.prog W .any base t v)
    (hW : DataW.Whole enc Tryd.prog Tryd.f3.params.toList Rows.bursarTellsSpec.vars false W args.toList ds gs before) (hL : laidMetH Tryd.prog Rows.bursarTellsRow.laid W) (hk : Rows.uptoSmall H (ds ++ gs) = true) :
    Calls Tryd.prog 3 args W fun e W' => ∃ v, e = .returned v ∧ Rows.bursarTellsSpec.post enc Tryd.prog Tryd.f3 false true false false W args v W' := by
  have hW' := hW
  obtain ⟨p, q, hA0, hV, rfl, hfz, hnd⟩ := hW
  have hA : DataW.TrodAll enc Tryd.prog W 0 (fun _ => true) true Tryd.f3.params.toList args.toList ds p := hA0
  rw [Tryd.params3] at hA hval
  obtain ⟨v0, vs0, d0, ds0, p0, q0, hargs, rfl, rfl, h0, r0⟩ := trodAll_cons hA
  obtain ⟨v1, vs1, d1, ds1, p1, q1, rfl, rfl, rfl, h1, r1⟩ := trodAll_cons r0
  obtain ⟨rfl, rfl, rfl⟩ := trodAll_nil r1
  obtain rfl : args = #[v0, v1] := by cases args; simp_all
  obtain ⟨rfl, rfl⟩ := trodVars_none hV
  obtain ⟨op, rfl, rfl, rfl, w0⟩ := open_int Tryd.underlying3 (hval 0 3 v0 rfl rfl) h0
  have k1 := h1
  have lt1 : ∀ x ∈ p1, x.block < W.heap.size := by obtain ⟨m, hm⟩ := k1; exact DataW.trod_lt m _ _ _ hm
  obtain ⟨fuel, hf⟩ := h1
  obtain ⟨r, hcs, hok, htx⟩ := dec_re hf
  obtain rfl := agg_of hcs (by simp)
  obtain ⟨hpow, huni⟩ := pow_units hL
  have hlen : (r.txt op).length ≤ 1099511627776 := by
    have hb := of_decide_eq_true hk
    simp only [List.append_nil, Rows.uptoBulkAll] at hb
    have := htx op
    simp only at this
    omega
  obtain ⟨code, ver, more, dp, dn, da, dr, obv, obl, lnv, lnl, evv, evl, nmv, nml, s0, s1, s2, s3, s4, s5⟩ := r
  clear hA0 hcs
  refine (tells_calls op code ver more dp dn da dr obv obl lnv lnl evv evl nmv nml s0 s1 s2 s3 s4 s5 W hok hlen huni hpow).mono fun e W' ⟨he, bel⟩ => ?_
  subst he
  exact ⟨_, rfl, _, _, _, [], _, [], hW', trodAll_mk1 (shut_bool Tryd.underlying4 _),
    (trodAll_cons_mk (shut_int Tryd.underlying3 w0) (trodAll_cons_mk (Below.trod laidOut (by kernel_rfl) (of_decide_eq_true (by kernel_rfl)) k1 bel lt1) trodAll_mk0)), rfl, bel.frame _, fun h => by cases h⟩

/-! ### the witness -/
def unitsCells : Array Value := (units12.flatMap fun e => [Value.string e.1, Value.int .u64 (e.2 : Nat)]).toArray
def numCells (k : IntKind) : DataW Unit → Array Value
  | .agg l => (l.map fun | .lit (.int _ n) => Value.int k n | _ => .nilIface).toArray
  | _ => #[]
def zeroReply : Value := .agg #[.int .i64 0, .int .i64 0, .bool false, .string ByteArray.empty, .string ByteArray.empty, .string ByteArray.empty, .string ByteArray.empty, .slice none 0 0, .slice none 0 0, .slice none 0 0, .slice none 0 0, .int .i64 0, .int .i64 0, .int .i64 0, .int .i64 0, .int .i64 0, .int .i64 0]
def putCells (cs : Array Value) : Obj → Obj
  | .cells _ t frozen => .cells cs t frozen
  | o => o
noncomputable def laidWorld (os : Os) : World :=
  { World.holding Tryd.prog os ⟨#[], #[], []⟩ with heap := ((((World.holding Tryd.prog os ⟨#[], #[], []⟩).heap.modify 0 (putCells unitsCells)).modify 3 (putCells (numCells .u64 Rows.laid_internal_strconv_uint64pow10))).modify 4 (putCells (numCells .u8 Rows.laid_math_bits_deBruijn32tab))).modify 5 (putCells (numCells .u8 Rows.laid_math_bits_deBruijn64tab)) }
theorem laid_met (os : Os) : laidMet Tryd.prog Rows.bursarTellsRow.laid ((laidWorld os).forCall (fun _ _ => 0) ⟨#[], #[.int .i64 0, zeroReply], []⟩).memory :=
  laidMet_of_run' 8 (by kernel_rfl) (by kernel_rfl)
def zeroData (H : Type) : List (DataW H) := [.lit (.int .i64 0), .agg [.lit (.int .i64 0), .lit (.int .i64 0), .lit (.bool false), .agg [.lit (.string []), .lit (.string []), .lit (.string []), .lit (.string [])], .nil, .nil, .nil, .nil, .agg [.lit (.int .i64 0), .lit (.int .i64 0), .lit (.int .i64 0), .lit (.int .i64 0), .lit (.int .i64 0), .lit (.int .i64 0)]]]
theorem reads (os : Os) {H : Type} (enc : TypeId × Value → H) : DataW.whole enc Tryd.prog ((laidWorld os).forCall (fun _ _ => 0) ⟨#[], #[.int .i64 0, zeroReply], []⟩).memory Tryd.f3.params.toList Rows.bursarTellsSpec.vars false #[Value.int .i64 0, zeroReply].toList 8 = some (zeroData H, [], []) :=
  by kernel_rfl

set_option maxRecDepth 100000 in
theorem liftedUpto (os : Os) (started : os.Started) (H : Type) (enc : TypeId × Value → H) (F : Stop.Interp) :
    ReturnsInHanded {} Tryd.checked os 3 .any ((Rows.OpenSpec.upto Rows.bursarTellsSpec).preRow enc Tryd.prog Tryd.f3 Rows.bursarTellsUptoRow.domain false Rows.bursarTellsUptoRow.laid) (((Rows.OpenSpec.upto Rows.bursarTellsSpec).at F).post enc Tryd.prog Tryd.f3 false true false false) := by
  refine returnsInHanded_of_row (C := Tryd.checked) (s := Rows.OpenSpec.upto Rows.bursarTellsSpec) own started (by kernel_rfl) Tryd.func3
    (witness_row_at (enc := enc) (C := Tryd.checked) false (laidWorld os) #[.int .i64 0, zeroReply] rfl (by kernel_rfl) (by kernel_rfl) (by kernel_rfl)
      (OpenSpec.preRow_of_cond 8 (reads os enc) (by kernel_rfl) (fun k hk => by cases hk; kernel_rfl) (by kernel_rfl) (laid_met os))) ?_
  intro W base args ds gs before hval hW _ hcond _ hL _ _
  exact contract H enc W base args ds gs before hval hW hL (hcond _ rfl)

theorem saidUpto : Rows.BursarTellsUptoSaid :=
  OpenClaim.holds_of_cond 3 Tryd.f3 rfl rfl rfl rfl rfl rfl rfl ⟨rfl, rfl, rfl, rfl, rfl⟩ rfl rfl rfl rfl rfl (by kernel_rfl) Tryd.func3 (by kernel_rfl)
    (of_decide_eq_true (by kernel_rfl)) (by unfold Func.isWrapper; first | (rw [if_pos (by decide +kernel)]; kernel_rfl) | (rw [if_neg (by decide +kernel)]; exact ⟨rfl, rfl⟩))
    (fun os started H enc _ F => by rw [OpenClaim.pre_eq_preRow]; exact liftedUpto os started H enc F)

theorem plain (f : FuncId) (fn : Func) (hf : Tryd.pinned.checked.prog.funcNamed "bursar/bursarlaw27.BursarTells" = some f) (hfn : Tryd.pinned.checked.prog.funcs[f]? = some fn) :
    true = Tryd.pinned.checked.prog.looks [] ∧ ∀ (j : Nat) t, fn.params[j]? = some t → Tryd.pinned.checked.prog.wantsStandIn t = false := by
  obtain rfl : f = 3 := Option.some.inj ((show Tryd.prog.funcNamed "bursar/bursarlaw27.BursarTells" = some 3 by kernel_rfl).symm.trans hf) |>.symm
  obtain rfl : fn = Tryd.f3 := (Option.some.inj (Tryd.func3.symm.trans hfn)).symm
  refine ⟨by kernel_rfl, fun j t ht => ?_⟩
  rw [Tryd.params3] at ht
  have hm : t = 3 ∨ t = 32 := by simpa using Array.mem_of_getElem? ht
  rcases hm with rfl | rfl
  · exact (show Tryd.prog.wantsStandIn 3 = false by kernel_rfl)
  · exact (show Tryd.prog.wantsStandIn 32 = false by kernel_rfl)

theorem cardUpto : Rows.BursarTellsUptoCardSaid :=
  Claim7.holds_tied_plain_at .later [] _ _ _ _ saidUpto (fun _ h => by cases h) (by kernel_rfl) (fun _ h => by cases h) bursarTellsUpto_row_tie rfl ⟨rfl, rfl⟩ (by kernel_rfl) rfl plain (by kernel_rfl)
#print axioms cardUpto
end Go.Proofs.YtleajmblagddcaaDoor.bursarTells
namespace Go.Proofs.YtleajmblagddcaaDoor
theorem bursarTells_holds : Rows.BursarTellsUptoCardSaid := bursarTells.cardUpto
end Go.Proofs.YtleajmblagddcaaDoor
