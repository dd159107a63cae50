/- For every input of bulk at most 1048576 the law BursarDumps returns true and its arguments read behind the call as they read before; the listed tables are tied to the program's own text; no other condition. -/
import Derived.Test.YtleajmblagddcaaDoorCards
import Derived.Test.YtleajmblagddcaaDoorTie
import Derived.Test.YtleajmblagddcaaDoorE7
import Derived.WalkKit
import Derived.ProofKit
import Derived.OpenShut
import Derived.ShutString
import Derived.ChangeOld
import Derived.SizedLaws
import Derived.Deep.DeepHandedRow
import Derived.Lib.LaidTab
namespace Go.Proofs.YtleajmblagddcaaDoor.bursarDumps
open Go.ChangeShapes Go.WideShapes Go.ChangeAt Go.RowKit
set_option linter.unusedVariables false
set_option linter.unusedSimpArgs false

theorem own : ownKnob Tryd.prog.godebug = none := by kernel_rfl
theorem laidOut : laidOutB Tryd.prog = true := by kernel_rfl

/-! ### the tables -/
theorem cells_units {H : Type} {enc : TypeId × Value → H} {w : World} {base : Nat} {sp : Nat → Bool} {held : Bool} {fuel : Nat} {cs : List Value} {p : List MemPlace}
    (h : DataW.trod enc Tryd.prog w base sp held fuel 105 cs = some (Rows.laid_bursar_quant_units, p)) (i : Nat) (hi : i < 12) :
    cs[i * 2]? = some (.string (units12[i]'hi).1) ∧ cs[i * 2 + 1]? = some (.int .u64 ((units12[i]'hi).2 : Nat)) := by
  have hce : Tryd.prog.cellsOf 104 = 2 := by kernel_rfl
  have hct : Tryd.prog.cellsOf 105 = 24 := by kernel_rfl
  have cs9 : Tryd.prog.cellsOf 9 = 1 := by kernel_rfl
  have cs101 : Tryd.prog.cellsOf 101 = 1 := by kernel_rfl
  cases fuel with
  | zero => simp [DataW.trod] at h
  | succ fuel =>
    simp only [DataW.trod, Tryd.underlying105, hce, hct] at h
    split at h
    · rename_i hl
      obtain ⟨xs, hm, hx⟩ := Option.map_eq_some_iff.1 h
      have hxs : xs.map (·.1) = units12.map fun e => (DataW.agg [.lit (.string e.1.data.toList), .lit (.int .u64 (e.2 : Nat))] : DataW H) := by
        have := congrArg Prod.fst hx
        simpa [Rows.laid_bursar_quant_units, units12] using this
      obtain ⟨b, hb, hf⟩ := Lib.mapM_at hm i i (by simp [hi])
      have h2 : (xs.map (·.1))[i]? = some b.1 := by simp [hb]
      rw [hxs] at h2
      have h3 : b.1 = .agg [.lit (.string (units12[i]'hi).1.data.toList), .lit (.int .u64 ((units12[i]'hi).2 : Nat))] := by
        rw [List.getElem?_map, List.getElem?_eq_getElem (show i < units12.length from hi)] at h2
        exact (Option.some.inj h2).symm
      obtain ⟨ys, n, rfl, rfl, hlen, hyl, hg⟩ := DataW.trod_struct Tryd.underlying104 hf
      match ys, hyl with
      | [y0, y1], _ =>
        have g0 := hg 0 _ rfl
        have g1 := hg 1 _ rfl
        simp only [cs9, cs101, List.getElem?_cons_zero, List.getElem?_cons_succ] at g0 g1
        obtain ⟨s0, e0, rfl, -⟩ := DataW.trod_string Tryd.underlying9 g0
        obtain ⟨n1, e1, rfl, -⟩ := DataW.trod_int Tryd.underlying101 g1
        simp only [List.map_cons, List.map_nil, DataW.agg.injEq, List.cons.injEq, DataW.lit.injEq, Lit.string.injEq, Lit.int.injEq, and_true, true_and] at h3
        obtain ⟨hs, hn⟩ := h3
        have q0 := congrArg (·[0]?) e0
        have q1 := congrArg (·[0]?) e1
        simp [List.getElem?_take, List.getElem?_drop] at q0 q1
        have hse : s0 = (units12[i]'hi).1 := by
          cases s0 with | mk d => cases hu : (units12[i]'hi).1 with | mk d2 =>
            rw [hu] at hs; simp at hs; rw [hs]
        rw [← hse, ← hn]
        exact ⟨q0.2, q1.2⟩
    · cases h

theorem cells_strs {H : Type} {enc : TypeId × Value → H} {w : World} {base : Nat} {sp : Nat → Bool} {held : Bool} {fuel : Nat} {t : TypeId} {n : Nat} {cs : List Value} {zs : List ByteArray} {p : List MemPlace}
    (ht : Tryd.prog.underlying t = some (.array n 9)) (hce : Tryd.prog.cellsOf 9 = 1) (hct : Tryd.prog.cellsOf t = n)
    (h : DataW.trod enc Tryd.prog w base sp held fuel t cs = some ((DataW.agg (zs.map fun z => (DataW.lit (.string z.data.toList) : DataW H)) : DataW H), p)) : cs = zs.map Value.string := by
  cases fuel with
  | zero => simp [DataW.trod] at h
  | succ fuel =>
    simp only [DataW.trod, ht, hce, hct, Nat.mul_one] at h
    split at h
    · rename_i hl
      obtain ⟨xs, hm, hx⟩ := Option.map_eq_some_iff.1 h
      have hxs : xs.map (·.1) = zs.map fun z => (DataW.lit (.string z.data.toList) : DataW H) := by
        have := congrArg Prod.fst hx
        simpa using this
      have hxl : xs.length = n := by simpa using Lib.mapM_length hm
      have hzl : zs.length = n := by
        have := congrArg List.length hxs
        simp at this
        omega
      apply List.ext_getElem?
      intro i
      by_cases hi : i < n
      · obtain ⟨b, hb, hf⟩ := Lib.mapM_at hm i i (by simp [hi])
        obtain ⟨z, hc, hz, -⟩ := DataW.trod_string Tryd.underlying9 hf
        have h1 : cs[i]? = some (.string z) := by
          have := congrArg (·[0]?) hc
          simpa [List.getElem?_take, List.getElem?_drop] using this
        have h2 : (xs.map (·.1))[i]? = some b.1 := by simp [hb]
        rw [hxs, hz] at h2
        simp only [List.getElem?_map, Option.map_eq_some_iff, DataW.lit.injEq, Lit.string.injEq] at h2
        obtain ⟨z', hz', he⟩ := h2
        have hze : z' = z := by
          cases z with | mk d => cases z' with | mk d2 =>
            simp at he; rw [he]
        subst hze
        simp [h1, hz']
      · rw [List.getElem?_eq_none (by omega), List.getElem?_eq_none (by simp; omega)]
    · cases h
theorem strTab_of {W : World} {name : String} {g : Nat} {cs : Array Value} {zs : List ByteArray} (hg : Tryd.prog.globalNamed name = some g) (hv : W.var? Tryd.prog name = some cs) (h : cs.toList = zs.map Value.string) : StrTab W g zs := by
  refine ⟨?_, fun i hi => ?_⟩
  · have hv3 := hv
    unfold World.var? at hv3
    simp only [hg, Option.bind_some] at hv3
    rcases Nat.lt_or_ge g W.heap.size with h' | h'
    · exact h'
    · rw [Array.getElem?_eq_none h'] at hv3; simp at hv3
  · rw [World.var?_cell hg hv i, ← Array.getElem?_toList, h]
    simp [hi]

theorem tables {W : World} (h : laidMetH Tryd.prog Rows.bursarDumpsRow.laid W) : PowTab W ∧ Uni W ∧ Scs W ∧ Vbs W := by
  have h' : laidMet Tryd.prog Rows.bursarDumpsRow.laid W := h
  obtain ⟨ps, ⟨g0, t0, cs0, f0, p0, q0, -, -, -, -, ⟨g1, t1, cs1, f1, p1, q1, -, -, -, -, ⟨g2, t2, cs2, f2, p2, q2, hg2, ht2, hv2, hd2, ⟨g3, t3, cs3, f3, p3, q3, hg3, ht3, hv3, hd3, ⟨g4, t4, cs4, f4, p4, q4, hg4, ht4, hv4, hd4, ⟨g5, t5, cs5, f5, p5, q5, hg5, ht5, hv5, hd5, -, -⟩, -⟩, -⟩, -⟩, -⟩, -⟩, -⟩ := h'
  refine ⟨?_, ?_, ?_, ?_⟩
  · obtain rfl := Option.some.inj ((show (Tryd.prog.globals[g2]?).map (·.type) = some 141 from by
      obtain rfl := Option.some.inj (pow_global.symm.trans hg2); kernel_rfl).symm.trans ht2)
    show Lib.TabIs _ _ _ _ _
    unfold Lib.TabIs
    have := Lib.cells_of_tab (k := .u64) (zs := Lib.pow10Tab) Tryd.underlying141 Tryd.underlying101 (by kernel_rfl) (by kernel_rfl) hd2
    rw [hv2, ← this]
  · have hgu : Tryd.prog.globalNamed "bursar/quant.units" = some 0 := by kernel_rfl
    obtain rfl := Option.some.inj (hgu.symm.trans hg3)
    obtain rfl := Option.some.inj ((show (Tryd.prog.globals[0]?).map (·.type) = some 105 from by kernel_rfl).symm.trans ht3)
    refine ⟨?_, fun i hi => ?_⟩
    · unfold World.var? at hv3
      simp only [hgu, Option.bind_some] at hv3
      rcases Nat.lt_or_ge 0 W.heap.size with h' | h'
      · exact h'
      · rw [Array.getElem?_eq_none h'] at hv3; simp at hv3
    · obtain ⟨k1, k2⟩ := cells_units hd3 i hi
      have e1 := World.var?_cell hgu hv3 (i * 2)
      have e2 := World.var?_cell hgu hv3 (i * 2 + 1)
      rw [Nat.zero_add]
      exact ⟨by rw [e1, ← Array.getElem?_toList]; exact k1, by rw [e2, ← Array.getElem?_toList]; exact k2⟩
  · have hgu : Tryd.prog.globalNamed "bursar/scope.texts" = some 2 := by kernel_rfl
    obtain rfl := Option.some.inj (hgu.symm.trans hg4)
    obtain rfl := Option.some.inj ((show (Tryd.prog.globals[2]?).map (·.type) = some 128 from by kernel_rfl).symm.trans ht4)
    exact strTab_of hgu hv4 (cells_strs (zs := scTexts) Tryd.underlying128 (by kernel_rfl) (by kernel_rfl) hd4)
  · have hgu : Tryd.prog.globalNamed "bursar/bursar.verbs" = some 1 := by kernel_rfl
    obtain rfl := Option.some.inj (hgu.symm.trans hg5)
    obtain rfl := Option.some.inj ((show (Tryd.prog.globals[1]?).map (·.type) = some 115 from by kernel_rfl).symm.trans ht5)
    exact strTab_of hgu hv5 (cells_strs (zs := vbTexts) Tryd.underlying115 (by kernel_rfl) (by kernel_rfl) hd5)

/-! ### the arguments -/
theorem agg_of {v : Value} {l : List Value} (h : v.cells.toList = l) (hl : l.length ≠ 1) : v = .agg l.toArray := by
  cases v with
  | agg cs => simp [Value.cells] at h; subst h; simp
  | _ => (simp [Value.cells] at h; subst h; simp at hl)

set_option maxRecDepth 100000 in
theorem contract (H : Type) (enc : TypeId × Value → H) (W : World) (base : Nat) (args : Array Value) (ds gs : List (DataW H)) (before : List MemPlace)
    (hval : ∀ (j : Nat) t v, Tryd.f4.params[j]? = some t → args[j]? = some v → Value.okWide Tryd.prog W .any base t v)
    (hW : DataW.Whole enc Tryd.prog Tryd.f4.params.toList Rows.bursarDumpsSpec.vars false W args.toList ds gs before) (hL : laidMetH Tryd.prog Rows.bursarDumpsRow.laid W) (hk : Rows.uptoSmall H (ds ++ gs) = true) :
    Calls Tryd.prog 4 args W fun e W' => ∃ v, e = .returned v ∧ Rows.bursarDumpsSpec.post enc Tryd.prog Tryd.f4 false true false false W args v W' := by
  have hW' := hW
  obtain ⟨p, q, hA0, hV, rfl, hfz, hnd⟩ := hW
  have hA : DataW.TrodAll enc Tryd.prog W 0 (fun _ => true) true Tryd.f4.params.toList args.toList ds p := hA0
  rw [Tryd.params4] at hA hval
  obtain ⟨v1, vs1, d1, ds1, p1, q1, hargs, rfl, rfl, h1, r1⟩ := trodAll_cons hA
  obtain ⟨rfl, rfl, rfl⟩ := trodAll_nil r1
  obtain rfl : args = #[v1] := by cases args; simp_all
  obtain ⟨rfl, rfl⟩ := trodVars_none hV
  have k1 := h1
  have lt1 : ∀ x ∈ p1, x.block < W.heap.size := by obtain ⟨m, hm⟩ := k1; exact DataW.trod_lt m _ _ _ hm
  obtain ⟨fuel, hf⟩ := h1
  obtain ⟨r, hcs, hok, htx⟩ := dec_du hf
  obtain rfl := agg_of hcs (by simp)
  obtain ⟨hpow, huni, hsc, hvb⟩ := tables hL
  have hlen : r.txt.length ≤ 1099511627776 := by
    have hb := of_decide_eq_true hk
    simp only [List.append_nil, Rows.uptoBulkAll] at hb
    have := htx
    simp only at this
    omega
  obtain ⟨ver, ndv, ndl, quv, qul, liv, lil, obv, obl, biv, bil, usv, usl⟩ := r
  clear hA0 hcs
  refine (dumps_calls ver ndv ndl quv qul liv lil obv obl biv bil usv usl W hok hlen huni hpow hsc hvb).mono fun e W' ⟨he, bel⟩ => ?_
  subst he
  exact ⟨_, rfl, _, _, _, [], _, [], hW', trodAll_mk1 (shut_bool Tryd.underlying4 _),
    (trodAll_cons_mk (Below.trod laidOut (by kernel_rfl) (of_decide_eq_true (by kernel_rfl)) k1 bel lt1) trodAll_mk0), rfl, bel.frame _, fun h => by cases h⟩

/-! ### the witness -/
def unitsCells : Array Value := (units12.flatMap fun e => [Value.string e.1, Value.int .u64 (e.2 : Nat)]).toArray
def numCells (k : IntKind) : DataW Unit → Array Value
  | .agg l => (l.map fun | .lit (.int _ n) => Value.int k n | _ => .nilIface).toArray
  | _ => #[]
def zeroDump : Value := .agg #[.int .i64 0, .slice none 0 0, .slice none 0 0, .slice none 0 0, .slice none 0 0, .slice none 0 0, .slice none 0 0]
def putCells (cs : Array Value) : Obj → Obj
  | .cells _ t frozen => .cells cs t frozen
  | o => o
noncomputable def laidWorld (os : Os) : World :=
  { World.holding Tryd.prog os ⟨#[], #[], []⟩ with heap := ((((((World.holding Tryd.prog os ⟨#[], #[], []⟩).heap.modify 0 (putCells unitsCells)).modify 3 (putCells (numCells .u64 Rows.laid_internal_strconv_uint64pow10))).modify 4 (putCells (numCells .u8 Rows.laid_math_bits_deBruijn32tab))).modify 5 (putCells (numCells .u8 Rows.laid_math_bits_deBruijn64tab))).modify 2 (putCells (scTexts.map Value.string).toArray)).modify 1 (putCells (vbTexts.map Value.string).toArray) }
theorem laid_met (os : Os) : laidMet Tryd.prog Rows.bursarDumpsRow.laid ((laidWorld os).forCall (fun _ _ => 0) ⟨#[], #[zeroDump], []⟩).memory :=
  laidMet_of_run' 8 (by kernel_rfl) (by kernel_rfl)
def zeroData (H : Type) : List (DataW H) := [.agg [.lit (.int .i64 0), .nil, .nil, .nil, .nil, .nil, .nil]]
theorem reads (os : Os) {H : Type} (enc : TypeId × Value → H) : DataW.whole enc Tryd.prog ((laidWorld os).forCall (fun _ _ => 0) ⟨#[], #[zeroDump], []⟩).memory Tryd.f4.params.toList Rows.bursarDumpsSpec.vars false #[zeroDump].toList 8 = some (zeroData H, [], []) :=
  by kernel_rfl

set_option maxRecDepth 100000 in
theorem liftedUpto (os : Os) (started : os.Started) (H : Type) (enc : TypeId × Value → H) (F : Stop.Interp) :
    ReturnsInHanded {} Tryd.checked os 4 .any ((Rows.OpenSpec.upto Rows.bursarDumpsSpec).preRow enc Tryd.prog Tryd.f4 Rows.bursarDumpsUptoRow.domain false Rows.bursarDumpsUptoRow.laid) (((Rows.OpenSpec.upto Rows.bursarDumpsSpec).at F).post enc Tryd.prog Tryd.f4 false true false false) := by
  refine returnsInHanded_of_row (C := Tryd.checked) (s := Rows.OpenSpec.upto Rows.bursarDumpsSpec) own started (by kernel_rfl) Tryd.func4
    (witness_row_at (enc := enc) (C := Tryd.checked) false (laidWorld os) #[zeroDump] rfl (by kernel_rfl) (by kernel_rfl) (by kernel_rfl)
      (OpenSpec.preRow_of_cond 8 (reads os enc) (by kernel_rfl) (fun k hk => by cases hk; kernel_rfl) (by kernel_rfl) (laid_met os))) ?_
  intro W base args ds gs before hval hW _ hcond _ hL _ _
  exact contract H enc W base args ds gs before hval hW hL (hcond _ rfl)

theorem saidUpto : Rows.BursarDumpsUptoSaid :=
  OpenClaim.holds_of_cond 4 Tryd.f4 rfl rfl rfl rfl rfl rfl rfl ⟨rfl, rfl, rfl, rfl, rfl⟩ rfl rfl rfl rfl rfl (by kernel_rfl) Tryd.func4 (by kernel_rfl)
    (of_decide_eq_true (by kernel_rfl)) (by unfold Func.isWrapper; first | (rw [if_pos (by decide +kernel)]; kernel_rfl) | (rw [if_neg (by decide +kernel)]; exact ⟨rfl, rfl⟩))
    (fun os started H enc _ F => by rw [OpenClaim.pre_eq_preRow]; exact liftedUpto os started H enc F)

theorem plain (f : FuncId) (fn : Func) (hf : Tryd.pinned.checked.prog.funcNamed "bursar/bursarlaw27.BursarDumps" = some f) (hfn : Tryd.pinned.checked.prog.funcs[f]? = some fn) :
    true = Tryd.pinned.checked.prog.looks [] ∧ ∀ (j : Nat) t, fn.params[j]? = some t → Tryd.pinned.checked.prog.wantsStandIn t = false := by
  obtain rfl : f = 4 := Option.some.inj ((show Tryd.prog.funcNamed "bursar/bursarlaw27.BursarDumps" = some 4 by kernel_rfl).symm.trans hf) |>.symm
  obtain rfl : fn = Tryd.f4 := (Option.some.inj (Tryd.func4.symm.trans hfn)).symm
  refine ⟨by kernel_rfl, fun j t ht => ?_⟩
  rw [Tryd.params4] at ht
  have hm : t = 40 := by simpa using Array.mem_of_getElem? ht
  subst hm
  exact (show Tryd.prog.wantsStandIn 40 = false by kernel_rfl)

theorem cardUpto : Rows.BursarDumpsUptoCardSaid :=
  Claim7.holds_tied_plain_at .later [] _ _ _ _ saidUpto (fun _ h => by cases h) (by kernel_rfl) (fun _ h => by cases h) bursarDumpsUpto_row_tie rfl ⟨rfl, rfl⟩ (by kernel_rfl) rfl plain (by kernel_rfl)
#print axioms cardUpto
end Go.Proofs.YtleajmblagddcaaDoor.bursarDumps
namespace Go.Proofs.YtleajmblagddcaaDoor
theorem bursarDumps_holds : Rows.BursarDumpsUptoCardSaid := bursarDumps.cardUpto
end Go.Proofs.YtleajmblagddcaaDoor
