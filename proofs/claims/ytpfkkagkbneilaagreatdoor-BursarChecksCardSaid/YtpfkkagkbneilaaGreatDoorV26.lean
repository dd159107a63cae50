/- Texts LawChecks of the proof of BursarChecks, joined. -/
import Derived.Test.YtpfkkagkbneilaaGreatDoorCards
import Derived.Test.YtpfkkagkbneilaaGreatDoorTie
import Derived.Test.YtpfkkagkbneilaaGreatDoorV25
import Derived.Deep.DeepWitnessRowRef
import Derived.Shelf.Vars
import Derived.WalkKit
import Derived.ProofKit
import Derived.OpenShut
import Derived.ShutString
import Derived.ChangeOld
import Derived.SizedLaws
import Derived.Deep.DeepHandedRow
import Derived.Lib.LaidTab
namespace Go.Proofs.YtpfkkagkbneilaaGreatDoor.bursarChecks
open Go.ChangeShapes Go.WideShapes Go.ChangeAt Go.RowKit
open Go.ChangeMaps (open_string shut_string)
set_option linter.unusedVariables false
set_option linter.unusedSimpArgs false
theorem own:ownKnob Tryz.prog.godebug = none:=by kernel_rfl
theorem laidOut:laidOutB Tryz.prog = true:=by kernel_rfl
theorem cells_units {H:Type} {enc:TypeId × Value → H} {w:World} {base:Nat} {sp:Nat → Bool} {held:Bool} {fuel:Nat} {cs:List Value} {p:List MemPlace}
  (h:DataW.trod enc Tryz.prog w base sp held fuel 215 cs = some (Rows.laid_bursar_quant_units,p)) (i:Nat) (hi:i < qunits.length) :
  cs[i * 2]? = some (.string (sb (qunits[i]'hi).1)) ∧ cs[i * 2 + 1]? = some (.int .u64 ((qunits[i]'hi).2:Nat)):=by
 have hi12:i < 12:=hi
 have hce:Tryz.prog.cellsOf 214 = 2:=by kernel_rfl
 have hct:Tryz.prog.cellsOf 215 = 24:=by kernel_rfl
 have cs9:Tryz.prog.cellsOf 9 = 1:=by kernel_rfl
 have cs101:Tryz.prog.cellsOf 212 = 1:=by kernel_rfl
 cases fuel with
 | zero=>simp [DataW.trod] at h
 | succ fuel=>
  simp only [DataW.trod,Tryz.underlying215,hce,hct] at h
  split at h
  ·rename_i hl
   obtain ⟨xs,hm,hx⟩:=Option.map_eq_some_iff.1 h
   have hxs:xs.map (·.1) = qunits.map fun e=>(DataW.agg [.lit (.string e.1),.lit (.int .u64 (e.2:Nat))] : DataW H):=by
    have:=congrArg Prod.fst hx
    simpa [Rows.laid_bursar_quant_units,qunits] using this
   obtain ⟨b,hb,hf⟩:=Lib.mapM_at hm i i (by simp [hi12])
   have h2:(xs.map (·.1))[i]? = some b.1:=by simp [hb]
   rw [hxs] at h2
   have h3:b.1 = .agg [.lit (.string (qunits[i]'hi).1),.lit (.int .u64 ((qunits[i]'hi).2:Nat))]:=by
    rw [List.getElem?_map,List.getElem?_eq_getElem hi] at h2
    exact (Option.some.inj h2).symm
   obtain ⟨ys,n,rfl,rfl,hlen,hyl,hg⟩:=DataW.trod_struct Tryz.underlying214 hf
   match ys,hyl with
   | [y0,y1],_=>
    have g0:=hg 0 _ rfl
    have g1:=hg 1 _ rfl
    simp only [cs9,cs101,List.getElem?_cons_zero,List.getElem?_cons_succ] at g0 g1
    obtain ⟨s0,e0,rfl, -⟩:=DataW.trod_string Tryz.underlying9 g0
    obtain ⟨n1,e1,rfl, -⟩:=DataW.trod_int Tryz.underlying212 g1
    simp only [List.map_cons,List.map_nil,DataW.agg.injEq,List.cons.injEq,DataW.lit.injEq,Lit.string.injEq,Lit.int.injEq,and_true,true_and] at h3
    obtain ⟨hs,hn⟩:=h3
    have q0:=congrArg (·[0]?) e0
    have q1:=congrArg (·[0]?) e1
    simp [List.getElem?_take,List.getElem?_drop] at q0 q1
    have hse:s0 = sb (qunits[i]'hi).1:=by
     rw [← hs]
     cases s0 with | mk d=>simp [sb]
    rw [← hse,← hn]
    exact ⟨q0.2,q1.2⟩
  ·cases h
theorem cells_strs {H:Type} {enc:TypeId × Value → H} {w:World} {base:Nat} {sp:Nat → Bool} {held:Bool} {fuel:Nat} {t:TypeId} {n:Nat} {cs:List Value} {zs:List ByteArray} {p:List MemPlace}
  (ht:Tryz.prog.underlying t = some (.array n 9)) (hce:Tryz.prog.cellsOf 9 = 1) (hct:Tryz.prog.cellsOf t = n)
  (h:DataW.trod enc Tryz.prog w base sp held fuel t cs = some ((DataW.agg (zs.map fun z=>(DataW.lit (.string z.data.toList):DataW H)):DataW H),p)):cs = zs.map Value.string:=by
 cases fuel with
 | zero=>simp [DataW.trod] at h
 | succ fuel=>
  simp only [DataW.trod,ht,hce,hct,Nat.mul_one] at h
  split at h
  ·rename_i hl
   obtain ⟨xs,hm,hx⟩:=Option.map_eq_some_iff.1 h
   have hxs:xs.map (·.1) = zs.map fun z=>(DataW.lit (.string z.data.toList):DataW H):=by
    have:=congrArg Prod.fst hx
    simpa using this
   have hxl:xs.length = n:=by simpa using Lib.mapM_length hm
   have hzl:zs.length = n:=by
    have:=congrArg List.length hxs
    simp at this
    omega
   apply List.ext_getElem?
   intro i
   by_cases hi:i < n
   ·obtain ⟨b,hb,hf⟩:=Lib.mapM_at hm i i (by simp [hi])
    obtain ⟨z,hc,hz, -⟩:=DataW.trod_string Tryz.underlying9 hf
    have h1:cs[i]? = some (.string z):=by
     have:=congrArg (·[0]?) hc
     simpa [List.getElem?_take,List.getElem?_drop] using this
    have h2:(xs.map (·.1))[i]? = some b.1:=by simp [hb]
    rw [hxs,hz] at h2
    simp only [List.getElem?_map,Option.map_eq_some_iff,DataW.lit.injEq,Lit.string.injEq] at h2
    obtain ⟨z',hz',he⟩:=h2
    have hze:z' = z:=by
     cases z with | mk d=>cases z' with | mk d2=>
      simp at he;rw [he]
    subst hze
    simp [h1,hz']
   ·rw [List.getElem?_eq_none (by omega),List.getElem?_eq_none (by simp;omega)]
  ·cases h
def StrTab (w:World) (g:Nat) (l:List ByteArray):Prop:=g < w.heap.size ∧ ∀ i (h:i < l.length),w.cell? ⟨g,i,none⟩ = some (.string l[i])
theorem strTab_of {W:World} {name:String} {g:Nat} {cs:Array Value} {zs:List ByteArray} (hg:Tryz.prog.globalNamed name = some g) (hv:W.var? Tryz.prog name = some cs) (h:cs.toList = zs.map Value.string):StrTab W g zs:=by
 refine ⟨?_,fun i hi=>?_⟩
 ·have hv3:=hv
  unfold World.var? at hv3
  simp only [hg,Option.bind_some] at hv3
  rcases Nat.lt_or_ge g W.heap.size with h' | h'
  ·exact h'
  ·rw [Array.getElem?_eq_none h'] at hv3;simp at hv3
 ·rw [World.var?_cell hg hv i,← Array.getElem?_toList,h]
  simp [hi]
theorem tables {W:World} (h:laidMetH Tryz.prog Rows.bursarChecksRow.laid W) (hsh:W.ShapedOpen Tryz.prog):Glob W:=by
 have h' : laidMet Tryz.prog Rows.bursarChecksRow.laid W:=h
 obtain ⟨ps,⟨g0,t0,cs0,f0,p0,q0, -, -, -, -,⟨g1,t1,cs1,f1,p1,q1, -, -, -, -,⟨g2,t2,cs2,f2,p2,q2, -, -, -, -,⟨g3,t3,cs3,f3,p3,q3, -, -, -, -,⟨g4,t4,cs4,f4,p4,q4, -, -, -, -,⟨g5,t5,cs5,f5,p5,q5, -, -, -, -,⟨g6,t6,cs6,f6,p6,q6,hg6,ht6,hv6,hd6,⟨g7,t7,cs7,f7,p7,q7,hg7,ht7,hv7,hd7,⟨g8,t8,cs8,f8,p8,q8,hg8,ht8,hv8,hd8,⟨g9,t9,cs9,f9,p9,q9, -, -, -, -, -, -⟩, -⟩, -⟩, -⟩, -⟩, -⟩, -⟩, -⟩, -⟩, -⟩, -⟩:=h'
 refine ⟨?_,?_,?_,?_⟩
 ·exact cell_of_shapedOpen_int (t:=3) (zero := #[.int .i64 0]) hsh (of_decide_eq_true (by kernel_rfl)) (by kernel_rfl) rfl (by kernel_rfl) (by kernel_rfl) Tryz.underlying3
 ·have hgu : Tryz.prog.globalNamed "bursar/quant.units" = some 3 := by kernel_rfl
  obtain rfl:=Option.some.inj (hgu.symm.trans hg6)
  obtain rfl:=Option.some.inj ((show (Tryz.prog.globals[3]?).map (·.type) = some 215 from by kernel_rfl).symm.trans ht6)
  intro i hi
  obtain ⟨k1,k2⟩:=cells_units hd6 i hi
  have e1:=World.var?_cell hgu hv6 (i * 2)
  have e2:=World.var?_cell hgu hv6 (i * 2 + 1)
  exact ⟨by rw [e1,← Array.getElem?_toList];exact k1,by rw [e2,← Array.getElem?_toList];exact k2⟩
 ·have hgu : Tryz.prog.globalNamed "bursar/scope.texts" = some 2 := by kernel_rfl
  obtain rfl:=Option.some.inj (hgu.symm.trans hg7)
  obtain rfl:=Option.some.inj ((show (Tryz.prog.globals[2]?).map (·.type) = some 195 from by kernel_rfl).symm.trans ht7)
  have hs:=strTab_of hgu hv7 (cells_strs (zs:=textsT.map sb) Tryz.underlying195 (by kernel_rfl) (by kernel_rfl) hd7)
  intro i hi
  have:=hs.2 i (by simpa using hi)
  simpa using this
 ·have hgu : Tryz.prog.globalNamed "bursar/bursar.verbs" = some 1 := by kernel_rfl
  obtain rfl:=Option.some.inj (hgu.symm.trans hg8)
  obtain rfl:=Option.some.inj ((show (Tryz.prog.globals[1]?).map (·.type) = some 167 from by kernel_rfl).symm.trans ht8)
  have hs:=strTab_of hgu hv8 (cells_strs (zs:=verbsT.map sb) Tryz.underlying167 (by kernel_rfl) (by kernel_rfl) hd8)
  intro i hi
  have:=hs.2 i (by simpa using hi)
  simpa using this
set_option maxRecDepth 100000 in
theorem contract (H:Type) (enc:TypeId × Value → H) (W:World) (base:Nat) (args:Array Value) (ds gs:List (DataW H)) (before:List MemPlace)
  (hval:∀ (j:Nat) t v,Tryz.f4.params[j]? = some t → args[j]? = some v → Value.okWide Tryz.prog W .any base t v)
  (hW:DataW.Whole enc Tryz.prog Tryz.f4.params.toList Rows.bursarChecksSpec.vars false W args.toList ds gs before) (hL:laidMetH Tryz.prog Rows.bursarChecksRow.laid W) (hsh:W.ShapedOpen Tryz.prog) :
  Calls Tryz.prog 4 args W fun e W' => ∃ v,e = .returned v ∧ Rows.bursarChecksSpec.post enc Tryz.prog Tryz.f4 false true false false W args v W':=by
 have hW':=hW
 obtain ⟨p,q,hA0,hV,rfl,hfz,hnd⟩:=hW
 have hA:DataW.TrodAll enc Tryz.prog W 0 (fun _=>true) true Tryz.f4.params.toList args.toList ds p:=hA0
 rw [Tryz.params4] at hA hval
 obtain ⟨v1,vs1,d1,ds1,p1,q1,hargs,rfl,rfl,h1,r1⟩:=trodAll_cons hA
 obtain ⟨rfl,rfl,rfl⟩:=trodAll_nil r1
 obtain rfl:args = #[v1]:=by cases args;simp_all
 obtain ⟨rfl,rfl⟩:=trodVars_none hV
 obtain ⟨a2,rfl,rfl,rfl,y2⟩:=open_string Tryz.underlying9 (hval 0 9 v1 rfl rfl) h1
 have hsb:sb a2.data.toList = a2:=by cases a2;simp [sb]
 have hl:=lawC_calls W (tables hL hsh) a2.data.toList
 rw [hsb] at hl
 clear hA0
 refine hl.mono fun e W' ⟨he,bel⟩=>?_
 subst he
 exact ⟨_,rfl,_,_,_, [],_, [],hW',trodAll_mk1 (shut_bool Tryz.underlying4 _),
  (trodAll_cons_mk (shut_string Tryz.underlying9 y2) trodAll_mk0),rfl,bel.frame _,fun h=>by cases h⟩
def datCells (k:IntKind):DataW Unit → Array Value
 | .agg l=>(l.flatMap fun | .lit (.int _ n) => [Value.int k n] | .agg m=>m.map (fun | .lit (.int _ n)=>Value.int k n | _=>.nilIface) | _ => []).toArray
 | _ => #[]
def putCells (cs:Array Value):Obj → Obj
 | .cells _ t frozen=>.cells cs t frozen
 | o=>o
noncomputable def laidWorld (os:Os):World:=
 let N:=(World.settled Tryz.prog os).heap.size
 let w0:=World.holding Tryz.prog os ⟨#[.cells #[.string ⟨#[118,97,108,117,101,32,111,117,116,32,111,102,32,114,97,110,103,101]⟩] 272,.cells #[.string ⟨#[105,110,118,97,108,105,100,32,115,121,110,116,97,120]⟩] 272], #[], []⟩
 let h0:=w0.heap.modify 11 (putCells (datCells .u8 Rows.laid_math_bits_deBruijn32tab))
 let h1:=h0.modify 12 (putCells (datCells .u8 Rows.laid_math_bits_deBruijn64tab))
 let h2:=h1.modify 10 (putCells (datCells .u64 Rows.laid_internal_strconv_uint64pow10))
 let h3:=h2.modify 5 (putCells (datCells .u8 Rows.laid_unicode_utf8_acceptRanges))
 let h4:=h3.modify 9 (putCells #[.iface 270 (.pointer (some ⟨N,0,none⟩))])
 let h5:=h4.modify 8 (putCells #[.iface 270 (.pointer (some ⟨N + 1,0,none⟩))])
 let h6:=h5.modify 3 (putCells (qunits.flatMap fun e => [Value.string (sb e.1),Value.int .u64 (e.2:Nat)]).toArray)
 let h7:=h6.modify 2 (putCells (textsT.map fun t=>Value.string (sb t)).toArray)
 let h8:=h7.modify 1 (putCells (verbsT.map fun t=>Value.string (sb t)).toArray)
 let h9:=h8.modify 4 (putCells (datCells .u8 Go.Pinned.utf8First))
 { w0 with heap:=h9 }
theorem laid_met (os:Os):laidMet Tryz.prog Rows.bursarChecksRow.laid ((laidWorld os).forCall (fun _ _=>0) ⟨#[], #[.string ⟨#[]⟩], []⟩).memory:=
 laidMet_of_run' 8 (by kernel_rfl) (by kernel_rfl)
theorem reads (os:Os) {H:Type} (enc:TypeId × Value → H):DataW.whole enc Tryz.prog ((laidWorld os).forCall (fun _ _=>0) ⟨#[], #[.string ⟨#[]⟩], []⟩).memory Tryz.f4.params.toList Rows.bursarChecksSpec.vars false #[Value.string ⟨#[]⟩].toList 8 = some ([.lit (.string [])], [], []):=
 by kernel_rfl
set_option maxRecDepth 100000 in
theorem lifted (os:Os) (started:os.Started) (H:Type) (enc:TypeId × Value → H) (F:Stop.Interp) :
  ReturnsInHanded {} Tryz.checked os 4 .any ((OpenSpec.ofChange Rows.bursarChecksSpec).preRow enc Tryz.prog Tryz.f4 Rows.bursarChecksRow.domain false Rows.bursarChecksRow.laid) (((OpenSpec.ofChange Rows.bursarChecksSpec).at F).post enc Tryz.prog Tryz.f4 false true false false):=by
 refine returnsInHanded_of_row (C:=Tryz.checked) (s:=OpenSpec.ofChange Rows.bursarChecksSpec) own started (by kernel_rfl) Tryz.func4
  (witness_row_atRef (enc:=enc) (C:=Tryz.checked) false (laidWorld os) #[.string ⟨#[]⟩] rfl (by kernel_rfl) (by kernel_rfl) (by kernel_rfl)
   (OpenSpec.preRow_of_cond 8 (reads os enc) (by kernel_rfl) (fun k hk=>by cases hk) (by kernel_rfl) (laid_met os))) ?_
 intro W base args ds gs before hval hW _ hcond _ hL hsh _
 exact contract H enc W base args ds gs before hval hW hL hsh
theorem said:Rows.BursarChecksSaid:=
 OpenClaim.holds_of_cond 4 Tryz.f4 rfl rfl rfl rfl rfl rfl rfl ⟨rfl,rfl,rfl,rfl,rfl⟩ rfl rfl rfl rfl rfl (by kernel_rfl) Tryz.func4 (by kernel_rfl)
  (of_decide_eq_true (by kernel_rfl)) (by unfold Func.isWrapper;first | (rw [if_pos (by decide +kernel)];kernel_rfl) | (rw [if_neg (by decide +kernel)];exact ⟨rfl,rfl⟩))
  (fun os started H enc _ F=>by rw [OpenClaim.pre_eq_preRow];exact lifted os started H enc F)
theorem plain (f : FuncId) (fn : Func) (hf : Tryz.pinned.checked.prog.funcNamed "bursar/bursarlaw27.BursarChecks" = some f) (hfn : Tryz.pinned.checked.prog.funcs[f]? = some fn) :
  true = Tryz.pinned.checked.prog.looks [] ∧ ∀ (j:Nat) t,fn.params[j]? = some t → Tryz.pinned.checked.prog.wantsStandIn t = false:=by
 obtain rfl : f = 4 := Option.some.inj ((show Tryz.prog.funcNamed "bursar/bursarlaw27.BursarChecks" = some 4 by kernel_rfl).symm.trans hf) |>.symm
 obtain rfl:fn = Tryz.f4:=(Option.some.inj (Tryz.func4.symm.trans hfn)).symm
 refine ⟨by kernel_rfl,fun j t ht=>?_⟩
 rw [Tryz.params4] at ht
 have hm:t = 9:=by simpa using Array.mem_of_getElem? ht
 subst hm
 exact (show Tryz.prog.wantsStandIn 9 = false by kernel_rfl)
theorem card:Rows.BursarChecksCardSaid:=
 Claim7.holds_tied_plain_at .later [] _ _ _ _ said (fun _ h=>by cases h) (by kernel_rfl) (fun _ h=>by cases h) bursarChecks_row_tie rfl ⟨rfl,rfl⟩ (by kernel_rfl) rfl plain (by kernel_rfl)
end Go.Proofs.YtpfkkagkbneilaaGreatDoor.bursarChecks
namespace Go.Proofs.YtpfkkagkbneilaaGreatDoor
theorem bursarChecks_holds:Rows.BursarChecksCardSaid:=bursarChecks.card
end Go.Proofs.YtpfkkagkbneilaaGreatDoor
