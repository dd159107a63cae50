/- bursar.Dump: a dump's text. -/
import Derived.Test.YtleajmblagddcaaDoorE3
import Derived.Test.YtleajmblagddcaaDoorD20
import Derived.Deep.RegionHeld3
namespace Go.Proofs.YtleajmblagddcaaDoor
open Go.RowKit
set_option linter.unusedVariables false
set_option linter.unusedSimpArgs false

set_option maxRecDepth 100000 in
set_option maxHeartbeats 12800000 in
theorem bdump_calls (ver : Int) (An : Option Addr) (cn : Nat) (ndl : List ByteArray) (Aq : Option Addr) (cq : Nat) (qul : List Qu) (Al : Option Addr) (cl : Nat) (lil : List Li) (Ao : Option Addr) (co : Nat) (obl : List Ob) (Ab : Option Addr) (cb : Nat) (bil : List Bi) (Au : Option Addr) (cu : Nat) (usl : List Us) (w : World) (hr : DuOk w (⟨ver, .slice An ndl.length cn, ndl, .slice Aq qul.length cq, qul, .slice Al lil.length cl, lil, .slice Ao obl.length co, obl, .slice Ab bil.length cb, bil, .slice Au usl.length cu, usl⟩ : Du)) (hlen : (⟨ver, .slice An ndl.length cn, ndl, .slice Aq qul.length cq, qul, .slice Al lil.length cl, lil, .slice Ao obl.length co, obl, .slice Ab bil.length cb, bil, .slice Au usl.length cu, usl⟩ : Du).txt.length ≤ 1099511627776) (hU : Uni w) (htab : PowTab w) (hSc : Scs w) (hVb : Vbs w) :
    Calls Tryd.prog 8 #[.agg #[.int .i64 ver, .slice An ndl.length cn, .slice Aq qul.length cq, .slice Al lil.length cl, .slice Ao obl.length co, .slice Ab bil.length cb, .slice Au usl.length cu]] w fun e w' => ∃ sv, e = .returned sv ∧ StrIs sv (⟨ver, .slice An ndl.length cn, ndl, .slice Aq qul.length cq, qul, .slice Al lil.length cl, lil, .slice Ao obl.length co, obl, .slice Ab bil.length cb, bil, .slice Au usl.length cu, usl⟩ : Du).txt ∧ Below w.heap.size w w' := by
  have Hr := Lib.hid hr
  have Htab := Lib.hid htab
  have HU := Lib.hid hU
  have HSc := Lib.hid hSc
  have HVb := Lib.hid hVb
  have hle := du_lens (⟨ver, .slice An ndl.length cn, ndl, .slice Aq qul.length cq, qul, .slice Al lil.length cl, lil, .slice Ao obl.length co, obl, .slice Ab bil.length cb, bil, .slice Au usl.length cu, usl⟩ : Du)
  obtain ⟨T0, hT0⟩ : ∃ x, x = (⟨ver, .slice An ndl.length cn, ndl, .slice Aq qul.length cq, qul, .slice Al lil.length cl, lil, .slice Ao obl.length co, obl, .slice Ab bil.length cb, bil, .slice Au usl.length cu, usl⟩ : Du).t0 := ⟨_, rfl⟩
  obtain ⟨T1, hT1⟩ : ∃ x, x = (⟨ver, .slice An ndl.length cn, ndl, .slice Aq qul.length cq, qul, .slice Al lil.length cl, lil, .slice Ao obl.length co, obl, .slice Ab bil.length cb, bil, .slice Au usl.length cu, usl⟩ : Du).t1 := ⟨_, rfl⟩
  obtain ⟨T2, hT2⟩ : ∃ x, x = (⟨ver, .slice An ndl.length cn, ndl, .slice Aq qul.length cq, qul, .slice Al lil.length cl, lil, .slice Ao obl.length co, obl, .slice Ab bil.length cb, bil, .slice Au usl.length cu, usl⟩ : Du).t2 := ⟨_, rfl⟩
  obtain ⟨T3, hT3⟩ : ∃ x, x = (⟨ver, .slice An ndl.length cn, ndl, .slice Aq qul.length cq, qul, .slice Al lil.length cl, lil, .slice Ao obl.length co, obl, .slice Ab bil.length cb, bil, .slice Au usl.length cu, usl⟩ : Du).t3 := ⟨_, rfl⟩
  obtain ⟨T4, hT4⟩ : ∃ x, x = (⟨ver, .slice An ndl.length cn, ndl, .slice Aq qul.length cq, qul, .slice Al lil.length cl, lil, .slice Ao obl.length co, obl, .slice Ab bil.length cb, bil, .slice Au usl.length cu, usl⟩ : Du).t4 := ⟨_, rfl⟩
  obtain ⟨T5, hT5⟩ : ∃ x, x = (⟨ver, .slice An ndl.length cn, ndl, .slice Aq qul.length cq, qul, .slice Al lil.length cl, lil, .slice Ao obl.length co, obl, .slice Ab bil.length cb, bil, .slice Au usl.length cu, usl⟩ : Du).t5 := ⟨_, rfl⟩
  obtain ⟨T6, hT6⟩ : ∃ x, x = (⟨ver, .slice An ndl.length cn, ndl, .slice Aq qul.length cq, qul, .slice Al lil.length cl, lil, .slice Ao obl.length co, obl, .slice Ab bil.length cb, bil, .slice Au usl.length cu, usl⟩ : Du).txt := ⟨_, rfl⟩
  have HT0 : Hid (T0 = tellS [111, 107] [.i64 ver]) := hT0
  have HT1 : Hid (T1 = T0 ++ ndl.flatMap nodeTxt) := by show _ = _; rw [hT1, hT0]; rfl
  have HT2x : Hid (T2 = T1 ++ qul.flatMap Qu.txt) := by show _ = _; rw [hT2, hT1]; rfl
  have HT3 : Hid (T3 = T2 ++ lil.flatMap Li.txt) := by show _ = _; rw [hT3, hT2]; rfl
  have HT4 : Hid (T4 = T3 ++ obsS obl) := by show _ = _; rw [hT4, hT3]; rfl
  have HT5 : Hid (T5 = T4 ++ bil.flatMap Bi.txt) := by show _ = _; rw [hT5, hT4]; rfl
  have HT6 : Hid (T6 = T5 ++ usl.flatMap Us.txt) := by show _ = _; rw [hT6, hT5]; rfl
  have Hfin : Hid ((⟨ver, .slice An ndl.length cn, ndl, .slice Aq qul.length cq, qul, .slice Al lil.length cl, lil, .slice Ao obl.length co, obl, .slice Ab bil.length cb, bil, .slice Au usl.length cu, usl⟩ : Du).txt = T6) := hT6.symm
  have hl6 : T6.length ≤ 1099511627776 := by rw [hT6]; exact hlen
  rw [← hT0, ← hT1, ← hT2, ← hT3, ← hT4, ← hT5, ← hT6] at hle
  have HL0 : Hid (T0.length ≤ 1099511627776) := by show _ ≤ _; omega
  have HL1 : Hid ((T0 ++ ndl.flatMap nodeTxt).length ≤ 1099511627776) := by show _ ≤ _; rw [← HT1.out]; omega
  have HL2 : Hid ((T1 ++ qul.flatMap Qu.txt).length ≤ 1099511627776) := by show _ ≤ _; rw [← HT2x.out]; omega
  have HL3 : Hid ((T2 ++ lil.flatMap Li.txt).length ≤ 1099511627776) := by show _ ≤ _; rw [← HT3.out]; omega
  have HL4 : Hid ((T3 ++ obsS obl).length ≤ 1099511627776) := by show _ ≤ _; rw [← HT4.out]; omega
  have HL5 : Hid ((T4 ++ bil.flatMap Bi.txt).length ≤ 1099511627776) := by show _ ≤ _; rw [← HT5.out]; omega
  have HL6 : Hid ((T5 ++ usl.flatMap Us.txt).length ≤ 1099511627776) := by show _ ≤ _; rw [← HT6.out]; omega
  have Hok : Hid (∀ p ∈ ([.i64 ver] : List Pt), p.ok) := by
    intro p hp
    rw [List.mem_singleton.1 hp]
    exact Hr.out.ver
  have hold : Hid (Below w.heap.size w (((w.alloc (.cells #[.int .i64 ver, .slice An ndl.length cn, .slice Aq qul.length cq, .slice Al lil.length cl, .slice Ao obl.length co, .slice Ab bil.length cb, .slice Au usl.length cu] 40)).alloc bldBox).alloc (.cells (([.i64 ver] : List Pt).map Pt.val).toArray 20))) := gb_old.alloc (by simp; omega) _
  have Hst := Lib.hid (GB.start w (.cells #[.int .i64 ver, .slice An ndl.length cn, .slice Aq qul.length cq, .slice Al lil.length cl, .slice Ao obl.length co, .slice Ab bil.length cb, .slice Au usl.length cu] 40))
  clear hr htab hU hSc hVb hle hT0 hT1 hT2 hT3 hT4 hT5 hT6 hl6 hlen
  go_enter Tryd.func8, Tryd.ntmps8
  go_wp2_with fail
  refine (tell_calls ⟨#[111, 107]⟩ [.i64 ver] _ _ (rdP_new ((w.alloc (.cells #[.int .i64 ver, .slice An ndl.length cn, .slice Aq qul.length cq, .slice Al lil.length cl, .slice Ao obl.length co, .slice Ab bil.length cb, .slice Au usl.length cu] 40)).alloc bldBox) 20 [.i64 ver] (w.heap.size + 1 + 1) (by simp) (by simp)) Hok.out (by have h := HL0.out; rw [HT0.out] at h; exact Nat.le_trans h (by omega)) (by simp) (Htab.out.below hold.out)).mono ?_
  rintro e w3 ⟨rfl, hw3⟩
  have H3 : Hid (GB w (.cells #[.int .i64 ver, .slice An ndl.length cn, .slice Aq qul.length cq, .slice Al lil.length cl, .slice Ao obl.length co, .slice Ab bil.length cb, .slice Au usl.length cu] 40) w3 (.slice none 0 0) []) := (Hst.out.alloc (.cells (([.i64 ver] : List Pt).map Pt.val).toArray 20)).below hw3
  rw [show tellS (ByteArray.mk #[111, 107]).data.toList [.i64 ver] = T0 from HT0.out.symm]
  clear hw3 hold Hst
  go_wp2_with fail
  refine (writeString_calls (w.heap.size + 1) _ [] ⟨T0.toArray⟩ _ H3.out.is (by rw [ba_size]; have := HL0.out; simp; omega)).mono ?_
  rintro e w4 ⟨⟨_, rfl⟩, s4, h4⟩
  have H4 : Hid (GB w (.cells #[.int .i64 ver, .slice An ndl.length cn, .slice Aq qul.length cq, .slice Al lil.length cl, .slice Ao obl.length co, .slice Ab bil.length cb, .slice Au usl.length cu] 40) w4 s4 T0) := by have := H3.out.trans h4; simp only [List.nil_append, List.toList_toArray] at this; exact this
  clear h4 H3
  have k1_w4 : w4.cell? ⟨w.heap.size, 1, none⟩ = some (.slice An ndl.length cn) := by rw [Lib.cell_of_heap H4.out.box]; rfl
  have hn1 : ndl.length ≤ 1099511627776 := count_le nodeTxt nd_pos HL1.out
  have Hst : Hid (GLoop nodeTxt w (.cells #[.int .i64 ver, .slice An ndl.length cn, .slice Aq qul.length cq, .slice Al lil.length cl, .slice Ao obl.length co, .slice Ab bil.length cb, .slice Au usl.length cu] 40) T0 ndl (.int .i64 0) w4) := ⟨0, _, Nat.zero_le _, rfl, by simpa using H4.out⟩
  go_wp2
  go_loopw [25] (fun v w1 => GLoop nodeTxt w (.cells #[.int .i64 ver, .slice An ndl.length cn, .slice Aq qul.length cq, .slice Al lil.length cl, .slice Ao obl.length co, .slice Ab bil.length cb, .slice Au usl.length cu] 40) T0 ndl v w1) (fun i _ => ndl.length - (intOf i).toNat)
  case atStart => exact Hst.out
  case round =>
    clear Hst k1_w4 H4
    obtain ⟨i, s6, hi, rfl, hO⟩ := hrel
    have HO := Lib.hid hO
    by_cases hlt : i < ndl.length
    · have hd := dT hlt
      obtain ⟨b, off, c', hv, hc', hb, hc0⟩ := nm_at (Hr.out.nd.below hO.base) i hlt
      cases hv
      have HT : Hid ((ndl.take (i + 1)).flatMap nodeTxt = (ndl.take i).flatMap nodeTxt ++ nodeTxt ndl[i]) := take_snoc nodeTxt hlt
      have hsz := part_len nodeTxt HL1.out hlt
      generalize ndl[i] = x at hc0 HT hsz 
      have Hsz := Lib.hid hsz
      have hi0 : (0 : Int) ≤ i := by omega
      clear hO hsz
      have Hp : Hid (∀ p ∈ ([.str x] : List Pt), p.ok) := by intro p hp; rw [List.mem_singleton.1 hp]; exact True.intro
      go_wp2_with fail
      refine (tell_calls ⟨#[110, 111, 100, 101]⟩ [.str x] _ _ (rdP_new wr 20 [.str x] wr.heap.size rfl (by simp)) Hp.out (by have h := Hsz.out; exact Nat.le_trans (Nat.le_of_add_left_le h) (by omega)) (by simp) (Htab.out.below (HO.out.alloc _).base)).mono ?_
      rintro e w7 ⟨rfl, h7⟩
      rw [show tellS (ByteArray.mk #[110, 111, 100, 101]).data.toList [.str x] = nodeTxt x from rfl]
      have H7 := Lib.hid ((HO.out.alloc (.cells (([.str x] : List Pt).map Pt.val).toArray 20)).below h7)
      clear h7
      go_wp2_with fail
      refine (writeString_calls (w.heap.size + 1) s6 _ _ _ H7.out.is (by rw [ba_size]; have := Hsz.out; omega)).mono ?_
      rintro e w8 ⟨⟨_, rfl⟩, s8, h8⟩
      have H8 := Lib.hid (H7.out.trans h8)
      clear h8
      have Hn : Hid (GLoop nodeTxt w (.cells #[.int .i64 ver, .slice (some ⟨b, off, none⟩) ndl.length cn, .slice Aq qul.length cq, .slice Al lil.length cl, .slice Ao obl.length co, .slice Ab bil.length cb, .slice Au usl.length cu] 40) T0 ndl (.int .i64 ((i : Int) + 1)) w8) := by
        refine ⟨i + 1, s8, hlt, rfl, ?_⟩
        rw [HT.out, ← List.append_assoc]
        exact H8.out
      go_wp2
      go_roundw
      case rel => exact Hn.out
      case measure => simp [intOf]; omega
    · obtain rfl : i = ndl.length := by omega
      have hd := dF hlt
      rw [List.take_length] at HO
      have HX : Hid (GB w (.cells #[.int .i64 ver, .slice An ndl.length cn, .slice Aq qul.length cq, .slice Al lil.length cl, .slice Ao obl.length co, .slice Ab bil.length cb, .slice Au usl.length cu] 40) wr s6 T1) := by rw [HT1.out]; exact HO.out
      clear HO hlt hO
      have k2_wr : wr.cell? ⟨w.heap.size, 2, none⟩ = some (.slice Aq qul.length cq) := by rw [Lib.cell_of_heap HX.out.box]; rfl
      have hn2 : qul.length ≤ 1099511627776 := count_le Qu.txt qu_pos HL2.out
      have Hst : Hid (GLoop Qu.txt w (.cells #[.int .i64 ver, .slice An ndl.length cn, .slice Aq qul.length cq, .slice Al lil.length cl, .slice Ao obl.length co, .slice Ab bil.length cb, .slice Au usl.length cu] 40) T1 qul (.int .i64 0) wr) := ⟨0, _, Nat.zero_le _, rfl, by simpa using HX.out⟩
      go_wp2
      go_loopw [38] (fun v w1 => GLoop Qu.txt w (.cells #[.int .i64 ver, .slice An ndl.length cn, .slice Aq qul.length cq, .slice Al lil.length cl, .slice Ao obl.length co, .slice Ab bil.length cb, .slice Au usl.length cu] 40) T1 qul v w1) (fun i _ => qul.length - (intOf i).toNat)
      case atStart => exact Hst.out
      case round =>
        clear Hst k2_wr HX
        obtain ⟨i, s6, hi, rfl, hO⟩ := hrel
        have HO := Lib.hid hO
        by_cases hlt : i < qul.length
        · have hd := dT hlt
          obtain ⟨b, off, c', hv, hc', hb, hc0, hc1, hc2, hc3, hc4⟩ := Qu.at (Hr.out.qu.below hO.base) i hlt
          cases hv
          have HT : Hid ((qul.take (i + 1)).flatMap Qu.txt = (qul.take i).flatMap Qu.txt ++ Qu.txt qul[i]) := take_snoc Qu.txt hlt
          have hsz := part_len Qu.txt HL2.out hlt
          have hz := Hr.out.qu.2 _ (List.getElem_mem hlt)
          generalize qul[i] = x at hc0 hc1 hc2 hc3 hc4 HT hsz hz
          have Hsz := Lib.hid hsz
          have hi0 : (0 : Int) ≤ i := by omega
          clear hO hsz
          obtain ⟨Ah, ch, hhv⟩ := hz.2.2.1.slice
          have Hhv := Lib.hid hhv
          rw [hhv] at hc4
          have Hz := Lib.hid hz
          clear hz hhv
          have Hxl : Hid (x.txt.length = 6 + (orS x.path.data.toList).length + 1 + (orS x.name.data.toList).length + 1 + (scopeS x.kind x.arg).length + (amsS x.hl).length + 1) := by
            show _ = _
            simp only [Qu.txt, List.length_append, List.length_cons, List.length_nil]; omega
          have Hhs : Hid (6 + (orS x.path.data.toList).length + 1 + (orS x.name.data.toList).length + 1 + (scopeS x.kind x.arg).length + (amsS x.hl).length + 1 ≤ 1099511627776) := by show _ ≤ _; have := Hsz.out; rw [Hxl.out] at this; omega
          have HC : Hid (∀ W, Below (wr.alloc (.cells #[.string x.path, .string x.name, .int .i64 x.kind, .int .i64 x.arg, .slice Ah x.hl.length ch] 68)).heap.size (wr.alloc (.cells #[.string x.path, .string x.name, .int .i64 x.kind, .int .i64 x.arg, .slice Ah x.hl.length ch] 68)) W → W.cell? ⟨wr.heap.size, 0, none⟩ = some (.string x.path) ∧ W.cell? ⟨wr.heap.size, 1, none⟩ = some (.string x.name) ∧ W.cell? ⟨wr.heap.size, 2, none⟩ = some (.int .i64 x.kind) ∧ W.cell? ⟨wr.heap.size, 3, none⟩ = some (.int .i64 x.arg) ∧ W.cell? ⟨wr.heap.size, 4, none⟩ = some (.slice Ah x.hl.length ch)) := by
            intro W hW
            have hb := blk_below (blk_new wr (.cells #[.string x.path, .string x.name, .int .i64 x.kind, .int .i64 x.arg, .slice Ah x.hl.length ch] 68)) hW
            exact ⟨by rw [Lib.cell_of_heap hb]; rfl, by rw [Lib.cell_of_heap hb]; rfl, by rw [Lib.cell_of_heap hb]; rfl, by rw [Lib.cell_of_heap hb]; rfl, by rw [Lib.cell_of_heap hb]; rfl⟩
          have HB1 : Hid (Below (wr.alloc (.cells #[.string x.path, .string x.name, .int .i64 x.kind, .int .i64 x.arg, .slice Ah x.hl.length ch] 68)).heap.size (wr.alloc (.cells #[.string x.path, .string x.name, .int .i64 x.kind, .int .i64 x.arg, .slice Ah x.hl.length ch] 68)) (wr.alloc (.cells #[.string x.path, .string x.name, .int .i64 x.kind, .int .i64 x.arg, .slice Ah x.hl.length ch] 68)).drew) := drewB (Below.refl _ _) 1
          have HG := Lib.hid (fun (W : World) (h : Below (wr.alloc (.cells #[.string x.path, .string x.name, .int .i64 x.kind, .int .i64 x.arg, .slice Ah x.hl.length ch] 68)).heap.size (wr.alloc (.cells #[.string x.path, .string x.name, .int .i64 x.kind, .int .i64 x.arg, .slice Ah x.hl.length ch] 68)) W) => (HO.out.alloc (.cells #[.string x.path, .string x.name, .int .i64 x.kind, .int .i64 x.arg, .slice Ah x.hl.length ch] 68)).below h)
          have HW : Hid (∀ W, Below (wr.alloc (.cells #[.string x.path, .string x.name, .int .i64 x.kind, .int .i64 x.arg, .slice Ah x.hl.length ch] 68)).heap.size (wr.alloc (.cells #[.string x.path, .string x.name, .int .i64 x.kind, .int .i64 x.arg, .slice Ah x.hl.length ch] 68)) W → Uni W ∧ PowTab W ∧ Scs W ∧ Vbs W) := fun W h => ⟨HU.out.below (HG.out W h).base, Htab.out.below (HG.out W h).base, StrTab.below HSc.out (HG.out W h).base, StrTab.below HVb.out (HG.out W h).base⟩
          have HT2 : Hid (∀ W W', Below (wr.alloc (.cells #[.string x.path, .string x.name, .int .i64 x.kind, .int .i64 x.arg, .slice Ah x.hl.length ch] 68)).heap.size (wr.alloc (.cells #[.string x.path, .string x.name, .int .i64 x.kind, .int .i64 x.arg, .slice Ah x.hl.length ch] 68)) W → Below W.heap.size W W' → Below (wr.alloc (.cells #[.string x.path, .string x.name, .int .i64 x.kind, .int .i64 x.arg, .slice Ah x.hl.length ch] 68)).heap.size (wr.alloc (.cells #[.string x.path, .string x.name, .int .i64 x.kind, .int .i64 x.arg, .slice Ah x.hl.length ch] 68)) W') := fun W W' h1 h2 => h1.trans (h2.mono h1.size)
          have HAl : Hid (∀ W c, Below (wr.alloc (.cells #[.string x.path, .string x.name, .int .i64 x.kind, .int .i64 x.arg, .slice Ah x.hl.length ch] 68)).heap.size (wr.alloc (.cells #[.string x.path, .string x.name, .int .i64 x.kind, .int .i64 x.arg, .slice Ah x.hl.length ch] 68)) W → Below (wr.alloc (.cells #[.string x.path, .string x.name, .int .i64 x.kind, .int .i64 x.arg, .slice Ah x.hl.length ch] 68)).heap.size (wr.alloc (.cells #[.string x.path, .string x.name, .int .i64 x.kind, .int .i64 x.arg, .slice Ah x.hl.length ch] 68)) (W.alloc (.cells c 20))) := fun W c h => h.alloc h.size _
          have HF : Hid (∀ W W' s' b', Below (wr.alloc (.cells #[.string x.path, .string x.name, .int .i64 x.kind, .int .i64 x.arg, .slice Ah x.hl.length ch] 68)).heap.size (wr.alloc (.cells #[.string x.path, .string x.name, .int .i64 x.kind, .int .i64 x.arg, .slice Ah x.hl.length ch] 68)) W → BOut W (w.heap.size + 1) s6 W' s' b' → W'.cell? ⟨wr.heap.size, 0, none⟩ = some (.string x.path) ∧ W'.cell? ⟨wr.heap.size, 1, none⟩ = some (.string x.name) ∧ W'.cell? ⟨wr.heap.size, 2, none⟩ = some (.int .i64 x.kind) ∧ W'.cell? ⟨wr.heap.size, 3, none⟩ = some (.int .i64 x.arg) ∧ W'.cell? ⟨wr.heap.size, 4, none⟩ = some (.slice Ah x.hl.length ch)) := by
            intro W W' s' b' hW h'
            obtain ⟨q0, q1, q2, q3, q4⟩ := HC.out W hW
            have hlt := BS_lt HO.out.is
            exact ⟨h'.step.fr.cell q0 (fun hk => by have := hlt _ hk; simp at this), h'.step.fr.cell q1 (fun hk => by have := hlt _ hk; simp at this), h'.step.fr.cell q2 (fun hk => by have := hlt _ hk; simp at this), h'.step.fr.cell q3 (fun hk => by have := hlt _ hk; simp at this), h'.step.fr.cell q4 (fun hk => by have := hlt _ hk; simp at this)⟩
          go_wp2
          go_region_held3 (fun W => W.cell? ⟨wr.heap.size, 0, none⟩ = some (.string x.path) ∧ W.cell? ⟨wr.heap.size, 1, none⟩ = some (.string x.name) ∧ W.cell? ⟨wr.heap.size, 2, none⟩ = some (.int .i64 x.kind) ∧ W.cell? ⟨wr.heap.size, 3, none⟩ = some (.int .i64 x.arg) ∧ W.cell? ⟨wr.heap.size, 4, none⟩ = some (.slice Ah x.hl.length ch))
            (first | exact HC.out _ HB1.out | exact HC.out _ HWc.out | exact H5c.out)
            (first
              | ((go_at_call 25); ((with_reducible refine (bor_calls x.path _).mono ?_)); (rintro e wa ⟨⟨_, rfl, ta, rfl, hta⟩, rfl⟩); (have Hta := Lib.hid hta); (have Hsa : Hid (ta.size = (orS x.path.data.toList).length) := (by show _ = _; rw [size_toList, hta])); (have za : ¬ 9223372036854775807 < 6 + ta.size := (by have := Hhs.out; have := Hsa.out; omega)); (have za2 : ¬ 9223372036854775807 < 6 + ta.size + 1 := (by have := Hhs.out; have := Hsa.out; omega)); (clear hta))
              | ((go_at_call 25); ((with_reducible refine (bor_calls x.name _).mono ?_)); (rintro e wb ⟨⟨_, rfl, tb, rfl, htb⟩, rfl⟩); (have Htb := Lib.hid htb); (have Hsb : Hid (tb.size = (orS x.name.data.toList).length) := (by show _ = _; rw [size_toList, htb])); (have zb : ¬ 9223372036854775807 < 6 + ta.size + 1 + tb.size := (by have := Hhs.out; have := Hsa.out; have := Hsb.out; omega)); (have zb2 : ¬ 9223372036854775807 < 6 + ta.size + 1 + tb.size + 1 := (by have := Hhs.out; have := Hsa.out; have := Hsb.out; omega)); (clear htb))
              | ((go_at_call 26); ((with_reducible refine (bscoped_calls x.kind x.arg _ (HW.out _ HB1.out).2.2.1).mono ?_)); (rintro e wc ⟨_, rfl, ⟨tc, rfl, htc⟩, hwc⟩); (have HWc := Lib.hid (HT2.out _ _ HB1.out hwc)); (have Htc := Lib.hid htc); (have Hsc : Hid (tc.size = (scopeS x.kind x.arg).length) := (by show _ = _; rw [size_toList, htc])); (have zc : ¬ 9223372036854775807 < 6 + ta.size + 1 + tb.size + 1 + tc.size := (by have := Hhs.out; have := Hsa.out; have := Hsb.out; have := Hsc.out; omega)); (clear htc hwc))
              | ((go_at_call 16); (refine (writeString_calls (w.heap.size + 1) s6 _ _ _ (HG.out _ HWc.out).is ?hq).mono ?_); (case hq => have h1 := Hhs.out; have h2 := Hsz.out; have h3 := Hsa.out; have h4 := Hsb.out; have h5 := Hsc.out; have h6 := Hxl.out; have e1 : (ByteArray.mk #[113, 117, 111, 116, 97, 32]).size = 6 := rfl; have e2 : (ByteArray.mk #[32]).size = 1 := rfl; simp only [ByteArray.size_append]; omega); (rintro e w5 ⟨⟨_, rfl⟩, s5, h5⟩); (have H5c := Lib.hid (HF.out _ _ _ _ HWc.out h5)); (have H5 := Lib.hid ((HG.out _ HWc.out).trans h5)); (clear h5)))
          have Hq4 : Hid (w5.cell? ⟨wr.heap.size, 4, none⟩ = some (.slice Ah x.hl.length ch)) := H5c.out.2.2.2.2
          have kq4 := Hq4.out
          clear HC HB1 HG HW HT2 HAl HF
          clear H5c
          go_wp2_with fail
          refine (amounts_calls w _ (w.heap.size + 1) s5 _ _ x.hl H5.out.base H5.out.is H5.out.S0 (by rw [← Hhv.out]; exact Hz.out.2.2) ?_ HU.out Htab.out).mono ?_
          · have h1 := Hhs.out; have h2 := Hsz.out; have h3 := Hsa.out; have h4 := Hsb.out; have h5 := Hsc.out; have h6 := Hxl.out
            have e1 : (ByteArray.mk #[113, 117, 111, 116, 97, 32]).size = 6 := rfl
            have e2 : (ByteArray.mk #[32]).size = 1 := rfl
            simp only [List.length_append, ← size_toList, ByteArray.size_append] at h2 ⊢; omega
          rintro e w6 ⟨rfl, s7, h6⟩
          have H6 := Lib.hid (H5.out.trans h6)
          clear h6
          go_wp2_with fail
          refine (writeByte_calls (w.heap.size + 1) s7 _ 10 _ H6.out.is ?_).mono ?_
          · have h1 := Hhs.out; have h2 := Hsz.out; have h3 := Hsa.out; have h4 := Hsb.out; have h5 := Hsc.out; have h6 := Hxl.out
            have e1 : (ByteArray.mk #[113, 117, 111, 116, 97, 32]).size = 6 := rfl
            have e2 : (ByteArray.mk #[32]).size = 1 := rfl
            simp only [List.length_append, ← size_toList, ByteArray.size_append] at h2 ⊢; omega
          rintro e w8 ⟨rfl, s8, h8⟩
          have h9 := H6.out.trans h8
          have H8 : Hid (GB w (.cells #[.int .i64 ver, .slice An ndl.length cn, .slice (some ⟨b, off, none⟩) qul.length cq, .slice Al lil.length cl, .slice Ao obl.length co, .slice Ab bil.length cb, .slice Au usl.length cu] 40) w8 s8 (T1 ++ (qul.take i).flatMap Qu.txt ++ x.txt)) := by
            rw [Qu.txt]
            simp [Hta.out, Htb.out, Htc.out] at h9 ⊢
            exact h9
          clear h8 h9
          have Hn : Hid (GLoop Qu.txt w (.cells #[.int .i64 ver, .slice An ndl.length cn, .slice (some ⟨b, off, none⟩) qul.length cq, .slice Al lil.length cl, .slice Ao obl.length co, .slice Ab bil.length cb, .slice Au usl.length cu] 40) T1 qul (.int .i64 ((i : Int) + 1)) w8) := by
            refine ⟨i + 1, s8, hlt, rfl, ?_⟩
            rw [HT.out, ← List.append_assoc]
            exact H8.out
          go_wp2
          go_roundw
          case rel => exact Hn.out
          case measure => simp [intOf]; omega
        · obtain rfl : i = qul.length := by omega
          have hd := dF hlt
          rw [List.take_length] at HO
          have HX : Hid (GB w (.cells #[.int .i64 ver, .slice An ndl.length cn, .slice Aq qul.length cq, .slice Al lil.length cl, .slice Ao obl.length co, .slice Ab bil.length cb, .slice Au usl.length cu] 40) wr s6 T2) := by rw [HT2x.out]; exact HO.out
          clear HO hlt hO
          have k3_wr : wr.cell? ⟨w.heap.size, 3, none⟩ = some (.slice Al lil.length cl) := by rw [Lib.cell_of_heap HX.out.box]; rfl
          have hn3 : lil.length ≤ 1099511627776 := count_le Li.txt li_pos HL3.out
          have Hst : Hid (GLoop Li.txt w (.cells #[.int .i64 ver, .slice An ndl.length cn, .slice Aq qul.length cq, .slice Al lil.length cl, .slice Ao obl.length co, .slice Ab bil.length cb, .slice Au usl.length cu] 40) T2 lil (.int .i64 0) wr) := ⟨0, _, Nat.zero_le _, rfl, by simpa using HX.out⟩
          go_wp2
          go_loopw [65] (fun v w1 => GLoop Li.txt w (.cells #[.int .i64 ver, .slice An ndl.length cn, .slice Aq qul.length cq, .slice Al lil.length cl, .slice Ao obl.length co, .slice Ab bil.length cb, .slice Au usl.length cu] 40) T2 lil v w1) (fun i _ => lil.length - (intOf i).toNat)
          case atStart => exact Hst.out
          case round =>
            clear Hst k3_wr HX
            obtain ⟨i, s6, hi, rfl, hO⟩ := hrel
            have HO := Lib.hid hO
            by_cases hlt : i < lil.length
            · have hd := dT hlt
              obtain ⟨b, off, c', hv, hc', hb, hc0, hc1, hc2⟩ := Li.at (Hr.out.li.below hO.base) i hlt
              cases hv
              have HT : Hid ((lil.take (i + 1)).flatMap Li.txt = (lil.take i).flatMap Li.txt ++ Li.txt lil[i]) := take_snoc Li.txt hlt
              have hsz := part_len Li.txt HL3.out hlt
              have hz := Hr.out.li.2 _ (List.getElem_mem hlt)
              generalize lil[i] = x at hc0 hc1 hc2 HT hsz hz
              have Hsz := Lib.hid hsz
              have hi0 : (0 : Int) ≤ i := by omega
              clear hO hsz
              obtain ⟨Ah, ch, hhv⟩ := hz.1.slice
              have Hhv := Lib.hid hhv
              rw [hhv] at hc2
              have Hz := Lib.hid hz
              clear hz hhv
              have Hxl : Hid (x.head.length = 6 + (orS x.path.data.toList).length + 1 + (orS x.name.data.toList).length) := by
                show _ = _
                simp only [Li.head, List.length_append, List.length_cons, List.length_nil]; omega
              have Hxt : Hid (x.txt.length = x.head.length + (rusS x.rl).length + 1) := by
                show _ = _
                simp only [Li.txt, List.length_append, List.length_cons, List.length_nil]; omega
              have Hhs : Hid (6 + (orS x.path.data.toList).length + 1 + (orS x.name.data.toList).length ≤ 1099511627776) := by show _ ≤ _; have := Hsz.out; rw [Hxt.out, Hxl.out] at this; omega
              have hrn : x.rl.length ≤ 1099511627776 := by
                have h1 := flat_count Ru.txt ru_pos x.rl
                have h2 := Hsz.out
                rw [Hxt.out, show rusS x.rl = x.rl.flatMap Ru.txt from rfl] at h2; omega
              have HC : Hid (∀ W, Below (wr.alloc (.cells #[.string x.path, .string x.name, .slice Ah x.rl.length ch] 73)).heap.size (wr.alloc (.cells #[.string x.path, .string x.name, .slice Ah x.rl.length ch] 73)) W → W.cell? ⟨wr.heap.size, 0, none⟩ = some (.string x.path) ∧ W.cell? ⟨wr.heap.size, 1, none⟩ = some (.string x.name) ∧ W.cell? ⟨wr.heap.size, 2, none⟩ = some (.slice Ah x.rl.length ch)) := by
                intro W hW
                have hb := blk_below (blk_new wr (.cells #[.string x.path, .string x.name, .slice Ah x.rl.length ch] 73)) hW
                exact ⟨by rw [Lib.cell_of_heap hb]; rfl, by rw [Lib.cell_of_heap hb]; rfl, by rw [Lib.cell_of_heap hb]; rfl⟩
              have HB1 : Hid (Below (wr.alloc (.cells #[.string x.path, .string x.name, .slice Ah x.rl.length ch] 73)).heap.size (wr.alloc (.cells #[.string x.path, .string x.name, .slice Ah x.rl.length ch] 73)) (wr.alloc (.cells #[.string x.path, .string x.name, .slice Ah x.rl.length ch] 73)).drew) := drewB (Below.refl _ _) 1
              have HG := Lib.hid (fun (W : World) (h : Below (wr.alloc (.cells #[.string x.path, .string x.name, .slice Ah x.rl.length ch] 73)).heap.size (wr.alloc (.cells #[.string x.path, .string x.name, .slice Ah x.rl.length ch] 73)) W) => (HO.out.alloc (.cells #[.string x.path, .string x.name, .slice Ah x.rl.length ch] 73)).below h)
              have HW : Hid (∀ W, Below (wr.alloc (.cells #[.string x.path, .string x.name, .slice Ah x.rl.length ch] 73)).heap.size (wr.alloc (.cells #[.string x.path, .string x.name, .slice Ah x.rl.length ch] 73)) W → Uni W ∧ PowTab W ∧ Scs W ∧ Vbs W) := fun W h => ⟨HU.out.below (HG.out W h).base, Htab.out.below (HG.out W h).base, StrTab.below HSc.out (HG.out W h).base, StrTab.below HVb.out (HG.out W h).base⟩
              have HT2 : Hid (∀ W W', Below (wr.alloc (.cells #[.string x.path, .string x.name, .slice Ah x.rl.length ch] 73)).heap.size (wr.alloc (.cells #[.string x.path, .string x.name, .slice Ah x.rl.length ch] 73)) W → Below W.heap.size W W' → Below (wr.alloc (.cells #[.string x.path, .string x.name, .slice Ah x.rl.length ch] 73)).heap.size (wr.alloc (.cells #[.string x.path, .string x.name, .slice Ah x.rl.length ch] 73)) W') := fun W W' h1 h2 => h1.trans (h2.mono h1.size)
              have HAl : Hid (∀ W c, Below (wr.alloc (.cells #[.string x.path, .string x.name, .slice Ah x.rl.length ch] 73)).heap.size (wr.alloc (.cells #[.string x.path, .string x.name, .slice Ah x.rl.length ch] 73)) W → Below (wr.alloc (.cells #[.string x.path, .string x.name, .slice Ah x.rl.length ch] 73)).heap.size (wr.alloc (.cells #[.string x.path, .string x.name, .slice Ah x.rl.length ch] 73)) (W.alloc (.cells c 20))) := fun W c h => h.alloc h.size _
              have HF : Hid (∀ W W' s' b', Below (wr.alloc (.cells #[.string x.path, .string x.name, .slice Ah x.rl.length ch] 73)).heap.size (wr.alloc (.cells #[.string x.path, .string x.name, .slice Ah x.rl.length ch] 73)) W → BOut W (w.heap.size + 1) s6 W' s' b' → W'.cell? ⟨wr.heap.size, 0, none⟩ = some (.string x.path) ∧ W'.cell? ⟨wr.heap.size, 1, none⟩ = some (.string x.name) ∧ W'.cell? ⟨wr.heap.size, 2, none⟩ = some (.slice Ah x.rl.length ch)) := by
                intro W W' s' b' hW h'
                obtain ⟨q0, q1, q2⟩ := HC.out W hW
                have hlt := BS_lt HO.out.is
                exact ⟨h'.step.fr.cell q0 (fun hk => by have := hlt _ hk; simp at this), h'.step.fr.cell q1 (fun hk => by have := hlt _ hk; simp at this), h'.step.fr.cell q2 (fun hk => by have := hlt _ hk; simp at this)⟩
              go_wp2
              go_region_held3 (fun W => W.cell? ⟨wr.heap.size, 0, none⟩ = some (.string x.path) ∧ W.cell? ⟨wr.heap.size, 1, none⟩ = some (.string x.name) ∧ W.cell? ⟨wr.heap.size, 2, none⟩ = some (.slice Ah x.rl.length ch))
                (first | exact HC.out _ HB1.out | exact H5c.out)
                (first
                  | ((go_at_call 25); ((with_reducible refine (bor_calls x.path _).mono ?_)); (rintro e wa ⟨⟨_, rfl, ta, rfl, hta⟩, rfl⟩); (have Hta := Lib.hid hta); (have Hsa : Hid (ta.size = (orS x.path.data.toList).length) := (by show _ = _; rw [size_toList, hta])); (have za : ¬ 9223372036854775807 < 6 + ta.size := (by have := Hhs.out; have := Hsa.out; omega)); (have za2 : ¬ 9223372036854775807 < 6 + ta.size + 1 := (by have := Hhs.out; have := Hsa.out; omega)); (clear hta))
                  | ((go_at_call 25); ((with_reducible refine (bor_calls x.name _).mono ?_)); (rintro e wb ⟨⟨_, rfl, tb, rfl, htb⟩, rfl⟩); (have Htb := Lib.hid htb); (have Hsb : Hid (tb.size = (orS x.name.data.toList).length) := (by show _ = _; rw [size_toList, htb])); (have zb : ¬ 9223372036854775807 < 6 + ta.size + 1 + tb.size := (by have := Hhs.out; have := Hsa.out; have := Hsb.out; omega)); (clear htb))
                  | ((go_at_call 16); (refine (writeString_calls (w.heap.size + 1) s6 _ _ _ (HG.out _ HB1.out).is ?hq).mono ?_); (case hq => have h1 := Hhs.out; have h2 := Hsz.out; have h3 := Hsa.out; have h4 := Hsb.out; have h6 := Hxl.out; have h7 := Hxt.out; have e1 : (ByteArray.mk #[108, 105, 109, 105, 116, 32]).size = 6 := rfl; have e2 : (ByteArray.mk #[32]).size = 1 := rfl; simp only [ByteArray.size_append]; omega); (rintro e w5 ⟨⟨_, rfl⟩, s5, h5⟩); (have H5c := Lib.hid (HF.out _ _ _ _ HB1.out h5)); (have H5 := Lib.hid ((HG.out _ HB1.out).trans h5)); (clear h5)))
              have kq2 : w5.cell? ⟨wr.heap.size, 2, none⟩ = some (.slice Ah x.rl.length ch) := H5c.out.2.2
              have Hs2 : Hid (GLoop Ru.txt w (.cells #[.int .i64 ver, .slice An ndl.length cn, .slice Aq qul.length cq, .slice (some ⟨b, off, none⟩) lil.length cl, .slice Ao obl.length co, .slice Ab bil.length cb, .slice Au usl.length cu] 40) (T2 ++ (lil.take i).flatMap Li.txt ++ x.head) x.rl (.int .i64 0) w5) := by
                refine ⟨0, s5, Nat.zero_le _, rfl, ?_⟩
                have h9 := H5.out
                rw [Li.head]
                simp [Hta.out, Htb.out] at h9 ⊢
                exact h9
              clear HC HB1 HG HW HT2 HAl HF
              clear H5c HO
              go_wp2
              go_loopw [82] (fun v w1 => GLoop Ru.txt w (.cells #[.int .i64 ver, .slice An ndl.length cn, .slice Aq qul.length cq, .slice (some ⟨b, off, none⟩) lil.length cl, .slice Ao obl.length co, .slice Ab bil.length cb, .slice Au usl.length cu] 40) (T2 ++ (lil.take i).flatMap Li.txt ++ x.head) x.rl v w1) (fun i _ => x.rl.length - (intOf i).toNat)
              case atStart => exact Hs2.out
              case round =>
                clear Hs2 kq2 H5
                obtain ⟨j, s9, hj, rfl, hO⟩ := hrel
                have HO := Lib.hid hO
                by_cases hlt2 : j < x.rl.length
                · have hd2 := dT hlt2
                  obtain ⟨b2, off2, c2, hv2, hc2', hb2, e0, e1, e2, e3, e4, e5⟩ := Ru.at (RdRu.below (show RdRu w (.slice Ah x.rl.length ch) x.rl from Hhv.out ▸ Hz.out) hO.base) j hlt2
                  cases hv2
                  have hyk := Hz.out.2 _ (List.getElem_mem hlt2)
                  have HTr : Hid ((x.rl.take (j + 1)).flatMap Ru.txt = (x.rl.take j).flatMap Ru.txt ++ Ru.txt x.rl[j]) := take_snoc Ru.txt hlt2
                  have hszr : (T2 ++ (lil.take i).flatMap Li.txt ++ x.head ++ (x.rl.take j).flatMap Ru.txt).length + (Ru.txt x.rl[j]).length ≤ 1099511627776 := by
                    have h1 := take_len_le Ru.txt hlt2
                    have h2 := Hsz.out
                    rw [Hxt.out, show rusS x.rl = x.rl.flatMap Ru.txt from rfl] at h2
                    simp only [List.length_append] at h2 ⊢; omega
                  generalize x.rl[j] = y at e0 e1 e2 e3 e4 e5 hyk HTr hszr
                  have hyr : y.res.size ≤ 1099511627776 := by
                    have h1 : y.res.size ≤ (orS y.res.data.toList).length := by rw [size_toList]; unfold orS; split <;> simp_all
                    have h2 := hszr
                    simp only [Ru.txt, Ru.head, List.length_append] at h2; omega
                  have Hszr := Lib.hid hszr
                  have Hyk := Lib.hid hyk
                  have HA := Lib.hid (HO.out.alloc (.cells #[.string y.res, .int .i64 y.mn, .int .i64 y.mx, .int .i64 y.df, .int .i64 y.rq, .int .i64 y.ra] 76))
                  have hj0 : (0 : Int) ≤ j := by omega
                  clear hO hszr hyk
                  go_wp2_with fail
                  refine (brule_calls y _ Hyk.out hyr (HU.out.below HA.out.base) (Htab.out.below HA.out.base)).mono ?_
                  rintro e w10 ⟨_, rfl, ⟨tr, rfl, htr⟩, h10⟩
                  have H10 := Lib.hid (HA.out.below h10)
                  have Htr := Lib.hid htr
                  have Hstr : Hid (tr.size = y.txt.length) := by show _ = _; rw [size_toList, htr]
                  clear h10 htr
                  go_wp2_with fail
                  refine (writeString_calls (w.heap.size + 1) s9 _ _ _ H10.out.is (by rw [Hstr.out]; have := Hszr.out; omega)).mono ?_
                  rintro e w11 ⟨⟨_, rfl⟩, s11, h11⟩
                  have Hn : Hid (GLoop Ru.txt w (.cells #[.int .i64 ver, .slice An ndl.length cn, .slice Aq qul.length cq, .slice (some ⟨b, off, none⟩) lil.length cl, .slice Ao obl.length co, .slice Ab bil.length cb, .slice Au usl.length cu] 40) (T2 ++ (lil.take i).flatMap Li.txt ++ x.head) x.rl (.int .i64 ((j : Int) + 1)) w11) := by
                    refine ⟨j + 1, s11, hlt2, rfl, ?_⟩
                    rw [HTr.out, ← List.append_assoc, ← Htr.out]
                    exact H10.out.trans h11
                  clear h11
                  go_wp2
                  go_roundw
                  case rel => exact Hn.out
                  case measure => simp [intOf]; omega
                · obtain rfl : j = x.rl.length := by omega
                  have hd2 := dF hlt2
                  rw [List.take_length] at HO
                  clear hlt2 hO
                  go_wp2_with fail
                  refine (writeByte_calls (w.heap.size + 1) s9 _ 10 _ HO.out.is ?_).mono ?_
                  · have h2 := Hsz.out
                    rw [Hxt.out, show rusS x.rl = x.rl.flatMap Ru.txt from rfl] at h2
                    simp only [List.length_append] at h2 ⊢; omega
                  rintro e w8 ⟨rfl, s8, h8⟩
                  have H8 : Hid (GB w (.cells #[.int .i64 ver, .slice An ndl.length cn, .slice Aq qul.length cq, .slice (some ⟨b, off, none⟩) lil.length cl, .slice Ao obl.length co, .slice Ab bil.length cb, .slice Au usl.length cu] 40) w8 s8 (T2 ++ (lil.take i).flatMap Li.txt ++ x.txt)) := by
                    have h9 := HO.out.trans h8
                    rw [Li.txt, show rusS x.rl = x.rl.flatMap Ru.txt from rfl]
                    simp at h9 ⊢
                    exact h9
                  clear h8
                  have Hn : Hid (GLoop Li.txt w (.cells #[.int .i64 ver, .slice An ndl.length cn, .slice Aq qul.length cq, .slice (some ⟨b, off, none⟩) lil.length cl, .slice Ao obl.length co, .slice Ab bil.length cb, .slice Au usl.length cu] 40) T2 lil (.int .i64 ((i : Int) + 1)) w8) := by
                    refine ⟨i + 1, s8, hlt, rfl, ?_⟩
                    rw [HT.out, ← List.append_assoc]
                    exact H8.out
                  go_wp2
                  go_roundw
                  case rel => exact Hn.out
                  case measure => simp [intOf]; omega
            · obtain rfl : i = lil.length := by omega
              have hd := dF hlt
              rw [List.take_length] at HO
              have HX : Hid (GB w (.cells #[.int .i64 ver, .slice An ndl.length cn, .slice Aq qul.length cq, .slice Al lil.length cl, .slice Ao obl.length co, .slice Ab bil.length cb, .slice Au usl.length cu] 40) wr s6 T3) := by rw [HT3.out]; exact HO.out
              clear HO hlt hO
              have k4_wr : wr.cell? ⟨w.heap.size, 4, none⟩ = some (.slice Ao obl.length co) := by rw [Lib.cell_of_heap HX.out.box]; rfl
              go_wp2_with fail
              refine (objects_calls w _ (w.heap.size + 1) s6 T3 _ obl HX.out.base HX.out.is HX.out.S0 Hr.out.ob HL4.out HU.out Htab.out).mono ?_
              rintro e w5 ⟨rfl, s5, h5⟩
              have H5 : Hid (GB w (.cells #[.int .i64 ver, .slice An ndl.length cn, .slice Aq qul.length cq, .slice Al lil.length cl, .slice Ao obl.length co, .slice Ab bil.length cb, .slice Au usl.length cu] 40) w5 s5 T4) := by have h := HX.out.trans h5; rw [HT4.out]; exact h
              clear h5 HX k4_wr
              have k5_w5 : w5.cell? ⟨w.heap.size, 5, none⟩ = some (.slice Ab bil.length cb) := by rw [Lib.cell_of_heap H5.out.box]; rfl
              have hn5 : bil.length ≤ 1099511627776 := count_le Bi.txt bi_pos HL5.out
              have Hst : Hid (GLoop Bi.txt w (.cells #[.int .i64 ver, .slice An ndl.length cn, .slice Aq qul.length cq, .slice Al lil.length cl, .slice Ao obl.length co, .slice Ab bil.length cb, .slice Au usl.length cu] 40) T4 bil (.int .i64 0) w5) := ⟨0, _, Nat.zero_le _, rfl, by simpa using H5.out⟩
              go_wp2
              go_loopw [98] (fun v w1 => GLoop Bi.txt w (.cells #[.int .i64 ver, .slice An ndl.length cn, .slice Aq qul.length cq, .slice Al lil.length cl, .slice Ao obl.length co, .slice Ab bil.length cb, .slice Au usl.length cu] 40) T4 bil v w1) (fun i _ => bil.length - (intOf i).toNat)
              case atStart => exact Hst.out
              case round =>
                clear Hst k5_w5 H5
                obtain ⟨i, s6, hi, rfl, hO⟩ := hrel
                have HO := Lib.hid hO
                by_cases hlt : i < bil.length
                · have hd := dT hlt
                  obtain ⟨b, off, c', hv, hc', hb, hc0, hc1, hc2, hc3⟩ := Bi.at (Hr.out.bi.below hO.base) i hlt
                  cases hv
                  have HT : Hid ((bil.take (i + 1)).flatMap Bi.txt = (bil.take i).flatMap Bi.txt ++ Bi.txt bil[i]) := take_snoc Bi.txt hlt
                  have hsz := part_len Bi.txt HL5.out hlt
                  have hz := Hr.out.bi.2 _ (List.getElem_mem hlt)
                  generalize bil[i] = x at hc0 hc1 hc2 hc3 HT hsz hz
                  have Hsz := Lib.hid hsz
                  have hi0 : (0 : Int) ≤ i := by omega
                  clear hO hsz
                  have Hz := Lib.hid hz
                  clear hz
                  have Hp : Hid (∀ p ∈ x.parts, p.ok) := by
                    intro p hp
                    simp only [Bi.parts, List.mem_cons, List.not_mem_nil, or_false] at hp
                    rcases hp with rfl | rfl | rfl | rfl
                    all_goals exact True.intro
                  have Hpe : Hid (∀ t1 : ByteArray, t1.data.toList = verbS x.verb → x.parts = [.str x.path, .str x.name, .str x.subj, .str t1]) := by
                    intro t1 e1
                    have f1 : wordB (verbS x.verb) = t1 := by unfold wordB; rw [← e1]
                    rw [Bi.parts, f1]
                  have HC : Hid (∀ W, Below (wr.alloc (.cells #[.string x.path, .string x.name, .string x.subj, .int .i64 x.verb] 78)).heap.size (wr.alloc (.cells #[.string x.path, .string x.name, .string x.subj, .int .i64 x.verb] 78)) W → W.cell? ⟨wr.heap.size, 0, none⟩ = some (.string x.path) ∧ W.cell? ⟨wr.heap.size, 1, none⟩ = some (.string x.name) ∧ W.cell? ⟨wr.heap.size, 2, none⟩ = some (.string x.subj) ∧ W.cell? ⟨wr.heap.size, 3, none⟩ = some (.int .i64 x.verb)) := by
                    intro W hW
                    have hb := blk_below (blk_new wr (.cells #[.string x.path, .string x.name, .string x.subj, .int .i64 x.verb] 78)) hW
                    exact ⟨by rw [Lib.cell_of_heap hb]; rfl, by rw [Lib.cell_of_heap hb]; rfl, by rw [Lib.cell_of_heap hb]; rfl, by rw [Lib.cell_of_heap hb]; rfl⟩
                  have HB1 : Hid (Below (wr.alloc (.cells #[.string x.path, .string x.name, .string x.subj, .int .i64 x.verb] 78)).heap.size (wr.alloc (.cells #[.string x.path, .string x.name, .string x.subj, .int .i64 x.verb] 78)) (wr.alloc (.cells #[.string x.path, .string x.name, .string x.subj, .int .i64 x.verb] 78)).drew) := drewB (Below.refl _ _) 1
                  have HG := Lib.hid (fun (W : World) (h : Below (wr.alloc (.cells #[.string x.path, .string x.name, .string x.subj, .int .i64 x.verb] 78)).heap.size (wr.alloc (.cells #[.string x.path, .string x.name, .string x.subj, .int .i64 x.verb] 78)) W) => (HO.out.alloc (.cells #[.string x.path, .string x.name, .string x.subj, .int .i64 x.verb] 78)).below h)
                  have HW : Hid (∀ W, Below (wr.alloc (.cells #[.string x.path, .string x.name, .string x.subj, .int .i64 x.verb] 78)).heap.size (wr.alloc (.cells #[.string x.path, .string x.name, .string x.subj, .int .i64 x.verb] 78)) W → Uni W ∧ PowTab W ∧ Scs W ∧ Vbs W) := fun W h => ⟨HU.out.below (HG.out W h).base, Htab.out.below (HG.out W h).base, StrTab.below HSc.out (HG.out W h).base, StrTab.below HVb.out (HG.out W h).base⟩
                  have HT2 : Hid (∀ W W', Below (wr.alloc (.cells #[.string x.path, .string x.name, .string x.subj, .int .i64 x.verb] 78)).heap.size (wr.alloc (.cells #[.string x.path, .string x.name, .string x.subj, .int .i64 x.verb] 78)) W → Below W.heap.size W W' → Below (wr.alloc (.cells #[.string x.path, .string x.name, .string x.subj, .int .i64 x.verb] 78)).heap.size (wr.alloc (.cells #[.string x.path, .string x.name, .string x.subj, .int .i64 x.verb] 78)) W') := fun W W' h1 h2 => h1.trans (h2.mono h1.size)
                  have HAl : Hid (∀ W c, Below (wr.alloc (.cells #[.string x.path, .string x.name, .string x.subj, .int .i64 x.verb] 78)).heap.size (wr.alloc (.cells #[.string x.path, .string x.name, .string x.subj, .int .i64 x.verb] 78)) W → Below (wr.alloc (.cells #[.string x.path, .string x.name, .string x.subj, .int .i64 x.verb] 78)).heap.size (wr.alloc (.cells #[.string x.path, .string x.name, .string x.subj, .int .i64 x.verb] 78)) (W.alloc (.cells c 20))) := fun W c h => h.alloc h.size _
                  have HF : Hid (∀ W W' s' b', Below (wr.alloc (.cells #[.string x.path, .string x.name, .string x.subj, .int .i64 x.verb] 78)).heap.size (wr.alloc (.cells #[.string x.path, .string x.name, .string x.subj, .int .i64 x.verb] 78)) W → BOut W (w.heap.size + 1) s6 W' s' b' → W'.cell? ⟨wr.heap.size, 0, none⟩ = some (.string x.path) ∧ W'.cell? ⟨wr.heap.size, 1, none⟩ = some (.string x.name) ∧ W'.cell? ⟨wr.heap.size, 2, none⟩ = some (.string x.subj) ∧ W'.cell? ⟨wr.heap.size, 3, none⟩ = some (.int .i64 x.verb)) := by
                    intro W W' s' b' hW h'
                    obtain ⟨q0, q1, q2, q3⟩ := HC.out W hW
                    have hlt := BS_lt HO.out.is
                    exact ⟨h'.step.fr.cell q0 (fun hk => by have := hlt _ hk; simp at this), h'.step.fr.cell q1 (fun hk => by have := hlt _ hk; simp at this), h'.step.fr.cell q2 (fun hk => by have := hlt _ hk; simp at this), h'.step.fr.cell q3 (fun hk => by have := hlt _ hk; simp at this)⟩
                  go_wp2
                  go_region_held3 (fun W => W.cell? ⟨wr.heap.size, 0, none⟩ = some (.string x.path) ∧ W.cell? ⟨wr.heap.size, 1, none⟩ = some (.string x.name) ∧ W.cell? ⟨wr.heap.size, 2, none⟩ = some (.string x.subj) ∧ W.cell? ⟨wr.heap.size, 3, none⟩ = some (.int .i64 x.verb))
                    (first | exact HC.out _ HB1.out | exact HC.out _ (HAl.out _ _ HB1.out) | exact HC.out _ HWc.out | exact H8c.out)
                    (first
                      | ((go_at_call 30); ((with_reducible refine (bverb_calls x.verb Hz.out _ (HW.out _ HB1.out).2.2.2).mono ?_)); (rintro e wa ⟨⟨_, rfl, ta, rfl, hta⟩, rfl⟩); (have Hta := Lib.hid hta); (clear hta))
                      | ((go_at_call 15); (refine (tell_calls ⟨#[98, 105, 110, 100]⟩ [.str x.path, .str x.name, .str x.subj, .str ta] _ _ (rdP_new (wr.alloc (.cells #[.string x.path, .string x.name, .string x.subj, .int .i64 x.verb] 78)).drew 20 [.str x.path, .str x.name, .str x.subj, .str ta] _ ?hn (by simp)) ?ho ?hl (by simp) ?hp).mono ?_); (case hn => simp [World.drew]); (case ho => rw [← Hpe.out ta Hta.out]; exact Hp.out); (case hl => rw [← Hpe.out ta Hta.out]; have h := Hsz.out; exact Nat.le_trans (Nat.le_of_add_left_le h) (by omega)); (case hp => exact (HW.out _ (HAl.out _ _ HB1.out)).2.1); (rw [← Hpe.out ta Hta.out]); (rintro e wc ⟨rfl, hwc⟩); (have HWc := Lib.hid (HT2.out _ _ (HAl.out _ _ HB1.out) hwc)); (clear hwc))
                      | ((go_at_call 16); (refine (writeString_calls (w.heap.size + 1) s6 _ _ _ (HG.out _ HWc.out).is ?hq).mono ?_); (case hq => rw [ba_size]; have := Hsz.out; show _ + x.txt.length ≤ _; omega); (rintro e w8 ⟨⟨_, rfl⟩, s8, h8⟩); (have H8c := Lib.hid (HF.out _ _ _ _ HWc.out h8)); (have H8 := Lib.hid ((HG.out _ HWc.out).trans h8)); (clear h8)))
                  clear HC HB1 HG HW HT2 HAl HF
                  have Hn : Hid (GLoop Bi.txt w (.cells #[.int .i64 ver, .slice An ndl.length cn, .slice Aq qul.length cq, .slice Al lil.length cl, .slice Ao obl.length co, .slice (some ⟨b, off, none⟩) bil.length cb, .slice Au usl.length cu] 40) T4 bil (.int .i64 ((i : Int) + 1)) w8) := by
                    refine ⟨i + 1, s8, hlt, rfl, ?_⟩
                    rw [HT.out, ← List.append_assoc]
                    exact H8.out
                  go_wp2
                  go_roundw
                  case rel => exact Hn.out
                  case measure => simp [intOf]; omega
                · obtain rfl : i = bil.length := by omega
                  have hd := dF hlt
                  rw [List.take_length] at HO
                  have HX : Hid (GB w (.cells #[.int .i64 ver, .slice An ndl.length cn, .slice Aq qul.length cq, .slice Al lil.length cl, .slice Ao obl.length co, .slice Ab bil.length cb, .slice Au usl.length cu] 40) wr s6 T5) := by rw [HT5.out]; exact HO.out
                  clear HO hlt hO
                  have k6_wr : wr.cell? ⟨w.heap.size, 6, none⟩ = some (.slice Au usl.length cu) := by rw [Lib.cell_of_heap HX.out.box]; rfl
                  have hn6 : usl.length ≤ 1099511627776 := count_le Us.txt us_pos HL6.out
                  have Hst : Hid (GLoop Us.txt w (.cells #[.int .i64 ver, .slice An ndl.length cn, .slice Aq qul.length cq, .slice Al lil.length cl, .slice Ao obl.length co, .slice Ab bil.length cb, .slice Au usl.length cu] 40) T5 usl (.int .i64 0) wr) := ⟨0, _, Nat.zero_le _, rfl, by simpa using HX.out⟩
                  go_wp2
                  go_loopw [122] (fun v w1 => GLoop Us.txt w (.cells #[.int .i64 ver, .slice An ndl.length cn, .slice Aq qul.length cq, .slice Al lil.length cl, .slice Ao obl.length co, .slice Ab bil.length cb, .slice Au usl.length cu] 40) T5 usl v w1) (fun i _ => usl.length - (intOf i).toNat)
                  case atStart => exact Hst.out
                  case round =>
                    clear Hst k6_wr HX
                    obtain ⟨i, s6, hi, rfl, hO⟩ := hrel
                    have HO := Lib.hid hO
                    by_cases hlt : i < usl.length
                    · have hd := dT hlt
                      obtain ⟨b, off, c', hv, hc', hb, hc0, hc1, hc2, hc3, hc4⟩ := Us.at (Hr.out.us.below hO.base) i hlt
                      cases hv
                      have HT : Hid ((usl.take (i + 1)).flatMap Us.txt = (usl.take i).flatMap Us.txt ++ Us.txt usl[i]) := take_snoc Us.txt hlt
                      have hsz := part_len Us.txt HL6.out hlt
                      have hz := Hr.out.us.2 _ (List.getElem_mem hlt)
                      generalize usl[i] = x at hc0 hc1 hc2 hc3 hc4 HT hsz hz
                      have Hsz := Lib.hid hsz
                      have hi0 : (0 : Int) ≤ i := by omega
                      clear hO hsz
                      have Hz : Hid (in64 x.val) := hz.2.2
                      clear hz
                      have Hp : Hid (∀ p ∈ x.parts, p.ok) := by
                        intro p hp
                        simp only [Us.parts, List.mem_cons, List.not_mem_nil, or_false] at hp
                        rcases hp with rfl | rfl | rfl | rfl
                        all_goals exact True.intro
                      have Hpe : Hid (∀ t1 t2 : ByteArray, t1.data.toList = scopeS x.kind x.arg → t2.data.toList = printedZ x.val → x.parts = [.str x.path, .str t1, .str x.res, .str t2]) := by
                        intro t1 t2 e1 e2
                        have f1 : wordB (scopeS x.kind x.arg) = t1 := by unfold wordB; rw [← e1]
                        have f2 : pzB x.val = t2 := by unfold pzB; rw [← e2]
                        rw [Us.parts, f1, f2]
                      have HC : Hid (∀ W, Below (wr.alloc (.cells #[.string x.path, .int .i64 x.kind, .int .i64 x.arg, .string x.res, .int .i64 x.val] 80)).heap.size (wr.alloc (.cells #[.string x.path, .int .i64 x.kind, .int .i64 x.arg, .string x.res, .int .i64 x.val] 80)) W → W.cell? ⟨wr.heap.size, 0, none⟩ = some (.string x.path) ∧ W.cell? ⟨wr.heap.size, 1, none⟩ = some (.int .i64 x.kind) ∧ W.cell? ⟨wr.heap.size, 2, none⟩ = some (.int .i64 x.arg) ∧ W.cell? ⟨wr.heap.size, 3, none⟩ = some (.string x.res) ∧ W.cell? ⟨wr.heap.size, 4, none⟩ = some (.int .i64 x.val)) := by
                        intro W hW
                        have hb := blk_below (blk_new wr (.cells #[.string x.path, .int .i64 x.kind, .int .i64 x.arg, .string x.res, .int .i64 x.val] 80)) hW
                        exact ⟨by rw [Lib.cell_of_heap hb]; rfl, by rw [Lib.cell_of_heap hb]; rfl, by rw [Lib.cell_of_heap hb]; rfl, by rw [Lib.cell_of_heap hb]; rfl, by rw [Lib.cell_of_heap hb]; rfl⟩
                      have HB1 : Hid (Below (wr.alloc (.cells #[.string x.path, .int .i64 x.kind, .int .i64 x.arg, .string x.res, .int .i64 x.val] 80)).heap.size (wr.alloc (.cells #[.string x.path, .int .i64 x.kind, .int .i64 x.arg, .string x.res, .int .i64 x.val] 80)) (wr.alloc (.cells #[.string x.path, .int .i64 x.kind, .int .i64 x.arg, .string x.res, .int .i64 x.val] 80)).drew) := drewB (Below.refl _ _) 1
                      have HG := Lib.hid (fun (W : World) (h : Below (wr.alloc (.cells #[.string x.path, .int .i64 x.kind, .int .i64 x.arg, .string x.res, .int .i64 x.val] 80)).heap.size (wr.alloc (.cells #[.string x.path, .int .i64 x.kind, .int .i64 x.arg, .string x.res, .int .i64 x.val] 80)) W) => (HO.out.alloc (.cells #[.string x.path, .int .i64 x.kind, .int .i64 x.arg, .string x.res, .int .i64 x.val] 80)).below h)
                      have HW : Hid (∀ W, Below (wr.alloc (.cells #[.string x.path, .int .i64 x.kind, .int .i64 x.arg, .string x.res, .int .i64 x.val] 80)).heap.size (wr.alloc (.cells #[.string x.path, .int .i64 x.kind, .int .i64 x.arg, .string x.res, .int .i64 x.val] 80)) W → Uni W ∧ PowTab W ∧ Scs W ∧ Vbs W) := fun W h => ⟨HU.out.below (HG.out W h).base, Htab.out.below (HG.out W h).base, StrTab.below HSc.out (HG.out W h).base, StrTab.below HVb.out (HG.out W h).base⟩
                      have HT2 : Hid (∀ W W', Below (wr.alloc (.cells #[.string x.path, .int .i64 x.kind, .int .i64 x.arg, .string x.res, .int .i64 x.val] 80)).heap.size (wr.alloc (.cells #[.string x.path, .int .i64 x.kind, .int .i64 x.arg, .string x.res, .int .i64 x.val] 80)) W → Below W.heap.size W W' → Below (wr.alloc (.cells #[.string x.path, .int .i64 x.kind, .int .i64 x.arg, .string x.res, .int .i64 x.val] 80)).heap.size (wr.alloc (.cells #[.string x.path, .int .i64 x.kind, .int .i64 x.arg, .string x.res, .int .i64 x.val] 80)) W') := fun W W' h1 h2 => h1.trans (h2.mono h1.size)
                      have HAl : Hid (∀ W c, Below (wr.alloc (.cells #[.string x.path, .int .i64 x.kind, .int .i64 x.arg, .string x.res, .int .i64 x.val] 80)).heap.size (wr.alloc (.cells #[.string x.path, .int .i64 x.kind, .int .i64 x.arg, .string x.res, .int .i64 x.val] 80)) W → Below (wr.alloc (.cells #[.string x.path, .int .i64 x.kind, .int .i64 x.arg, .string x.res, .int .i64 x.val] 80)).heap.size (wr.alloc (.cells #[.string x.path, .int .i64 x.kind, .int .i64 x.arg, .string x.res, .int .i64 x.val] 80)) (W.alloc (.cells c 20))) := fun W c h => h.alloc h.size _
                      have HF : Hid (∀ W W' s' b', Below (wr.alloc (.cells #[.string x.path, .int .i64 x.kind, .int .i64 x.arg, .string x.res, .int .i64 x.val] 80)).heap.size (wr.alloc (.cells #[.string x.path, .int .i64 x.kind, .int .i64 x.arg, .string x.res, .int .i64 x.val] 80)) W → BOut W (w.heap.size + 1) s6 W' s' b' → W'.cell? ⟨wr.heap.size, 0, none⟩ = some (.string x.path) ∧ W'.cell? ⟨wr.heap.size, 1, none⟩ = some (.int .i64 x.kind) ∧ W'.cell? ⟨wr.heap.size, 2, none⟩ = some (.int .i64 x.arg) ∧ W'.cell? ⟨wr.heap.size, 3, none⟩ = some (.string x.res) ∧ W'.cell? ⟨wr.heap.size, 4, none⟩ = some (.int .i64 x.val)) := by
                        intro W W' s' b' hW h'
                        obtain ⟨q0, q1, q2, q3, q4⟩ := HC.out W hW
                        have hlt := BS_lt HO.out.is
                        exact ⟨h'.step.fr.cell q0 (fun hk => by have := hlt _ hk; simp at this), h'.step.fr.cell q1 (fun hk => by have := hlt _ hk; simp at this), h'.step.fr.cell q2 (fun hk => by have := hlt _ hk; simp at this), h'.step.fr.cell q3 (fun hk => by have := hlt _ hk; simp at this), h'.step.fr.cell q4 (fun hk => by have := hlt _ hk; simp at this)⟩
                      go_wp2
                      go_region_held3 (fun W => W.cell? ⟨wr.heap.size, 0, none⟩ = some (.string x.path) ∧ W.cell? ⟨wr.heap.size, 1, none⟩ = some (.int .i64 x.kind) ∧ W.cell? ⟨wr.heap.size, 2, none⟩ = some (.int .i64 x.arg) ∧ W.cell? ⟨wr.heap.size, 3, none⟩ = some (.string x.res) ∧ W.cell? ⟨wr.heap.size, 4, none⟩ = some (.int .i64 x.val))
                        (first | exact HC.out _ HB1.out | exact HC.out _ HWa.out | exact HC.out _ HWb.out | exact HC.out _ (HAl.out _ _ HWb.out) | exact HC.out _ HWc.out | exact H8c.out)
                        (first
                          | ((go_at_call 26); ((with_reducible refine (bscoped_calls x.kind x.arg _ (HW.out _ HB1.out).2.2.1).mono ?_)); (rintro e wa ⟨_, rfl, ⟨ta, rfl, hta⟩, hwa⟩); (have HWa := Lib.hid (HT2.out _ _ HB1.out hwa)); (have Hta := Lib.hid hta); (clear hta hwa))
                          | ((go_at_call 19); ((with_reducible refine (qprintZ_calls x.val Hz.out _ (HW.out _ HWa.out).1 (HW.out _ HWa.out).2.1).mono ?_)); (rintro e wb ⟨_, rfl, ⟨tb, rfl, htb⟩, hwb⟩); (have HWb := Lib.hid (HT2.out _ _ HWa.out hwb)); (have Htb := Lib.hid htb); (clear htb hwb))
                          | ((go_at_call 15); (refine (tell_calls ⟨#[117, 115, 101]⟩ [.str x.path, .str ta, .str x.res, .str tb] _ _ (rdP_new wb 20 [.str x.path, .str ta, .str x.res, .str tb] wb.heap.size rfl (by simp)) ?ho ?hl (by simp) ?hp).mono ?_); (case ho => rw [← Hpe.out ta tb Hta.out Htb.out]; exact Hp.out); (case hl => rw [← Hpe.out ta tb Hta.out Htb.out]; have h := Hsz.out; exact Nat.le_trans (Nat.le_of_add_left_le h) (by omega)); (case hp => exact (HW.out _ (HAl.out _ _ HWb.out)).2.1); (rw [← Hpe.out ta tb Hta.out Htb.out]); (rintro e wc ⟨rfl, hwc⟩); (have HWc := Lib.hid (HT2.out _ _ (HAl.out _ _ HWb.out) hwc)); (clear hwc))
                          | ((go_at_call 16); (refine (writeString_calls (w.heap.size + 1) s6 _ _ _ (HG.out _ HWc.out).is ?hq).mono ?_); (case hq => rw [ba_size]; have := Hsz.out; show _ + x.txt.length ≤ _; omega); (rintro e w8 ⟨⟨_, rfl⟩, s8, h8⟩); (have H8c := Lib.hid (HF.out _ _ _ _ HWc.out h8)); (have H8 := Lib.hid ((HG.out _ HWc.out).trans h8)); (clear h8)))
                      clear HC HB1 HG HW HT2 HAl HF
                      have Hn : Hid (GLoop Us.txt w (.cells #[.int .i64 ver, .slice An ndl.length cn, .slice Aq qul.length cq, .slice Al lil.length cl, .slice Ao obl.length co, .slice Ab bil.length cb, .slice (some ⟨b, off, none⟩) usl.length cu] 40) T5 usl (.int .i64 ((i : Int) + 1)) w8) := by
                        refine ⟨i + 1, s8, hlt, rfl, ?_⟩
                        rw [HT.out, ← List.append_assoc]
                        exact H8.out
                      go_wp2
                      go_roundw
                      case rel => exact Hn.out
                      case measure => simp [intOf]; omega
                    · obtain rfl : i = usl.length := by omega
                      have hd := dF hlt
                      rw [List.take_length] at HO
                      have HX : Hid (GB w (.cells #[.int .i64 ver, .slice An ndl.length cn, .slice Aq qul.length cq, .slice Al lil.length cl, .slice Ao obl.length co, .slice Ab bil.length cb, .slice Au usl.length cu] 40) wr s6 T6) := by rw [HT6.out]; exact HO.out
                      clear HO hlt hO
                      go_wp2_with fail
                      refine (bstring_calls (w.heap.size + 1) s6 _ _ w.heap.size HX.out.is HX.out.S0).mono ?_
                      rintro e wz ⟨rfl, hz⟩
                      have Hz := Lib.hid (HX.out.base.trans hz)
                      clear hz
                      go_wp2
                      go_ret
                      exact ⟨_, rfl, ⟨_, rfl, (by rw [Hfin.out])⟩, Hz.out⟩

end Go.Proofs.YtleajmblagddcaaDoor
