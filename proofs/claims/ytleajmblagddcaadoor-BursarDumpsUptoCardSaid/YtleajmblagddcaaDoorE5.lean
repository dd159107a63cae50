/- ref27.Dump: a dump's text. -/
import Derived.Test.YtleajmblagddcaaDoorE3
import Derived.Deep.RegionHeld3
namespace Go.Proofs.YtleajmblagddcaaDoor
open Go.RowKit
set_option linter.unusedVariables false
set_option linter.unusedSimpArgs false

section
variable {P : Program} (w : World)
theorem step_append2_string {ops : Array Oper} {o : Oper} {a : Act} {K : Act → World → Prop} {Q : Exit → Act → World → Prop} {E : Prop} (hgd : o.guard = none) (sl x : Operand) (t u : TypeId)
    (ho : o.op = .call { callee := .builtin .append, args := #[sl, x], argTypes := #[t, u] })
    (e : TypeId) (ht : P.underlying t = some (.slice e)) (hu : P.underlying u = some .string) (hinfo : (P.info? e).map (fun i => (i.zero, i.size, i.bytes)) = some (some (.int .u8 0), 1, 1))
    (v : Value) (n : Nat) (xs : List Value) (hs : a.eval sl = v) (hown : w.ownsRow 0 e 1 v n xs) (s : ByteArray) (hx : a.eval x = .string s)
    (hbytes : n + s.size ≤ 140737488355328)
    (h : ∀ v' w', w'.ownsRow 0 e 1 v' (n + s.size) (xs ++ u8s s.data.toList) → w.grownBy w' v.ownBlock → (∀ k, v'.ownBlock = some k → v.ownBlock = some k ∨ w.heap.size ≤ k) → K (a.put o.dst v') w') :
    if Region.wanted o (yielded ops a.tmps) = true then Oper.wp P o a w K Q else E := by
  have hw : Region.wanted o (yielded ops a.tmps) = true := by simp [Region.wanted, hgd]
  rw [if_pos hw]
  obtain ⟨i, hi, hz, hsize, hby⟩ := info_parts hinfo
  have h63 : n + s.size ≤ maxLen := by unfold maxLen; omega
  obtain ⟨v', w', hr, h2, h3, h4⟩ := Lib.run_append_own_string (P := P) w 0 t u o.type e i ht hu hi hz hsize hby v n xs hown s h63 hbytes (Nat.zero_le _)
  have h5 : ∀ k, v'.ownBlock = some k → v.ownBlock = some k ∨ w.heap.size ≤ k := by
    have hxl : xs.length = n := by simpa using hown.1
    rcases hown.2 with ⟨rfl, rfl⟩ | ⟨g, cap, cur, rfl, hbg, hg, hnc, hcm, hcs, htake⟩
    · have hx : xs = [] := List.eq_nil_of_length_eq_zero (by simpa using hown.1)
      subst hx
      obtain ⟨v2, w2, hr2, h5, -⟩ := Lib.run_append_own_string (P := P) w w.heap.size t u o.type e i ht hu hi hz hsize hby (.slice none 0 0) 0 [] (World.ownsRow_nil w _ e _) s h63 hbytes (Nat.le_refl _)
      rw [hr] at hr2
      cases hr2
      exact fun k hk => .inr (h5.lt k hk).1
    · have hcs' : cur.size = cap := by simpa using hcs
      by_cases hroom : n + s.size ≤ cap
      · have hr2 := Lib.run_append_room_string (P := P) w t u o.type e i ht hu hi hsize g n cap cur hg s hroom (by omega)
        rw [hr] at hr2
        cases hr2
        exact fun k hk => .inl hk
      · have holds : ∀ j u, xs[j]? = some u → w.cell? ((⟨g, 0, none⟩ : Addr).add j) = some u := hown.cells (g := g) rfl
        have hr2 := Lib.run_append_grow_string (P := P) w t u o.type e i (.int .u8 0) ht hu hi hz ⟨g, 0, none⟩ n cap xs (by rw [hsize]; simpa using hxl) holds s (by omega) (by omega) (by rw [hby]; exact growslice_fits (by omega) (by omega))
        rw [hr] at hr2
        cases hr2
        exact fun k hk => .inr (by simp [Value.ownBlock] at hk; omega)
  unfold Oper.wp execOp
  simp only [ho, resolve, invoke, builtin, Sem.run_bind, Sem.run_pure, Result.andThen_ok, List.map_toArray, List.map_cons, List.map_nil, hs, hx, hr]
  exact h v' w' h2 h3 h5
end

/-- the bytes told so far -/
structure RB (w0 w1 : World) (v : Value) (t : List UInt8) : Prop where
  own : w1.ownsRow 0 5 1 v t.length (u8s t)
  new : ∀ k, v.ownBlock = some k → w0.heap.size ≤ k
  bel : Below w0.heap.size w0 w1
theorem RB.nil {w0 w1 : World} (h : Below w0.heap.size w0 w1) : RB w0 w1 (.slice none 0 0) [] := ⟨World.ownsRow_nil _ _ _ _, fun k hk => by simp [Value.ownBlock] at hk, h⟩
theorem RB.below {w0 w1 w2 : World} {v : Value} {t : List UInt8} (h : RB w0 w1 v t) (hb : Below w1.heap.size w1 w2) : RB w0 w2 v t := ⟨own_below h.own hb, h.new, h.bel.trans (hb.mono h.bel.size)⟩
theorem RB.slice {w0 w1 : World} {v : Value} {t : List UInt8} (h : RB w0 w1 v t) : ∃ A c, v = .slice A t.length c := own_slice h.own
theorem RB.snoc {w0 w1 w2 : World} {v v' : Value} {t : List UInt8} {s : ByteArray} (h : RB w0 w1 v t) (ho : w2.ownsRow 0 5 1 v' (t.length + s.size) (u8s t ++ u8s s.data.toList)) (hg : w1.grownBy w2 v.ownBlock) (hn : ∀ k, v'.ownBlock = some k → v.ownBlock = some k ∨ w1.heap.size ≤ k) : RB w0 w2 v' (t ++ s.data.toList) := by
  have hs := h.bel.size
  refine ⟨?_, ?_, ?_⟩
  · rw [List.length_append, u8s_app, ← size_toList]; exact ho
  · intro k hk
    rcases hn k hk with h1 | h1
    · exact h.new k h1
    · omega
  · exact h.bel.grown hg hs (fun k hk => h.new k hk)
theorem RB.box {w : World} {bx : Obj} {w1 : World} {v : Value} {t : List UInt8} (h : RB (w.alloc bx) w1 v t) : w1.heap[w.heap.size]? = some bx := blk_below (blk_new w bx) h.bel
theorem RB.base {w : World} {bx : Obj} {w1 : World} {v : Value} {t : List UInt8} (h : RB (w.alloc bx) w1 v t) : Below w.heap.size w w1 := ((Below.refl _ _).alloc (Nat.le_refl _) bx).trans (h.bel.mono (by simp))
theorem RB.snocL {w0 w1 w2 : World} {v v' : Value} {t l : List UInt8} {n : Nat} (h : RB w0 w1 v t) (ho : w2.ownsRow 0 5 1 v' (t.length + n) (u8s t ++ u8s l)) (hl : n = l.length) (hg : w1.grownBy w2 v.ownBlock) (hn : ∀ k, v'.ownBlock = some k → v.ownBlock = some k ∨ w1.heap.size ≤ k) : RB w0 w2 v' (t ++ l) := by
  subst hl
  have hs := h.bel.size
  refine ⟨?_, ?_, ?_⟩
  · rw [List.length_append, u8s_app]; exact ho
  · intro k hk
    rcases hn k hk with h1 | h1
    · exact h.new k h1
    · omega
  · exact h.bel.grown hg hs (fun k hk => h.new k hk)
def RLoop {α : Type} (f : α → List UInt8) (w0 : World) (pre : List UInt8) (l : List α) (v3 v : Value) (w1 : World) : Prop := ∃ i : Nat, i ≤ l.length ∧ v = .int .i64 i ∧ RB w0 w1 v3 (pre ++ (l.take i).flatMap f)

def RN (B : World) (x : Li) (v9 v10 : Value) (w1 : World) : Prop := ∃ (j : Nat) (s : ByteArray), j ≤ x.rl.length ∧ v10 = .int .i64 j ∧ v9 = .string s ∧ s.data.toList = x.head ++ (x.rl.take j).flatMap Ru.txt ∧ Below B.heap.size B w1

set_option maxRecDepth 100000 in
set_option maxHeartbeats 12800000 in
theorem rdump_calls (ver : Int) (An : Option Addr) (cn : Nat) (ndl : List ByteArray) (Aq : Option Addr) (cq : Nat) (qul : List Qu) (Al : Option Addr) (cl : Nat) (lil : List Li) (Ao : Option Addr) (co : Nat) (obl : List Ob) (Ab : Option Addr) (cb : Nat) (bil : List Bi) (Au : Option Addr) (cu : Nat) (usl : List Us) (w : World) (hr : DuOk w (⟨ver, .slice An ndl.length cn, ndl, .slice Aq qul.length cq, qul, .slice Al lil.length cl, lil, .slice Ao obl.length co, obl, .slice Ab bil.length cb, bil, .slice Au usl.length cu, usl⟩ : Du)) (hlen : (⟨ver, .slice An ndl.length cn, ndl, .slice Aq qul.length cq, qul, .slice Al lil.length cl, lil, .slice Ao obl.length co, obl, .slice Ab bil.length cb, bil, .slice Au usl.length cu, usl⟩ : Du).txt.length ≤ 1099511627776) (htab : PowTab w) :
    Calls Tryd.prog 7 #[.agg #[.int .i64 ver, .slice An ndl.length cn, .slice Aq qul.length cq, .slice Al lil.length cl, .slice Ao obl.length co, .slice Ab bil.length cb, .slice Au usl.length cu]] w fun e w' => ∃ sv, e = .returned sv ∧ StrIs sv (⟨ver, .slice An ndl.length cn, ndl, .slice Aq qul.length cq, qul, .slice Al lil.length cl, lil, .slice Ao obl.length co, obl, .slice Ab bil.length cb, bil, .slice Au usl.length cu, usl⟩ : Du).txt ∧ Below w.heap.size w w' := by
  have Hr := Lib.hid hr
  have Htab := Lib.hid htab
  have hle := du_lens (⟨ver, .slice An ndl.length cn, ndl, .slice Aq qul.length cq, qul, .slice Al lil.length cl, lil, .slice Ao obl.length co, obl, .slice Ab bil.length cb, bil, .slice Au usl.length cu, usl⟩ : Du)
  obtain ⟨T0, hT0⟩ : ∃ x, x = (⟨ver, .slice An ndl.length cn, ndl, .slice Aq qul.length cq, qul, .slice Al lil.length cl, lil, .slice Ao obl.length co, obl, .slice Ab bil.length cb, bil, .slice Au usl.length cu, usl⟩ : Du).t0 := ⟨_, rfl⟩
  obtain ⟨T1, hT1⟩ : ∃ x, x = (⟨ver, .slice An ndl.length cn, ndl, .slice Aq qul.length cq, qul, .slice Al lil.length cl, lil, .slice Ao obl.length co, obl, .slice Ab bil.length cb, bil, .slice Au usl.length cu, usl⟩ : Du).t1 := ⟨_, rfl⟩
  obtain ⟨T2, hT2⟩ : ∃ x, x = (⟨ver, .slice An ndl.length cn, ndl, .slice Aq qul.length cq, qul, .slice Al lil.length cl, lil, .slice Ao obl.length co, obl, .slice Ab bil.length cb, bil, .slice Au usl.length cu, usl⟩ : Du).t2 := ⟨_, rfl⟩
  obtain ⟨T3, hT3⟩ : ∃ x, x = (⟨ver, .slice An ndl.length cn, ndl, .slice Aq qul.length cq, qul, .slice Al lil.length cl, lil, .slice Ao obl.length co, obl, .slice Ab bil.length cb, bil, .slice Au usl.length cu, usl⟩ : Du).t3 := ⟨_, rfl⟩
  obtain ⟨T4, hT4⟩ : ∃ x, x = (⟨ver, .slice An ndl.length cn, ndl, .slice Aq qul.length cq, qul, .slice Al lil.length cl, lil, .slice Ao obl.length co, obl, .slice Ab bil.length cb, bil, .slice Au usl.length cu, usl⟩ : Du).t4 := ⟨_, rfl⟩
  obtain ⟨T5, hT5⟩ : ∃ x, x = (⟨ver, .slice An ndl.length cn, ndl, .slice Aq qul.length cq, qul, .slice Al lil.length cl, lil, .slice Ao obl.length co, obl, .slice Ab bil.length cb, bil, .slice Au usl.length cu, usl⟩ : Du).t5 := ⟨_, rfl⟩
  obtain ⟨T6, hT6⟩ : ∃ x, x = (⟨ver, .slice An ndl.length cn, ndl, .slice Aq qul.length cq, qul, .slice Al lil.length cl, lil, .slice Ao obl.length co, obl, .slice Ab bil.length cb, bil, .slice Au usl.length cu, usl⟩ : Du).txt := ⟨_, rfl⟩
  have HT0 : Hid (T0 = [111, 107, 32] ++ Lib.itoa ver ++ [10]) := by show _ = _; rw [hT0]; simp [Du.t0, tellS, partsS, Pt.txt]
  have HT1 : Hid (T1 = T0 ++ ndl.flatMap nodeTxt) := by show _ = _; rw [hT1, hT0]; rfl
  have HT2x : Hid (T2 = T1 ++ qul.flatMap Qu.txt) := by show _ = _; rw [hT2, hT1]; rfl
  have HT3 : Hid (T3 = T2 ++ lil.flatMap Li.txt) := by show _ = _; rw [hT3, hT2]; rfl
  have HT4 : Hid (T4 = T3 ++ obsS obl) := by show _ = _; rw [hT4, hT3]; rfl
  have HT5 : Hid (T5 = T4 ++ bil.flatMap Bi.txt) := by show _ = _; rw [hT5, hT4]; rfl
  have HT6 : Hid (T6 = T5 ++ usl.flatMap Us.txt) := by show _ = _; rw [hT6, hT5]; rfl
  have Hfin : Hid ((⟨ver, .slice An ndl.length cn, ndl, .slice Aq qul.length cq, qul, .slice Al lil.length cl, lil, .slice Ao obl.length co, obl, .slice Ab bil.length cb, bil, .slice Au usl.length cu, usl⟩ : Du).txt = T6) := hT6.symm
  have hl6 : T6.length ≤ 1099511627776 := by rw [hT6]; exact hlen
  rw [← hT0, ← hT1, ← hT2, ← hT3, ← hT4, ← hT5, ← hT6] at hle
  have HL0 : Hid (3 + (Lib.itoa ver).length + 1 ≤ 1099511627776) := by
    show _ ≤ _
    have h : T0.length ≤ 1099511627776 := by omega
    rw [HT0.out] at h
    simp only [List.length_append, List.length_cons, List.length_nil] at h; omega
  have HL1 : Hid ((T0 ++ ndl.flatMap nodeTxt).length ≤ 1099511627776) := by show _ ≤ _; rw [← HT1.out]; omega
  have HL2 : Hid ((T1 ++ qul.flatMap Qu.txt).length ≤ 1099511627776) := by show _ ≤ _; rw [← HT2x.out]; omega
  have HL3 : Hid ((T2 ++ lil.flatMap Li.txt).length ≤ 1099511627776) := by show _ ≤ _; rw [← HT3.out]; omega
  have HL4 : Hid ((T3 ++ obsS obl).length ≤ 1099511627776) := by show _ ≤ _; rw [← HT4.out]; omega
  have HL5 : Hid ((T4 ++ bil.flatMap Bi.txt).length ≤ 1099511627776) := by show _ ≤ _; rw [← HT5.out]; omega
  have HL6 : Hid ((T5 ++ usl.flatMap Us.txt).length ≤ 1099511627776) := by show _ ≤ _; rw [← HT6.out]; omega
  have Hver : Hid (in64 ver) := Hr.out.ver
  have H0 : Hid (RB (w.alloc (.cells #[.int .i64 ver, .slice An ndl.length cn, .slice Aq qul.length cq, .slice Al lil.length cl, .slice Ao obl.length co, .slice Ab bil.length cb, .slice Au usl.length cu] 40)) (w.alloc (.cells #[.int .i64 ver, .slice An ndl.length cn, .slice Aq qul.length cq, .slice Al lil.length cl, .slice Ao obl.length co, .slice Ab bil.length cb, .slice Au usl.length cu] 40)) (.slice none 0 0) []) := RB.nil (Below.refl _ _)
  have z1 : ¬ 9223372036854775807 < 3 + (Lib.itoa ver).length := by have := HL0.out; omega
  have z2 : ¬ 9223372036854775807 < 3 + (Lib.itoa ver).length + 1 := by have := HL0.out; omega
  have Hts0 : Hid (([] : List UInt8).length + (ByteArray.mk #[111, 107, 32] ++ ⟨(Lib.itoa ver).toArray⟩ ++ ByteArray.mk #[10]).size ≤ 140737488355328) := by
    show _ ≤ _
    have e1 : (ByteArray.mk #[111, 107, 32]).size = 3 := rfl
    have e3 : (ByteArray.mk #[10]).size = 1 := rfl
    have e4 : (ByteArray.mk (Lib.itoa ver).toArray).size = (Lib.itoa ver).length := ba_size _
    have := HL0.out
    simp only [ByteArray.size_append, List.length_nil]; omega
  clear hr htab hle hT0 hT1 hT2 hT3 hT4 hT5 hT6 hl6 hlen
  go_enter Tryd.func7, Tryd.ntmps7
  go_wp2_with fail
  refine (ritoa_calls ver Hver.out _ (Htab.out.below H0.out.base)).mono ?_
  rintro e w3 ⟨rfl, hw3⟩
  have H3 := Lib.hid (H0.out.below hw3)
  clear hw3 H0
  go_wp2_with (at_builtin; refine wpList_append2_string _ rfl (.tmp 15) (.tmp 20) 54 9 rfl 5 Tryd.underlying54 Tryd.underlying9 infoU8 _ _ _ rfl H3.out.own _ rfl Hts0.out ?_)
  intro v4 w4 ho4 hg4 hn4
  have H4 : Hid (RB (w.alloc (.cells #[.int .i64 ver, .slice An ndl.length cn, .slice Aq qul.length cq, .slice Al lil.length cl, .slice Ao obl.length co, .slice Ab bil.length cb, .slice Au usl.length cu] 40)) w4 v4 T0) := by
    have h := H3.out.snocL (n := 3 + (Lib.itoa ver).length + 1) (by rw [List.length_nil, Nat.zero_add]; exact ho4) (by simp; omega) hg4 hn4
    rw [HT0.out]
    show RB _ _ _ _
    simpa using h
  clear ho4 hg4 hn4 H3 z1 z2
  have hn1 : ndl.length ≤ 1099511627776 := count_le nodeTxt nd_pos HL1.out
  have Hst : Hid (RLoop nodeTxt (w.alloc (.cells #[.int .i64 ver, .slice An ndl.length cn, .slice Aq qul.length cq, .slice Al lil.length cl, .slice Ao obl.length co, .slice Ab bil.length cb, .slice Au usl.length cu] 40)) T0 ndl (v4) (.int .i64 0) w4) := ⟨0, Nat.zero_le _, rfl, by simpa using H4.out⟩
  go_wp2
  go_loopw [3, 4] (fun v3 v w1 => RLoop nodeTxt (w.alloc (.cells #[.int .i64 ver, .slice An ndl.length cn, .slice Aq qul.length cq, .slice Al lil.length cl, .slice Ao obl.length co, .slice Ab bil.length cb, .slice Au usl.length cu] 40)) T0 ndl v3 v w1) (fun _ i _ => ndl.length - (intOf i).toNat)
  case atStart => exact Hst.out
  case round =>
    clear Hst H4
    obtain ⟨i, hi, rfl, hO⟩ := hrel
    obtain ⟨TT, hTT⟩ : ∃ TT, TT = T0 ++ (ndl.take i).flatMap nodeTxt := ⟨_, rfl⟩
    rw [← hTT] at hO
    obtain ⟨A3, c3, rfl⟩ := hO.slice
    have HO := Lib.hid hO
    have HTT := Lib.hid hTT
    have k1_wr : wr.cell? ⟨w.heap.size, 1, none⟩ = some (.slice An ndl.length cn) := by rw [Lib.cell_of_heap hO.box]; rfl
    by_cases hlt : i < ndl.length
    · have hd := dT hlt
      obtain ⟨b, off, c', hv, hc', hb, hc0⟩ := nm_at (Hr.out.nd.below hO.base) i hlt
      cases hv
      have HT : Hid ((ndl.take (i + 1)).flatMap nodeTxt = (ndl.take i).flatMap nodeTxt ++ nodeTxt ndl[i]) := take_snoc nodeTxt hlt
      have hsz : TT.length + (nodeTxt ndl[i]).length ≤ 1099511627776 := by rw [hTT]; exact part_len nodeTxt HL1.out hlt
      generalize ndl[i] = x at hc0 HT hsz 
      have Hsz := Lib.hid hsz
      have hi0 : (0 : Int) ≤ i := by omega
      clear hO hsz hTT
      have Hxl : Hid ((nodeTxt x).length = 5 + (orS x.data.toList).length + 1) := by
        show _ = _
        simp only [nodeTxt, tellS, partsS, List.flatMap_cons, List.flatMap_nil, List.length_append, List.length_cons, List.length_nil, Pt.txt]; omega
      have Hhs : Hid (5 + (orS x.data.toList).length + 1 ≤ 1099511627776) := by show _ ≤ _; have := Hsz.out; rw [Hxl.out] at this; omega
      go_wp2_with fail
      refine (ror_calls x _).mono ?_
      rintro e wa ⟨⟨_, rfl, ta, rfl, hta⟩, rfl⟩
      have Hta := Lib.hid hta
      have Hsa : Hid (ta.size = (orS x.data.toList).length) := by show _ = _; rw [size_toList, hta]
      have z1 : ¬ 9223372036854775807 < 5 + ta.size := by have := Hhs.out; have := Hsa.out; omega
      have z2 : ¬ 9223372036854775807 < 5 + ta.size + 1 := by have := Hhs.out; have := Hsa.out; omega
      clear hta
      have hts : TT.length + (ByteArray.mk #[110, 111, 100, 101, 32] ++ ta ++ ByteArray.mk #[10]).size ≤ 140737488355328 := by
        have e1 : (ByteArray.mk #[110, 111, 100, 101, 32]).size = 5 := rfl
        have e3 : (ByteArray.mk #[10]).size = 1 := rfl
        have := Hsz.out; have := Hxl.out; have := Hsa.out
        simp only [ByteArray.size_append]; omega
      have Hts := Lib.hid hts
      clear hts
      go_wp2_with (at_builtin; refine wpList_append2_string _ rfl (.tmp 29) (.tmp 37) 54 9 rfl 5 Tryd.underlying54 Tryd.underlying9 infoU8 _ _ _ rfl HO.out.own _ rfl Hts.out ?_)
      intro v8 w8 ho8 hg8 hn8
      have H8 : Hid (RB (w.alloc (.cells #[.int .i64 ver, .slice (some ⟨b, off, none⟩) ndl.length cn, .slice Aq qul.length cq, .slice Al lil.length cl, .slice Ao obl.length co, .slice Ab bil.length cb, .slice Au usl.length cu] 40)) w8 v8 (TT ++ nodeTxt x)) := by
        have h := HO.out.snocL ho8 (by simp only [List.length_cons, List.length_append, List.length_nil, ← size_toList]; omega) hg8 hn8
        simp [Hta.out] at h
        show RB _ _ _ _
        simpa [nodeTxt, tellS, partsS, Pt.txt] using h
      clear ho8 hg8 hn8
      have Hn : Hid (RLoop nodeTxt (w.alloc (.cells #[.int .i64 ver, .slice (some ⟨b, off, none⟩) ndl.length cn, .slice Aq qul.length cq, .slice Al lil.length cl, .slice Ao obl.length co, .slice Ab bil.length cb, .slice Au usl.length cu] 40)) T0 ndl v8 (.int .i64 ((i : Int) + 1)) w8) := by
        refine ⟨i + 1, hlt, rfl, ?_⟩
        rw [HT.out, ← List.append_assoc, ← HTT.out]
        exact H8.out
      go_wp2
      go_roundw
      case rel => exact Hn.out
      case measure => simp [intOf]; omega
    · obtain rfl : i = ndl.length := by omega
      have hd := dF hlt
      rw [List.take_length] at hTT
      have hee : T1 = TT := HT1.out.trans hTT.symm
      clear HTT hTT
      subst hee
      have HX := Lib.hid hO
      clear HO hlt hO
      have hn2 : qul.length ≤ 1099511627776 := count_le Qu.txt qu_pos HL2.out
      have Hst : Hid (RLoop Qu.txt (w.alloc (.cells #[.int .i64 ver, .slice An ndl.length cn, .slice Aq qul.length cq, .slice Al lil.length cl, .slice Ao obl.length co, .slice Ab bil.length cb, .slice Au usl.length cu] 40)) T1 qul (.slice A3 T1.length c3) (.int .i64 0) wr) := ⟨0, Nat.zero_le _, rfl, by simpa using HX.out⟩
      go_wp2
      go_loopw [3, 5] (fun v3 v w1 => RLoop Qu.txt (w.alloc (.cells #[.int .i64 ver, .slice An ndl.length cn, .slice Aq qul.length cq, .slice Al lil.length cl, .slice Ao obl.length co, .slice Ab bil.length cb, .slice Au usl.length cu] 40)) T1 qul v3 v w1) (fun _ i _ => qul.length - (intOf i).toNat)
      case atStart => exact Hst.out
      case round =>
        clear Hst HX
        obtain ⟨i, hi, rfl, hO⟩ := hrel
        obtain ⟨TT, hTT⟩ : ∃ TT, TT = T1 ++ (qul.take i).flatMap Qu.txt := ⟨_, rfl⟩
        rw [← hTT] at hO
        obtain ⟨A3, c3, rfl⟩ := hO.slice
        have HO := Lib.hid hO
        have HTT := Lib.hid hTT
        have k2_wr : wr.cell? ⟨w.heap.size, 2, none⟩ = some (.slice Aq qul.length cq) := by rw [Lib.cell_of_heap hO.box]; rfl
        by_cases hlt : i < qul.length
        · have hd := dT hlt
          obtain ⟨b, off, c', hv, hc', hb, hc0, hc1, hc2, hc3, hc4⟩ := Qu.at (Hr.out.qu.below hO.base) i hlt
          cases hv
          have HT : Hid ((qul.take (i + 1)).flatMap Qu.txt = (qul.take i).flatMap Qu.txt ++ Qu.txt qul[i]) := take_snoc Qu.txt hlt
          have hsz : TT.length + (Qu.txt qul[i]).length ≤ 1099511627776 := by rw [hTT]; exact part_len Qu.txt HL2.out hlt
          have hz := Hr.out.qu.2 _ (List.getElem_mem hlt)
          generalize qul[i] = x at hc0 hc1 hc2 hc3 hc4 HT hsz hz
          have Hsz := Lib.hid hsz
          have hi0 : (0 : Int) ≤ i := by omega
          clear hO hsz hTT
          obtain ⟨Ah, ch, hhv⟩ := hz.2.2.1.slice
          have Hhv := Lib.hid hhv
          rw [hhv] at hc4
          have Hz : Hid (RdAm w (.slice Ah x.hl.length ch) x.hl) := by show RdAm _ _ _; rw [← hhv]; exact hz.2.2
          clear hz hhv
          have Hxl : Hid (x.txt.length = 6 + (orS x.path.data.toList).length + 1 + (orS x.name.data.toList).length + 1 + (scopeS x.kind x.arg).length + (amsS x.hl).length + 1) := by
            show _ = _
            simp only [Qu.txt, List.length_append, List.length_cons, List.length_nil]; omega
          have Hhs : Hid (6 + (orS x.path.data.toList).length + 1 + (orS x.name.data.toList).length + 1 + (scopeS x.kind x.arg).length + (amsS x.hl).length + 1 ≤ 1099511627776) := by show _ ≤ _; have := Hsz.out; rw [Hxl.out] at this; omega
          have Hal : Hid ((amsS x.hl).length ≤ 1099511627776) := by show _ ≤ _; have := Hhs.out; omega
          have HC : Hid (∀ W, Below (wr.alloc (.cells #[.string x.path, .string x.name, .int .i64 x.kind, .int .i64 x.arg, .slice Ah x.hl.length ch] 68)).heap.size (wr.alloc (.cells #[.string x.path, .string x.name, .int .i64 x.kind, .int .i64 x.arg, .slice Ah x.hl.length ch] 68)) W → W.cell? ⟨wr.heap.size, 0, none⟩ = some (.string x.path) ∧ W.cell? ⟨wr.heap.size, 1, none⟩ = some (.string x.name) ∧ W.cell? ⟨wr.heap.size, 2, none⟩ = some (.int .i64 x.kind) ∧ W.cell? ⟨wr.heap.size, 3, none⟩ = some (.int .i64 x.arg) ∧ W.cell? ⟨wr.heap.size, 4, none⟩ = some (.slice Ah x.hl.length ch)) := by
            intro W hW
            have hb := blk_below (blk_new wr (.cells #[.string x.path, .string x.name, .int .i64 x.kind, .int .i64 x.arg, .slice Ah x.hl.length ch] 68)) hW
            exact ⟨by rw [Lib.cell_of_heap hb]; rfl, by rw [Lib.cell_of_heap hb]; rfl, by rw [Lib.cell_of_heap hb]; rfl, by rw [Lib.cell_of_heap hb]; rfl, by rw [Lib.cell_of_heap hb]; rfl⟩
          have HB1 : Hid (Below (wr.alloc (.cells #[.string x.path, .string x.name, .int .i64 x.kind, .int .i64 x.arg, .slice Ah x.hl.length ch] 68)).heap.size (wr.alloc (.cells #[.string x.path, .string x.name, .int .i64 x.kind, .int .i64 x.arg, .slice Ah x.hl.length ch] 68)) (wr.alloc (.cells #[.string x.path, .string x.name, .int .i64 x.kind, .int .i64 x.arg, .slice Ah x.hl.length ch] 68)).drew) := drewB (Below.refl _ _) 1
          have HB0 : Hid (Below (wr.alloc (.cells #[.string x.path, .string x.name, .int .i64 x.kind, .int .i64 x.arg, .slice Ah x.hl.length ch] 68)).heap.size (wr.alloc (.cells #[.string x.path, .string x.name, .int .i64 x.kind, .int .i64 x.arg, .slice Ah x.hl.length ch] 68)) (wr.alloc (.cells #[.string x.path, .string x.name, .int .i64 x.kind, .int .i64 x.arg, .slice Ah x.hl.length ch] 68))) := Below.refl _ _
          have HG := Lib.hid (fun (W : World) (h : Below (wr.alloc (.cells #[.string x.path, .string x.name, .int .i64 x.kind, .int .i64 x.arg, .slice Ah x.hl.length ch] 68)).heap.size (wr.alloc (.cells #[.string x.path, .string x.name, .int .i64 x.kind, .int .i64 x.arg, .slice Ah x.hl.length ch] 68)) W) => (HO.out.below ((Below.refl _ _).alloc (Nat.le_refl _) (.cells #[.string x.path, .string x.name, .int .i64 x.kind, .int .i64 x.arg, .slice Ah x.hl.length ch] 68))).below h)
          have HW : Hid (∀ W, Below (wr.alloc (.cells #[.string x.path, .string x.name, .int .i64 x.kind, .int .i64 x.arg, .slice Ah x.hl.length ch] 68)).heap.size (wr.alloc (.cells #[.string x.path, .string x.name, .int .i64 x.kind, .int .i64 x.arg, .slice Ah x.hl.length ch] 68)) W → PowTab W) := fun W h => Htab.out.below (HG.out W h).base
          have HT2 : Hid (∀ W W', Below (wr.alloc (.cells #[.string x.path, .string x.name, .int .i64 x.kind, .int .i64 x.arg, .slice Ah x.hl.length ch] 68)).heap.size (wr.alloc (.cells #[.string x.path, .string x.name, .int .i64 x.kind, .int .i64 x.arg, .slice Ah x.hl.length ch] 68)) W → Below W.heap.size W W' → Below (wr.alloc (.cells #[.string x.path, .string x.name, .int .i64 x.kind, .int .i64 x.arg, .slice Ah x.hl.length ch] 68)).heap.size (wr.alloc (.cells #[.string x.path, .string x.name, .int .i64 x.kind, .int .i64 x.arg, .slice Ah x.hl.length ch] 68)) W') := fun W W' h1 h2 => h1.trans (h2.mono h1.size)
          have HC6 : Hid (∀ W W6, Below (wr.alloc (.cells #[.string x.path, .string x.name, .int .i64 x.kind, .int .i64 x.arg, .slice Ah x.hl.length ch] 68)).heap.size (wr.alloc (.cells #[.string x.path, .string x.name, .int .i64 x.kind, .int .i64 x.arg, .slice Ah x.hl.length ch] 68)) W → W.grownBy W6 (Value.slice A3 TT.length c3).ownBlock → W6.cell? ⟨wr.heap.size, 0, none⟩ = some (.string x.path) ∧ W6.cell? ⟨wr.heap.size, 1, none⟩ = some (.string x.name) ∧ W6.cell? ⟨wr.heap.size, 2, none⟩ = some (.int .i64 x.kind) ∧ W6.cell? ⟨wr.heap.size, 3, none⟩ = some (.int .i64 x.arg) ∧ W6.cell? ⟨wr.heap.size, 4, none⟩ = some (.slice Ah x.hl.length ch)) := by
            intro W W6 hW hg
            have hb := blk_below (blk_new wr (.cells #[.string x.path, .string x.name, .int .i64 x.kind, .int .i64 x.arg, .slice Ah x.hl.length ch] 68)) hW
            have h6 := blk_grown hb hg (own_ne_blk (HG.out W hW).own hb (by decide))
            exact ⟨by rw [Lib.cell_of_heap h6]; rfl, by rw [Lib.cell_of_heap h6]; rfl, by rw [Lib.cell_of_heap h6]; rfl, by rw [Lib.cell_of_heap h6]; rfl, by rw [Lib.cell_of_heap h6]; rfl⟩
          have HZ : Hid (∀ W, Below (wr.alloc (.cells #[.string x.path, .string x.name, .int .i64 x.kind, .int .i64 x.arg, .slice Ah x.hl.length ch] 68)).heap.size (wr.alloc (.cells #[.string x.path, .string x.name, .int .i64 x.kind, .int .i64 x.arg, .slice Ah x.hl.length ch] 68)) W → RdAm W (.slice Ah x.hl.length ch) x.hl) := fun W h => Hz.out.below (HG.out W h).base
          go_wp2
          go_region_held3 (fun W => W.cell? ⟨wr.heap.size, 0, none⟩ = some (.string x.path) ∧ W.cell? ⟨wr.heap.size, 1, none⟩ = some (.string x.name) ∧ W.cell? ⟨wr.heap.size, 2, none⟩ = some (.int .i64 x.kind) ∧ W.cell? ⟨wr.heap.size, 3, none⟩ = some (.int .i64 x.arg) ∧ W.cell? ⟨wr.heap.size, 4, none⟩ = some (.slice Ah x.hl.length ch))
            (first | exact HC.out _ HB1.out | exact HC.out _ HWc.out | exact HC.out _ HWd.out | exact H6c.out)
            (first
              | ((go_at_call 11); ((with_reducible refine (ror_calls x.path _).mono ?_)); (rintro e wa ⟨⟨_, rfl, ta, rfl, hta⟩, rfl⟩); (have Hta := Lib.hid hta); (have Hsa : Hid (ta.size = (orS x.path.data.toList).length) := (by show _ = _; rw [size_toList, hta])); (have zz1 : ¬ 9223372036854775807 < 6 + ta.size := (by have := Hhs.out; have := Hsa.out; omega)); (have zz2 : ¬ 9223372036854775807 < 6 + ta.size + 1 := (by have := Hhs.out; have := Hsa.out; omega)); (clear hta))
              | ((go_at_call 11); ((with_reducible refine (ror_calls x.name _).mono ?_)); (rintro e wb ⟨⟨_, rfl, tb, rfl, htb⟩, rfl⟩); (have Htb := Lib.hid htb); (have Hsb : Hid (tb.size = (orS x.name.data.toList).length) := (by show _ = _; rw [size_toList, htb])); (have zz3 : ¬ 9223372036854775807 < 6 + ta.size + 1 + tb.size := (by have := Hhs.out; have := Hsa.out; have := Hsb.out; omega)); (have zz4 : ¬ 9223372036854775807 < 6 + ta.size + 1 + tb.size + 1 := (by have := Hhs.out; have := Hsa.out; have := Hsb.out; omega)); (clear htb))
              | ((go_at_call 21); ((with_reducible refine (rscope_calls x.kind x.arg _).mono ?_)); (rintro e wc ⟨_, rfl, ⟨tc, rfl, htc⟩, hwc⟩); (have Htc := Lib.hid htc); (have Hsc : Hid (tc.size = (scopeS x.kind x.arg).length) := (by show _ = _; rw [size_toList, htc])); (have zz5 : ¬ 9223372036854775807 < 6 + ta.size + 1 + tb.size + 1 + tc.size := (by have := Hhs.out; have := Hsa.out; have := Hsb.out; have := Hsc.out; omega)); (clear htc); (have HWc := Lib.hid (HT2.out _ _ HB1.out hwc)); (clear hwc))
              | ((go_at_call 22); ((with_reducible refine (rpairs_calls _ x.hl _ (HZ.out _ HWc.out) Hal.out).mono ?_)); (rintro e wd ⟨_, rfl, ⟨td, rfl, htd⟩, hwd⟩); (have Htd := Lib.hid htd); (have Hsd : Hid (td.size = (amsS x.hl).length) := (by show _ = _; rw [size_toList, htd])); (have zz6 : ¬ 9223372036854775807 < 6 + ta.size + 1 + tb.size + 1 + tc.size + td.size := (by have := Hhs.out; have := Hsa.out; have := Hsb.out; have := Hsc.out; have := Hsd.out; omega)); (have zz7 : ¬ 9223372036854775807 < 6 + ta.size + 1 + tb.size + 1 + tc.size + td.size + 1 := (by have := Hhs.out; have := Hsa.out; have := Hsb.out; have := Hsc.out; have := Hsd.out; omega)); (clear htd); (have HWd := Lib.hid (HT2.out _ _ HWc.out hwd)); (clear hwd))
              | ((refine step_append2_string _ rfl (.tmp 51) (.tmp 70) 54 9 rfl 5 Tryd.underlying54 Tryd.underlying9 infoU8 _ _ _ rfl (HG.out _ HWd.out).own _ rfl ?hts ?_); (case hts => have := Hsz.out; have := Hxl.out; have := Hsa.out; have := Hsb.out; have := Hsc.out; have := Hsd.out; have e1 : (ByteArray.mk #[113, 117, 111, 116, 97, 32]).size = 6 := rfl; have e2 : (ByteArray.mk #[32]).size = 1 := rfl; have e3 : (ByteArray.mk #[10]).size = 1 := rfl; simp only [ByteArray.size_append]; omega); (intro v8 w8 ho8 hg8 hn8); (have H6 := Lib.hid ((HG.out _ HWd.out).snoc ho8 hg8 hn8)); (have H6c := Lib.hid (HC6.out _ _ HWd.out hg8)); (clear ho8 hg8 hn8)))
          have H8 : Hid (RB (w.alloc (.cells #[.int .i64 ver, .slice An ndl.length cn, .slice (some ⟨b, off, none⟩) qul.length cq, .slice Al lil.length cl, .slice Ao obl.length co, .slice Ab bil.length cb, .slice Au usl.length cu] 40)) w8 v8 (TT ++ Qu.txt x)) := by
            have h := H6.out
            simp [Hta.out, Htb.out, Htc.out, Htd.out] at h
            show RB _ _ _ _
            simpa [Qu.txt] using h
          clear HC HB1 HB0 HG HW HT2 HC6
          clear HZ H6 H6c
          have Hn : Hid (RLoop Qu.txt (w.alloc (.cells #[.int .i64 ver, .slice An ndl.length cn, .slice (some ⟨b, off, none⟩) qul.length cq, .slice Al lil.length cl, .slice Ao obl.length co, .slice Ab bil.length cb, .slice Au usl.length cu] 40)) T1 qul v8 (.int .i64 ((i : Int) + 1)) w8) := by
            refine ⟨i + 1, hlt, rfl, ?_⟩
            rw [HT.out, ← List.append_assoc, ← HTT.out]
            exact H8.out
          go_wp2
          go_roundw
          case rel => exact Hn.out
          case measure => simp [intOf]; omega
        · obtain rfl : i = qul.length := by omega
          have hd := dF hlt
          rw [List.take_length] at hTT
          have hee : T2 = TT := HT2x.out.trans hTT.symm
          clear HTT hTT
          subst hee
          have HX := Lib.hid hO
          clear HO hlt hO
          have hn3 : lil.length ≤ 1099511627776 := count_le Li.txt li_pos HL3.out
          have Hst : Hid (RLoop Li.txt (w.alloc (.cells #[.int .i64 ver, .slice An ndl.length cn, .slice Aq qul.length cq, .slice Al lil.length cl, .slice Ao obl.length co, .slice Ab bil.length cb, .slice Au usl.length cu] 40)) T2 lil (.slice A3 T2.length c3) (.int .i64 0) wr) := ⟨0, Nat.zero_le _, rfl, by simpa using HX.out⟩
          go_wp2
          go_loopw [3, 7] (fun v3 v w1 => RLoop Li.txt (w.alloc (.cells #[.int .i64 ver, .slice An ndl.length cn, .slice Aq qul.length cq, .slice Al lil.length cl, .slice Ao obl.length co, .slice Ab bil.length cb, .slice Au usl.length cu] 40)) T2 lil v3 v w1) (fun _ i _ => lil.length - (intOf i).toNat)
          case atStart => exact Hst.out
          case round =>
            clear Hst HX
            obtain ⟨i, hi, rfl, hO⟩ := hrel
            obtain ⟨TT, hTT⟩ : ∃ TT, TT = T2 ++ (lil.take i).flatMap Li.txt := ⟨_, rfl⟩
            rw [← hTT] at hO
            obtain ⟨A3, c3, rfl⟩ := hO.slice
            have HO := Lib.hid hO
            have HTT := Lib.hid hTT
            have k3_wr : wr.cell? ⟨w.heap.size, 3, none⟩ = some (.slice Al lil.length cl) := by rw [Lib.cell_of_heap hO.box]; rfl
            by_cases hlt : i < lil.length
            · have hd := dT hlt
              obtain ⟨b, off, c', hv, hc', hb, hc0, hc1, hc2⟩ := Li.at (Hr.out.li.below hO.base) i hlt
              cases hv
              have HT : Hid ((lil.take (i + 1)).flatMap Li.txt = (lil.take i).flatMap Li.txt ++ Li.txt lil[i]) := take_snoc Li.txt hlt
              have hsz : TT.length + (Li.txt lil[i]).length ≤ 1099511627776 := by rw [hTT]; exact part_len Li.txt HL3.out hlt
              have hz := Hr.out.li.2 _ (List.getElem_mem hlt)
              generalize lil[i] = x at hc0 hc1 hc2 HT hsz hz
              have Hsz := Lib.hid hsz
              have hi0 : (0 : Int) ≤ i := by omega
              clear hO hsz hTT
              obtain ⟨wq, hwq⟩ : ∃ x, x = wr := ⟨_, rfl⟩
              subst hwq
              obtain ⟨Ah, ch, hhv⟩ := hz.1.slice
              have Hhv := Lib.hid hhv
              rw [hhv] at hc2
              have Hz : Hid (RdRu w (.slice Ah x.rl.length ch) x.rl) := by show RdRu _ _ _; rw [← hhv]; exact hz
              clear hz hhv
              have Hxl : Hid (x.head.length = 6 + (orS x.path.data.toList).length + 1 + (orS x.name.data.toList).length) := by
                show _ = _
                simp only [Li.head, List.length_append, List.length_cons, List.length_nil]; omega
              have Hxt : Hid (x.txt.length = x.head.length + (x.rl.flatMap Ru.txt).length + 1) := by
                show _ = _
                simp only [Li.txt, rusS, List.length_append, List.length_cons, List.length_nil]; omega
              have Hhs : Hid (6 + (orS x.path.data.toList).length + 1 + (orS x.name.data.toList).length ≤ 1099511627776) := by show _ ≤ _; have := Hsz.out; rw [Hxt.out, Hxl.out] at this; omega
              have hrn : x.rl.length ≤ 1099511627776 := by
                have h1 := flat_count Ru.txt ru_pos x.rl
                have h2 := Hsz.out
                rw [Hxt.out] at h2; omega
              have HC : Hid (∀ W, Below (wq.alloc (.cells #[.string x.path, .string x.name, .slice Ah x.rl.length ch] 73)).heap.size (wq.alloc (.cells #[.string x.path, .string x.name, .slice Ah x.rl.length ch] 73)) W → W.cell? ⟨wq.heap.size, 0, none⟩ = some (.string x.path) ∧ W.cell? ⟨wq.heap.size, 1, none⟩ = some (.string x.name) ∧ W.cell? ⟨wq.heap.size, 2, none⟩ = some (.slice Ah x.rl.length ch)) := by
                intro W hW
                have hb := blk_below (blk_new wq (.cells #[.string x.path, .string x.name, .slice Ah x.rl.length ch] 73)) hW
                exact ⟨by rw [Lib.cell_of_heap hb]; rfl, by rw [Lib.cell_of_heap hb]; rfl, by rw [Lib.cell_of_heap hb]; rfl⟩
              have HB1 : Hid (Below (wq.alloc (.cells #[.string x.path, .string x.name, .slice Ah x.rl.length ch] 73)).heap.size (wq.alloc (.cells #[.string x.path, .string x.name, .slice Ah x.rl.length ch] 73)) (wq.alloc (.cells #[.string x.path, .string x.name, .slice Ah x.rl.length ch] 73)).drew) := drewB (Below.refl _ _) 1
              have HB0 : Hid (Below (wq.alloc (.cells #[.string x.path, .string x.name, .slice Ah x.rl.length ch] 73)).heap.size (wq.alloc (.cells #[.string x.path, .string x.name, .slice Ah x.rl.length ch] 73)) (wq.alloc (.cells #[.string x.path, .string x.name, .slice Ah x.rl.length ch] 73))) := Below.refl _ _
              have HG := Lib.hid (fun (W : World) (h : Below (wq.alloc (.cells #[.string x.path, .string x.name, .slice Ah x.rl.length ch] 73)).heap.size (wq.alloc (.cells #[.string x.path, .string x.name, .slice Ah x.rl.length ch] 73)) W) => (HO.out.below ((Below.refl _ _).alloc (Nat.le_refl _) (.cells #[.string x.path, .string x.name, .slice Ah x.rl.length ch] 73))).below h)
              have HW : Hid (∀ W, Below (wq.alloc (.cells #[.string x.path, .string x.name, .slice Ah x.rl.length ch] 73)).heap.size (wq.alloc (.cells #[.string x.path, .string x.name, .slice Ah x.rl.length ch] 73)) W → PowTab W) := fun W h => Htab.out.below (HG.out W h).base
              have HT2 : Hid (∀ W W', Below (wq.alloc (.cells #[.string x.path, .string x.name, .slice Ah x.rl.length ch] 73)).heap.size (wq.alloc (.cells #[.string x.path, .string x.name, .slice Ah x.rl.length ch] 73)) W → Below W.heap.size W W' → Below (wq.alloc (.cells #[.string x.path, .string x.name, .slice Ah x.rl.length ch] 73)).heap.size (wq.alloc (.cells #[.string x.path, .string x.name, .slice Ah x.rl.length ch] 73)) W') := fun W W' h1 h2 => h1.trans (h2.mono h1.size)
              have HC6 : Hid (∀ W W6, Below (wq.alloc (.cells #[.string x.path, .string x.name, .slice Ah x.rl.length ch] 73)).heap.size (wq.alloc (.cells #[.string x.path, .string x.name, .slice Ah x.rl.length ch] 73)) W → W.grownBy W6 (Value.slice A3 TT.length c3).ownBlock → W6.cell? ⟨wq.heap.size, 0, none⟩ = some (.string x.path) ∧ W6.cell? ⟨wq.heap.size, 1, none⟩ = some (.string x.name) ∧ W6.cell? ⟨wq.heap.size, 2, none⟩ = some (.slice Ah x.rl.length ch)) := by
                intro W W6 hW hg
                have hb := blk_below (blk_new wq (.cells #[.string x.path, .string x.name, .slice Ah x.rl.length ch] 73)) hW
                have h6 := blk_grown hb hg (own_ne_blk (HG.out W hW).own hb (by decide))
                exact ⟨by rw [Lib.cell_of_heap h6]; rfl, by rw [Lib.cell_of_heap h6]; rfl, by rw [Lib.cell_of_heap h6]; rfl⟩
              have HZ : Hid (∀ W, Below (wq.alloc (.cells #[.string x.path, .string x.name, .slice Ah x.rl.length ch] 73)).heap.size (wq.alloc (.cells #[.string x.path, .string x.name, .slice Ah x.rl.length ch] 73)) W → RdRu W (.slice Ah x.rl.length ch) x.rl) := fun W h => Hz.out.below (HG.out W h).base
              go_wp2
              go_region_held3 (fun W => W.cell? ⟨wq.heap.size, 0, none⟩ = some (.string x.path) ∧ W.cell? ⟨wq.heap.size, 1, none⟩ = some (.string x.name) ∧ W.cell? ⟨wq.heap.size, 2, none⟩ = some (.slice Ah x.rl.length ch))
                (first | exact HC.out _ HB1.out)
                (first
                  | ((go_at_call 11); ((with_reducible refine (ror_calls x.path _).mono ?_)); (rintro e wa ⟨⟨_, rfl, ta, rfl, hta⟩, rfl⟩); (have Hta := Lib.hid hta); (have Hsa : Hid (ta.size = (orS x.path.data.toList).length) := (by show _ = _; rw [size_toList, hta])); (have zz1 : ¬ 9223372036854775807 < 6 + ta.size := (by have := Hhs.out; have := Hsa.out; omega)); (have zz2 : ¬ 9223372036854775807 < 6 + ta.size + 1 := (by have := Hhs.out; have := Hsa.out; omega)); (clear hta))
                  | ((go_at_call 11); ((with_reducible refine (ror_calls x.name _).mono ?_)); (rintro e wb ⟨⟨_, rfl, tb, rfl, htb⟩, rfl⟩); (have Htb := Lib.hid htb); (have Hsb : Hid (tb.size = (orS x.name.data.toList).length) := (by show _ = _; rw [size_toList, htb])); (have zz3 : ¬ 9223372036854775807 < 6 + ta.size + 1 + tb.size := (by have := Hhs.out; have := Hsa.out; have := Hsb.out; omega)); (clear htb)))
              have Hs2 : Hid (RN (wq.alloc (.cells #[.string x.path, .string x.name, .slice Ah x.rl.length ch] 73)) x (.string (ByteArray.mk #[108, 105, 109, 105, 116, 32] ++ ta ++ ByteArray.mk #[32] ++ tb)) (.int .i64 0) (wq.alloc (.cells #[.string x.path, .string x.name, .slice Ah x.rl.length ch] 73)).drew) := by
                refine ⟨0, _, Nat.zero_le _, rfl, rfl, ?_, HB1.out⟩
                simp [Li.head, Hta.out, Htb.out]
              go_wp2
              go_loopw [9, 10] (fun v9 v10 w1 => RN (wq.alloc (.cells #[.string x.path, .string x.name, .slice Ah x.rl.length ch] 73)) x v9 v10 w1) (fun _ i _ => x.rl.length - (intOf i).toNat)
              case atStart => exact Hs2.out
              case round =>
                clear Hs2
                obtain ⟨j, s, hj, rfl, rfl, hs, hB⟩ := hrel
                have hq2 := (HC.out _ hB).2.2
                have Hs := Lib.hid hs
                have HB := Lib.hid hB
                by_cases hlt2 : j < x.rl.length
                · have hd2 := dT hlt2
                  obtain ⟨b2, off2, c2, hv2, hc2', hb2, e0, e1, e2, e3, e4, e5⟩ := Ru.at (HZ.out _ hB) j hlt2
                  cases hv2
                  have hyk := Hz.out.2 _ (List.getElem_mem hlt2)
                  have HTr : Hid ((x.rl.take (j + 1)).flatMap Ru.txt = (x.rl.take j).flatMap Ru.txt ++ Ru.txt x.rl[j]) := take_snoc Ru.txt hlt2
                  have hszr : s.size + (Ru.txt x.rl[j]).length ≤ 1099511627776 := by
                    have h1 := take_len_le Ru.txt hlt2
                    have h2 := Hsz.out
                    rw [Hxt.out] at h2
                    rw [size_toList, hs, List.length_append]; omega
                  generalize x.rl[j] = y at e0 e1 e2 e3 e4 e5 hyk HTr hszr
                  have hyr : y.res.size ≤ 1099511627776 := by
                    have h1 : y.res.size ≤ (orS y.res.data.toList).length := by rw [size_toList]; unfold orS; split <;> simp_all
                    have h2 := hszr
                    simp only [Ru.txt, Ru.head, List.length_append] at h2; omega
                  have Hszr := Lib.hid hszr
                  have Hyk := Lib.hid hyk
                  have Hyr := Lib.hid hyr
                  have hj0 : (0 : Int) ≤ j := by omega
                  clear hs hB hszr hyk hyr
                  go_wp2_with fail
                  refine (rrule_calls y _ Hyk.out Hyr.out).mono ?_
                  rintro e w10 ⟨_, rfl, ⟨tr, rfl, htr⟩, h10⟩
                  have H10 := Lib.hid (HT2.out _ _ HB.out h10)
                  have Htr := Lib.hid htr
                  have zr : ¬ 9223372036854775807 < s.size + tr.size := by have h1 : tr.size = y.txt.length := (by rw [size_toList, htr]); have := Hszr.out; omega
                  clear h10 htr
                  have Hn : Hid (RN (wq.alloc (.cells #[.string x.path, .string x.name, .slice (some ⟨b2, off2, none⟩) x.rl.length ch] 73)) x (.string (s ++ tr)) (.int .i64 ((j : Int) + 1)) w10) := by
                    refine ⟨j + 1, _, hlt2, rfl, rfl, ?_, H10.out⟩
                    rw [HTr.out, ← List.append_assoc, ← Hs.out, ← Htr.out]
                    simp
                  go_wp2
                  go_roundw
                  case rel => exact Hn.out
                  case measure => simp [intOf]; omega
                · obtain rfl : j = x.rl.length := by omega
                  have hd2 := dF hlt2
                  rw [List.take_length] at hs
                  have Hs3 := Lib.hid hs
                  have hsz3 : s.size = x.head.length + (x.rl.flatMap Ru.txt).length := by rw [size_toList, hs, List.length_append]
                  have zs : ¬ 9223372036854775807 < s.size + 1 := by have := Hsz.out; have := Hxt.out; omega
                  have Hts : Hid (TT.length + (s ++ ByteArray.mk #[10]).size ≤ 140737488355328) := by
                    have e3 : (ByteArray.mk #[10]).size = 1 := rfl
                    have := Hsz.out; have := Hxt.out
                    show _ ≤ _
                    simp only [ByteArray.size_append]; omega
                  have HGr := Lib.hid (HG.out _ hB)
                  clear hlt2 hs hB hsz3 Hs
                  go_wp2_with (at_builtin; refine wpList_append2_string _ rfl (.tmp 108) (.tmp 110) 54 9 rfl 5 Tryd.underlying54 Tryd.underlying9 infoU8 _ _ _ rfl HGr.out.own _ rfl Hts.out ?_)
                  intro v8 w8 ho8 hg8 hn8
                  have H8 : Hid (RB (w.alloc (.cells #[.int .i64 ver, .slice An ndl.length cn, .slice Aq qul.length cq, .slice (some ⟨b, off, none⟩) lil.length cl, .slice Ao obl.length co, .slice Ab bil.length cb, .slice Au usl.length cu] 40)) w8 v8 (TT ++ Li.txt x)) := by
                    have h := HGr.out.snocL ho8 (by simp only [List.length_cons, List.length_append, List.length_nil, ← size_toList]) hg8 hn8
                    simp [Hs3.out] at h
                    show RB _ _ _ _
                    simpa [Li.txt, rusS] using h
                  clear ho8 hg8 hn8
                  clear HC HB1 HB0 HG HW HT2 HC6
                  clear HZ HB HGr
                  have Hn : Hid (RLoop Li.txt (w.alloc (.cells #[.int .i64 ver, .slice An ndl.length cn, .slice Aq qul.length cq, .slice (some ⟨b, off, none⟩) lil.length cl, .slice Ao obl.length co, .slice Ab bil.length cb, .slice Au usl.length cu] 40)) T2 lil v8 (.int .i64 ((i : Int) + 1)) w8) := by
                    refine ⟨i + 1, hlt, rfl, ?_⟩
                    rw [HT.out, ← List.append_assoc, ← HTT.out]
                    exact H8.out
                  go_wp2
                  go_roundw
                  case rel => exact Hn.out
                  case measure => simp [intOf]; omega
            · obtain rfl : i = lil.length := by omega
              have hd := dF hlt
              rw [List.take_length] at hTT
              have hee : T3 = TT := HT3.out.trans hTT.symm
              clear HTT hTT
              subst hee
              have HX := Lib.hid hO
              clear HO hlt hO
              have k4_wr : wr.cell? ⟨w.heap.size, 4, none⟩ = some (.slice Ao obl.length co) := by rw [Lib.cell_of_heap HX.out.box]; rfl
              have Hol : Hid ((obsS obl).length ≤ 1099511627776) := by show _ ≤ _; have h := HL4.out; rw [List.length_append] at h; omega
              go_wp2_with fail
              refine (robjects_calls _ obl _ (Hr.out.ob.below HX.out.base) Hol.out (Htab.out.below HX.out.base)).mono ?_
              rintro e wo ⟨_, rfl, ⟨tq, rfl, hto⟩, hwo⟩
              have HXo := Lib.hid (HX.out.below hwo)
              have Hto := Lib.hid hto
              have Hts : Hid (T3.length + tq.size ≤ 140737488355328) := by show _ ≤ _; have h := HL4.out; rw [List.length_append, ← hto, ← size_toList] at h; omega
              clear hto hwo HX k4_wr
              go_wp2_with (at_builtin; refine wpList_append2_string _ rfl (.tmp 112) (.tmp 115) 54 9 rfl 5 Tryd.underlying54 Tryd.underlying9 infoU8 _ _ _ rfl HXo.out.own _ rfl Hts.out ?_)
              intro v5 w5 ho5 hg5 hn5
              have H5 : Hid (RB (w.alloc (.cells #[.int .i64 ver, .slice An ndl.length cn, .slice Aq qul.length cq, .slice Al lil.length cl, .slice Ao obl.length co, .slice Ab bil.length cb, .slice Au usl.length cu] 40)) w5 v5 T4) := by
                have h := HXo.out.snoc ho5 hg5 hn5
                rw [Hto.out, ← HT4.out] at h
                exact h
              clear ho5 hg5 hn5 HXo
              have hn5 : bil.length ≤ 1099511627776 := count_le Bi.txt bi_pos HL5.out
              have Hst : Hid (RLoop Bi.txt (w.alloc (.cells #[.int .i64 ver, .slice An ndl.length cn, .slice Aq qul.length cq, .slice Al lil.length cl, .slice Ao obl.length co, .slice Ab bil.length cb, .slice Au usl.length cu] 40)) T4 bil (v5) (.int .i64 0) w5) := ⟨0, Nat.zero_le _, rfl, by simpa using H5.out⟩
              go_wp2
              go_loopw [3, 11] (fun v3 v w1 => RLoop Bi.txt (w.alloc (.cells #[.int .i64 ver, .slice An ndl.length cn, .slice Aq qul.length cq, .slice Al lil.length cl, .slice Ao obl.length co, .slice Ab bil.length cb, .slice Au usl.length cu] 40)) T4 bil v3 v w1) (fun _ i _ => bil.length - (intOf i).toNat)
              case atStart => exact Hst.out
              case round =>
                clear Hst H5
                obtain ⟨i, hi, rfl, hO⟩ := hrel
                obtain ⟨TT, hTT⟩ : ∃ TT, TT = T4 ++ (bil.take i).flatMap Bi.txt := ⟨_, rfl⟩
                rw [← hTT] at hO
                obtain ⟨A3, c3, rfl⟩ := hO.slice
                have HO := Lib.hid hO
                have HTT := Lib.hid hTT
                have k5_wr : wr.cell? ⟨w.heap.size, 5, none⟩ = some (.slice Ab bil.length cb) := by rw [Lib.cell_of_heap hO.box]; rfl
                by_cases hlt : i < bil.length
                · have hd := dT hlt
                  obtain ⟨b, off, c', hv, hc', hb, hc0, hc1, hc2, hc3⟩ := Bi.at (Hr.out.bi.below hO.base) i hlt
                  cases hv
                  have HT : Hid ((bil.take (i + 1)).flatMap Bi.txt = (bil.take i).flatMap Bi.txt ++ Bi.txt bil[i]) := take_snoc Bi.txt hlt
                  have hsz : TT.length + (Bi.txt bil[i]).length ≤ 1099511627776 := by rw [hTT]; exact part_len Bi.txt HL5.out hlt
                  have hz := Hr.out.bi.2 _ (List.getElem_mem hlt)
                  generalize bil[i] = x at hc0 hc1 hc2 hc3 HT hsz hz
                  have Hsz := Lib.hid hsz
                  have hi0 : (0 : Int) ≤ i := by omega
                  clear hO hsz hTT
                  have Hz := Lib.hid hz
                  clear hz
                  have Hv : Hid (orS (wordB (verbS x.verb)).data.toList = verbS x.verb) := if_neg (verbS_ne x.verb).1
                  have Hxl : Hid (x.txt.length = 5 + (orS x.path.data.toList).length + 1 + (orS x.name.data.toList).length + 1 + (orS x.subj.data.toList).length + 1 + (verbS x.verb).length + 1) := by
                    show _ = _
                    simp only [Bi.txt, Bi.parts, tellS, partsS, List.flatMap_cons, List.flatMap_nil, List.length_append, List.length_cons, List.length_nil, Pt.txt, Hv.out]; omega
                  have Hhs : Hid (5 + (orS x.path.data.toList).length + 1 + (orS x.name.data.toList).length + 1 + (orS x.subj.data.toList).length + 1 + (verbS x.verb).length + 1 ≤ 1099511627776) := by show _ ≤ _; have := Hsz.out; rw [Hxl.out] at this; omega
                  have HC : Hid (∀ W, Below (wr.alloc (.cells #[.string x.path, .string x.name, .string x.subj, .int .i64 x.verb] 78)).heap.size (wr.alloc (.cells #[.string x.path, .string x.name, .string x.subj, .int .i64 x.verb] 78)) W → W.cell? ⟨wr.heap.size, 0, none⟩ = some (.string x.path) ∧ W.cell? ⟨wr.heap.size, 1, none⟩ = some (.string x.name) ∧ W.cell? ⟨wr.heap.size, 2, none⟩ = some (.string x.subj) ∧ W.cell? ⟨wr.heap.size, 3, none⟩ = some (.int .i64 x.verb)) := by
                    intro W hW
                    have hb := blk_below (blk_new wr (.cells #[.string x.path, .string x.name, .string x.subj, .int .i64 x.verb] 78)) hW
                    exact ⟨by rw [Lib.cell_of_heap hb]; rfl, by rw [Lib.cell_of_heap hb]; rfl, by rw [Lib.cell_of_heap hb]; rfl, by rw [Lib.cell_of_heap hb]; rfl⟩
                  have HB1 : Hid (Below (wr.alloc (.cells #[.string x.path, .string x.name, .string x.subj, .int .i64 x.verb] 78)).heap.size (wr.alloc (.cells #[.string x.path, .string x.name, .string x.subj, .int .i64 x.verb] 78)) (wr.alloc (.cells #[.string x.path, .string x.name, .string x.subj, .int .i64 x.verb] 78)).drew) := drewB (Below.refl _ _) 1
                  have HB0 : Hid (Below (wr.alloc (.cells #[.string x.path, .string x.name, .string x.subj, .int .i64 x.verb] 78)).heap.size (wr.alloc (.cells #[.string x.path, .string x.name, .string x.subj, .int .i64 x.verb] 78)) (wr.alloc (.cells #[.string x.path, .string x.name, .string x.subj, .int .i64 x.verb] 78))) := Below.refl _ _
                  have HG := Lib.hid (fun (W : World) (h : Below (wr.alloc (.cells #[.string x.path, .string x.name, .string x.subj, .int .i64 x.verb] 78)).heap.size (wr.alloc (.cells #[.string x.path, .string x.name, .string x.subj, .int .i64 x.verb] 78)) W) => (HO.out.below ((Below.refl _ _).alloc (Nat.le_refl _) (.cells #[.string x.path, .string x.name, .string x.subj, .int .i64 x.verb] 78))).below h)
                  have HW : Hid (∀ W, Below (wr.alloc (.cells #[.string x.path, .string x.name, .string x.subj, .int .i64 x.verb] 78)).heap.size (wr.alloc (.cells #[.string x.path, .string x.name, .string x.subj, .int .i64 x.verb] 78)) W → PowTab W) := fun W h => Htab.out.below (HG.out W h).base
                  have HT2 : Hid (∀ W W', Below (wr.alloc (.cells #[.string x.path, .string x.name, .string x.subj, .int .i64 x.verb] 78)).heap.size (wr.alloc (.cells #[.string x.path, .string x.name, .string x.subj, .int .i64 x.verb] 78)) W → Below W.heap.size W W' → Below (wr.alloc (.cells #[.string x.path, .string x.name, .string x.subj, .int .i64 x.verb] 78)).heap.size (wr.alloc (.cells #[.string x.path, .string x.name, .string x.subj, .int .i64 x.verb] 78)) W') := fun W W' h1 h2 => h1.trans (h2.mono h1.size)
                  have HC6 : Hid (∀ W W6, Below (wr.alloc (.cells #[.string x.path, .string x.name, .string x.subj, .int .i64 x.verb] 78)).heap.size (wr.alloc (.cells #[.string x.path, .string x.name, .string x.subj, .int .i64 x.verb] 78)) W → W.grownBy W6 (Value.slice A3 TT.length c3).ownBlock → W6.cell? ⟨wr.heap.size, 0, none⟩ = some (.string x.path) ∧ W6.cell? ⟨wr.heap.size, 1, none⟩ = some (.string x.name) ∧ W6.cell? ⟨wr.heap.size, 2, none⟩ = some (.string x.subj) ∧ W6.cell? ⟨wr.heap.size, 3, none⟩ = some (.int .i64 x.verb)) := by
                    intro W W6 hW hg
                    have hb := blk_below (blk_new wr (.cells #[.string x.path, .string x.name, .string x.subj, .int .i64 x.verb] 78)) hW
                    have h6 := blk_grown hb hg (own_ne_blk (HG.out W hW).own hb (by decide))
                    exact ⟨by rw [Lib.cell_of_heap h6]; rfl, by rw [Lib.cell_of_heap h6]; rfl, by rw [Lib.cell_of_heap h6]; rfl, by rw [Lib.cell_of_heap h6]; rfl⟩
                  go_wp2
                  go_region_held3 (fun W => W.cell? ⟨wr.heap.size, 0, none⟩ = some (.string x.path) ∧ W.cell? ⟨wr.heap.size, 1, none⟩ = some (.string x.name) ∧ W.cell? ⟨wr.heap.size, 2, none⟩ = some (.string x.subj) ∧ W.cell? ⟨wr.heap.size, 3, none⟩ = some (.int .i64 x.verb))
                    (first | exact HC.out _ HB1.out | exact H6c.out)
                    (first
                      | ((go_at_call 11); ((with_reducible refine (ror_calls x.path _).mono ?_)); (rintro e wa ⟨⟨_, rfl, ta, rfl, hta⟩, rfl⟩); (have Hta := Lib.hid hta); (have Hsa : Hid (ta.size = (orS x.path.data.toList).length) := (by show _ = _; rw [size_toList, hta])); (have zz1 : ¬ 9223372036854775807 < 5 + ta.size := (by have := Hhs.out; have := Hsa.out; omega)); (have zz2 : ¬ 9223372036854775807 < 5 + ta.size + 1 := (by have := Hhs.out; have := Hsa.out; omega)); (clear hta))
                      | ((go_at_call 11); ((with_reducible refine (ror_calls x.name _).mono ?_)); (rintro e wb ⟨⟨_, rfl, tb, rfl, htb⟩, rfl⟩); (have Htb := Lib.hid htb); (have Hsb : Hid (tb.size = (orS x.name.data.toList).length) := (by show _ = _; rw [size_toList, htb])); (have zz3 : ¬ 9223372036854775807 < 5 + ta.size + 1 + tb.size := (by have := Hhs.out; have := Hsa.out; have := Hsb.out; omega)); (have zz4 : ¬ 9223372036854775807 < 5 + ta.size + 1 + tb.size + 1 := (by have := Hhs.out; have := Hsa.out; have := Hsb.out; omega)); (clear htb))
                      | ((go_at_call 11); ((with_reducible refine (ror_calls x.subj _).mono ?_)); (rintro e wc ⟨⟨_, rfl, tc, rfl, htc⟩, rfl⟩); (have Htc := Lib.hid htc); (have Hsc : Hid (tc.size = (orS x.subj.data.toList).length) := (by show _ = _; rw [size_toList, htc])); (have zz5 : ¬ 9223372036854775807 < 5 + ta.size + 1 + tb.size + 1 + tc.size := (by have := Hhs.out; have := Hsa.out; have := Hsb.out; have := Hsc.out; omega)); (have zz6 : ¬ 9223372036854775807 < 5 + ta.size + 1 + tb.size + 1 + tc.size + 1 := (by have := Hhs.out; have := Hsa.out; have := Hsb.out; have := Hsc.out; omega)); (clear htc))
                      | ((go_at_call 24); ((with_reducible refine (rverb_calls x.verb _).mono ?_)); (rintro e wd ⟨⟨_, rfl, td, rfl, htd⟩, rfl⟩); (have Htd := Lib.hid htd); (have Hsd : Hid (td.size = (verbS x.verb).length) := (by show _ = _; rw [size_toList, htd])); (have zz7 : ¬ 9223372036854775807 < 5 + ta.size + 1 + tb.size + 1 + tc.size + 1 + td.size := (by have := Hhs.out; have := Hsa.out; have := Hsb.out; have := Hsc.out; have := Hsd.out; omega)); (have zz8 : ¬ 9223372036854775807 < 5 + ta.size + 1 + tb.size + 1 + tc.size + 1 + td.size + 1 := (by have := Hhs.out; have := Hsa.out; have := Hsb.out; have := Hsc.out; have := Hsd.out; omega)); (clear htd))
                      | ((refine step_append2_string _ rfl (.tmp 129) (.tmp 149) 54 9 rfl 5 Tryd.underlying54 Tryd.underlying9 infoU8 _ _ _ rfl (HG.out _ HB1.out).own _ rfl ?hts ?_); (case hts => have := Hsz.out; have := Hxl.out; have := Hsa.out; have := Hsb.out; have := Hsc.out; have := Hsd.out; have e1 : (ByteArray.mk #[98, 105, 110, 100, 32]).size = 5 := rfl; have e2 : (ByteArray.mk #[32]).size = 1 := rfl; have e3 : (ByteArray.mk #[10]).size = 1 := rfl; simp only [ByteArray.size_append]; omega); (intro v8 w8 ho8 hg8 hn8); (have H6 := Lib.hid ((HG.out _ HB1.out).snoc ho8 hg8 hn8)); (have H6c := Lib.hid (HC6.out _ _ HB1.out hg8)); (clear ho8 hg8 hn8)))
                  have H8 : Hid (RB (w.alloc (.cells #[.int .i64 ver, .slice An ndl.length cn, .slice Aq qul.length cq, .slice Al lil.length cl, .slice Ao obl.length co, .slice (some ⟨b, off, none⟩) bil.length cb, .slice Au usl.length cu] 40)) w8 v8 (TT ++ Bi.txt x)) := by
                    have h := H6.out
                    simp [Hta.out, Htb.out, Htc.out, Htd.out] at h
                    show RB _ _ _ _
                    simpa [Bi.txt, Bi.parts, tellS, partsS, Pt.txt, Hv.out] using h
                  clear HC HB1 HB0 HG HW HT2 HC6
                  clear H6 H6c
                  have Hn : Hid (RLoop Bi.txt (w.alloc (.cells #[.int .i64 ver, .slice An ndl.length cn, .slice Aq qul.length cq, .slice Al lil.length cl, .slice Ao obl.length co, .slice (some ⟨b, off, none⟩) bil.length cb, .slice Au usl.length cu] 40)) T4 bil v8 (.int .i64 ((i : Int) + 1)) w8) := by
                    refine ⟨i + 1, hlt, rfl, ?_⟩
                    rw [HT.out, ← List.append_assoc, ← HTT.out]
                    exact H8.out
                  go_wp2
                  go_roundw
                  case rel => exact Hn.out
                  case measure => simp [intOf]; omega
                · obtain rfl : i = bil.length := by omega
                  have hd := dF hlt
                  rw [List.take_length] at hTT
                  have hee : T5 = TT := HT5.out.trans hTT.symm
                  clear HTT hTT
                  subst hee
                  have HX := Lib.hid hO
                  clear HO hlt hO
                  have hn6 : usl.length ≤ 1099511627776 := count_le Us.txt us_pos HL6.out
                  have Hst : Hid (RLoop Us.txt (w.alloc (.cells #[.int .i64 ver, .slice An ndl.length cn, .slice Aq qul.length cq, .slice Al lil.length cl, .slice Ao obl.length co, .slice Ab bil.length cb, .slice Au usl.length cu] 40)) T5 usl (.slice A3 T5.length c3) (.int .i64 0) wr) := ⟨0, Nat.zero_le _, rfl, by simpa using HX.out⟩
                  go_wp2
                  go_loopw [3, 13] (fun v3 v w1 => RLoop Us.txt (w.alloc (.cells #[.int .i64 ver, .slice An ndl.length cn, .slice Aq qul.length cq, .slice Al lil.length cl, .slice Ao obl.length co, .slice Ab bil.length cb, .slice Au usl.length cu] 40)) T5 usl v3 v w1) (fun _ i _ => usl.length - (intOf i).toNat)
                  case atStart => exact Hst.out
                  case round =>
                    clear Hst HX
                    obtain ⟨i, hi, rfl, hO⟩ := hrel
                    obtain ⟨TT, hTT⟩ : ∃ TT, TT = T5 ++ (usl.take i).flatMap Us.txt := ⟨_, rfl⟩
                    rw [← hTT] at hO
                    obtain ⟨A3, c3, rfl⟩ := hO.slice
                    have HO := Lib.hid hO
                    have HTT := Lib.hid hTT
                    have k6_wr : wr.cell? ⟨w.heap.size, 6, none⟩ = some (.slice Au usl.length cu) := by rw [Lib.cell_of_heap hO.box]; rfl
                    by_cases hlt : i < usl.length
                    · have hd := dT hlt
                      obtain ⟨b, off, c', hv, hc', hb, hc0, hc1, hc2, hc3, hc4⟩ := Us.at (Hr.out.us.below hO.base) i hlt
                      cases hv
                      have HT : Hid ((usl.take (i + 1)).flatMap Us.txt = (usl.take i).flatMap Us.txt ++ Us.txt usl[i]) := take_snoc Us.txt hlt
                      have hsz : TT.length + (Us.txt usl[i]).length ≤ 1099511627776 := by rw [hTT]; exact part_len Us.txt HL6.out hlt
                      have hz := Hr.out.us.2 _ (List.getElem_mem hlt)
                      generalize usl[i] = x at hc0 hc1 hc2 hc3 hc4 HT hsz hz
                      have Hsz := Lib.hid hsz
                      have hi0 : (0 : Int) ≤ i := by omega
                      clear hO hsz hTT
                      have Hz : Hid (in64 x.val) := hz.2.2
                      clear hz
                      have Hv : Hid (orS (wordB (scopeS x.kind x.arg)).data.toList = scopeS x.kind x.arg) := if_neg (scopeS_ne x.kind x.arg).1
                      have Hpz : Hid ((pzB x.val).data.toList = printedZ x.val) := rfl
                      have Hxl : Hid (x.txt.length = 4 + (orS x.path.data.toList).length + 1 + (scopeS x.kind x.arg).length + 1 + (orS x.res.data.toList).length + 1 + (orS (printedZ x.val)).length + 1) := by
                        show _ = _
                        simp only [Us.txt, Us.parts, tellS, partsS, List.flatMap_cons, List.flatMap_nil, List.length_append, List.length_cons, List.length_nil, Pt.txt, Hv.out, Hpz.out]; omega
                      have Hhs : Hid (4 + (orS x.path.data.toList).length + 1 + (scopeS x.kind x.arg).length + 1 + (orS x.res.data.toList).length + 1 + (orS (printedZ x.val)).length + 1 ≤ 1099511627776) := by show _ ≤ _; have := Hsz.out; rw [Hxl.out] at this; omega
                      have HC : Hid (∀ W, Below (wr.alloc (.cells #[.string x.path, .int .i64 x.kind, .int .i64 x.arg, .string x.res, .int .i64 x.val] 80)).heap.size (wr.alloc (.cells #[.string x.path, .int .i64 x.kind, .int .i64 x.arg, .string x.res, .int .i64 x.val] 80)) W → W.cell? ⟨wr.heap.size, 0, none⟩ = some (.string x.path) ∧ W.cell? ⟨wr.heap.size, 1, none⟩ = some (.int .i64 x.kind) ∧ W.cell? ⟨wr.heap.size, 2, none⟩ = some (.int .i64 x.arg) ∧ W.cell? ⟨wr.heap.size, 3, none⟩ = some (.string x.res) ∧ W.cell? ⟨wr.heap.size, 4, none⟩ = some (.int .i64 x.val)) := by
                        intro W hW
                        have hb := blk_below (blk_new wr (.cells #[.string x.path, .int .i64 x.kind, .int .i64 x.arg, .string x.res, .int .i64 x.val] 80)) hW
                        exact ⟨by rw [Lib.cell_of_heap hb]; rfl, by rw [Lib.cell_of_heap hb]; rfl, by rw [Lib.cell_of_heap hb]; rfl, by rw [Lib.cell_of_heap hb]; rfl, by rw [Lib.cell_of_heap hb]; rfl⟩
                      have HB1 : Hid (Below (wr.alloc (.cells #[.string x.path, .int .i64 x.kind, .int .i64 x.arg, .string x.res, .int .i64 x.val] 80)).heap.size (wr.alloc (.cells #[.string x.path, .int .i64 x.kind, .int .i64 x.arg, .string x.res, .int .i64 x.val] 80)) (wr.alloc (.cells #[.string x.path, .int .i64 x.kind, .int .i64 x.arg, .string x.res, .int .i64 x.val] 80)).drew) := drewB (Below.refl _ _) 1
                      have HB0 : Hid (Below (wr.alloc (.cells #[.string x.path, .int .i64 x.kind, .int .i64 x.arg, .string x.res, .int .i64 x.val] 80)).heap.size (wr.alloc (.cells #[.string x.path, .int .i64 x.kind, .int .i64 x.arg, .string x.res, .int .i64 x.val] 80)) (wr.alloc (.cells #[.string x.path, .int .i64 x.kind, .int .i64 x.arg, .string x.res, .int .i64 x.val] 80))) := Below.refl _ _
                      have HG := Lib.hid (fun (W : World) (h : Below (wr.alloc (.cells #[.string x.path, .int .i64 x.kind, .int .i64 x.arg, .string x.res, .int .i64 x.val] 80)).heap.size (wr.alloc (.cells #[.string x.path, .int .i64 x.kind, .int .i64 x.arg, .string x.res, .int .i64 x.val] 80)) W) => (HO.out.below ((Below.refl _ _).alloc (Nat.le_refl _) (.cells #[.string x.path, .int .i64 x.kind, .int .i64 x.arg, .string x.res, .int .i64 x.val] 80))).below h)
                      have HW : Hid (∀ W, Below (wr.alloc (.cells #[.string x.path, .int .i64 x.kind, .int .i64 x.arg, .string x.res, .int .i64 x.val] 80)).heap.size (wr.alloc (.cells #[.string x.path, .int .i64 x.kind, .int .i64 x.arg, .string x.res, .int .i64 x.val] 80)) W → PowTab W) := fun W h => Htab.out.below (HG.out W h).base
                      have HT2 : Hid (∀ W W', Below (wr.alloc (.cells #[.string x.path, .int .i64 x.kind, .int .i64 x.arg, .string x.res, .int .i64 x.val] 80)).heap.size (wr.alloc (.cells #[.string x.path, .int .i64 x.kind, .int .i64 x.arg, .string x.res, .int .i64 x.val] 80)) W → Below W.heap.size W W' → Below (wr.alloc (.cells #[.string x.path, .int .i64 x.kind, .int .i64 x.arg, .string x.res, .int .i64 x.val] 80)).heap.size (wr.alloc (.cells #[.string x.path, .int .i64 x.kind, .int .i64 x.arg, .string x.res, .int .i64 x.val] 80)) W') := fun W W' h1 h2 => h1.trans (h2.mono h1.size)
                      have HC6 : Hid (∀ W W6, Below (wr.alloc (.cells #[.string x.path, .int .i64 x.kind, .int .i64 x.arg, .string x.res, .int .i64 x.val] 80)).heap.size (wr.alloc (.cells #[.string x.path, .int .i64 x.kind, .int .i64 x.arg, .string x.res, .int .i64 x.val] 80)) W → W.grownBy W6 (Value.slice A3 TT.length c3).ownBlock → W6.cell? ⟨wr.heap.size, 0, none⟩ = some (.string x.path) ∧ W6.cell? ⟨wr.heap.size, 1, none⟩ = some (.int .i64 x.kind) ∧ W6.cell? ⟨wr.heap.size, 2, none⟩ = some (.int .i64 x.arg) ∧ W6.cell? ⟨wr.heap.size, 3, none⟩ = some (.string x.res) ∧ W6.cell? ⟨wr.heap.size, 4, none⟩ = some (.int .i64 x.val)) := by
                        intro W W6 hW hg
                        have hb := blk_below (blk_new wr (.cells #[.string x.path, .int .i64 x.kind, .int .i64 x.arg, .string x.res, .int .i64 x.val] 80)) hW
                        have h6 := blk_grown hb hg (own_ne_blk (HG.out W hW).own hb (by decide))
                        exact ⟨by rw [Lib.cell_of_heap h6]; rfl, by rw [Lib.cell_of_heap h6]; rfl, by rw [Lib.cell_of_heap h6]; rfl, by rw [Lib.cell_of_heap h6]; rfl, by rw [Lib.cell_of_heap h6]; rfl⟩
                      go_wp2
                      go_region_held3 (fun W => W.cell? ⟨wr.heap.size, 0, none⟩ = some (.string x.path) ∧ W.cell? ⟨wr.heap.size, 1, none⟩ = some (.int .i64 x.kind) ∧ W.cell? ⟨wr.heap.size, 2, none⟩ = some (.int .i64 x.arg) ∧ W.cell? ⟨wr.heap.size, 3, none⟩ = some (.string x.res) ∧ W.cell? ⟨wr.heap.size, 4, none⟩ = some (.int .i64 x.val))
                        (first | exact HC.out _ HB1.out | exact HC.out _ HWb.out | exact HC.out _ HWp.out | exact H6c.out)
                        (first
                          | ((go_at_call 11); ((with_reducible refine (ror_calls x.path _).mono ?_)); (rintro e wa ⟨⟨_, rfl, ta, rfl, hta⟩, rfl⟩); (have Hta := Lib.hid hta); (have Hsa : Hid (ta.size = (orS x.path.data.toList).length) := (by show _ = _; rw [size_toList, hta])); (have zz1 : ¬ 9223372036854775807 < 4 + ta.size := (by have := Hhs.out; have := Hsa.out; omega)); (have zz2 : ¬ 9223372036854775807 < 4 + ta.size + 1 := (by have := Hhs.out; have := Hsa.out; omega)); (clear hta))
                          | ((go_at_call 21); ((with_reducible refine (rscope_calls x.kind x.arg _).mono ?_)); (rintro e wb ⟨_, rfl, ⟨tb, rfl, htb⟩, hwb⟩); (have Htb := Lib.hid htb); (have Hsb : Hid (tb.size = (scopeS x.kind x.arg).length) := (by show _ = _; rw [size_toList, htb])); (have zz3 : ¬ 9223372036854775807 < 4 + ta.size + 1 + tb.size := (by have := Hhs.out; have := Hsa.out; have := Hsb.out; omega)); (have zz4 : ¬ 9223372036854775807 < 4 + ta.size + 1 + tb.size + 1 := (by have := Hhs.out; have := Hsa.out; have := Hsb.out; omega)); (clear htb); (have HWb := Lib.hid (HT2.out _ _ HB1.out hwb)); (clear hwb))
                          | ((go_at_call 11); ((with_reducible refine (ror_calls x.res _).mono ?_)); (rintro e wc ⟨⟨_, rfl, tc, rfl, htc⟩, rfl⟩); (have Htc := Lib.hid htc); (have Hsc : Hid (tc.size = (orS x.res.data.toList).length) := (by show _ = _; rw [size_toList, htc])); (have zz5 : ¬ 9223372036854775807 < 4 + ta.size + 1 + tb.size + 1 + tc.size := (by have := Hhs.out; have := Hsa.out; have := Hsb.out; have := Hsc.out; omega)); (have zz6 : ¬ 9223372036854775807 < 4 + ta.size + 1 + tb.size + 1 + tc.size + 1 := (by have := Hhs.out; have := Hsa.out; have := Hsb.out; have := Hsc.out; omega)); (clear htc))
                          | ((go_at_call 13); ((with_reducible refine (rprint_calls x.val Hz.out _).mono ?_)); (rintro e wp ⟨_, rfl, ⟨tp, rfl, htp⟩, hwp⟩); (have HWp := Lib.hid (HT2.out _ _ HWb.out hwp)); (have Htp := Lib.hid htp); (clear hwp htp))
                          | ((go_at_call 11); ((with_reducible refine (ror_calls tp _).mono ?_)); (rintro e wd ⟨⟨_, rfl, td, rfl, htd⟩, rfl⟩); (have Htd : Hid (td.data.toList = orS (printedZ x.val)) := (by show _ = _; rw [htd, Htp.out])); (have Hsd : Hid (td.size = (orS (printedZ x.val)).length) := (by show _ = _; rw [size_toList, htd, Htp.out])); (have zz7 : ¬ 9223372036854775807 < 4 + ta.size + 1 + tb.size + 1 + tc.size + 1 + td.size := (by have := Hhs.out; have := Hsa.out; have := Hsb.out; have := Hsc.out; have := Hsd.out; omega)); (have zz8 : ¬ 9223372036854775807 < 4 + ta.size + 1 + tb.size + 1 + tc.size + 1 + td.size + 1 := (by have := Hhs.out; have := Hsa.out; have := Hsb.out; have := Hsc.out; have := Hsd.out; omega)); (clear htd))
                          | ((refine step_append2_string _ rfl (.tmp 163) (.tmp 184) 54 9 rfl 5 Tryd.underlying54 Tryd.underlying9 infoU8 _ _ _ rfl (HG.out _ HWp.out).own _ rfl ?hts ?_); (case hts => have := Hsz.out; have := Hxl.out; have := Hsa.out; have := Hsb.out; have := Hsc.out; have := Hsd.out; have e1 : (ByteArray.mk #[117, 115, 101, 32]).size = 4 := rfl; have e2 : (ByteArray.mk #[32]).size = 1 := rfl; have e3 : (ByteArray.mk #[10]).size = 1 := rfl; simp only [ByteArray.size_append]; omega); (intro v8 w8 ho8 hg8 hn8); (have H6 := Lib.hid ((HG.out _ HWp.out).snoc ho8 hg8 hn8)); (have H6c := Lib.hid (HC6.out _ _ HWp.out hg8)); (clear ho8 hg8 hn8)))
                      have H8 : Hid (RB (w.alloc (.cells #[.int .i64 ver, .slice An ndl.length cn, .slice Aq qul.length cq, .slice Al lil.length cl, .slice Ao obl.length co, .slice Ab bil.length cb, .slice (some ⟨b, off, none⟩) usl.length cu] 40)) w8 v8 (TT ++ Us.txt x)) := by
                        have h := H6.out
                        simp [Hta.out, Htb.out, Htc.out, Htd.out] at h
                        show RB _ _ _ _
                        simpa [Us.txt, Us.parts, tellS, partsS, Pt.txt, Hv.out, Hpz.out] using h
                      clear HC HB1 HB0 HG HW HT2 HC6
                      clear H6 H6c
                      have Hn : Hid (RLoop Us.txt (w.alloc (.cells #[.int .i64 ver, .slice An ndl.length cn, .slice Aq qul.length cq, .slice Al lil.length cl, .slice Ao obl.length co, .slice Ab bil.length cb, .slice (some ⟨b, off, none⟩) usl.length cu] 40)) T5 usl v8 (.int .i64 ((i : Int) + 1)) w8) := by
                        refine ⟨i + 1, hlt, rfl, ?_⟩
                        rw [HT.out, ← List.append_assoc, ← HTT.out]
                        exact H8.out
                      go_wp2
                      go_roundw
                      case rel => exact Hn.out
                      case measure => simp [intOf]; omega
                    · obtain rfl : i = usl.length := by omega
                      have hd := dF hlt
                      rw [List.take_length] at hTT
                      have hee : T6 = TT := HT6.out.trans hTT.symm
                      clear HTT hTT
                      subst hee
                      have HX := Lib.hid hO
                      clear HO hlt hO
                      have hcv := conv_bytes (P := Tryd.prog) 54 9 5 Tryd.underlying54 Tryd.underlying5 Tryd.underlying9 (RdB.of_own HX.out.own)
                      go_wp2
                      go_ret
                      exact ⟨_, rfl, ⟨_, rfl, (by rw [Hfin.out])⟩, HX.out.base⟩

end Go.Proofs.YtleajmblagddcaaDoor
