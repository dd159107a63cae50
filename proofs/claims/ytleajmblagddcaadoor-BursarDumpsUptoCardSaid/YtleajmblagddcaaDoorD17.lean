/- ref27.objectLine: an object's line. -/
import Derived.Test.YtleajmblagddcaaDoorD16
import Derived.Deep.RegionHeld3
namespace Go.Proofs.YtleajmblagddcaaDoor
open Go.RowKit
set_option linter.unusedVariables false
set_option linter.unusedSimpArgs false

def RLb (w : World) (o : Ob) (v3 v4 : Value) (w1 : World) : Prop := ∃ (i : Nat) (s : ByteArray), i ≤ o.lbl.length ∧ v4 = .int .i64 i ∧ v3 = .string s ∧ s.data.toList = o.head ++ lbsS (o.lbl.take i) ∧ Below (w.heap.size + 1) (w.alloc (obBox o)) w1
def RPa (w : World) (o : Ob) (v3 v5 : Value) (w1 : World) : Prop := ∃ (i : Nat) (s : ByteArray), i ≤ o.pal.length ∧ v5 = .int .i64 i ∧ v3 = .string s ∧ s.data.toList = o.head ++ lbsS o.lbl ++ pasS (o.pal.take i) ∧ Below (w.heap.size + 1) (w.alloc (obBox o)) w1
theorem box_below {w w1 : World} {o : Ob} (h : Below (w.heap.size + 1) (w.alloc (obBox o)) w1) : w1.heap[w.heap.size]? = some (obBox o) := (h.block _ (by omega)).trans (blk_new w _)
theorem base_below {w w1 : World} {o : Ob} (h : Below (w.heap.size + 1) (w.alloc (obBox o)) w1) : Below w.heap.size w w1 := ((Below.refl _ _).alloc (Nat.le_refl _) _).trans (h.mono (by omega))
theorem itoa_len {n : Int} (h : in64 n) : (Lib.itoa n).length ≤ 30 := by
  have h1 := h.1
  have h2 := h.2
  have hd : ∀ m : Nat, m ≤ 9223372036854775808 → (Lib.decDigits m).length ≤ 20 := fun m hm => by
    rw [dec_asc]; exact asc_len (dig_len_le (by omega)) (by omega)
  unfold Lib.itoa
  split
  · have := hd n.natAbs (by omega)
    simp only [List.length_cons]; omega
  · have := hd n.toNat (by omega)
    omega

theorem itoaI_calls (n : Int) (h : in64 n) (w : World) (htab : PowTab w) : Calls Tryd.prog 9 #[.int .i64 n] w fun e w' => e = .returned (.string ⟨(Lib.itoa n).toArray⟩) ∧ Below w.heap.size w w' := itoa_calls n (And.left h) (And.right h) w htab

set_option maxRecDepth 100000 in
set_option maxHeartbeats 3200000 in
theorem robject_calls (o : Ob) (w : World) (ho : ObOk w o) (hlen : o.txt.length ≤ 1099511627776) (htab : PowTab w) :
    Calls Tryd.prog 33 #[.agg #[.string o.path, .string o.name, o.lbv, .int .i64 o.prio, .int .i64 o.dead, o.pav, .int .i64 o.ver]] w fun e w' => ∃ sv, e = .returned sv ∧ StrIs sv o.txt ∧ Below w.heap.size w w' := by
  have Hlen := Lib.hid hlen
  have Htab := Lib.hid htab
  have Ho := Lib.hid ho
  have hhl : o.head.length = 6 + (1 + (orS o.path.data.toList).length) + (1 + (orS o.name.data.toList).length) + (1 + (Lib.itoa o.prio).length) + (1 + (Lib.itoa o.dead).length) + (1 + (Lib.itoa o.ver).length) := by
    simp only [Ob.head, Ob.parts, partsS, List.flatMap_cons, List.flatMap_nil, List.length_append, List.length_cons, List.length_nil, Pt.txt]; omega
  have hht : o.head.length ≤ 1099511627776 := by have := hlen; rw [Ob.txt, List.length_append] at this; omega
  have hhs : 7 + (orS o.path.data.toList).length + 1 + (orS o.name.data.toList).length + 1 + (Lib.itoa o.prio).length + 1 + (Lib.itoa o.dead).length + 1 + (Lib.itoa o.ver).length ≤ 1099511627776 := by omega
  obtain ⟨A1, c1, hlv⟩ := Ho.out.lb.slice
  obtain ⟨A2, c2, hpv⟩ := Ho.out.pa.1.slice
  have Hlv := Lib.hid hlv
  have Hpv := Lib.hid hpv
  have hll : o.lbl.length ≤ 1099511627776 := by
    have h1 := flat_count Lb.txt (fun x => by simp [Lb.txt]) o.lbl
    have h2 := Hlen.out
    rw [Ob.txt, List.length_append, List.length_append] at h2
    rw [show o.lbl.flatMap Lb.txt = lbsS o.lbl from rfl] at h1
    omega
  have hpl : o.pal.length ≤ 1099511627776 := by
    have h1 := flat_count Pa.txt (fun x => by simp [Pa.txt]) o.pal
    have h2 := Hlen.out
    rw [Ob.txt, List.length_append, List.length_append, List.length_append] at h2
    rw [show o.pal.flatMap Pa.txt = pasS o.pal from rfl] at h1
    omega
  have HS : Hid (∀ W, Below (w.alloc (obBox o)).heap.size (w.alloc (obBox o)) W → W.cell? ⟨w.heap.size, 0, none⟩ = some (.string o.path) ∧ W.cell? ⟨w.heap.size, 1, none⟩ = some (.string o.name) ∧ W.cell? ⟨w.heap.size, 3, none⟩ = some (.int .i64 o.prio) ∧ W.cell? ⟨w.heap.size, 4, none⟩ = some (.int .i64 o.dead) ∧ W.cell? ⟨w.heap.size, 6, none⟩ = some (.int .i64 o.ver) ∧ Below (w.alloc (obBox o)).heap.size (w.alloc (obBox o)) W) := by
    intro W hW
    have hb := blk_below (blk_new w (obBox o)) hW
    exact ⟨by rw [Lib.cell_of_heap hb]; rfl, by rw [Lib.cell_of_heap hb]; rfl, by rw [Lib.cell_of_heap hb]; rfl, by rw [Lib.cell_of_heap hb]; rfl, by rw [Lib.cell_of_heap hb]; rfl, hW⟩
  have HT2 : Hid (∀ W W', Below (w.alloc (obBox o)).heap.size (w.alloc (obBox o)) W → Below W.heap.size W W' → Below (w.alloc (obBox o)).heap.size (w.alloc (obBox o)) W') := fun W W' h1 h2 => h1.trans (h2.mono h1.size)
  have HB1 : Hid (Below (w.alloc (obBox o)).heap.size (w.alloc (obBox o)) (w.alloc (obBox o)).drew) := drewB (Below.refl _ _) 1
  have HP : Hid (∀ W, Below (w.alloc (obBox o)).heap.size (w.alloc (obBox o)) W → PowTab W) := fun W hW => Htab.out.below (base_below (by simpa using hW))
  have Hhs := Lib.hid hhs
  have Hhl := Lib.hid hhl
  clear hlv hpv hlen htab ho hhl hht hhs
  go_enter Tryd.func33, Tryd.ntmps33
  go_wp2_with fail
  go_region_held3 (fun W => W.cell? ⟨w.heap.size, 0, none⟩ = some (.string o.path) ∧ W.cell? ⟨w.heap.size, 1, none⟩ = some (.string o.name) ∧ W.cell? ⟨w.heap.size, 3, none⟩ = some (.int .i64 o.prio) ∧ W.cell? ⟨w.heap.size, 4, none⟩ = some (.int .i64 o.dead) ∧ W.cell? ⟨w.heap.size, 6, none⟩ = some (.int .i64 o.ver) ∧ Below (w.alloc (obBox o)).heap.size (w.alloc (obBox o)) W)
    (first | exact HS.out _ HB1.out | exact HS.out _ HW3.out | exact HS.out _ HW4.out | exact HS.out _ HW5.out)
    (first
      | ((go_at_call 11); ((with_reducible refine (ror_calls o.path _).mono ?_)); (rintro e w1 ⟨⟨_, rfl, t1, rfl, h1⟩, rfl⟩); (have H1 := Lib.hid h1); (have H1s : Hid (t1.size = (orS o.path.data.toList).length) := (by show _ = _; rw [size_toList, h1])); (have z10 : ¬ 9223372036854775807 < 7 + t1.size := (by have := Hhs.out; have := H1s.out; omega)); (have z11 : ¬ 9223372036854775807 < 7 + t1.size + 1 := (by have := Hhs.out; have := H1s.out; omega)); (clear h1))
      | ((go_at_call 11); ((with_reducible refine (ror_calls o.name _).mono ?_)); (rintro e w2 ⟨⟨_, rfl, t2, rfl, h2⟩, rfl⟩); (have H2 := Lib.hid h2); (have H2s : Hid (t2.size = (orS o.name.data.toList).length) := (by show _ = _; rw [size_toList, h2])); (have z20 : ¬ 9223372036854775807 < 7 + t1.size + 1 + t2.size := (by have := Hhs.out; have := H2s.out; have := H1s.out; omega)); (have z21 : ¬ 9223372036854775807 < 7 + t1.size + 1 + t2.size + 1 := (by have := Hhs.out; have := H2s.out; have := H1s.out; omega)); (clear h2))
      | ((go_at_call 9); ((with_reducible refine (itoaI_calls o.prio Ho.out.prio _ (HP.out _ HB1.out)).mono ?_)); (rintro e w3 ⟨rfl, h3⟩); (have HW3 := Lib.hid (HT2.out _ _ HB1.out h3)); (have z30 : ¬ 9223372036854775807 < 7 + t1.size + 1 + t2.size + 1 + (Lib.itoa o.prio).length := (by have := Hhs.out; have := H1s.out; have := H2s.out; omega)); (have z31 : ¬ 9223372036854775807 < 7 + t1.size + 1 + t2.size + 1 + (Lib.itoa o.prio).length + 1 := (by have := Hhs.out; have := H1s.out; have := H2s.out; omega)); (clear h3))
      | ((go_at_call 10); ((with_reducible refine (ritoa_calls o.dead Ho.out.dead _ (HP.out _ HW3.out)).mono ?_)); (rintro e w4 ⟨rfl, h4⟩); (have HW4 := Lib.hid (HT2.out _ _ HW3.out h4)); (have z40 : ¬ 9223372036854775807 < 7 + t1.size + 1 + t2.size + 1 + (Lib.itoa o.prio).length + 1 + (Lib.itoa o.dead).length := (by have := Hhs.out; have := H1s.out; have := H2s.out; omega)); (have z41 : ¬ 9223372036854775807 < 7 + t1.size + 1 + t2.size + 1 + (Lib.itoa o.prio).length + 1 + (Lib.itoa o.dead).length + 1 := (by have := Hhs.out; have := H1s.out; have := H2s.out; omega)); (clear h4))
      | ((go_at_call 10); ((with_reducible refine (ritoa_calls o.ver Ho.out.ver _ (HP.out _ HW4.out)).mono ?_)); (rintro e w5 ⟨rfl, h5⟩); (have HW5 := Lib.hid (HT2.out _ _ HW4.out h5)); (have z50 : ¬ 9223372036854775807 < 7 + t1.size + 1 + t2.size + 1 + (Lib.itoa o.prio).length + 1 + (Lib.itoa o.dead).length + 1 + (Lib.itoa o.ver).length := (by have := Hhs.out; have := H1s.out; have := H2s.out; omega)); (clear h5)))
  have Hst : Hid (RLb w o (.string (ByteArray.mk #[111, 98, 106, 101, 99, 116, 32] ++ t1 ++ ByteArray.mk #[32] ++ t2 ++ ByteArray.mk #[32] ++ ⟨(Lib.itoa o.prio).toArray⟩ ++ ByteArray.mk #[32] ++ ⟨(Lib.itoa o.dead).toArray⟩ ++ ByteArray.mk #[32] ++ ⟨(Lib.itoa o.ver).toArray⟩)) (.int .i64 0) w5) := by
    refine ⟨0, _, Nat.zero_le _, rfl, rfl, ?_, by simpa using HW5.out⟩
    simp [H1.out, H2.out, lbsS, Ob.head, Ob.parts, partsS, Pt.txt]
  have k2 : w5.cell? ⟨w.heap.size, 2, none⟩ = some (.slice A1 o.lbl.length c1) := by rw [Lib.cell_of_heap (box_below (by simpa using HW5.out)), ← Hlv.out]; rfl
  clear HS HT2 HB1 HP HW3 HW4 HW5 H1 H2 H1s H2s Hhs
  go_wp2
  go_loopw [3, 4] (fun v3 v4 w1 => RLb w o v3 v4 w1) (fun _ i _ => o.lbl.length - (intOf i).toNat)
  case atStart => exact Hst.out
  case round =>
    clear Hst k2
    obtain ⟨i, s, hi, rfl, rfl, hs, hB⟩ := hrel
    have Hs := Lib.hid hs
    have HB := Lib.hid hB
    have k2 : wr.cell? ⟨w.heap.size, 2, none⟩ = some (.slice A1 o.lbl.length c1) := by rw [Lib.cell_of_heap (box_below hB), ← Hlv.out]; rfl
    by_cases hlt : i < o.lbl.length
    · have hd := dT hlt
      obtain ⟨b, off, c', hv, hc', hb, hc1, hc2⟩ := Lb.at (show RdLb wr o.lbv o.lbl from RdS.below Ho.out.lb (base_below hB)) i hlt
      rw [Hlv.out] at hv
      cases hv
      have HT : Hid (lbsS (o.lbl.take (i + 1)) = lbsS (o.lbl.take i) ++ o.lbl[i].txt) := take_snoc Lb.txt hlt
      have hsz : s.size + 7 + o.lbl[i].key.size + 1 + o.lbl[i].val.size ≤ 1099511627776 := by
        have h1 : (lbsS (o.lbl.take i)).length + o.lbl[i].txt.length ≤ (lbsS o.lbl).length := take_len_le Lb.txt hlt
        have h2 := Hlen.out
        rw [Ob.txt, List.length_append, List.length_append] at h2
        have h3 : o.lbl[i].txt.length = 7 + o.lbl[i].key.size + 1 + o.lbl[i].val.size := by
          simp only [Lb.txt, List.length_append, List.length_cons, List.length_nil, ← size_toList]; omega
        rw [size_toList s, hs, List.length_append]; omega
      have Htx : Hid (o.lbl[i].txt = [32, 108, 97, 98, 101, 108, 32] ++ (o.lbl[i].key.data.toList ++ 61 :: o.lbl[i].val.data.toList)) := rfl
      generalize o.lbl[i].txt = tx at HT Htx
      generalize o.lbl[i].key = ky at hc1 hsz Htx
      generalize o.lbl[i].val = vl at hc2 hsz Htx
      have z1 : ¬ 9223372036854775807 < s.size + 7 := by omega
      have z2 : ¬ 9223372036854775807 < s.size + 7 + ky.size := by omega
      have z3 : ¬ 9223372036854775807 < s.size + 7 + ky.size + 1 := by omega
      have z4 : ¬ 9223372036854775807 < s.size + 7 + ky.size + 1 + vl.size := by omega
      have hi0 : (0 : Int) ≤ i := by omega
      clear hs hB
      go_wp2
      go_quiet (fail)
      have Hn : Hid (∀ n, RLb w o (.string (s ++ ByteArray.mk #[32, 108, 97, 98, 101, 108, 32] ++ ky ++ ByteArray.mk #[61] ++ vl)) (.int .i64 ((i : Int) + 1)) (wr.drewN n)) := by
        intro n
        refine ⟨i + 1, _, hlt, rfl, rfl, ?_, drewB HB.out n⟩
        rw [HT.out, Htx.out]; simp [Hs.out]
      go_wp2
      go_roundw
      case rel => exact Hn.out _
      case measure => simp [intOf]; omega
    · obtain rfl : i = o.lbl.length := by omega
      have hd := dF hlt
      have k5 : wr.cell? ⟨w.heap.size, 5, none⟩ = some (.slice A2 o.pal.length c2) := by rw [Lib.cell_of_heap (box_below hB), ← Hpv.out]; rfl
      have Hst : Hid (RPa w o (.string s) (.int .i64 0) wr) := ⟨0, s, Nat.zero_le _, rfl, rfl, by rw [hs, List.take_length]; simp [pasS], hB⟩
      clear hs hB hlt Hs HB
      go_wp2
      go_loopw [3, 5] (fun v3 v5 w1 => RPa w o v3 v5 w1) (fun _ i _ => o.pal.length - (intOf i).toNat)
      case atStart => exact Hst.out
      case round =>
        clear Hst k5 k2
        obtain ⟨i, s, hi, rfl, rfl, hs, hB⟩ := hrel
        have Hs := Lib.hid hs
        have HB := Lib.hid hB
        have k5 : wr.cell? ⟨w.heap.size, 5, none⟩ = some (.slice A2 o.pal.length c2) := by rw [Lib.cell_of_heap (box_below hB), ← Hpv.out]; rfl
        by_cases hlt : i < o.pal.length
        · skip
          have hd := dT hlt
          obtain ⟨b, off, c', hv, hc', hb, hc0, hc1, hc2⟩ := Pa.at (Ho.out.pa.below (base_below hB)) i hlt
          rw [Hpv.out] at hv
          cases hv
          have hpok := Ho.out.pa.2 _ (List.getElem_mem hlt)
          have HT : Hid (pasS (o.pal.take (i + 1)) = pasS (o.pal.take i) ++ o.pal[i].txt) := take_snoc Pa.txt hlt
          have hsz : s.size + o.pal[i].txt.length ≤ 1099511627776 := by
            have h1 : (pasS (o.pal.take i)).length + o.pal[i].txt.length ≤ (pasS o.pal).length := take_len_le Pa.txt hlt
            have h2 := Hlen.out
            rw [size_toList s, hs]
            simp only [Ob.txt, List.length_append] at h2 ⊢
            omega
          generalize o.pal[i] = p at hc0 hc1 hc2 hpok HT hsz
          obtain ⟨pn, rv, rl, lv, ll⟩ := p
          obtain ⟨Ar, cr, hrv⟩ := hpok.1.1.slice
          obtain ⟨Al, cl, hlv2⟩ := hpok.2.1.slice
          change rv = .slice Ar rl.length cr at hrv
          change lv = .slice Al ll.length cl at hlv2
          subst hrv hlv2
          change wr.cell? _ = some (.string pn) at hc0
          change wr.cell? _ = some (.slice Ar rl.length cr) at hc1
          change wr.cell? _ = some (.slice Al ll.length cl) at hc2
          have htx : (⟨pn, .slice Ar rl.length cr, rl, .slice Al ll.length cl, ll⟩ : Pa).txt.length = 6 + (orS pn.data.toList).length + (optS [32, 114, 101, 113] rl).length + (optS [32, 108, 105, 109] ll).length := by
            simp only [Pa.txt, List.length_append, List.length_cons, List.length_nil]; omega
          have hsz2 : s.size + (6 + (orS pn.data.toList).length + (optS [32, 114, 101, 113] rl).length + (optS [32, 108, 105, 109] ll).length) ≤ 1099511627776 := by omega
          have Hpok := Lib.hid hpok
          have hz0 : ¬ 9223372036854775807 < s.size + 6 := by omega
          have Hsz := Lib.hid hsz2
          have HP0 : Hid (∀ W, Below (wr.alloc (.cells #[.string pn, .slice Ar rl.length cr, .slice Al ll.length cl] 119)).heap.size (wr.alloc (.cells #[.string pn, .slice Ar rl.length cr, .slice Al ll.length cl] 119)) W → W.cell? ⟨wr.heap.size, 1, none⟩ = some (.slice Ar rl.length cr) ∧ W.cell? ⟨wr.heap.size, 2, none⟩ = some (.slice Al ll.length cl)) := by
            intro W hW
            have hb := blk_below (blk_new wr (.cells #[.string pn, .slice Ar rl.length cr, .slice Al ll.length cl] 119)) hW
            exact ⟨by rw [Lib.cell_of_heap hb]; rfl, by rw [Lib.cell_of_heap hb]; rfl⟩
          have HBa : Hid (Below wr.heap.size wr (wr.alloc (.cells #[.string pn, .slice Ar rl.length cr, .slice Al ll.length cl] 119))) := (Below.refl _ _).alloc (Nat.le_refl _) _
          have HWw : Hid (∀ W, Below (wr.alloc (.cells #[.string pn, .slice Ar rl.length cr, .slice Al ll.length cl] 119)).heap.size (wr.alloc (.cells #[.string pn, .slice Ar rl.length cr, .slice Al ll.length cl] 119)) W → Below (w.heap.size + 1) (w.alloc (obBox o)) W) := fun W hW => HB.out.trans ((HBa.out.trans (hW.mono HBa.out.size)).mono (by have := HB.out.size; simpa using this))
          clear hsz htx hsz2 hpok hs hB
          by_cases hr : rl = []
          · skip
            have hr0 : ¬ (0 : Int) < (rl.length : Int) := by rw [hr]; simp
            have hr1 : ¬ 0 < rl.length := by rw [hr]; simp
            have Hr : Hid (optS [32, 114, 101, 113] rl = []) := if_pos hr
            clear hr
            by_cases hl : ll = []
            · skip
              have hl0 : ¬ (0 : Int) < (ll.length : Int) := by rw [hl]; simp
              have hl1 : ¬ 0 < ll.length := by rw [hl]; simp
              have Hl : Hid (optS [32, 108, 105, 109] ll = []) := if_pos hl
              clear hl
              go_wp2_with fail
              refine (ror_calls pn _).mono ?_
              rintro e wo ⟨⟨_, rfl, t, rfl, ht⟩, rfl⟩
              have Hts : Hid (t.size = (orS pn.data.toList).length) := by show _ = _; rw [size_toList, ht]
              have Ht := Lib.hid ht
              have z1 : ¬ 9223372036854775807 < s.size + 6 + t.size := by have h1 := Hsz.out; have h2 := Hts.out; omega
              clear ht
              have Hn : Hid (RPa w o (.string (s ++ ByteArray.mk #[32, 112, 97, 114, 116, 32] ++ t)) (.int .i64 ((i : Int) + 1)) (wr.alloc (.cells #[.string pn, .slice Ar rl.length cr, .slice Al ll.length cl] 119))) := by
                refine ⟨i + 1, _, hlt, rfl, rfl, ?_, HWw.out _ (Below.refl _ _)⟩
                rw [HT.out, ← List.append_assoc, ← Hs.out, Pa.txt, Hr.out, Hl.out]
                simp [Ht.out]
              go_wp2
              go_roundw
              case rel => exact Hn.out
              case measure => simp [intOf]; omega
            · skip
              have hl0 : (0 : Int) < (ll.length : Int) := by have := List.length_pos_iff.2 hl; omega
              have hl1 : 0 < ll.length := List.length_pos_iff.2 hl
              have Hl : Hid (optS [32, 108, 105, 109] ll = [32, 108, 105, 109] ++ amsS ll) := if_neg hl
              clear hl
              go_wp2_with fail
              refine (ror_calls pn _).mono ?_
              rintro e wo ⟨⟨_, rfl, t, rfl, ht⟩, rfl⟩
              have Hts : Hid (t.size = (orS pn.data.toList).length) := by show _ = _; rw [size_toList, ht]
              have Ht := Lib.hid ht
              have z1 : ¬ 9223372036854775807 < s.size + 6 + t.size := by have h1 := Hsz.out; have h2 := Hts.out; omega
              clear ht
              have zq7 : ¬ 9223372036854775807 < s.size + 6 + t.size + 4 := by have h1 := Hsz.out; have h2 := Hts.out; (rw [Hr.out, Hl.out] at h1; simp only [List.length_append, List.length_cons, List.length_nil] at h1; omega)
              go_wp2_with fail
              refine (rpairs_calls _ ll _ ((show RdAm w (.slice Al ll.length cl) ll from Hpok.out.2).below (base_below (HWw.out _ (Below.refl _ _)))) (by have h1 := Hsz.out; have h2 := Hts.out; (rw [Hr.out, Hl.out] at h1; simp only [List.length_append, List.length_cons, List.length_nil] at h1; omega))).mono ?_
              rintro e w7 ⟨_, rfl, ⟨u7, rfl, hu7⟩, hw7⟩
              have Hw7 : Hid (Below (wr.alloc (.cells #[.string pn, .slice Ar rl.length cr, .slice Al ll.length cl] 119)).heap.size (wr.alloc (.cells #[.string pn, .slice Ar rl.length cr, .slice Al ll.length cl] 119)) w7) := Below.trans (Below.refl _ _) (hw7.mono (Nat.le_refl _))
              have Hu7 := Lib.hid hu7
              have Hus7 : Hid (u7.size = (amsS ll).length) := by show _ = _; rw [size_toList, hu7]
              obtain ⟨kc71, kc72⟩ := HP0.out _ Hw7.out
              have zr7 : ¬ 9223372036854775807 < s.size + 6 + t.size + 4 + u7.size := by have h1 := Hsz.out; have h2 := Hts.out; have h3 := Hus7.out; (rw [Hr.out, Hl.out] at h1; simp only [List.length_append, List.length_cons, List.length_nil] at h1; omega)
              clear hu7 hw7
              have Hn : Hid (RPa w o (.string (s ++ ByteArray.mk #[32, 112, 97, 114, 116, 32] ++ t ++ ByteArray.mk #[32, 108, 105, 109] ++ u7)) (.int .i64 ((i : Int) + 1)) w7) := by
                refine ⟨i + 1, _, hlt, rfl, rfl, ?_, HWw.out _ Hw7.out⟩
                rw [HT.out, ← List.append_assoc, ← Hs.out, Pa.txt, Hr.out, Hl.out]
                simp [Ht.out, Hu7.out]
              go_wp2
              go_roundw
              case rel => exact Hn.out
              case measure => simp [intOf]; omega
          · skip
            have hr0 : (0 : Int) < (rl.length : Int) := by have := List.length_pos_iff.2 hr; omega
            have hr1 : 0 < rl.length := List.length_pos_iff.2 hr
            have Hr : Hid (optS [32, 114, 101, 113] rl = [32, 114, 101, 113] ++ amsS rl) := if_neg hr
            clear hr
            by_cases hl : ll = []
            · skip
              have hl0 : ¬ (0 : Int) < (ll.length : Int) := by rw [hl]; simp
              have hl1 : ¬ 0 < ll.length := by rw [hl]; simp
              have Hl : Hid (optS [32, 108, 105, 109] ll = []) := if_pos hl
              clear hl
              go_wp2_with fail
              refine (ror_calls pn _).mono ?_
              rintro e wo ⟨⟨_, rfl, t, rfl, ht⟩, rfl⟩
              have Hts : Hid (t.size = (orS pn.data.toList).length) := by show _ = _; rw [size_toList, ht]
              have Ht := Lib.hid ht
              have z1 : ¬ 9223372036854775807 < s.size + 6 + t.size := by have h1 := Hsz.out; have h2 := Hts.out; omega
              clear ht
              have zq6 : ¬ 9223372036854775807 < s.size + 6 + t.size + 4 := by have h1 := Hsz.out; have h2 := Hts.out; (rw [Hr.out, Hl.out] at h1; simp only [List.length_append, List.length_cons, List.length_nil] at h1; omega)
              go_wp2_with fail
              refine (rpairs_calls _ rl _ ((show RdAm w (.slice Ar rl.length cr) rl from Hpok.out.1).below (base_below (HWw.out _ (Below.refl _ _)))) (by have h1 := Hsz.out; have h2 := Hts.out; (rw [Hr.out, Hl.out] at h1; simp only [List.length_append, List.length_cons, List.length_nil] at h1; omega))).mono ?_
              rintro e w6 ⟨_, rfl, ⟨u6, rfl, hu6⟩, hw6⟩
              have Hw6 : Hid (Below (wr.alloc (.cells #[.string pn, .slice Ar rl.length cr, .slice Al ll.length cl] 119)).heap.size (wr.alloc (.cells #[.string pn, .slice Ar rl.length cr, .slice Al ll.length cl] 119)) w6) := Below.trans (Below.refl _ _) (hw6.mono (Nat.le_refl _))
              have Hu6 := Lib.hid hu6
              have Hus6 : Hid (u6.size = (amsS rl).length) := by show _ = _; rw [size_toList, hu6]
              obtain ⟨kc61, kc62⟩ := HP0.out _ Hw6.out
              have zr6 : ¬ 9223372036854775807 < s.size + 6 + t.size + 4 + u6.size := by have h1 := Hsz.out; have h2 := Hts.out; have h3 := Hus6.out; (rw [Hr.out, Hl.out] at h1; simp only [List.length_append, List.length_cons, List.length_nil] at h1; omega)
              clear hu6 hw6
              have Hn : Hid (RPa w o (.string (s ++ ByteArray.mk #[32, 112, 97, 114, 116, 32] ++ t ++ ByteArray.mk #[32, 114, 101, 113] ++ u6)) (.int .i64 ((i : Int) + 1)) w6) := by
                refine ⟨i + 1, _, hlt, rfl, rfl, ?_, HWw.out _ Hw6.out⟩
                rw [HT.out, ← List.append_assoc, ← Hs.out, Pa.txt, Hr.out, Hl.out]
                simp [Ht.out, Hu6.out]
              go_wp2
              go_roundw
              case rel => exact Hn.out
              case measure => simp [intOf]; omega
            · skip
              have hl0 : (0 : Int) < (ll.length : Int) := by have := List.length_pos_iff.2 hl; omega
              have hl1 : 0 < ll.length := List.length_pos_iff.2 hl
              have Hl : Hid (optS [32, 108, 105, 109] ll = [32, 108, 105, 109] ++ amsS ll) := if_neg hl
              clear hl
              go_wp2_with fail
              refine (ror_calls pn _).mono ?_
              rintro e wo ⟨⟨_, rfl, t, rfl, ht⟩, rfl⟩
              have Hts : Hid (t.size = (orS pn.data.toList).length) := by show _ = _; rw [size_toList, ht]
              have Ht := Lib.hid ht
              have z1 : ¬ 9223372036854775807 < s.size + 6 + t.size := by have h1 := Hsz.out; have h2 := Hts.out; omega
              clear ht
              have zq6 : ¬ 9223372036854775807 < s.size + 6 + t.size + 4 := by have h1 := Hsz.out; have h2 := Hts.out; (rw [Hr.out, Hl.out] at h1; simp only [List.length_append, List.length_cons, List.length_nil] at h1; omega)
              go_wp2_with fail
              refine (rpairs_calls _ rl _ ((show RdAm w (.slice Ar rl.length cr) rl from Hpok.out.1).below (base_below (HWw.out _ (Below.refl _ _)))) (by have h1 := Hsz.out; have h2 := Hts.out; (rw [Hr.out, Hl.out] at h1; simp only [List.length_append, List.length_cons, List.length_nil] at h1; omega))).mono ?_
              rintro e w6 ⟨_, rfl, ⟨u6, rfl, hu6⟩, hw6⟩
              have Hw6 : Hid (Below (wr.alloc (.cells #[.string pn, .slice Ar rl.length cr, .slice Al ll.length cl] 119)).heap.size (wr.alloc (.cells #[.string pn, .slice Ar rl.length cr, .slice Al ll.length cl] 119)) w6) := Below.trans (Below.refl _ _) (hw6.mono (Nat.le_refl _))
              have Hu6 := Lib.hid hu6
              have Hus6 : Hid (u6.size = (amsS rl).length) := by show _ = _; rw [size_toList, hu6]
              obtain ⟨kc61, kc62⟩ := HP0.out _ Hw6.out
              have zr6 : ¬ 9223372036854775807 < s.size + 6 + t.size + 4 + u6.size := by have h1 := Hsz.out; have h2 := Hts.out; have h3 := Hus6.out; (rw [Hr.out, Hl.out] at h1; simp only [List.length_append, List.length_cons, List.length_nil] at h1; omega)
              clear hu6 hw6
              have zq7 : ¬ 9223372036854775807 < s.size + 6 + t.size + 4 + u6.size + 4 := by have h1 := Hsz.out; have h2 := Hts.out; have h9 := Hus6.out; (rw [Hr.out, Hl.out] at h1; simp only [List.length_append, List.length_cons, List.length_nil] at h1; omega)
              go_wp2_with fail
              refine (rpairs_calls _ ll _ ((show RdAm w (.slice Al ll.length cl) ll from Hpok.out.2).below (base_below (HWw.out _ Hw6.out))) (by have h1 := Hsz.out; have h2 := Hts.out; have h9 := Hus6.out; (rw [Hr.out, Hl.out] at h1; simp only [List.length_append, List.length_cons, List.length_nil] at h1; omega))).mono ?_
              rintro e w7 ⟨_, rfl, ⟨u7, rfl, hu7⟩, hw7⟩
              have Hw7 : Hid (Below (wr.alloc (.cells #[.string pn, .slice Ar rl.length cr, .slice Al ll.length cl] 119)).heap.size (wr.alloc (.cells #[.string pn, .slice Ar rl.length cr, .slice Al ll.length cl] 119)) w7) := Below.trans Hw6.out (hw7.mono (Below.size Hw6.out))
              have Hu7 := Lib.hid hu7
              have Hus7 : Hid (u7.size = (amsS ll).length) := by show _ = _; rw [size_toList, hu7]
              obtain ⟨kc71, kc72⟩ := HP0.out _ Hw7.out
              have zr7 : ¬ 9223372036854775807 < s.size + 6 + t.size + 4 + u6.size + 4 + u7.size := by have h1 := Hsz.out; have h2 := Hts.out; have h3 := Hus7.out; have h9 := Hus6.out; (rw [Hr.out, Hl.out] at h1; simp only [List.length_append, List.length_cons, List.length_nil] at h1; omega)
              clear hu7 hw7
              have Hn : Hid (RPa w o (.string (s ++ ByteArray.mk #[32, 112, 97, 114, 116, 32] ++ t ++ ByteArray.mk #[32, 114, 101, 113] ++ u6 ++ ByteArray.mk #[32, 108, 105, 109] ++ u7)) (.int .i64 ((i : Int) + 1)) w7) := by
                refine ⟨i + 1, _, hlt, rfl, rfl, ?_, HWw.out _ Hw7.out⟩
                rw [HT.out, ← List.append_assoc, ← Hs.out, Pa.txt, Hr.out, Hl.out]
                simp [Ht.out, Hu6.out, Hu7.out]
              go_wp2
              go_roundw
              case rel => exact Hn.out
              case measure => simp [intOf]; omega
        · obtain rfl : i = o.pal.length := by omega
          have hd := dF hlt
          have hz : ¬ 9223372036854775807 < s.size + 1 := by
            have h2 := Hlen.out
            have h3 := size_toList s
            rw [hs, List.take_length] at h3
            simp only [Ob.txt, List.length_append] at h2 h3
            omega
          have Hfin : Hid (s.data.toList ++ [10] = o.txt) := by
            show _ = _
            rw [hs, List.take_length, Ob.txt]; simp
          have HBf := Lib.hid (base_below hB)
          clear hlt hs hB HB Hs
          go_wp2
          go_ret
          exact ⟨_, rfl, ⟨_, rfl, by rw [← Hfin.out]; simp⟩, HBf.out⟩
end Go.Proofs.YtleajmblagddcaaDoor
