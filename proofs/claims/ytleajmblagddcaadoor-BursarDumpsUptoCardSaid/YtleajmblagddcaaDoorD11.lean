/- quant.form and quant.Print: the value's text is what the document's Print tells. -/
import Derived.Test.YtleajmblagddcaaDoorD10
import Derived.Deep.RegionHeld3
namespace Go.Proofs.YtleajmblagddcaaDoor
open Go.RowKit
set_option linter.unusedVariables false
set_option linter.unusedSimpArgs false

theorem dec_asc (n : Nat) : Lib.decDigits n = asc n := by
  induction n using Nat.strongRecOn with
  | _ n ih =>
    by_cases h : n < 10
    · rw [Lib.decDigits_one h]
      by_cases h0 : n = 0
      · subst h0; rfl
      · rw [asc, if_neg h0, dig_pos (by omega), show n / 10 = 0 from by omega, dig_zero, show n % 10 = n from by omega]; rfl
    · rw [Lib.decDigits, dif_neg h, ih (n / 10) (by omega), asc, asc, if_neg (by omega), if_neg (by omega), dig_pos (show 0 < n by omega)]
      simp [dch]

def UnitsAt (w : World) (b off : Nat) (L : List (ByteArray × Nat)) : Prop := b < w.heap.size ∧ ∀ i (h : i < L.length), w.cell? ⟨b, off + i * 2, none⟩ = some (.string L[i].1) ∧ w.cell? ⟨b, off + i * 2 + 1, none⟩ = some (.int .u64 (L[i].2 : Nat))
theorem UnitsAt.below {w w1 : World} {b off : Nat} {L : List (ByteArray × Nat)} (h : UnitsAt w b off L) (hb : Below w.heap.size w w1) : UnitsAt w1 b off L :=
  ⟨Nat.lt_of_lt_of_le h.1 hb.size, fun i hi => ⟨(hb.cell (p := ⟨b, off + i * 2, none⟩) h.1).trans (h.2 i hi).1, (hb.cell (p := ⟨b, off + i * 2 + 1, none⟩) h.1).trans (h.2 i hi).2⟩⟩
def uTab (L : List (ByteArray × Nat)) : List (List UInt8 × Nat) := L.map fun e => (e.1.data.toList, e.2)
def FLoop (w : World) (n : Nat) (L : List (ByteArray × Nat)) (v5 v10 : Value) (w1 : World) : Prop := ∃ i : Nat, i ≤ L.length ∧ v10 = .int .i64 i ∧ StrIs v5 (lastFit n ((uTab L).take i)) ∧ Below w.heap.size w w1

theorem powTab_below {w w1 : World} {g : Nat} (hg : Tryd.prog.globalNamed "internal/strconv.uint64pow10" = some g) (hlt : g < w.heap.size) (h : PowTab w) (hb : Below w.heap.size w w1) : PowTab w1 := by
  unfold PowTab Lib.TabIs at *
  rw [var_below hg hlt hb]; exact h
theorem pow_global : Tryd.prog.globalNamed "internal/strconv.uint64pow10" = some 3 := by kernel_rfl
theorem PowTab.lt {w : World} (h : PowTab w) : 3 < w.heap.size := by
  unfold PowTab Lib.TabIs World.var? at h
  simp only [pow_global, Option.bind_some] at h
  rcases Nat.lt_or_ge 3 w.heap.size with h' | h'
  · exact h'
  · rw [Array.getElem?_eq_none h'] at h; simp at h
theorem PowTab.below {w w1 : World} (h : PowTab w) (hb : Below w.heap.size w w1) : PowTab w1 := powTab_below pow_global h.lt h hb

set_option maxRecDepth 100000 in
set_option maxHeartbeats 1600000 in
theorem form_calls (n : Nat) (hn : n < 18446744073709551616) (L : List (ByteArray × Nat)) (b off c : Nat) (w : World) (hU : UnitsAt w b off L) (hL : L.length ≤ 12) (hLn : ∀ e ∈ L, e.1.size ≤ 3 ∧ 0 < e.2 ∧ e.2 < 18446744073709551616) (htab : PowTab w) :
    Calls Tryd.prog 40 #[.int .u64 n, .slice (some ⟨b, off, none⟩) L.length c] w fun e w' => ∃ sv, e = .returned sv ∧ StrIs sv (lastFit n (uTab L)) ∧ Below w.heap.size w w' := by
  have HU := Lib.hid hU
  have HLn := Lib.hid hLn
  have Htab := Lib.hid htab
  clear hU hLn htab
  go_enter Tryd.func40, Tryd.ntmps40
  go_wp2
  go_loopw [5, 10] (fun v5 v10 w1 => FLoop w n L v5 v10 w1) (fun _ i _ => L.length - (intOf i).toNat)
  case atStart => exact ⟨0, Nat.zero_le _, rfl, ⟨_, rfl, rfl⟩, Below.refl _ _⟩
  case round =>
    obtain ⟨i, hi, rfl, ⟨s, rfl, hs⟩, hB⟩ := hrel
    have Hs := Lib.hid hs
    have HB := Lib.hid hB
    clear hs
    by_cases hlt : i < L.length
    · have hd := dT hlt
      obtain ⟨hb, hc⟩ := HU.out.below hB
      obtain ⟨hc1, hc2⟩ := hc i hlt
      obtain ⟨hl3, hp, hp64⟩ := HLn.out _ (List.getElem_mem hlt)
      have HT : Hid ((uTab L).take (i + 1) = (uTab L).take i ++ [(L[i].1.data.toList, L[i].2)]) := by
        show _ = _
        rw [List.take_succ_eq_append_getElem (by simpa [uTab] using hlt)]; simp [uTab]
      clear hc hB
      generalize L[i].1 = nm at hc1 hl3 HT
      generalize L[i].2 = fv at hc2 hp hp64 HT
      have hw1 : Below wr.heap.size wr (wr.alloc (.cells #[.string nm, .int .u64 fv] 104)) := (Below.refl _ _).alloc (Nat.le_refl _) _
      by_cases hrem : n % fv = 0
      · have hm : ((n : Int) % (fv : Int) == 0) = true := by
          have : (n : Int) % (fv : Int) = ((n % fv : Nat) : Int) := by omega
          rw [this, hrem]; rfl
        have hf0 : ¬ (fv : Int) = 0 := by omega
        have hf1 : ((fv : Int) == 0) = false := by simp; omega
        have hf2 : ¬ fv = 0 := by omega
        have Hrem := Lib.hid hrem
        have hq : (n : Int) / (fv : Int) = ((n / fv : Nat) : Int) := by omega
        have Hq : Hid (IntKind.u64.wrap ((n : Int) / (fv : Int)) = ((n / fv : Nat) : Int)) := by
          show _ = _
          have hqn : n / fv < 18446744073709551616 := Nat.lt_of_le_of_lt (Nat.div_le_self n fv) hn
          rw [hq, IntKind.wrap_u64]; generalize n / fv = q at hqn; omega
        have hqn : n / fv < 18446744073709551616 := Nat.lt_of_le_of_lt (Nat.div_le_self n fv) hn
        have hlenq : (Lib.decDigits (n / fv)).length ≤ 20 := by
          rw [dec_asc]; exact asc_len (dig_len_le (Nat.lt_of_lt_of_le hqn (by decide))) (by omega)
        have HW : Hid (∀ W, Below (wr.alloc (.cells #[.string nm, .int .u64 fv] 104)).heap.size (wr.alloc (.cells #[.string nm, .int .u64 fv] 104)) W →
            W.cell? ⟨wr.heap.size, 0, none⟩ = some (.string nm) ∧ W.cell? ⟨wr.heap.size, 1, none⟩ = some (.int .u64 fv) ∧ Below (wr.alloc (.cells #[.string nm, .int .u64 fv] 104)).heap.size (wr.alloc (.cells #[.string nm, .int .u64 fv] 104)) W) := by
          intro W hW
          have hb := blk_below (blk_new wr (.cells #[.string nm, .int .u64 fv] 104)) hW
          exact ⟨by rw [Lib.cell_of_heap hb]; rfl, by rw [Lib.cell_of_heap hb]; rfl, hW⟩
        have HT2 : Hid (∀ W W', Below (wr.alloc (.cells #[.string nm, .int .u64 fv] 104)).heap.size (wr.alloc (.cells #[.string nm, .int .u64 fv] 104)) W → Below W.heap.size W W' → Below (wr.alloc (.cells #[.string nm, .int .u64 fv] 104)).heap.size (wr.alloc (.cells #[.string nm, .int .u64 fv] 104)) W') := fun W W' h1 h2 => h1.trans (h2.mono h1.size)
        have HP : Hid (∀ W, Below (wr.alloc (.cells #[.string nm, .int .u64 fv] 104)).heap.size (wr.alloc (.cells #[.string nm, .int .u64 fv] 104)) W → PowTab W) := by
          intro W hW
          exact (((Htab.out.below HB.out).below hw1).below hW)
        have HW1 := Lib.hid hw1
        clear hrem hq hw1
        go_wp2_with fail
        go_region_held3 (fun W => W.cell? ⟨wr.heap.size, 0, none⟩ = some (.string nm) ∧ W.cell? ⟨wr.heap.size, 1, none⟩ = some (.int .u64 fv) ∧ Below (wr.alloc (.cells #[.string nm, .int .u64 fv] 104)).heap.size (wr.alloc (.cells #[.string nm, .int .u64 fv] 104)) W)
          (first | exact HW.out _ (drewB (Below.refl _ _) 1) | exact HW.out _ HWf.out)
          ((go_at_call 41; rw [Hq.out]; refine (formatUint_calls (n / fv) hqn _ (HP.out _ ?hA)).mono ?_; (case hA => exact drewB (Below.refl _ _) 1); rintro e wf ⟨rfl, hwf⟩; have HWf := Lib.hid (HT2.out _ _ (drewB (Below.refl _ _) 1) hwf); have hsz2 : ¬ 9223372036854775807 < (Lib.decDigits (n / fv)).length + nm.size := (by omega); clear hwf))
        all_goals
          have Hn : Hid (FLoop w n L (.string (⟨(Lib.decDigits (n / fv)).toArray⟩ ++ nm)) (.int .i64 ((i : Int) + 1)) wf) := by
            refine ⟨i + 1, by omega, rfl, ⟨_, rfl, ?_⟩, HB.out.trans ((HW1.out.trans (HWf.out.mono HW1.out.size)).mono HB.out.size)⟩
            rw [HT.out, lastFit_app, fitStep, if_pos Hrem.out]; simp [dec_asc]
          go_wp2
          go_roundw
          case rel => exact Hn.out
          case measure => simp [intOf]; omega
      · have hm : ((n : Int) % (fv : Int) == 0) = false := by
          have : (n : Int) % (fv : Int) = ((n % fv : Nat) : Int) := by omega
          rw [this]; simp; omega
        have Hrem := Lib.hid hrem
        have Hn : Hid (FLoop w n L (.string s) (.int .i64 ((i : Int) + 1)) (wr.alloc (.cells #[.string nm, .int .u64 fv] 104))) := by
          refine ⟨i + 1, by omega, rfl, ⟨_, rfl, ?_⟩, HB.out.trans (hw1.mono HB.out.size)⟩
          rw [HT.out, lastFit_app, fitStep, if_neg hrem]; exact Hs.out
        clear hrem
        go_wp2
        go_roundw
        case rel => exact Hn.out
        case measure => simp [intOf]; omega
    · obtain rfl : i = L.length := by omega
      have hd := dF hlt
      clear hlt
      go_wp2
      go_ret
      refine ⟨_, rfl, ⟨_, rfl, ?_⟩, HB.out⟩
      rw [Hs.out, List.take_of_length_le (by simp [uTab])]
end Go.Proofs.YtleajmblagddcaaDoor
