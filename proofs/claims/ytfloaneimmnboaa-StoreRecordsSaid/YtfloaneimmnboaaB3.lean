/- The reference's Writer.Out and Record. -/
import Derived.Test.YtfloaneimmnboaaB2
namespace Go.Proofs.Ytfloaneimmnboaa
open Go.RowKit Go.Maps Go.WideMaps
set_option linter.unusedVariables false
set_option linter.unusedSimpArgs false

def OLoop (w : World) (g : Nat) (p : PW) (sv : Value) (v i : Value) (w1 : World) : Prop :=
  ∃ (k : Nat), k ≤ p.out.length ∧ i = .int .i64 k ∧ w1.ownsRow 0 5 1 v k (u8s (p.out.take k)) ∧ (∀ j, v.ownBlock = some j → w.heap.size ≤ j) ∧ IsV w1 g p sv ∧ Below w.heap.size w w1

set_option maxHeartbeats 1600000 in
theorem vout_ok (w : World) (g : Nat) (p : PW) (sv : Value) (h : IsV w g p sv) (he : p.err = 0) :
    Calls Try.prog 26 #[.pointer (some ⟨g, 0, none⟩)] w fun e w' =>
      ∃ rv, e = .returned (.tuple #[rv, .int .i64 0]) ∧ w'.ownsRow 0 5 1 rv p.out.length (u8s p.out) ∧ (∀ k, rv.ownBlock = some k → w.heap.size ≤ k) ∧ Below w.heap.size w w' := by
  have hlim := h.lim
  have hfit := h.fit
  obtain ⟨A', c', rfl⟩ := own_slice h.own
  obtain ⟨c0, c1, c2, f0, f1, f2⟩ := cells3 h.blk
  rw [he] at c2
  have Hst : Hid (OLoop w g p (.slice A' p.out.length c') (.slice none 0 0) (.int .i64 0) w) := ⟨0, Nat.zero_le _, rfl, World.ownsRow_nil _ _ _ _, (fun k hk => by cases hk), h, Below.refl _ _⟩
  have He := Lib.hid he
  clear he
  go_enter Try.func26, Try.ntmps26
  go_wp2
  go_loopw [4, 5] (fun v i w1 => OLoop w g p (.slice A' p.out.length c') v i w1) (fun _ i _ => p.out.length - (intOf i).toNat)
  case atStart => exact Hst.out
  case round =>
    clear c0 c1 c2 f0 f1 f2
    obtain ⟨k, hk, rfl, ho, hn, hV, hb⟩ := hrel
    obtain ⟨A1, c1', rfl⟩ := own_slice ho
    obtain ⟨c0, c1, c2, f0, f1, f2⟩ := cells3 hV.blk
    by_cases hlt : k < p.out.length
    · have hltd := dT hlt
      obtain ⟨b, off, cc, hv', hc', hb2, hcell⟩ := (RdB.of_own hV.own).some (by intro e; simp [u8s] at e; rw [e] at hlt; simp at hlt)
      cases hv'
      have hcl := hcell k (.int .u8 (p.out[k].toNat)) (by simp [u8s, hlt])
      have Htk : Hid (p.out.take (k + 1) = p.out.take k ++ [p.out[k]]) := by
        show _ = _
        rw [List.take_add_one, List.getElem?_eq_getElem hlt]; rfl
      generalize p.out[k] = xb at hcl Htk
      have Hn := Lib.hid hn
      have HV := Lib.hid hV
      clear hn hV
      go_wp2_with (at_builtin; refine wpList_append2 _ rfl (.tmp 24) (.tmp 32) 42 rfl 5 (.int .u8 0) 1 1 Try.underlying42 infoU8 rfl (by decide) _ k (u8s (p.out.take k)) rfl (ho.alloc _) _ 1 (u8s [xb]) rfl (RdB.one _ _ _) (u8s_one _) ?c2 ?c3 ?_)
      case c2 => unfold maxLen; omega
      case c3 => omega
      intro v' w2 ho2 hg2 hn2 _
      have Hk : Hid (OLoop w g p (.slice (some ⟨b, off, none⟩) p.out.length c') v' (.int .i64 ((k + 1 : Nat) : Int)) w2) := by
        have hF : Fr (fun j => (Value.slice A1 k c1').ownBlock = some j) wr w2 := ((Fr.refl _ wr).alloc _).grown hg2 (fun j hj => .inl hj)
        refine ⟨k + 1, by omega, rfl, ?_, ?_, ?_, ?_⟩
        · rw [Htk.out, u8s_app]; exact ho2
        · intro j hj
          rcases hn2 j hj with h1 | h1
          · exact Hn.out j h1
          · have := hb.size; have h2 : wr.heap.size + 1 ≤ j := by simpa using h1
            omega
        · refine HV.out.fr hF (fun j hj e => ?_)
          have h1 := VS_lt h j hj
          have h2 := Hn.out j e
          omega
        · exact hb.trans (hF.to_below (fun j hj => Hn.out j hj) hb.size)
      clear ho2 hg2 hn2 ho hb
      go_wp2
      go_roundw
      case rel => exact Hk.out
      case measure => simp [intOf]; omega
    · have hltd := dF hlt
      obtain rfl : k = p.out.length := by omega
      rw [List.take_of_length_le (Nat.le_refl _)] at ho
      have Ho := Lib.hid ho
      clear ho
      go_wp2
      go_ret2
      exact ⟨_, rfl, Ho.out, hn, hb⟩

theorem vout_err (w : World) (g : Nat) (p : PW) (sv : Value) (h : IsV w g p sv) (he : p.err ≠ 0) :
    Calls Try.prog 26 #[.pointer (some ⟨g, 0, none⟩)] w fun e w' =>
      e = .returned (.tuple #[.slice none 0 0, .int .i64 p.err]) ∧ Below w.heap.size w w' := by
  obtain ⟨c0, c1, c2, f0, f1, f2⟩ := cells3 h.blk
  have hne : (p.err != 0) = true := by simpa using he
  go_enter Try.func26, Try.ntmps26
  go_wp2
  go_quiet (fail)
  go_wp2
  go_ret2
  exact ⟨rfl, drewB (Below.refl _ _) _⟩

def VRecLoop (B : World) (g : Nat) (v : Nat) (l : List Ch) (i : Value) (w : World) : Prop :=
  ∃ (k : Nat) (p : PW) (sv : Value), k ≤ l.length ∧ i = .int .i64 k ∧ IsV w g p sv ∧ Got 1048576 p (headEnc v l.length ++ (l.take k).flatMap Ch.enc) ∧ (∀ k, WS g sv k → B.heap.size ≤ k) ∧ Below B.heap.size B w

theorem vrecord_arg (w : World) (v : Int) (sv : Value) (l : List Ch) (h : RdC w sv l) (hv : v < 1 ∨ 1152921504606846976 < v) :
    Calls Try.prog 7 #[.int .i64 v, sv] w (RecPost w (recordE v l)) := by
  have e : recordE v l = (⟨#[]⟩, 1) := by rw [recordE, if_pos hv]
  rw [e]
  by_cases h1 : v < 1
  · go_enter Try.func7, Try.ntmps7
    go_wp2
    go_ret2
    exact ⟨rfl, Below.refl _ _⟩
  · have h2 : 1152921504606846976 < v := by omega
    go_enter Try.func7, Try.ntmps7
    go_wp2
    go_ret2
    exact ⟨rfl, Below.refl _ _⟩

theorem vrecord_bad (w : World) (v : Int) (sv : Value) (l : List Ch) (h : RdC w sv l) (hv : ¬ (v < 1 ∨ 1152921504606846976 < v)) (hr : rightE l ≠ 0) :
    Calls Try.prog 7 #[.int .i64 v, sv] w (RecPost w (recordE v l)) := by
  have e : recordE v l = (⟨#[]⟩, rightE l) := by rw [recordE, if_neg hv, if_pos hr]
  rw [e]
  have h1 : 1 ≤ v := by omega
  have h2 : v ≤ 1152921504606846976 := by omega
  clear hv
  have hc := wrong_calls w sv l h
  generalize rightE l = r at hr hc
  have hne : (r != 0) = true := by simpa using hr
  have Hc := Lib.hid hc
  clear hc
  obtain ⟨-, A, c, rfl, -⟩ := h.rd
  go_enter Try.func7, Try.ntmps7
  go_wp2_with fail
  refine Hc.out.mono ?_
  rintro e w1 ⟨rfl, hb⟩
  go_wp2
  go_ret2
  exact ⟨rfl, hb⟩

set_option maxRecDepth 100000 in
set_option maxHeartbeats 1600000 in
theorem vrecord_good (w : World) (v : Nat) (sv : Value) (l : List Ch) (h : RdC w sv l) (h1 : 1 ≤ v) (h2 : v ≤ 1152921504606846976) (hr : rightE l = 0) :
    Calls Try.prog 7 #[.int .i64 v, sv] w (RecPost w (recordE v l)) := by
  have he : recordE v l = if 32768 < (recEnc v l).length then (⟨#[]⟩, 23) else (⟨(recEnc v l).toArray⟩, 0) := by
    rw [recordE, if_neg (by omega), if_neg (by omega)]; rfl
  have He := Lib.hid he
  clear he
  obtain ⟨hne, hgood, hlong, hlen⟩ := rightE_zero hr
  have hc := wrong_calls w sv l h
  rw [hr] at hc
  have Hc := Lib.hid hc
  clear hc hr hgood hlong
  obtain ⟨b, off, c, rfl, hcap, hb, hcell⟩ := h.some hne
  have hpos : 0 < l.length := List.length_pos_iff.2 hne
  go_enter Try.func7, Try.ntmps7
  go_wp2_with fail
  refine Hc.out.mono ?_
  rintro e w1 ⟨rfl, hb1⟩
  go_wp2_with fail
  refine (newV_calls w1 1048576 (by decide) (by decide)).mono ?_
  rintro e w2 ⟨g, rfl, hW, hg, hb2⟩
  have hsz := hb1.size
  have hsz2 := hb2.size
  have G0 : Got 1048576 ⟨1048576, [], 0⟩ [] := ⟨rfl, .inl ⟨rfl, rfl, by simp⟩⟩
  have S0 : ∀ k, WS g (.slice none 0 0) k → w.heap.size ≤ k := fun k hk => hk.elim (fun e => by omega) (fun e => by cases e)
  have B0 : Below w.heap.size w w2 := hb1.trans (hb2.mono hsz)
  clear hb1 hb2 Hc
  go_wp2_with fail
  refine (V_byte w2 g _ _ hW 195 (by decide)).mono ?_
  rintro e w3 ⟨rfl, sv3, hW3, st3⟩
  replace G0 := G0.lay [loB 195]
  have S3 := st3.ge S0 B0.size
  have B3 := B0.trans (st3.to_below S0 B0.size)
  clear st3 S0 B0 hW
  go_wp2_with fail
  refine (V_uint w3 g _ _ hW3 v (by omega)).mono ?_
  rintro e w4 ⟨rfl, sv4, hW4, st4⟩
  replace G0 := G0.lay (form v)
  have S4 := st4.ge S3 B3.size
  have B4 := B3.trans (st4.to_below S3 B3.size)
  clear st4 S3 B3 hW3
  go_wp2_with fail
  refine (V_count w4 g _ _ hW4 l.length hlen).mono ?_
  rintro e w5 ⟨rfl, sv5, hW5, st5⟩
  replace G0 := G0.lay (form l.length)
  have S5 := st5.ge S4 B4.size
  have B5 := B4.trans (st5.to_below S4 B4.size)
  clear st5 S4 B4 hW4
  have Hl : Hid (VRecLoop w g v l (.int .i64 0) w5) := ⟨0, _, sv5, Nat.zero_le _, rfl, hW5, by simpa [headEnc] using G0, S5, B5⟩
  clear hW5 G0 S5 B5
  go_wp2
  go_loopw [8] (fun i w1 => VRecLoop w g v l i w1) (fun i _ => l.length - (intOf i).toNat)
  case atStart => exact Hl.out
  case round =>
    obtain ⟨k, p, sv1, hk, rfl, hW, hG, hS, hB⟩ := hrel
    have HG := Lib.hid hG
    clear hG
    by_cases hlt : k < l.length
    · have hltd := dT hlt
      obtain ⟨m0, m1, m2⟩ := hcell k hlt
      have q0 := (hB.cell (p := ⟨b, off + k * 3, none⟩) hb).trans m0
      have q1 := (hB.cell (p := ⟨b, off + k * 3 + 1, none⟩) hb).trans m1
      have q2 := (hB.cell (p := ⟨b, off + k * 3 + 2, none⟩) hb).trans m2
      obtain ⟨hs1, hs2⟩ := h.str _ (List.getElem_mem hlt)
      have hT := take_flat l k hlt
      generalize hx : l[k] = x at q0 q1 q2 hs1 hs2 hT m0 m1 m2
      obtain ⟨xk, xv, xg⟩ := x
      simp only at q0 q1 q2 hs1 hs2 m0 m1 m2
      clear hx
      have HT := Lib.hid hT
      have M0 := Lib.hid m0
      have M1 := Lib.hid m1
      have M2 := Lib.hid m2
      clear hT m0 m1 m2
      have hsz := hB.size
      go_wp2_with fail
      refine (V_bool _ g p sv1 hW xg).mono ?_
      rintro e w2 ⟨rfl, sv2, hW2, st2⟩
      have B2 : Below w.heap.size w w2 := hB.trans (st2.to_below hS hB.size)
      have S2 := st2.ge hS hB.size
      clear st2 hS hW q0 q1 q2
      have q0 := (B2.cell (p := ⟨b, off + k * 3, none⟩) hb).trans M0.out
      go_wp2_with fail
      refine (V_text _ g _ sv2 hW2 xk hs1).mono ?_
      rintro e w3 ⟨rfl, sv3, hW3, st3⟩
      have B3 : Below w.heap.size w w3 := B2.trans (st3.to_below S2 B2.size)
      have S3 := st3.ge S2 B2.size
      clear st3 S2 hW2 q0
      have q1 := (B3.cell (p := ⟨b, off + k * 3 + 1, none⟩) hb).trans M1.out
      have q2 := (B3.cell (p := ⟨b, off + k * 3 + 2, none⟩) hb).trans M2.out
      cases xg
      · go_wp2_with fail
        refine (V_text _ g _ sv3 hW3 xv hs2).mono ?_
        rintro e w4 ⟨rfl, sv4, hW4, st4⟩
        have Hk : Hid (VRecLoop w g v l (.int .i64 ((k + 1 : Nat) : Int)) w4) := ⟨k + 1, _, sv4, by omega, rfl, hW4, by
          have := ((HG.out.lay [loB 0]).lay (form xk.size ++ xk.data.toList)).lay (form xv.size ++ xv.data.toList)
          rw [HT.out]
          simpa [Ch.enc] using this, st4.ge S3 B3.size, B3.trans (st4.to_below S3 B3.size)⟩
        clear st4 S3 B3 hW3 hW4
        go_wp2
        go_roundw
        case rel => exact Hk.out
        case measure => simp [intOf]; omega
      · have Hk : Hid (VRecLoop w g v l (.int .i64 ((k + 1 : Nat) : Int)) w3) := ⟨k + 1, _, sv3, by omega, rfl, hW3, by
          have := ((HG.out.lay [loB 1]).lay (form xk.size ++ xk.data.toList))
          rw [HT.out]
          simpa [Ch.enc] using this, S3, B3⟩
        clear S3 B3 hW3
        go_wp2
        go_roundw
        case rel => exact Hk.out
        case measure => simp [intOf]; omega
    · have hltd := dF hlt
      have Hall : Hid (Got 1048576 p (recEnc v l)) := by
        have := HG.out
        rw [List.take_of_length_le (by omega)] at this
        exact this
      clear HG
      by_cases hp : p.err = 0
      · go_wp2_with fail
        refine (vout_ok _ g p sv1 hW hp).mono ?_
        rintro e w2 ⟨rv, rfl, ho, hn, hb2⟩
        have hcv := conv_bytes (P := Try.prog) 42 9 5 Try.underlying42 Try.underlying5 Try.underlying9 (RdB.of_own ho)
        obtain ⟨A', c', rfl⟩ := own_slice ho
        have hout : p.out = recEnc v l ∧ (recEnc v l).length ≤ 1048576 := by
          rcases Hall.out with ⟨-, ⟨-, h2, h3⟩ | ⟨h2, -⟩⟩
          · exact ⟨h2, h3⟩
          · rw [hp] at h2; cases h2
        have hol := hout.2
        rw [← hout.1] at hol
        have BB := hB.trans (hb2.mono hB.size)
        by_cases h327 : 32768 < p.out.length
        · have hfin : recordE v l = (⟨#[]⟩, 23) := by rw [He.out, if_pos (by rw [← hout.1]; exact h327)]
          have Hfin := Lib.hid hfin
          have h327d : decide ((32768 : Int) < p.out.length) = true := decide_eq_true (by omega)
          have h327p : (32768 : Int) < p.out.length := by omega
          clear hb2 hB hfin hn ho hout
          go_wp2
          go_ret2
          exact ⟨by rw [Hfin.out]; rfl, BB⟩
        · have hfin : recordE v l = (⟨p.out.toArray⟩, 0) := by rw [He.out, if_neg (by rw [← hout.1]; exact h327), hout.1]
          have Hfin := Lib.hid hfin
          have h327d : decide ((32768 : Int) < p.out.length) = false := decide_eq_false (by omega)
          have h327p : ¬ (32768 : Int) < p.out.length := by omega
          clear hb2 hB hfin hn ho hout
          go_wp2
          go_ret2
          exact ⟨by rw [Hfin.out]; rfl, BB⟩
      · have hpe : p.err = 23 ∧ 32768 < (recEnc v l).length := by
          rcases Hall.out with ⟨-, ⟨h2, -⟩ | ⟨h2, h3⟩⟩
          · exact absurd h2 hp
          · exact ⟨h2, by omega⟩
        have hfin : recordE v l = (⟨#[]⟩, 23) := by rw [He.out, if_pos hpe.2]
        have Hfin := Lib.hid hfin
        clear hfin
        have Hpe := Lib.hid hpe.1
        clear hpe
        go_wp2_with fail
        refine (vout_err _ g p sv1 hW hp).mono ?_
        rintro e w2 ⟨rfl, hb2⟩
        rw [Hpe.out]
        have BB := hB.trans (hb2.mono hB.size)
        clear hb2 hB
        go_wp2
        go_ret2
        exact ⟨by rw [Hfin.out]; rfl, BB⟩

theorem vrecord_calls (w : World) (v : Int) (sv : Value) (l : List Ch) (h : RdC w sv l) :
    Calls Try.prog 7 #[.int .i64 v, sv] w (RecPost w (recordE v l)) := by
  by_cases hv : v < 1 ∨ 1152921504606846976 < v
  · exact vrecord_arg w v sv l h hv
  · by_cases hr : rightE l = 0
    · obtain ⟨n, rfl⟩ : ∃ n : Nat, v = n := ⟨v.toNat, by omega⟩
      exact vrecord_good w n sv l h (by omega) (by omega) hr
    · exact vrecord_bad w v sv l h hv hr
end Go.Proofs.Ytfloaneimmnboaa
