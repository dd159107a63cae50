/- ref03's minus. -/
import Derived.Test.YtleajmblagddcaaDoorD2
import Derived.Deep.RegionHeld3
namespace Go.Proofs.YtleajmblagddcaaDoor
open Go.RowKit
set_option linter.unusedVariables false
set_option linter.unusedSimpArgs false

theorem vald_take_getD (l : List Nat) (k : Nat) : vald (l.take (k + 1)) = vald (l.take k) + 10 ^ k * l.getD k 0 := by
  by_cases h : k < l.length
  · rw [vald_take_succ l k h]; simp [List.getD, h]
  · rw [List.take_of_length_le (by omega), List.take_of_length_le (by omega)]
    simp [List.getD, List.getElem?_eq_none (by omega : l.length ≤ k)]
theorem getD_lt {l : List Nat} (h : DLt l) (k : Nat) : l.getD k 0 < 10 := by
  by_cases hk : k < l.length
  · simp [List.getD, hk]; exact h _ (List.getElem_mem hk)
  · simp [List.getD, List.getElem?_eq_none (by omega : l.length ≤ k)]

def MLoop (w : World) (x y : List Nat) (va vb v5 v6 v7 : Value) (w1 : World) : Prop := ∃ (k : Nat) (out : List Nat) (bw : Nat), k ≤ x.length ∧ v7 = .int .i64 k ∧ v6 = .int .i64 bw ∧ bw ≤ 1 ∧ out.length = k ∧ DLt out ∧
  vald (x.take k) + bw * 10 ^ k = vald out + vald (y.take k) ∧ w1.ownsRow 0 3 1 v5 out.length (ints out) ∧ (∀ j, v5.ownBlock = some j → w.heap.size ≤ j) ∧
  w1.heap[w.heap.size]? = some (.cells #[va] 91 (0, 0)) ∧ w1.heap[w.heap.size + 1]? = some (.cells #[vb] 91 (0, 0)) ∧
  w1.heap[w.heap.size + 1 + 1]? = some (.cells #[.slice none 0 0] 91 (0, 0)) ∧ Below w.heap.size w w1

theorem own_below {w w1 : World} {base : Nat} {e : TypeId} {size n : Nat} {v : Value} {xs : List Value} (ho : w.ownsRow base e size v n xs) (hb : Below w.heap.size w w1) : w1.ownsRow base e size v n xs :=
  (Fr.of_below hb (fun _ => False)).owns ho (fun _ _ h => h)
theorem blk_below {w w1 : World} {g : Nat} {o : Obj} (h : w.heap[g]? = some o) (hb : Below w.heap.size w w1) : w1.heap[g]? = some o := by
  rw [hb.block g (blk_lt h)]; exact h
theorem msum {P X Y V p q d bw bn : Nat} (h : X + bw * P = V + Y) (hd : p + 10 * bn = d + q + bw) : X + P * p + bn * (P * 10) = V + P * d + (Y + P * q) := by
  have e : P * (p + 10 * bn) = P * (d + q + bw) := by rw [hd]
  rw [Nat.mul_add, Nat.mul_add, Nat.mul_add] at e
  rw [show bn * (P * 10) = P * (10 * bn) from by rw [Nat.mul_comm bn, Nat.mul_assoc]]
  rw [Nat.mul_comm bw P] at h
  omega

/-- one more digit -/
theorem MLoop.next {w w' w2 : World} {x y out : List Nat} {va vb v5 v' : Value} {k bw p q d bn : Nat} {t : TypeId} (hk : k < x.length) (hol : out.length = k) (hdo : DLt out) (hd10 : d < 10) (hbn : bn ≤ 1)
    (hval : vald (x.take k) + bw * 10 ^ k = vald out + vald (y.take k)) (HX : vald (x.take (k + 1)) = vald (x.take k) + 10 ^ k * p) (HY : vald (y.take (k + 1)) = vald (y.take k) + 10 ^ k * q) (hd : p + 10 * bn = d + q + bw)
    (hnew : ∀ j, v5.ownBlock = some j → w.heap.size ≤ j) (hB : Below w.heap.size w w')
    (b0 : w'.heap[w.heap.size]? = some (.cells #[va] 91 (0, 0))) (b1 : w'.heap[w.heap.size + 1]? = some (.cells #[vb] 91 (0, 0))) (b2 : w'.heap[w.heap.size + 1 + 1]? = some (.cells #[.slice none 0 0] 91 (0, 0)))
    (ho' : w'.ownsRow 0 3 1 v5 out.length (ints out))
    (ho2 : w2.ownsRow 0 3 1 v' (out.length + 1) (ints out ++ ints [d])) (hg2 : (w'.alloc (.cells #[.int .i64 (d : Int)] t)).grownBy w2 v5.ownBlock) (hn2 : ∀ j, v'.ownBlock = some j → v5.ownBlock = some j ∨ w'.heap.size + 1 ≤ j) :
    MLoop w x y va vb v' (.int .i64 bn) (.int .i64 ((k : Int) + 1)) w2 := by
  subst hol
  have hs := hB.size
  refine ⟨out.length + 1, out ++ [d], bn, hk, by simp, rfl, hbn, by simp, ?_, ?_, ?_, ?_, ?_, ?_, ?_, ?_⟩
  · intro z hz; rcases List.mem_append.1 hz with h | h
    · exact hdo z h
    · rw [List.mem_singleton.1 h]; exact hd10
  · rw [HX, HY, vald_app, Nat.pow_succ, show vald [d] = d from by simp [vald]]; exact msum hval hd
  · rw [ints_app, List.length_append]; exact ho2
  · intro j hj
    rcases hn2 j hj with h1 | h1
    · exact hnew j h1
    · omega
  · exact blk_grown (blk_alloc b0 _) hg2 (own_ne_blk ho' b0 (by decide))
  · exact blk_grown (blk_alloc b1 _) hg2 (own_ne_blk ho' b1 (by decide))
  · exact blk_grown (blk_alloc b2 _) hg2 (own_ne_blk ho' b2 (by decide))
  · exact (hB.alloc hs _).grown hg2 (by simp; omega) (fun j hj => hnew j hj)

set_option maxRecDepth 100000 in
set_option maxHeartbeats 3200000 in
theorem minus_calls (w : World) (va vb : Value) (a b : Nat) (hba : b ≤ a) (ha : RdI w va (dig a)) (hb : RdI w vb (dig b)) (hla : (dig a).length ≤ 1048576) (hlb : (dig b).length ≤ 1048576) :
    Calls Tryd.prog 49 #[.agg #[va], .agg #[vb]] w (LPost w (dig (a - b))) := by
  have hda := dlt_dig a
  have hdb := dlt_dig b
  have hva := vald_dig a
  have hvb := vald_dig b
  have Hlen : Hid ((dig b).length ≤ (dig a).length) := by
    show _ ≤ _
    rcases Nat.lt_or_ge (dig a).length (dig b).length with h | h
    · have := dig_lt_of_len h; omega
    · exact h
  generalize dig a = x at ha hda hla hva Hlen
  generalize dig b = y at hb hdb hlb hvb Hlen
  have Hva := Lib.hid hva
  have Hvb := Lib.hid hvb
  clear hva hvb
  obtain ⟨A, c, rfl⟩ := ha.slice
  obtain ⟨A2, c2, rfl⟩ := hb.slice
  have Hst : Hid (MLoop w x y (.slice A x.length c) (.slice A2 y.length c2) (.slice none 0 0) (.int .i64 0) (.int .i64 0) (((w.alloc (.cells #[.slice A x.length c] 91)).alloc (.cells #[.slice A2 y.length c2] 91)).alloc (.cells #[.slice none 0 0] 91))) :=
    ⟨0, [], 0, Nat.zero_le _, rfl, rfl, by omega, rfl, (fun d hd => by cases hd), by simp [vald], World.ownsRow_nil _ _ _ _, (fun j hj => by cases hj), blk_alloc (blk_alloc (blk_new _ _) _) _, blk_alloc (by simpa using blk_new (w.alloc (.cells #[.slice A x.length c] 91)) _) _,
      by simpa using blk_new ((w.alloc (.cells #[.slice A x.length c] 91)).alloc (.cells #[.slice A2 y.length c2] 91)) _, (((Below.refl _ _).alloc (Nat.le_refl _) _).alloc (by simp) _).alloc (by simp; omega) _⟩
  go_enter Tryd.func49, Tryd.ntmps49
  go_wp2
  go_loopw [5, 6, 7] (fun v5 v6 v7 w1 => MLoop w x y (.slice A x.length c) (.slice A2 y.length c2) v5 v6 v7 w1) (fun _ _ i _ => x.length - (intOf i).toNat)
  case atStart => exact Hst.out
  case round =>
    obtain ⟨k, out, bw, hk, rfl, rfl, hbw, hol, hdo, hval, hown, hnew, b0, b1, b2, hB⟩ := hrel
    have Hval := Lib.hid hval
    have Hol := Lib.hid hol
    have Hnew := Lib.hid hnew
    clear hval hol hnew
    obtain ⟨A3, c3, rfl⟩ := own_slice hown
    obtain ⟨d0, -⟩ := cells1 b0
    obtain ⟨d1, -⟩ := cells1 b1
    by_cases hlt : k < x.length
    · have hltd := dT hlt
      obtain ⟨bx, ox, kx, hv, hkx, hbbx, hcx⟩ := ha.some (by intro e; rw [e] at hlt; simp at hlt)
      cases hv
      have q1 := (hB.cell (p := ⟨bx, ox + k, none⟩) hbbx).trans (hcx k hlt)
      have hx10 := hda _ (List.getElem_mem hlt)
      have hy10 := getD_lt hdb k
      have Hx := vald_take_succ x k hlt
      have Hy := vald_take_getD y k
      have hat : ∀ W, Below w.heap.size w W → Calls Tryd.prog 60 #[.agg #[.slice A2 y.length c2], .int .i64 k] W fun e w' => e = .returned (.int .i64 (y.getD k 0 : Nat)) ∧ Below W.heap.size W w' := fun W hW => at_calls W _ y (hb.below hW) k (by omega) hlb
      have Hat := Lib.hid hat
      clear hat hcx
      generalize x[k] = p at q1 hx10 Hx
      generalize y.getD k 0 = q at Hat hy10 Hy
      have HX := Lib.hid Hx
      have HY := Lib.hid Hy
      clear Hx Hy
      have HB := Lib.hid hB
      have hbB := fun W (h : Below wr.heap.size wr W) => hB.trans (h.mono hB.size)
      clear hB
      have HS : Hid (∀ W, Below wr.heap.size wr W → W.cell? ⟨w.heap.size, 0, none⟩ = some (.slice (some ⟨bx, ox, none⟩) x.length c) ∧ W.cell? ⟨bx, ox + k, none⟩ = some (.int .i64 p) ∧ W.cell? ⟨w.heap.size + 1, 0, none⟩ = some (.slice A2 y.length c2) ∧ Below wr.heap.size wr W) := by
        intro W hW
        refine ⟨(hW.cell (p := ⟨w.heap.size, 0, none⟩) (World.block_lt_of_cell? _ _ d0)).trans d0, (hW.cell (p := ⟨bx, ox + k, none⟩) (World.block_lt_of_cell? _ _ q1)).trans q1, (hW.cell (p := ⟨w.heap.size + 1, 0, none⟩) (World.block_lt_of_cell? _ _ d1)).trans d1, hW⟩
      have HB0 : Hid (Below wr.heap.size wr wr.drew) := drewB (Below.refl _ _) 1
      have HT : Hid (∀ W W', Below wr.heap.size wr W → Below W.heap.size W W' → Below wr.heap.size wr W') := fun W W' h1 h2 => h1.trans (h2.mono h1.size)
      go_wp2
      go_region_held3 (fun w' => w'.cell? ⟨w.heap.size, 0, none⟩ = some (.slice (some ⟨bx, ox, none⟩) x.length c) ∧ w'.cell? ⟨bx, ox + k, none⟩ = some (.int .i64 p) ∧ w'.cell? ⟨w.heap.size + 1, 0, none⟩ = some (.slice A2 y.length c2) ∧ Below wr.heap.size wr w') (first | exact HS.out _ HB0.out | (exact HS.out _ (HT.out _ _ (by assumption) (by assumption))))
        ((go_at_call 60; refine (Hat.out _ ?hx).mono ?_; exact hbB _ (by assumption); rintro e w' ⟨rfl, hq⟩))
      have hB2 := hbB _ (HT.out _ _ (by assumption) hq)
      have hW := HT.out _ _ (by assumption) hq
      have z0 := blk_below b0 hW
      have z1 := blk_below b1 hW
      have z2 := blk_below b2 hW
      have hown2 := own_below hown hW
      obtain ⟨cc, cf⟩ := cells1 z2
      have e1 : IntKind.i64.wrap ((p:Int) - q) = (p:Int) - q := by rw [IntKind.wrap_i64]; omega
      have e2 : IntKind.i64.wrap ((p:Int) - q - bw) = (p:Int) - q - bw := by rw [IntKind.wrap_i64]; omega
      rw [e1, e2]
      clear e1 e2 hbB b0 b1 b2 hown
      by_cases hlow : p < q + bw
      · obtain ⟨d, hdq⟩ : ∃ d : Nat, p + 10 * 1 = d + q + bw := ⟨p + 10 - q - bw, by omega⟩
        have hdd : (p:Int) - q - bw + 10 = d := by omega
        have hd10 : d < 10 := by omega
        have hneg : decide ((p:Int) - q - bw < 0) = true := decide_eq_true (by omega)
        go_wp2_with (at_builtin; refine wpList_append2 _ rfl (.tmp 31) (.tmp 33) 89 rfl 3 (.int .i64 0) 1 8 Tryd.underlying89 infoInt rfl (by decide) _ out.length (ints out) rfl (hown2.alloc _) _ 1 (ints [d]) rfl ?c1 (ints_one _) ?c2 ?c3 ?_)
        case c1 => exact RdI.one _ _ _
        case c2 => have := Hol.out; unfold maxLen; omega
        case c3 => have := Hol.out; omega
        intro v' w2 ho2 hg2 hn2 _
        have Hk := Lib.hid (MLoop.next (bn := 1) hlt Hol.out hdo hd10 (by omega) Hval.out HX.out HY.out hdq Hnew.out hB2 z0 z1 z2 hown2 ho2 hg2 hn2)
        clear ho2 hg2 hn2 hown2 hB2 z0 z1 z2
        go_wp2
        go_roundw
        case rel => exact Hk.out
        case measure => simp [intOf]; omega
      · obtain ⟨d, hdq⟩ : ∃ d : Nat, p + 10 * 0 = d + q + bw := ⟨p - q - bw, by omega⟩
        have hdd : (p:Int) - q - bw = d := by omega
        have hd10 : d < 10 := by omega
        rw [hdd]
        have hneg : decide ((d:Int) < 0) = false := decide_eq_false (by omega)
        go_wp2_with (at_builtin; refine wpList_append2 _ rfl (.tmp 31) (.tmp 33) 89 rfl 3 (.int .i64 0) 1 8 Tryd.underlying89 infoInt rfl (by decide) _ out.length (ints out) rfl (hown2.alloc _) _ 1 (ints [d]) rfl ?c1 (ints_one _) ?c2 ?c3 ?_)
        case c1 => exact RdI.one _ _ _
        case c2 => have := Hol.out; unfold maxLen; omega
        case c3 => have := Hol.out; omega
        intro v' w2 ho2 hg2 hn2 _
        have Hk := Lib.hid (MLoop.next (bn := 0) hlt Hol.out hdo hd10 (by omega) Hval.out HX.out HY.out hdq Hnew.out hB2 z0 z1 z2 hown2 ho2 hg2 hn2)
        clear ho2 hg2 hn2 hown2 hB2 z0 z1 z2
        go_wp2
        go_roundw
        case rel => exact Hk.out
        case measure => simp [intOf]; omega
    · have hkx : k = x.length := by omega
      have hltd := dF hlt
      have hw : Hid (wr.heap[w.heap.size + 1 + 1]? = some (.cells #[.slice none 0 0] 91 (0, 0))) := b2
      have hcall : ∀ W, Below wr.heap.size wr W → Calls Tryd.prog 47 #[.slice A3 out.length c3] W (CutPost W (.slice A3 out.length c3) (trim out)) := fun W hW => cut_calls W _ out (RdI.of_own (own_below hown hW)) (by have := Hol.out; omega)
      obtain ⟨cc, cf⟩ := cells1 b2
      have Hcall := Lib.hid hcall
      clear hcall
      have hres : Hid (trim out = dig (a - b)) := by
        show _ = _
        have h1 := Hval.out
        subst hkx
        have h2 := vald_lt hdo
        rw [List.take_of_length_le (Nat.le_refl _), List.take_of_length_le Hlen.out, Hva.out, Hvb.out] at h1
        rw [Hol.out] at h2
        rw [trim_eq hdo]
        congr 1
        rcases (by omega : bw = 0 ∨ bw = 1) with rfl | rfl
        · rw [Nat.zero_mul] at h1; omega
        · rw [Nat.one_mul] at h1; omega
      go_wp2_with fail
      refine (Hcall.out _ (Below.refl _ _)).mono ?_
      rintro e w1 ⟨sv, rfl, hr, hsv, hw1⟩
      obtain ⟨A4, c4, rfl⟩ := hr.slice
      have z2 := blk_below hw.out hw1
      obtain ⟨cd, cg⟩ := cells1 z2
      have hns : (Value.slice A4 (trim out).length c4).ownBlock ≠ some (w.heap.size + 1 + 1) := fun h => own_ne_blk hown b2 (by decide) (hsv _ h)
      have Hf := Lib.hid (((hB.trans (hw1.mono hB.size)).setCell (p := ⟨w.heap.size + 1 + 1, 0, none⟩) (by show _ ≤ _; simp; omega) (.slice A4 (trim out).length c4)))
      have Hr := Lib.hid (hr.fr ((Fr.refl (Only (w.heap.size + 1 + 1)) w1).setCell (p := ⟨w.heap.size + 1 + 1, 0, none⟩) (.inl rfl) (.slice A4 (trim out).length c4)) (fun k hk e => hns (by rw [hk, show k = _ from e])))
      have Hn : Hid (∀ k, (Value.slice A4 (trim out).length c4).ownBlock = some k → w.heap.size ≤ k) := fun k hk => Hnew.out k (hsv k hk)
      have Hc := Lib.hid (cells1 (blk_setCell z2 0 (.slice A4 (trim out).length c4))).1
      clear hr hsv hw1 hns
      go_wp2
      have HC := Hc.out
      refine bodyPost_ret (v := .agg #[.slice A4 (trim out).length c4]) (by simp [results, Tryd.results49, go_sem, HC]) rfl ⟨_, rfl, ?_, Hn.out, Hf.out⟩
      rw [← hres.out]; exact Hr.out
end Go.Proofs.YtleajmblagddcaaDoor
