/- The contracts of Writer.Out, own and store.Record. -/
import Derived.Test.YtfloaneimmnboaaA2
import Derived.Laws.BytesArg
namespace Go.Proofs.Ytfloaneimmnboaa
open Go.RowKit Go.Maps Go.WideMaps
set_option linter.unusedVariables false
set_option linter.unusedSimpArgs false

theorem strOfNums_map (l : List UInt8) : strOfNums (l.map fun b => (b.toNat : Int)) = ⟨l.toArray⟩ := by
  unfold strOfNums
  congr 1
  rw [List.map_map]
  have : (fun n : Int => UInt8.ofNat n.toNat) ∘ (fun b : UInt8 => (b.toNat : Int)) = id := by funext b; simp
  rw [this, List.map_id]
theorem conv_bytes {P : Program} {w : World} {v : Value} {l : List UInt8} (src dst e : TypeId) (hs : P.underlying src = some (.slice e)) (he : P.underlying e = some (.int .u8)) (hd : P.underlying dst = some .string)
    (h : RdB w v l) : (convert src dst v).run P w = .ok (.string ⟨l.toArray⟩) w := by
  by_cases hl : l = []
  · subst hl
    obtain ⟨-, A, c, rfl, hc, hA, hcell⟩ := h
    cases A with
    | none => exact run_convert_bytes_nil w src e hs he _ _ dst hd
    | some ad =>
      rw [run_convert_bytes_string w src dst e _ _ c hs he hd]
      rfl
  · obtain ⟨b, off, c, rfl, hc, hb, hcell⟩ := h.some (by intro e; exact hl (by simpa [u8s] using e))
    have := run_convert_bytes_arg (P := P) w src e hs he b off l.length c (l.map fun b => (b.toNat : Int)) (by simp) (fun i hi => by
      rw [hcell i (.int .u8 (l[i].toNat)) (by simp [u8s, hi])]
      simp [List.getD, hi]) dst hd
    rw [strOfNums_map] at this
    exact this

theorem out_ok (w : World) (g : Nat) (p : PW) (sv : Value) (h : IsW w g p sv) (he : p.err = 0) :
    Calls Try.prog 18 #[.pointer (some ⟨g, 0, none⟩)] w fun e w' =>
      ∃ rv, e = .returned (.tuple #[rv, .int .i64 0]) ∧ w'.ownsRow 0 5 1 rv p.out.length (u8s p.out) ∧ (∀ k, rv.ownBlock = some k → w.heap.size ≤ k) ∧ Below w.heap.size w w' := by
  have hrd := RdB.of_own h.own
  have hlim := h.lim
  have hfit := h.fit
  obtain ⟨A', c', rfl⟩ := own_slice h.own
  obtain ⟨c0, c1, c2, f0, f1, f2⟩ := cells3 h.blk
  rw [he] at c2
  go_enter Try.func18, Try.ntmps18
  go_wp2_with (at_builtin; refine wpList_append2 _ rfl (.const (.slice none 0 0)) (.tmp 16) 42 rfl 5 (.int .u8 0) 1 1 Try.underlying42 infoU8 rfl (by decide) _ 0 [] rfl (World.ownsRow_nil _ _ _ _) _ p.out.length (u8s p.out) rfl hrd (u8s_one _) ?c2 ?c3 ?_)
  case c2 => exact Nat.le_trans (show 0 + p.out.length ≤ 1048576 by omega) (by decide)
  case c3 => omega
  intro v1 w1 ho1 hg1 hn1 _
  go_wp2
  go_ret2
  refine ⟨v1, rfl, by simpa using ho1, fun k hk => (hn1 k hk).elim (fun h => by cases h) id, (Below.refl _ _).grown hg1 (Nat.le_refl _) (fun k hk => by cases hk)⟩

theorem out_err (w : World) (g : Nat) (p : PW) (sv : Value) (h : IsW w g p sv) (he : p.err ≠ 0) :
    Calls Try.prog 18 #[.pointer (some ⟨g, 0, none⟩)] w fun e w' =>
      e = .returned (.tuple #[.slice none 0 0, .int .i64 p.err]) ∧ Below w.heap.size w w' := by
  obtain ⟨c0, c1, c2, f0, f1, f2⟩ := cells3 h.blk
  have hne : (p.err != 0) = true := by simpa using he
  go_enter Try.func18, Try.ntmps18
  go_wp2
  go_quiet (fail)
  go_wp2
  go_ret2
  exact ⟨rfl, (Fr.to_below (B := w.heap.size) ((Fr.refl (fun _ => False) w).drewN _) (fun _ h => h.elim) (Nat.le_refl _))⟩

theorem infoCh : (Try.prog.info? 32).map (fun i => (i.zero, i.size, i.bytes)) = some (some (.agg #[.string ⟨#[]⟩, .string ⟨#[]⟩, .bool false]), 3, 40) := by kernel_rfl
theorem chs_one (l : List Ch) : ∀ u ∈ chs l, u.oneCell' = true := by
  intro u hu
  simp only [chs, List.mem_flatMap] at hu
  obtain ⟨c, -, hc⟩ := hu
  simp only [Ch.cells, List.mem_cons, List.not_mem_nil, or_false] at hc
  rcases hc with rfl | rfl | rfl <;> rfl

theorem own_calls (w : World) (v : Value) (l : List Ch) (h : RdC w v l) :
    Calls Try.prog 5 #[v] w fun e w' => ∃ rv, e = .returned rv ∧ w'.ownsRow 0 32 3 rv l.length (chs l) ∧ (∀ k, rv.ownBlock = some k → w.heap.size ≤ k) ∧ Below w.heap.size w w' := by
  have hrd := h.rd
  have hlen := h.len
  obtain ⟨-, A, c, rfl, -⟩ := h.rd
  go_enter Try.func5, Try.ntmps5
  go_wp2_with (at_builtin; refine wpList_append2 _ rfl (.const (.slice none 0 0)) (.tmp 3) 22 rfl 32 (.agg #[.string ⟨#[]⟩, .string ⟨#[]⟩, .bool false]) 3 40 Try.underlying22 infoCh rfl (by decide) _ 0 [] rfl (World.ownsRow_nil _ _ _ _) _ l.length (chs l) rfl hrd (chs_one _) ?c2 ?c3 ?_)
  case c2 => exact Nat.le_trans (show 0 + l.length ≤ 3518437208781 by omega) (by decide)
  case c3 => omega
  intro v1 w1 ho1 hg1 hn1 _
  go_wp2
  go_ret
  refine ⟨v1, rfl, by simpa using ho1, fun k hk => (hn1 k hk).elim (fun h => by cases h) id, (Below.refl _ _).grown hg1 (Nat.le_refl _) (fun k hk => by cases hk)⟩

/-! ### Record -/
def Ch.enc (c : Ch) : List UInt8 := loB (if c.gone then 1 else 0) :: (form c.key.size ++ c.key.data.toList) ++ (if c.gone then [] else form c.val.size ++ c.val.data.toList)
def headEnc (v n : Nat) : List UInt8 := loB 195 :: (form v ++ form n)
def recEnc (v : Nat) (l : List Ch) : List UInt8 := headEnc v l.length ++ l.flatMap Ch.enc
open Classical in
/-- what Record answers -/
noncomputable def recordE (v : Int) (l : List Ch) : ByteArray × Int :=
  if v < 1 ∨ 1152921504606846976 < v then (⟨#[]⟩, 1) else if rightE l ≠ 0 then (⟨#[]⟩, rightE l) else if 32768 < (recEnc v.toNat l).length then (⟨#[]⟩, 23) else (⟨(recEnc v.toNat l).toArray⟩, 0)

/-- what was laid so far -/
def Got (lim : Nat) (p : PW) (bs : List UInt8) : Prop := p.limit = lim ∧ ((p.err = 0 ∧ p.out = bs ∧ bs.length ≤ lim) ∨ (p.err = 23 ∧ lim < bs.length))
theorem Got.lay {lim : Nat} {p : PW} {bs : List UInt8} (h : Got lim p bs) (b : List UInt8) : Got lim (p.lay b) (bs ++ b) := by
  obtain ⟨hl, ⟨h1, h2, h3⟩ | ⟨h1, h2⟩⟩ := h
  · unfold PW.lay
    rw [if_neg (by simpa using h1)]
    split
    · exact ⟨hl, .inr ⟨rfl, by rw [List.length_append]; rw [hl, h2] at *; assumption⟩⟩
    · exact ⟨hl, .inl ⟨h1, by simp [h2], by rw [List.length_append]; rw [hl, h2] at *; omega⟩⟩
  · unfold PW.lay
    rw [if_pos (by rw [h1]; decide)]
    exact ⟨hl, .inr ⟨h1, by rw [List.length_append]; omega⟩⟩

theorem rightE_zero {l : List Ch} (h : rightE l = 0) : l ≠ [] ∧ goodTo l l.length ∧ (∀ k, ¬ longAt l k) ∧ l.length ≤ 4096 := by
  unfold rightE at h
  split at h
  · cases h
  · rename_i h1
    split at h
    · cases h
    · rename_i h2
      refine ⟨fun e => h1 (.inl (by rw [e]; rfl)), Classical.not_not.1 (fun hn => h1 (.inr hn)), fun k hk => h2 (.inl ⟨k, hk⟩), Nat.le_of_not_lt (fun hl => h2 (.inr hl))⟩

def RecLoop (B : World) (g : Nat) (v : Nat) (l : List Ch) (i : Value) (w : World) : Prop :=
  ∃ (k : Nat) (p : PW) (sv : Value), k ≤ l.length ∧ i = .int .i64 k ∧ IsW w g p sv ∧ Got 32768 p (headEnc v l.length ++ (l.take k).flatMap Ch.enc) ∧ (∀ k, WS g sv k → B.heap.size ≤ k) ∧ Below B.heap.size B w

theorem Step.ge {S S' : Nat → Prop} {w w1 : World} {n : Nat} (h : Step S S' w w1) (hS : ∀ k, S k → n ≤ k) (hn : n ≤ w.heap.size) : ∀ k, S' k → n ≤ k :=
  fun k hk => (h.new k hk).elim (hS k) (fun h2 => Nat.le_trans hn h2)
theorem Step.blk {S S' : Nat → Prop} {w w1 : World} (h : Step S S' w w1) {b : Nat} {o : Obj} (hb : w.heap[b]? = some o) (hn : ¬ S b) : w1.heap[b]? = some o ∧ ¬ S' b :=
  ⟨h.fr.blk hb hn, fun hs => (h.new b hs).elim hn (fun h2 => by have := blk_lt hb; omega)⟩
theorem Step.to_below {S S' : Nat → Prop} {w w1 : World} {n : Nat} (h : Step S S' w w1) (hS : ∀ k, S k → n ≤ k) (hn : n ≤ w.heap.size) : Below n w w1 := h.fr.to_below hS hn

theorem take_flat (l : List Ch) (k : Nat) (hk : k < l.length) : (l.take (k + 1)).flatMap Ch.enc = (l.take k).flatMap Ch.enc ++ l[k].enc := by
  rw [List.take_add_one, List.flatMap_append]
  simp [List.getElem?_eq_getElem hk]

def RecPost (w : World) (x : ByteArray × Int) : Ending → World → Prop := fun e w' => e = .returned (.tuple #[.string x.1, .int .i64 x.2]) ∧ Below w.heap.size w w'

theorem record_arg (w : World) (v : Int) (sv : Value) (l : List Ch) (h : RdC w sv l) (hv : v < 1 ∨ 1152921504606846976 < v) :
    Calls Try.prog 6 #[.int .i64 v, sv] w (RecPost w (recordE v l)) := by
  have e : recordE v l = (⟨#[]⟩, 1) := by rw [recordE, if_pos hv]
  rw [e]
  by_cases h1 : v < 1
  · go_enter Try.func6, Try.ntmps6
    go_wp2
    go_ret2
    exact ⟨rfl, Below.refl _ _⟩
  · have h2 : 1152921504606846976 < v := by omega
    go_enter Try.func6, Try.ntmps6
    go_wp2
    go_ret2
    exact ⟨rfl, Below.refl _ _⟩

theorem record_bad (w : World) (v : Int) (sv : Value) (l : List Ch) (h : RdC w sv l) (hv : ¬ (v < 1 ∨ 1152921504606846976 < v)) (hr : rightE l ≠ 0) :
    Calls Try.prog 6 #[.int .i64 v, sv] w (RecPost w (recordE v l)) := by
  have e : recordE v l = (⟨#[]⟩, rightE l) := by rw [recordE, if_neg hv, if_pos hr]
  rw [e]
  have h1 : 1 ≤ v := by omega
  have h2 : v ≤ 1152921504606846976 := by omega
  clear hv
  have hc := right_calls w sv l h
  generalize rightE l = r at hr hc
  have hne : (r != 0) = true := by simpa using hr
  have Hc := Lib.hid hc
  clear hc
  obtain ⟨-, A, c, rfl, -⟩ := h.rd
  go_enter Try.func6, Try.ntmps6
  go_wp2_with fail
  refine Hc.out.mono ?_
  rintro e w1 ⟨rfl, hb⟩
  go_wp2
  go_ret2
  exact ⟨rfl, hb⟩

set_option maxRecDepth 100000 in
set_option maxHeartbeats 1600000 in
theorem record_good (w : World) (v : Nat) (sv : Value) (l : List Ch) (h : RdC w sv l) (h1 : 1 ≤ v) (h2 : v ≤ 1152921504606846976) (hr : rightE l = 0) :
    Calls Try.prog 6 #[.int .i64 v, sv] w (RecPost w (recordE v l)) := by
  have he : recordE v l = if 32768 < (recEnc v l).length then (⟨#[]⟩, 23) else (⟨(recEnc v l).toArray⟩, 0) := by
    rw [recordE, if_neg (by omega), if_neg (by omega)]; rfl
  have He := Lib.hid he
  clear he
  obtain ⟨hne, hgood, hlong, hlen⟩ := rightE_zero hr
  have hc := right_calls w sv l h
  rw [hr] at hc
  have Hc := Lib.hid hc
  clear hc hr hgood hlong
  obtain ⟨b, off, c, rfl, hcap, hb, hcell⟩ := h.some hne
  have hpos : 0 < l.length := List.length_pos_iff.2 hne
  go_enter Try.func6, Try.ntmps6
  go_wp2_with fail
  refine Hc.out.mono ?_
  rintro e w1 ⟨rfl, hb1⟩
  go_wp2_with fail
  refine (newWriter_calls w1 32768 (by decide)).mono ?_
  rintro e w2 ⟨g, rfl, hW, hg, hb2⟩
  have hsz := hb1.size
  have hsz2 := hb2.size
  have G0 : Got 32768 ⟨32768, [], 0⟩ [] := ⟨rfl, .inl ⟨rfl, rfl, by simp⟩⟩
  have S0 : ∀ k, WS g (.slice none 0 0) k → w.heap.size ≤ k := fun k hk => hk.elim (fun e => by omega) (fun e => by cases e)
  have B0 : Below w.heap.size w w2 := hb1.trans (hb2.mono hsz)
  clear hb1 hb2 Hc
  go_wp2_with fail
  refine (W_byte w2 g _ _ hW 195 (by decide)).mono ?_
  rintro e w3 ⟨rfl, sv3, hW3, st3⟩
  replace G0 := G0.lay [loB 195]
  have S3 := st3.ge S0 B0.size
  have B3 := B0.trans (st3.to_below S0 B0.size)
  clear st3 S0 B0 hW
  go_wp2_with fail
  refine (W_uint w3 g _ _ hW3 v (by omega)).mono ?_
  rintro e w4 ⟨rfl, sv4, hW4, st4⟩
  replace G0 := G0.lay (form v)
  have S4 := st4.ge S3 B3.size
  have B4 := B3.trans (st4.to_below S3 B3.size)
  clear st4 S3 B3 hW3
  go_wp2_with fail
  refine (W_count w4 g _ _ hW4 l.length hlen).mono ?_
  rintro e w5 ⟨rfl, sv5, hW5, st5⟩
  replace G0 := G0.lay (form l.length)
  have S5 := st5.ge S4 B4.size
  have B5 := B4.trans (st5.to_below S4 B4.size)
  clear st5 S4 B4 hW4
  have Hl : Hid (RecLoop w g v l (.int .i64 0) w5) := ⟨0, _, sv5, Nat.zero_le _, rfl, hW5, by simpa [headEnc] using G0, S5, B5⟩
  clear hW5 G0 S5 B5
  go_wp2
  go_loopw [36] (fun i w1 => RecLoop w g v l i w1) (fun i _ => l.length - (intOf i).toNat)
  case atStart => exact Hl.out
  case round =>
    obtain ⟨k, p, sv1, hk, rfl, hW, hG, hS, hB⟩ := hrel
    have HG := Lib.hid hG
    clear hG
    by_cases hlt : k < l.length
    · have hltd := dT hlt
      obtain ⟨q0, q1, q2⟩ := hcell k hlt
      replace q0 := (hB.cell (p := ⟨b, off + k * 3, none⟩) hb).trans q0
      replace q1 := (hB.cell (p := ⟨b, off + k * 3 + 1, none⟩) hb).trans q1
      replace q2 := (hB.cell (p := ⟨b, off + k * 3 + 2, none⟩) hb).trans q2
      obtain ⟨hs1, hs2⟩ := h.str _ (List.getElem_mem hlt)
      have hT := take_flat l k hlt
      generalize hx : l[k] = x at q0 q1 q2 hs1 hs2 hT
      obtain ⟨xk, xv, xg⟩ := x
      simp only at q0 q1 q2 hs1 hs2
      clear hx
      have HT := Lib.hid hT
      clear hT
      have hsz := hB.size
      go_wp2_with fail
      refine (W_bool _ g p sv1 (hW.below ((Below.refl _ _).alloc (Nat.le_refl _) _)) xg).mono ?_
      rintro e w2 ⟨rfl, sv2, hW2, st2⟩
      have hnb : ¬ WS g sv1 wr.heap.size := fun hh => Nat.lt_irrefl _ (WS_lt hW _ hh)
      obtain ⟨hb2, hn2⟩ := st2.blk (blk_new wr (.cells #[.string xk, .string xv, .bool xg] 32)) hnb
      have B2 : Below w.heap.size w w2 := (hB.alloc hB.size _).trans (st2.to_below hS (by simp; omega))
      have S2 := st2.ge hS (by simp; omega)
      obtain ⟨c0, c1, c2, f0, f1, f2⟩ := cells3 hb2
      clear st2 hS hW
      go_wp2_with fail
      refine (W_text _ g _ sv2 hW2 xk hs1).mono ?_
      rintro e w3 ⟨rfl, sv3, hW3, st3⟩
      obtain ⟨hb3, hn3⟩ := st3.blk hb2 hn2
      have B3 : Below w.heap.size w w3 := B2.trans (st3.to_below S2 B2.size)
      have S3 := st3.ge S2 B2.size
      clear c0 c1 c2 f0 f1 f2
      obtain ⟨c0, c1, c2, f0, f1, f2⟩ := cells3 hb3
      clear st3 S2 hW2
      cases xg
      · go_wp2_with fail
        refine (W_text _ g _ sv3 hW3 xv hs2).mono ?_
        rintro e w4 ⟨rfl, sv4, hW4, st4⟩
        have Hk : Hid (RecLoop w g v l (.int .i64 ((k + 1 : Nat) : Int)) w4) := ⟨k + 1, _, sv4, by omega, rfl, hW4, by
          have := ((HG.out.lay [loB 0]).lay (form xk.size ++ xk.data.toList)).lay (form xv.size ++ xv.data.toList)
          rw [HT.out]
          simpa [Ch.enc] using this, st4.ge S3 B3.size, B3.trans (st4.to_below S3 B3.size)⟩
        clear st4 S3 B3 hW3 hW4
        go_wp2
        go_roundw
        case rel => exact Hk.out
        case measure => simp [intOf]; omega
      · have Hk : Hid (RecLoop w g v l (.int .i64 ((k + 1 : Nat) : Int)) w3) := ⟨k + 1, _, sv3, by omega, rfl, hW3, by
          have := ((HG.out.lay [loB 1]).lay (form xk.size ++ xk.data.toList))
          rw [HT.out]
          simpa [Ch.enc] using this, S3, B3⟩
        clear S3 B3 hW3
        go_wp2
        go_roundw
        case rel => exact Hk.out
        case measure => simp [intOf]; omega
    · have hltd := dF hlt
      have Hall : Hid (Got 32768 p (recEnc v l)) := by
        have := HG.out
        rw [List.take_of_length_le (by omega)] at this
        exact this
      clear HG
      by_cases hp : p.err = 0
      · go_wp2_with fail
        refine (out_ok _ g p sv1 hW hp).mono ?_
        rintro e w2 ⟨rv, rfl, ho, hn, hb2⟩
        have hcv := conv_bytes (P := Try.prog) 42 9 5 Try.underlying42 Try.underlying5 Try.underlying9 (RdB.of_own ho)
        obtain ⟨A', c', rfl⟩ := own_slice ho
        have hfin : recordE v l = (⟨p.out.toArray⟩, 0) := by
          rcases Hall.out with ⟨-, ⟨-, h2, h3⟩ | ⟨h2, -⟩⟩
          · rw [He.out, if_neg (by omega), h2]
          · rw [hp] at h2; cases h2
        have Hfin := Lib.hid hfin
        have BB := hB.trans (hb2.mono hB.size)
        clear hb2 hB hfin hn ho
        go_wp2
        go_ret2
        exact ⟨by rw [Hfin.out]; rfl, BB⟩
      · have hpe : p.err = 23 ∧ 32768 < (recEnc v l).length := by
          rcases Hall.out with ⟨-, ⟨h2, -⟩ | ⟨h2, h3⟩⟩
          · exact absurd h2 hp
          · exact ⟨h2, h3⟩
        have hfin : recordE v l = (⟨#[]⟩, 23) := by rw [He.out, if_pos hpe.2]
        have Hfin := Lib.hid hfin
        clear hfin
        have Hpe := Lib.hid hpe.1
        clear hpe
        go_wp2_with fail
        refine (out_err _ g p sv1 hW hp).mono ?_
        rintro e w2 ⟨rfl, hb2⟩
        rw [Hpe.out]
        have BB := hB.trans (hb2.mono hB.size)
        clear hb2 hB
        go_wp2
        go_ret2
        exact ⟨by rw [Hfin.out]; rfl, BB⟩

theorem record_calls (w : World) (v : Int) (sv : Value) (l : List Ch) (h : RdC w sv l) :
    Calls Try.prog 6 #[.int .i64 v, sv] w (RecPost w (recordE v l)) := by
  by_cases hv : v < 1 ∨ 1152921504606846976 < v
  · exact record_arg w v sv l h hv
  · by_cases hr : rightE l = 0
    · obtain ⟨n, rfl⟩ : ∃ n : Nat, v = n := ⟨v.toNat, by omega⟩
      exact record_good w n sv l h (by omega) (by omega) hr
    · exact record_bad w v sv l h hv hr
end Go.Proofs.Ytfloaneimmnboaa
