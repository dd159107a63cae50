/- The reference's Unrecord. -/
import Derived.Test.YtfloaneimmnboaaB7
namespace Go.Proofs.Ytfloaneimmnboaa
open Go.RowKit Go.Maps Go.WideMaps
set_option linter.unusedVariables false
set_option linter.unusedSimpArgs false

def readU : Nat → PR → List Ch → List Ch × PR
  | 0, p, acc => (acc, p)
  | n + 1, p, acc => if p.err ≠ 0 then (acc, p) else readU n p.ch.2 (acc ++ [p.ch.1])
theorem readU_err (n : Nat) (p : PR) (acc : List Ch) (h : p.err ≠ 0) : readU n p acc = (acc, p) := by
  cases n with
  | zero => rfl
  | succ n => rw [readU, if_pos h]
theorem readU_eq : ∀ (n : Nat) (p : PR) (acc : List Ch), p.err = 0 → (readU n p acc).2 = (readChs n p acc).2 ∧ ((readChs n p acc).2.err = 0 → (readU n p acc).1 = (readChs n p acc).1) := by
  intro n
  induction n with
  | zero => intro p acc _; exact ⟨rfl, fun _ => rfl⟩
  | succ n ih =>
    intro p acc hp
    rw [readU, if_neg (by simpa using hp), readChs]
    by_cases h : p.ch.2.err = 0
    · rw [if_neg (by simpa using h)]
      exact ih _ _ h
    · rw [if_pos h, readU_err _ _ _ h]
      exact ⟨rfl, fun h2 => absurd h2 h⟩
theorem readU_stop {n k : Nat} {p : PR} {acc : List Ch} (h : n - k = 0 ∨ p.err ≠ 0) : readU (n - k) p acc = (acc, p) := by
  rcases h with h | h
  · rw [h]; rfl
  · exact readU_err _ _ _ h
theorem readU_go {n k : Nat} {p : PR} {acc : List Ch} (hk : k < n) (h : p.err = 0) : readU (n - k) p acc = readU (n - (k + 1)) p.ch.2 (acc ++ [p.ch.1]) := by
  obtain ⟨m, hm⟩ : ∃ m, n - k = m + 1 := ⟨n - k - 1, by omega⟩
  rw [hm, readU, if_neg (by simpa using h), show n - (k + 1) = m from by omega]

structure UPre where
  mark : Nat
  ver : Nat
  n : Nat
  l : List Ch
  p : PR
def upre (r : List UInt8) : UPre :=
  let p0 : PR := ⟨r, 0, 0⟩
  let p1 := p0.byte.2
  let p2 := p1.uint.2
  let p3 := (p2.count 4096).2
  let n := (p2.count 4096).1
  ⟨p0.byte.1, p1.uint.1, n, (readU n p3 []).1, (readU n p3 []).2⟩

theorem PR.count_err (p : PR) (m : Nat) (h : (p.count m).2.err ≠ 0) : (p.count m).1 = 0 := by
  unfold PR.count at h ⊢
  split
  · rfl
  · rename_i h1
    rw [if_neg h1] at h
    split
    · rfl
    · rename_i h2; rw [if_neg h2] at h; exact absurd h h1
theorem upre_p (r : List UInt8) : (upre r).p = (pre r).p ∧ ((pre r).p.err = 0 → (upre r).l = (pre r).l) := by
  have hc := ((⟨r, 0, 0⟩ : PR).byte.2.uint.2).count_err 4096
  by_cases h : (((⟨r, 0, 0⟩ : PR).byte.2.uint.2).count 4096).2.err = 0
  · exact readU_eq _ _ [] h
  · have h0 := hc h
    refine ⟨?_, fun _ => ?_⟩
    · show (readU _ _ _).2 = (readChs _ _ _).2
      rw [h0]; rfl
    · show (readU _ _ _).1 = (readChs _ _ _).1
      rw [h0]; rfl

/-- how the reference judges what it read -/
theorem unrec_ref_none {r : List UInt8} (h : 32768 < r.length ∨ (upre r).mark ≠ 195 ∨ (upre r).p.fin.err ≠ 0 ∨ 1152921504606846976 < (upre r).ver ∨ (recordE (upre r).ver (upre r).l).2 ≠ 0 ∨ (recordE (upre r).ver (upre r).l).1.data.toList ≠ r) : unrecE r = none := by
  cases hu : unrecE r with
  | none => rfl
  | some x =>
    exfalso
    obtain ⟨v, l⟩ := x
    obtain ⟨e1, e2⟩ := upre_p r
    have hr := unrec_ok hu
    unfold unrecE at hu
    split at hu
    · cases hu
    · rename_i hlen
      split at hu
      · cases hu
      · rename_i hno
        obtain ⟨hv, hl⟩ := Prod.mk.inj (Option.some.inj hu)
        have f1 : (pre r).p.fin.err = 0 := Classical.not_not.1 (fun h => hno (.inl h))
        have hpe : (pre r).p.err = 0 := by
          unfold PR.fin at f1
          split at f1
          · cases f1
          · exact f1
        have hl2 := e2 hpe
        have hvv : (upre r).ver = v := hv
        have hll : (upre r).l = l := by rw [hl2]; exact hl
        rw [hvv, hll, e1] at h
        rw [hr.1] at h
        rcases h with h | h | h | h | h | h
        · exact hlen h
        · exact hno (.inr (.inl h))
        · exact h f1
        · omega
        · exact h rfl
        · exact h rfl
theorem unrec_ref_some {r : List UInt8} (h0 : ¬ 32768 < r.length) (h1 : (upre r).mark = 195) (h2 : (upre r).p.fin.err = 0) (h3 : ¬ 1152921504606846976 < (upre r).ver) (h4 : (recordE (upre r).ver (upre r).l).2 = 0) :
    unrecE r = some ((upre r).ver, (upre r).l) := by
  obtain ⟨e1, e2⟩ := upre_p r
  obtain ⟨g1, g2, g3, -, -⟩ := recordE_ok h4
  rw [e1] at h2
  have hpe : (pre r).p.err = 0 := by
    unfold PR.fin at h2
    split at h2
    · cases h2
    · exact h2
  rw [e2 hpe] at g3 ⊢
  have hver : (upre r).ver = (pre r).ver := rfl
  have hmark : (upre r).mark = (pre r).mark := rfl
  rw [unrecE, if_neg h0, if_neg, hver]
  rintro (h | h | h | h | h)
  · exact h h2
  · exact h (hmark ▸ h1)
  · rw [hver] at g1; omega
  · rw [hver] at g2; omega
  · exact h g3

def VLp (w W0 : World) (g : Nat) (rv : Value) (n : Nat) (p3 : PR) (l i : Value) (w1 : World) : Prop :=
  ∃ (k : Nat) (acc : List Ch) (p : PR), k ≤ n ∧ i = .int .i64 k ∧ w1.ownsRow 0 32 3 l acc.length (chs acc) ∧ (∀ b, l.ownBlock = some b → W0.heap.size ≤ b) ∧ acc.length = k ∧ (∀ c ∈ acc, ChOk c) ∧
    readU n p3 [] = readU (n - k) p acc ∧ IsQ w1 g rv p ∧ Below w.heap.size w w1 ∧ W0.heap.size ≤ w1.heap.size

theorem vunrec_long (w : World) (r : ByteArray) (h : 32768 < r.size) :
    Calls Try.prog 10 #[.string r] w (UnPost w (unrecE r.data.toList)) := by
  have hd : decide ((32768 : Int) < r.size) = true := decide_eq_true (by omega)
  have e : unrecE r.data.toList = none := by
    rw [unrecE, if_pos (by rw [Array.length_toList]; exact h)]
  rw [e]
  go_enter Try.func10, Try.ntmps10
  go_wp2
  go_ret3
  exact ⟨Below.refl _ _, rfl⟩

set_option maxRecDepth 100000 in
set_option maxHeartbeats 3200000 in
theorem vunrec_short (w : World) (rs : ByteArray) (h : rs.size ≤ 32768) :
    Calls Try.prog 10 #[.string rs] w (UnPost w (unrecE rs.data.toList)) := by
  have hd : decide ((32768 : Int) < rs.size) = false := decide_eq_false (by omega)
  have hcv := Lib.run_convert_string_bytes (P := Try.prog) w 9 42 5 rs Try.underlying9 Try.underlying42 Try.underlying5
  have hsz : rs.data.toList.length = rs.size := by rw [Array.length_toList]; rfl
  have hrd : RdB (Lib.bytesWorld w 5 rs) (.slice (some ⟨w.heap.size, 0, none⟩) rs.size (grownCap w rs.size 0 5)) rs.data.toList := by
    unfold RdB
    rw [hsz]
    refine ⟨by rw [u8s_len, hsz, Nat.mul_one], _, _, rfl, grownCap_ge _ _ _ _, (fun h => by cases h), fun ad hA j u hu => ?_⟩
    cases hA
    have hj : j < rs.size := by
      have := (List.getElem?_eq_some_iff.1 hu).1
      rw [u8s_len, hsz] at this; exact this
    have e : (⟨w.heap.size, 0, none⟩ : Addr).add j = ⟨w.heap.size, j, none⟩ := by unfold Addr.add; split <;> simp_all
    rw [e, Lib.bytesWorld_cell w _ rs j hj, ← hu]
    have hj2 : j < rs.data.toList.length := by omega
    simp only [u8s, List.getElem?_map, List.getD, List.getElem?_eq_getElem hj2, Option.map_some, Option.getD_some]
  have hbw : Below w.heap.size w (Lib.bytesWorld w 5 rs) := by
    have hs := Lib.bytesWorld_size w 5 rs
    have ho : ∀ a n (w : World), (w.freeze a n).os = w.os ∧ (w.freeze a n).tape = w.tape ∧ (w.freeze a n).output = w.output := by
      intro a n w; unfold World.freeze; split <;> exact ⟨rfl, rfl, rfl⟩
    exact ⟨(ho _ _ _).1, (ho _ _ _).2.1, (ho _ _ _).2.2, by omega, fun k hk => Lib.bytesWorld_at_old w _ rs k hk⟩
  have Hrd := Lib.hid hrd
  have Hbw := Lib.hid hbw
  have Hsz := Lib.hid hsz
  clear hrd hbw hsz
  obtain ⟨r, hr⟩ : ∃ r, r = rs.data.toList := ⟨_, rfl⟩
  have Hr := Lib.hid hr
  clear hr
  have hlen : r.length ≤ 32768 := by rw [Hr.out, Hsz.out]; exact h
  rw [← Hr.out]
  go_enter Try.func10, Try.ntmps10
  go_wp2_with fail
  have hnr := qnew_calls (Lib.bytesWorld w 5 rs) _ _ Hrd.out (by rw [Hsz.out]; omega)
  rw [← Hr.out] at hnr
  refine hnr.mono ?_
  rintro e w1 ⟨g, rv, rfl, hR, hg, hrv, hb1⟩
  clear hnr hcv
  have B1 : Below w.heap.size w w1 := Hbw.out.trans (hb1.mono Hbw.out.size)
  have hgw : w.heap.size ≤ g := Nat.le_trans Hbw.out.size hg
  clear hb1 hg hrv
  obtain ⟨p0, hp0⟩ : ∃ p0 : PR, p0 = ⟨r, 0, 0⟩ := ⟨_, rfl⟩
  rw [← hp0] at hR
  have Hp0 := Lib.hid hp0
  clear hp0
  have hR0 := hR
  go_wp2_with fail
  refine (qbyte_calls w1 g rv p0 hR).mono ?_
  rintro e w2 ⟨rfl, hR2, hf2⟩
  have B2 := B1.trans (hf2.only_below hgw B1.size)
  have hmlt := p0.byte_lt
  obtain ⟨p1, hp1⟩ : ∃ p1 : PR, p1 = p0.byte.2 := ⟨_, rfl⟩
  rw [← hp1] at hR2
  have Hmark : Hid ((upre r).mark = p0.byte.1) := by rw [Hp0.out]; rfl
  have Hp1 := Lib.hid hp1
  clear hp1 hf2 hR hR0
  by_cases hmk : p0.byte.1 = 195
  case neg =>
    have hnone : unrecE r = none := unrec_ref_none (.inr (.inl (by rw [Hmark.out]; exact hmk)))
    have HN := Lib.hid hnone
    have hmd : ((p0.byte.1 : Int) != 195) = true := by simp; omega
    clear hnone hmk
    go_wp2
    go_ret3
    refine ⟨B2, ?_⟩
    rw [HN.out]
    rfl
  have hmd : ((p0.byte.1 : Int) != 195) = false := by simp; omega
  have Hmk := Lib.hid hmk
  clear hmk
  go_wp2_with fail
  refine (quint_calls w2 g rv p1 hR2).mono ?_
  rintro e w3 ⟨rfl, hR3, hf3⟩
  have B3 := B2.trans (hf3.only_below hgw B2.size)
  have hvlt := p1.uint_lt
  obtain ⟨p2, hp2⟩ : ∃ p2 : PR, p2 = p1.uint.2 := ⟨_, rfl⟩
  rw [← hp2] at hR3
  have Hp2 := Lib.hid hp2
  clear hp2 hf3 hR2
  go_wp2_with fail
  refine (qcount_calls w3 g rv p2 hR3 4096 (by omega)).mono ?_
  rintro e w4 ⟨rfl, hR4, hf4⟩
  have B4 := B3.trans (hf4.only_below hgw B3.size)
  have hnle := (p2.count_le 4096).2
  obtain ⟨p3, hp3⟩ : ∃ p3 : PR, p3 = (p2.count 4096).2 := ⟨_, rfl⟩
  obtain ⟨n, hn⟩ : ∃ n : Nat, n = (p2.count 4096).1 := ⟨_, rfl⟩
  rw [← hp3] at hR4
  rw [← hn] at hnle
  rw [← hn]
  have Hpre : Hid (upre r = ⟨195, p1.uint.1, n, (readU n p3 []).1, (readU n p3 []).2⟩) := by
    show upre r = _
    rw [← Hmk.out, hp3, hn, Hp2.out, Hp1.out, Hp0.out]; rfl
  clear hp3 hn hf4 hR3 Hp0 Hp1 Hp2 B1 B2 B3 Hmark
  have hglt : g < w4.heap.size := blk_lt hR4.blk
  have hrvlt := hR4.lt
  have BT0 := B4
  have Hl : Hid (VLp w w4 g rv n p3 (.slice none 0 0) (.int .i64 0) w4) := ⟨0, [], p3, Nat.zero_le _, rfl, World.ownsRow_nil _ _ _ _, (fun k hk => by cases hk), rfl, (fun c hc => by cases hc), rfl, hR4, B4, Nat.le_refl _⟩
  clear hR4 B4
  generalize hv : p1.uint.1 = vr at hvlt Hpre
  generalize hmkk : (p0.byte.1 : Int) = mk at hmd
  clear hv hmkk
  go_wp2
  go_loopw [8, 9] (fun l i w1 => VLp w w4 g rv n p3 l i w1) (fun _ i _ => n - (intOf i).toNat)
  case atStart => exact Hl.out
  case round =>
    obtain ⟨k, acc, p, hk, rfl, hown, hnew, hacc, hok, hrc, hR, hB, hW0⟩ := hrel
    have Hrc := Lib.hid hrc
    have Hacc := Lib.hid hacc
    clear hrc hacc
    obtain ⟨A, c, rfl⟩ := own_slice hown
    have hng : ∀ b, (Value.slice A acc.length c).ownBlock = some b → ¬ Only g b := fun b hb e => by have := hnew b hb; rw [show b = g from e] at this; omega
    by_cases hgo : k < n ∧ p.err = 0
    · obtain ⟨hlt, hpe⟩ := hgo
      have hltd := dT hlt
      have hpeb : (p.err == 0) = true := by simpa using hpe
      have Hpe := Lib.hid hpe
      clear hpe
      go_wp2_with fail
      refine (qerr_calls _ g rv p hR).mono ?_
      rintro e w5 ⟨rfl, hR5, hf5⟩
      have hB5 := hB.trans (hf5.only_below hgw hB.size)
      have hown5 := hf5.owns hown hng
      have hW5 := Nat.le_trans hW0 hf5.size
      clear hf5 hR hown hB hW0
      go_wp2_with fail
      refine (qbool_calls _ g rv p hR5).mono ?_
      rintro e w6 ⟨rfl, hR6, hf6⟩
      have hB6 := hB5.trans (hf6.only_below hgw hB5.size)
      have hown6 := hf6.owns hown5 hng
      have hW6 := Nat.le_trans hW5 hf6.size
      clear hf6 hR5 hown5 hB5 hW5
      obtain ⟨q1, hq1⟩ : ∃ q1, q1 = p.bool.2 := ⟨_, rfl⟩
      rw [← hq1] at hR6
      have Hch0 : Hid (p.ch.1.gone = p.bool.1) := by
        show _ = _
        cases hg : p.bool.1
        · rw [PR.ch_here hg]
        · rw [PR.ch_gone hg]
      have Hq1 := Lib.hid hq1
      clear hq1
      obtain ⟨gb, hgb⟩ : ∃ gb : Bool, gb = p.bool.1 := ⟨_, rfl⟩
      rw [← hgb]
      have Hgb := Lib.hid hgb
      clear hgb
      have hrv6 := hR6.lt
      have hg6 := blk_lt hR6.blk
      have hown7 := hown6.alloc (.cells #[.string ⟨#[]⟩, .string ⟨#[]⟩, .bool gb] 32)
      have hR7 := hR6.below ((Below.refl _ _).alloc (Nat.le_refl _) (.cells #[.string ⟨#[]⟩, .string ⟨#[]⟩, .bool gb] 32))
      have hB7 := hB6.alloc hB6.size (.cells #[.string ⟨#[]⟩, .string ⟨#[]⟩, .bool gb] 32)
      have hbl7 := blk_new w6 (.cells #[.string ⟨#[]⟩, .string ⟨#[]⟩, .bool gb] 32)
      have hlt6 := fun b hb => (hown6.lt b hb).2
      have hW7 : w4.heap.size ≤ (w6.alloc (.cells #[.string ⟨#[]⟩, .string ⟨#[]⟩, .bool gb] 32)).heap.size := by simp; omega
      go_wp2_with fail
      refine (qtext_calls _ g rv q1 hR7 120 (by omega)).mono ?_
      rintro e w8 ⟨rfl, hR8, hf8⟩
      obtain ⟨K, hK⟩ : ∃ K : ByteArray, K = ⟨(q1.text 120).1.toArray⟩ := ⟨_, rfl⟩
      obtain ⟨q2, hq2⟩ : ∃ q2, q2 = (q1.text 120).2 := ⟨_, rfl⟩
      rw [← hq2] at hR8
      rw [← hK]
      have HK := Lib.hid hK
      have Hq2 := Lib.hid hq2
      clear hK hq2
      have hnB : ¬ Only g w6.heap.size := fun e => by have e2 : w6.heap.size = g := e; omega
      have hbl8 := hf8.blk hbl7 hnB
      have hown8 := hf8.owns hown7 hng
      have hB8 := hB7.trans (hf8.only_below hgw hB7.size)
      have hW8 := Nat.le_trans hW7 hf8.size
      clear hf8 hR7 hown7 hB7 hbl7 hW7 hown6 hB6 hR6
      have hFS : ∀ (W : World) (i : Nat) (u : Value), Fr (Only w6.heap.size) W (W.setCell ⟨w6.heap.size, i, none⟩ u) := fun W i u => (Fr.refl (Only w6.heap.size) W).setCell (p := ⟨w6.heap.size, i, none⟩) (.inl rfl) u
      have HFS := Lib.hid hFS
      have hnl : ∀ b, (Value.slice A acc.length c).ownBlock = some b → ¬ Only w6.heap.size b := fun b hb e => by have := hlt6 b hb; rw [show b = w6.heap.size from e] at this; omega
      have hnr : ∀ b, rv.ownBlock = some b → ¬ Only w6.heap.size b := fun b hb e => by have := hrv6 b hb; rw [show b = w6.heap.size from e] at this; omega
      have hngB : ¬ Only w6.heap.size g := fun e => by have e2 : g = w6.heap.size := e; omega
      have hbl9 := blk_setCell hbl8 0 (.string K)
      have hown9 := (HFS.out w8 0 (.string K)).owns hown8 hnl
      have hR9 := hR8.fr (HFS.out w8 0 (.string K)) hngB hnr
      have hB9 := hB8.setCell (p := ⟨w6.heap.size, 0, none⟩) (show w.heap.size ≤ w6.heap.size by have := BT0.size; omega) (.string K)
      have hW9 : w4.heap.size ≤ (w8.setCell ⟨w6.heap.size, 0, none⟩ (.string K)).heap.size := by simp [World.setCell]; omega
      obtain ⟨y0, y1, y2, z0, z1, z2⟩ := cells3 hbl8
      obtain ⟨x0, x1, x2, f0, f1, f2⟩ := cells3 hbl9
      clear hFS hown8 hR8 hB8 hW8
      cases gb
      · have hch := PR.ch_here (p := p) Hgb.out.symm
        rw [← Hq1.out, ← HK.out, ← Hq2.out] at hch
        have Hch := Lib.hid hch
        clear hch
        go_wp2_with fail
        refine (qtext_calls _ g rv q2 hR9 8192 (by omega)).mono ?_
        rintro e w10 ⟨rfl, hR10, hf10⟩
        obtain ⟨V, hV⟩ : ∃ V : ByteArray, V = ⟨(q2.text 8192).1.toArray⟩ := ⟨_, rfl⟩
        obtain ⟨q3, hq3⟩ : ∃ q3, q3 = (q2.text 8192).2 := ⟨_, rfl⟩
        rw [← hq3] at hR10
        rw [← hV]
        have Hch2 : Hid (p.ch = (⟨K, V, false⟩, q3)) := by rw [Hch.out, hV, hq3]; rfl
        clear hV hq3 Hch
        have hbl10 := hf10.blk hbl9 hnB
        have hown10 := hf10.owns hown9 hng
        have hB10 := hB9.trans (hf10.only_below hgw hB9.size)
        have hW10 := Nat.le_trans hW9 hf10.size
        clear x0 x1 x2 f0 f1 f2 y0 y1 y2 z0 z1 z2 hf10 hR9 hown9 hB9 hW9 hbl9 hbl8
        have hbl11 := blk_setCell hbl10 1 (.string V)
        have hown11 := (HFS.out w10 1 (.string V)).owns hown10 hnl
        have hR11 := hR10.fr (HFS.out w10 1 (.string V)) hngB hnr
        have hB11 := hB10.setCell (p := ⟨w6.heap.size, 1, none⟩) (show w.heap.size ≤ w6.heap.size by have := BT0.size; omega) (.string V)
        have hW11 : w4.heap.size ≤ (w10.setCell ⟨w6.heap.size, 1, none⟩ (.string V)).heap.size := by simp [World.setCell]; omega
        obtain ⟨x0, x1, x2, f0, f1, f2⟩ := cells3 hbl11
        obtain ⟨y0, y1, y2, z0, z1, z2⟩ := cells3 hbl10
        clear hown10 hR10 hB10 hW10
        have hal : acc.length + 1 ≤ 4096 := by have := Hacc.out; omega
        have hrd1 := rd_one (w10.setCell ⟨w6.heap.size, 1, none⟩ (.string V)) 32 ⟨K, V, false⟩
        rw [show (w10.setCell ⟨w6.heap.size, 1, none⟩ (.string V)).heap.size = w10.heap.size from by simp [World.setCell]] at hrd1
        have hownA := hown11.alloc (.cells #[.string K, .string V, .bool false] 32)
        go_wp2_with (at_builtin; refine wpList_append2 _ rfl (.tmp 48) (.tmp 50) 22 rfl 32 (.agg #[.string ⟨#[]⟩, .string ⟨#[]⟩, .bool false]) 3 40 Try.underlying22 infoCh rfl (by decide) _ acc.length (chs acc) rfl hownA _ 1 (chs [⟨K, V, false⟩]) rfl hrd1 (chs_one _) ?_ ?_ ?_)
        · exact Nat.le_trans hal (by decide)
        · omega
        intro v' wA hoA hgA hnA _
        have Hk : Hid (VLp w w4 g rv n p3 v' (.int .i64 ((k + 1 : Nat) : Int)) wA) := by
          have hF : Fr (fun b => (Value.slice A acc.length c).ownBlock = some b) (w10.setCell ⟨w6.heap.size, 1, none⟩ (.string V)) wA := ((Fr.refl _ _).alloc (.cells #[.string K, .string V, .bool false] 32)).grown hgA (fun b hb => .inl hb)
          refine ⟨k + 1, acc ++ [⟨K, V, false⟩], q3, by omega, rfl, ?_, fun b hb => ?_, ?_, ?_, ?_, ?_, ?_, ?_⟩
          · rw [chs_app, List.length_append]; exact hoA
          · rcases hnA b hb with h1 | h1
            · exact hnew b h1
            · have h2 : (w10.setCell ⟨w6.heap.size, 1, none⟩ (.string V)).heap.size + 1 ≤ b := by simpa using h1
              omega
          · rw [List.length_append]; have := Hacc.out; simp; omega
          · intro c hc
            rcases List.mem_append.1 hc with h1 | h1
            · exact hok c h1
            · have := p.ch_ok; rw [Hch2.out] at this; rw [List.mem_singleton.1 h1]; exact this
          · rw [Hrc.out, readU_go hlt Hpe.out, Hch2.out]
          · exact hR11.fr hF (fun e => hng _ e rfl) (fun b hb e => by have := hrvlt b hb; have := hnew b e; omega)
          · exact hB11.trans (hF.to_below (fun b hb => Nat.le_trans BT0.size (hnew b hb)) hB11.size)
          · exact Nat.le_trans hW11 hF.size
        clear hoA hgA hnA hR11 hown11 hB11 hownA hrd1 x0 x1 x2 f0 f1 f2
        go_wp2
        go_roundw
        case rel => exact Hk.out
        case measure => simp [intOf]; omega
      · have hch := PR.ch_gone (p := p) Hgb.out.symm
        rw [← Hq1.out, ← HK.out, ← Hq2.out] at hch
        obtain ⟨V, hV⟩ : ∃ V : ByteArray, V = ⟨#[]⟩ := ⟨_, rfl⟩
        have Hch2 : Hid (p.ch = (⟨K, V, true⟩, q2)) := by rw [hch, hV]; rfl
        have HV0 := Lib.hid hV
        clear hch hV
        have hal : acc.length + 1 ≤ 4096 := by have := Hacc.out; omega
        rw [← HV0.out] at x1
        have hrd1 := rd_one (w8.setCell ⟨w6.heap.size, 0, none⟩ (.string K)) 32 ⟨K, V, true⟩
        rw [show (w8.setCell ⟨w6.heap.size, 0, none⟩ (.string K)).heap.size = w8.heap.size from by simp [World.setCell]] at hrd1
        have hownA := hown9.alloc (.cells #[.string K, .string V, .bool true] 32)
        go_wp2_with (at_builtin; refine wpList_append2 _ rfl (.tmp 48) (.tmp 50) 22 rfl 32 (.agg #[.string ⟨#[]⟩, .string ⟨#[]⟩, .bool false]) 3 40 Try.underlying22 infoCh rfl (by decide) _ acc.length (chs acc) rfl hownA _ 1 (chs [⟨K, V, true⟩]) rfl hrd1 (chs_one _) ?_ ?_ ?_)
        · exact Nat.le_trans hal (by decide)
        · omega
        intro v' wA hoA hgA hnA _
        have Hk : Hid (VLp w w4 g rv n p3 v' (.int .i64 ((k + 1 : Nat) : Int)) wA) := by
          have hF : Fr (fun b => (Value.slice A acc.length c).ownBlock = some b) (w8.setCell ⟨w6.heap.size, 0, none⟩ (.string K)) wA := ((Fr.refl _ _).alloc (.cells #[.string K, .string V, .bool true] 32)).grown hgA (fun b hb => .inl hb)
          refine ⟨k + 1, acc ++ [⟨K, V, true⟩], q2, by omega, rfl, ?_, fun b hb => ?_, ?_, ?_, ?_, ?_, ?_, ?_⟩
          · rw [chs_app, List.length_append]; exact hoA
          · rcases hnA b hb with h1 | h1
            · exact hnew b h1
            · have h2 : (w8.setCell ⟨w6.heap.size, 0, none⟩ (.string K)).heap.size + 1 ≤ b := by simpa using h1
              omega
          · rw [List.length_append]; have := Hacc.out; simp; omega
          · intro c hc
            rcases List.mem_append.1 hc with h1 | h1
            · exact hok c h1
            · have := p.ch_ok; rw [Hch2.out] at this; rw [List.mem_singleton.1 h1]; exact this
          · rw [Hrc.out, readU_go hlt Hpe.out, Hch2.out]
          · exact hR9.fr hF (fun e => hng _ e rfl) (fun b hb e => by have := hrvlt b hb; have := hnew b e; omega)
          · exact hB9.trans (hF.to_below (fun b hb => Nat.le_trans BT0.size (hnew b hb)) hB9.size)
          · exact Nat.le_trans hW9 hF.size
        clear hoA hgA hnA hR9 hown9 hB9 hownA hrd1 x0 x1 x2 f0 f1 f2
        go_wp2
        go_roundw
        case rel => exact Hk.out
        case measure => simp [intOf]; omega
    · have HT : Hid (readU n p3 [] = (acc, p)) := by
        show readU n p3 [] = _
        rw [Hrc.out]; exact readU_stop (by
          by_cases h1 : k < n
          · exact .inr (fun h2 => hgo ⟨h1, h2⟩)
          · exact .inl (by omega))
      have hcs : (decide ((k : Int) < n) = false ∧ ¬ k < n) ∨ (decide ((k : Int) < n) = true ∧ k < n ∧ (p.err == 0) = false) := by
        by_cases h1 : k < n
        · exact .inr ⟨dT h1, h1, by simpa using fun h2 => hgo ⟨h1, h2⟩⟩
        · exact .inl ⟨dF h1, h1⟩
      clear hgo
      have HtailU : Hid (upre r = ⟨195, vr, n, acc, p⟩) := by
        show upre r = _
        have e1 : (readU n p3 []).1 = acc := by rw [HT.out]
        have e2 : (readU n p3 []).2 = p := by rw [HT.out]
        rw [← e1, ← e2]; exact Hpre.out
      have hnone : (p.fin.err ≠ 0 ∨ 1152921504606846976 < vr ∨ (recordE (vr : Int) acc).2 ≠ 0 ∨ (recordE (vr : Int) acc).1 ≠ rs) → unrecE r = none := fun h => by
        refine unrec_ref_none ?_
        rw [HtailU.out]
        rcases h with h | h | h | h
        · exact .inr (.inr (.inl h))
        · exact .inr (.inr (.inr (.inl h)))
        · exact .inr (.inr (.inr (.inr (.inl h))))
        · refine .inr (.inr (.inr (.inr (.inr (fun e => h ?_)))))
          rw [Hr.out] at e
          exact ba_ext e
      have hsome : p.fin.err = 0 → ¬ 1152921504606846976 < vr → (recordE (vr : Int) acc).2 = 0 → unrecE r = some (vr, acc) := fun h1 h2 h3 => by
        have := unrec_ref_some (r := r) (by omega) (by rw [HtailU.out]) (by rw [HtailU.out]; exact h1) (by rw [HtailU.out]; exact h2) (by rw [HtailU.out]; exact h3)
        rw [HtailU.out] at this
        exact this
      have Hnone := Lib.hid hnone
      have Hsome := Lib.hid hsome
      clear hnone hsome
      have hec := fun W (h : IsQ W g rv p) => qend_calls W g rv p h
      have Hec := Lib.hid hec
      clear hec
      have hfin : Hid (∃ ee, ee = p.fin.err) := ⟨_, rfl⟩
      rcases hcs with ⟨h1, h1n⟩ | ⟨h1, h1n, h1'⟩
      case' inr => 
        go_wp2_with fail
        refine (qerr_calls _ g rv p hR).mono ?_
        rintro e wq ⟨rfl, hRq, hfq⟩
        replace hB := hB.trans (hfq.only_below hgw hB.size)
        replace hown := hfq.owns hown hng
        replace hR := hRq
        clear hfq hRq
      all_goals
        go_wp2_with fail
        refine (Hec.out _ hR).mono ?_
        rintro e wE ⟨rfl, hRE, hfE⟩
        have BE := hB.trans (hfE.only_below hgw hB.size)
        have hownE := hfE.owns hown hng
        clear hRE hfE hB hown hR
        by_cases he : p.fin.err = 0
        case neg =>
          have HN := Lib.hid (Hnone.out (.inl he))
          have hne : (p.fin.err != 0) = true := by simpa using he
          clear he
          go_wp2
          go_ret3
          refine ⟨BE, ?_⟩
          rw [HN.out]
          rfl
        by_cases hv : 1152921504606846976 < vr
        case pos =>
          have HN := Lib.hid (Hnone.out (.inr (.inl hv)))
          have hvd : decide ((1152921504606846976 : Int) < vr) = true := decide_eq_true (by omega)
          rw [he]
          clear he
          go_wp2
          go_ret3
          refine ⟨BE, ?_⟩
          rw [HN.out]
          rfl
        have hvd : decide ((1152921504606846976 : Int) < vr) = false := decide_eq_false (by omega)
        have hvp : ¬ (1152921504606846976 : Int) < vr := by omega
        have hvle : vr ≤ 1152921504606846976 := by omega
        have HsomeV := Lib.hid (Hsome.out he hv)
        have hrc := vrecord_calls wE (vr : Int) _ acc (RdC.of_own hownE (by have := Hacc.out; omega) hok)
        have hnn1 := fun h => Hnone.out (.inr (.inr (.inl h)))
        have hnn2 := fun h => Hnone.out (.inr (.inr (.inr h)))
        have Hnn1 := Lib.hid hnn1
        have Hnn2 := Lib.hid hnn2
        clear hnn1 hnn2
        generalize hq : recordE (vr : Int) acc = q at hrc HsomeV Hnn1 Hnn2
        obtain ⟨s, er⟩ := q
        clear hq
        have Hrc2 := Lib.hid hrc
        clear hrc hv
        rw [he]
        clear he
        go_wp2_with fail
        refine Hrc2.out.mono ?_
        rintro e wF ⟨rfl, hbF⟩
        have BF := BE.trans (hbF.mono BE.size)
        have hownF := (Fr.of_below hbF (fun _ => False)).owns hownE (fun _ _ h => h)
        clear hbF BE hownE Hrc2
        by_cases her : er = 0
        case neg =>
          have HN := Lib.hid (Hnn1.out her)
          have herd : (er != 0) = true := by simpa using her
          clear her
          go_wp2
          go_ret3
          refine ⟨BF, ?_⟩
          rw [HN.out]
          rfl
        by_cases hsr : s = rs
        case neg =>
          have HN := Lib.hid (Hnn2.out hsr)
          have hsl : ¬ s.toList = rs.toList := fun e => hsr (tl_inj.1 e)
          have hsl2 : (s.toList == rs.toList) = false := by rw [beq_eq_false_iff_ne]; exact hsl
          have hsl3 : (s == rs) = false := by rw [beq_toListBytes]; exact hsl2
          clear hsr
          rw [her]
          clear her
          go_wp2
          go_ret3
          refine ⟨BF, ?_⟩
          rw [HN.out]
          rfl
        have HS := Lib.hid (HsomeV.out her)
        rw [her, hsr]
        clear her hsr
        go_wp2
        go_ret3
        refine ⟨BF, ?_⟩
        rw [HS.out]
        exact ⟨_, rfl, hownF, fun b hb => Nat.le_trans BT0.size (hnew b hb)⟩

theorem vunrec_calls (w : World) (r : ByteArray) :
    Calls Try.prog 10 #[.string r] w (UnPost w (unrecE r.data.toList)) := by
  by_cases h : 32768 < r.size
  · exact vunrec_long w r h
  · exact vunrec_short w r (by omega)
end Go.Proofs.Ytfloaneimmnboaa
