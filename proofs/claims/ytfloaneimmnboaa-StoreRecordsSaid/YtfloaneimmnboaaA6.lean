/- The contract of store.Unrecord. -/
import Derived.Test.YtfloaneimmnboaaA5
import Derived.WalkLawsBesides
import Derived.Lib.ConvBytes
namespace Go.Proofs.Ytfloaneimmnboaa
open Go.RowKit Go.Maps Go.WideMaps
set_option linter.unusedVariables false
set_option linter.unusedSimpArgs false

/-- one change read -/
def PR.ch (p : PR) : Ch × PR :=
  if p.bool.1 = true then (⟨⟨(p.bool.2.text 120).1.toArray⟩, ⟨#[]⟩, true⟩, (p.bool.2.text 120).2)
  else (⟨⟨(p.bool.2.text 120).1.toArray⟩, ⟨((p.bool.2.text 120).2.text 8192).1.toArray⟩, false⟩, ((p.bool.2.text 120).2.text 8192).2)
def readChs : Nat → PR → List Ch → List Ch × PR
  | 0, p, acc => (acc, p)
  | n + 1, p, acc => if p.ch.2.err ≠ 0 then (acc, p.ch.2) else readChs n p.ch.2 (acc ++ [p.ch.1])

/-- the four things read -/
structure Pre where
  mark : Nat
  ver : Nat
  n : Nat
  l : List Ch
  p : PR
def pre (r : List UInt8) : Pre :=
  let p0 : PR := ⟨r, 0, 0⟩
  let p1 := p0.byte.2
  let p2 := p1.uint.2
  let p3 := (p2.count 4096).2
  let n := (p2.count 4096).1
  ⟨p0.byte.1, p1.uint.1, n, (readChs n p3 []).1, (readChs n p3 []).2⟩
open Classical in
noncomputable def unrecE (r : List UInt8) : Option (Nat × List Ch) :=
  if 32768 < r.length then none
  else if (pre r).p.fin.err ≠ 0 ∨ (pre r).mark ≠ 195 ∨ (pre r).ver < 1 ∨ 1152921504606846976 < (pre r).ver ∨ rightE (pre r).l ≠ 0 then none
  else some ((pre r).ver, (pre r).l)

def UnPost (w : World) (x : Option (Nat × List Ch)) : Ending → World → Prop := fun e w' =>
  Below w.heap.size w w' ∧ match x with
    | none => e = .returned (.tuple #[.int .i64 0, .slice none 0 0, .int .i64 2])
    | some (v, l) => ∃ sv, e = .returned (.tuple #[.int .i64 v, sv, .int .i64 0]) ∧ w'.ownsRow 0 32 3 sv l.length (chs l) ∧ (∀ k, sv.ownBlock = some k → w.heap.size ≤ k)

theorem PR.bool_b (p : PR) : p.bool.2.b = p.b := by
  unfold PR.bool; split <;> exact p.byte_b
theorem PR.text_b (p : PR) (m : Nat) : (p.text m).2.b = p.b := by
  unfold PR.text; split
  · exact p.uint_b
  · split
    · exact p.uint_b
    · split <;> exact p.uint_b
theorem PR.text_len (p : PR) (m : Nat) : (p.text m).1.length ≤ m := by
  unfold PR.text; split
  · simp
  · split
    · simp
    · split
      · simp
      · rw [List.length_take]; omega
theorem PR.count_le (p : PR) (m : Nat) : (p.count m).1 ≤ m ∧ (p.count m).1 ≤ 4096 := by
  unfold PR.count; split
  · simp
  · split
    · simp
    · simp only; omega
theorem ba_size (l : List UInt8) : (⟨l.toArray⟩ : ByteArray).size = l.length := by simp [ByteArray.size]

def ChOk (c : Ch) : Prop := c.key.size ≤ 120 ∧ c.val.size ≤ 8192
theorem PR.ch_ok (p : PR) : ChOk p.ch.1 := by
  unfold PR.ch; split
  · exact ⟨by rw [ba_size]; exact PR.text_len _ _, Nat.zero_le _⟩
  · exact ⟨by rw [ba_size]; exact PR.text_len _ _, by rw [ba_size]; exact PR.text_len _ _⟩

def ULp (w W0 : World) (g : Nat) (rv : Value) (n : Nat) (p3 : PR) (l i : Value) (w1 : World) : Prop :=
  ∃ (k : Nat) (acc : List Ch) (p : PR), k ≤ n ∧ i = .int .i64 k ∧ w1.ownsRow 0 32 3 l acc.length (chs acc) ∧ (∀ b, l.ownBlock = some b → W0.heap.size ≤ b) ∧ acc.length = k ∧ (∀ c ∈ acc, ChOk c) ∧
    readChs n p3 [] = readChs (n - k) p acc ∧ IsR w1 g rv p ∧ Below w.heap.size w w1 ∧ W0.heap.size ≤ w1.heap.size

theorem RdC.of_own {w : World} {sv : Value} {l : List Ch} {base : Nat} {e : TypeId} (h : w.ownsRow base e 3 sv l.length (chs l)) (hl : l.length ≤ 4096) (hok : ∀ c ∈ l, ChOk c) : RdC w sv l :=
  ⟨Rd.of_own h, by omega, fun c hc => ⟨by have := (hok c hc).1; omega, by have := (hok c hc).2; omega⟩⟩

theorem Fr.only_below {g : Nat} {w0 w w1 : World} (h : Fr (Only g) w w1) (hg : w0.heap.size ≤ g) (hb : w0.heap.size ≤ w.heap.size) : Below w0.heap.size w w1 :=
  h.to_below (fun k hk => by rw [show k = g from hk]; exact hg) hb

theorem rd_one (W : World) (t : TypeId) (c : Ch) : Rd (W.alloc (.cells #[.string c.key, .string c.val, .bool c.gone] t)) 3 (.slice (some ⟨W.heap.size, 0, none⟩) 1 1) 1 (chs [c]) := by
  refine ⟨rfl, _, _, rfl, Nat.le_refl _, (fun h => by cases h), fun ad hA j u hu => ?_⟩
  cases hA
  have hb := blk_new W (.cells #[.string c.key, .string c.val, .bool c.gone] t)
  obtain ⟨c0, c1, c2, -⟩ := cells3 hb
  match j, hu with
  | 0, hu => cases hu; exact c0
  | 1, hu => cases hu; exact c1
  | 2, hu => cases hu; exact c2
theorem readChs_stop {n k : Nat} {p : PR} {acc : List Ch} (hk : k < n) (h : p.ch.2.err ≠ 0) : readChs (n - k) p acc = (acc, p.ch.2) := by
  obtain ⟨m, hm⟩ : ∃ m, n - k = m + 1 := ⟨n - k - 1, by omega⟩
  rw [hm, readChs, if_pos h]
theorem readChs_go {n k : Nat} {p : PR} {acc : List Ch} (hk : k < n) (h : p.ch.2.err = 0) : readChs (n - k) p acc = readChs (n - (k + 1)) p.ch.2 (acc ++ [p.ch.1]) := by
  obtain ⟨m, hm⟩ : ∃ m, n - k = m + 1 := ⟨n - k - 1, by omega⟩
  rw [hm, readChs, if_neg (by simpa using h), show n - (k + 1) = m from by omega]
theorem PR.ch_gone {p : PR} (h : p.bool.1 = true) : p.ch = (⟨⟨(p.bool.2.text 120).1.toArray⟩, ⟨#[]⟩, true⟩, (p.bool.2.text 120).2) := by rw [PR.ch, if_pos h]
theorem PR.ch_here {p : PR} (h : p.bool.1 = false) : p.ch = (⟨⟨(p.bool.2.text 120).1.toArray⟩, ⟨((p.bool.2.text 120).2.text 8192).1.toArray⟩, false⟩, ((p.bool.2.text 120).2.text 8192).2) := by
  rw [PR.ch, if_neg (by rw [h]; decide)]

/-- the tests at the end, in the order in which they are made -/
theorem tail_cases {α : Type} (e : Int) (m v : Nat) (r : Int) (x y : Option α) (hn : (e ≠ 0 ∨ m ≠ 195 ∨ v < 1 ∨ 1152921504606846976 < v ∨ r ≠ 0) → x = none) (hs : ¬ (e ≠ 0 ∨ m ≠ 195 ∨ v < 1 ∨ 1152921504606846976 < v ∨ r ≠ 0) → x = y) :
    ((e != 0) = true ∧ Hid (x = none)) ∨ ((e != 0) = false ∧ e = 0 ∧ ((m : Int) != 195) = true ∧ Hid (x = none)) ∨ ((e != 0) = false ∧ e = 0 ∧ ((m : Int) != 195) = false ∧ v < 1 ∧ decide ((v : Int) < 1) = true ∧ Hid (x = none)) ∨
    ((e != 0) = false ∧ e = 0 ∧ ((m : Int) != 195) = false ∧ ¬ v < 1 ∧ decide ((v : Int) < 1) = false ∧ decide ((1152921504606846976 : Int) < v) = true ∧ Hid (x = none)) ∨
    ((e != 0) = false ∧ e = 0 ∧ ((m : Int) != 195) = false ∧ ¬ v < 1 ∧ decide ((v : Int) < 1) = false ∧ decide ((1152921504606846976 : Int) < v) = false ∧ (r != 0) = true ∧ Hid (x = none)) ∨
    ((e != 0) = false ∧ e = 0 ∧ ((m : Int) != 195) = false ∧ ¬ v < 1 ∧ decide ((v : Int) < 1) = false ∧ decide ((1152921504606846976 : Int) < v) = false ∧ (r != 0) = false ∧ v ≤ 1152921504606846976 ∧ Hid (x = y)) := by
  by_cases h1 : e = 0
  · have h1' : (e != 0) = false := by simpa using h1
    by_cases h2 : m = 195
    · have h2' : ((m : Int) != 195) = false := by simp; omega
      by_cases h3 : v < 1
      · exact .inr (.inr (.inl ⟨h1', h1, h2', h3, decide_eq_true (by omega), hn (.inr (.inr (.inl h3)))⟩))
      · have h3' : decide ((v : Int) < 1) = false := decide_eq_false (by omega)
        by_cases h4 : 1152921504606846976 < v
        · exact .inr (.inr (.inr (.inl ⟨h1', h1, h2', h3, h3', decide_eq_true (by omega), hn (.inr (.inr (.inr (.inl h4))))⟩)))
        · have h4' : decide ((1152921504606846976 : Int) < v) = false := decide_eq_false (by omega)
          by_cases h5 : r = 0
          · exact .inr (.inr (.inr (.inr (.inr ⟨h1', h1, h2', h3, h3', h4', by simpa using h5, by omega, hs (by
              rintro (h | h | h | h | h)
              · exact h h1
              · exact h h2
              · exact h3 h
              · exact h4 h
              · exact h h5)⟩))))
          · exact .inr (.inr (.inr (.inr (.inl ⟨h1', h1, h2', h3, h3', h4', by simpa using h5, hn (.inr (.inr (.inr (.inr h5))))⟩))))
    · exact .inr (.inl ⟨h1', h1, by simp; omega, hn (.inr (.inl h2))⟩)
  · exact .inl ⟨by simpa using h1, hn (.inl h1)⟩

theorem unrec_long (w : World) (r : ByteArray) (h : 32768 < r.size) :
    Calls Try.prog 9 #[.string r] w (UnPost w (unrecE r.data.toList)) := by
  have hd : decide ((32768 : Int) < r.size) = true := decide_eq_true (by omega)
  have e : unrecE r.data.toList = none := by
    rw [unrecE, if_pos (by rw [Array.length_toList]; exact h)]
  rw [e]
  go_enter Try.func9, Try.ntmps9
  go_wp2
  go_ret3
  exact ⟨Below.refl _ _, rfl⟩

set_option maxRecDepth 100000 in
set_option maxHeartbeats 3200000 in
theorem unrec_short (w : World) (rs : ByteArray) (h : rs.size ≤ 32768) :
    Calls Try.prog 9 #[.string rs] w (UnPost w (unrecE rs.data.toList)) := by
  have hd : decide ((32768 : Int) < rs.size) = false := decide_eq_false (by omega)
  have hcv := Lib.run_convert_string_bytes (P := Try.prog) w 9 42 5 rs Try.underlying9 Try.underlying42 Try.underlying5
  have hsz : rs.data.toList.length = rs.size := by rw [Array.length_toList]; rfl
  have hrd : RdB (Lib.bytesWorld w 5 rs) (.slice (some ⟨w.heap.size, 0, none⟩) rs.size (grownCap w rs.size 0 5)) rs.data.toList := by
    unfold RdB
    rw [hsz]
    refine ⟨by rw [u8s_len, hsz, Nat.mul_one], _, _, rfl, grownCap_ge _ _ _ _, (fun h => by cases h), fun ad hA j u hu => ?_⟩
    cases hA
    have hj : j < rs.size := by
      have := (List.getElem?_eq_some_iff.1 hu).1
      rw [u8s_len, hsz] at this; exact this
    have e : (⟨w.heap.size, 0, none⟩ : Addr).add j = ⟨w.heap.size, j, none⟩ := by unfold Addr.add; split <;> simp_all
    rw [e, Lib.bytesWorld_cell w _ rs j hj, ← hu]
    have hj2 : j < rs.data.toList.length := by omega
    simp only [u8s, List.getElem?_map, List.getD, List.getElem?_eq_getElem hj2, Option.map_some, Option.getD_some]
  have hbw : Below w.heap.size w (Lib.bytesWorld w 5 rs) := by
    have hs := Lib.bytesWorld_size w 5 rs
    have ho : ∀ a n (w : World), (w.freeze a n).os = w.os ∧ (w.freeze a n).tape = w.tape ∧ (w.freeze a n).output = w.output := by
      intro a n w; unfold World.freeze; split <;> exact ⟨rfl, rfl, rfl⟩
    exact ⟨(ho _ _ _).1, (ho _ _ _).2.1, (ho _ _ _).2.2, by omega, fun k hk => Lib.bytesWorld_at_old w _ rs k hk⟩
  have Hrd := Lib.hid hrd
  have Hbw := Lib.hid hbw
  have Hsz := Lib.hid hsz
  clear hrd hbw hsz
  obtain ⟨r, hr⟩ : ∃ r, r = rs.data.toList := ⟨_, rfl⟩
  have Hr := Lib.hid hr
  clear hr
  have hlen : r.length ≤ 32768 := by rw [Hr.out, Hsz.out]; exact h
  rw [← Hr.out]
  go_enter Try.func9, Try.ntmps9
  go_wp2_with fail
  have hnr := newReader_calls (Lib.bytesWorld w 5 rs) _ _ Hrd.out (by rw [Hsz.out]; omega)
  rw [← Hr.out] at hnr
  refine hnr.mono ?_
  rintro e w1 ⟨g, rv, rfl, hR, hg, hrv, hb1⟩
  clear hnr hcv
  have B1 : Below w.heap.size w w1 := Hbw.out.trans (hb1.mono Hbw.out.size)
  have hgw : w.heap.size ≤ g := Nat.le_trans Hbw.out.size hg
  clear hb1 hg hrv
  obtain ⟨p0, hp0⟩ : ∃ p0 : PR, p0 = ⟨r, 0, 0⟩ := ⟨_, rfl⟩
  rw [← hp0] at hR
  have Hp0 := Lib.hid hp0
  clear hp0
  go_wp2_with fail
  refine (byte_calls w1 g rv p0 hR).mono ?_
  rintro e w2 ⟨rfl, hR2, hf2⟩
  have B2 := B1.trans (hf2.only_below hgw B1.size)
  have hmlt := p0.byte_lt
  obtain ⟨p1, hp1⟩ : ∃ p1 : PR, p1 = p0.byte.2 := ⟨_, rfl⟩
  rw [← hp1] at hR2
  have Hp1 := Lib.hid hp1
  clear hp1 hf2 hR
  go_wp2_with fail
  refine (uint_calls w2 g rv p1 hR2).mono ?_
  rintro e w3 ⟨rfl, hR3, hf3⟩
  have B3 := B2.trans (hf3.only_below hgw B2.size)
  have hvlt := p1.uint_lt
  obtain ⟨p2, hp2⟩ : ∃ p2 : PR, p2 = p1.uint.2 := ⟨_, rfl⟩
  rw [← hp2] at hR3
  have Hp2 := Lib.hid hp2
  clear hp2 hf3 hR2
  go_wp2_with fail
  refine (count_calls w3 g rv p2 hR3 4096 (by omega)).mono ?_
  rintro e w4 ⟨rfl, hR4, hf4⟩
  have B4 := B3.trans (hf4.only_below hgw B3.size)
  have hnle := (p2.count_le 4096).2
  obtain ⟨p3, hp3⟩ : ∃ p3 : PR, p3 = (p2.count 4096).2 := ⟨_, rfl⟩
  obtain ⟨n, hn⟩ : ∃ n : Nat, n = (p2.count 4096).1 := ⟨_, rfl⟩
  rw [← hp3] at hR4
  rw [← hn] at hnle
  rw [← hn]
  have Hpre : Hid (pre r = ⟨p0.byte.1, p1.uint.1, n, (readChs n p3 []).1, (readChs n p3 []).2⟩) := by
    rw [hp3, hn, Hp2.out, Hp1.out, Hp0.out]; rfl
  clear hp3 hn hf4 hR3 Hp0 Hp1 Hp2 B1 B2 B3
  have hglt : g < w4.heap.size := blk_lt hR4.blk
  have hrvlt := hR4.lt
  have BT0 := B4
  have Hl : Hid (ULp w w4 g rv n p3 (.slice none 0 0) (.int .i64 0) w4) := ⟨0, [], p3, Nat.zero_le _, rfl, World.ownsRow_nil _ _ _ _, (fun k hk => by cases hk), rfl, (fun c hc => by cases hc), rfl, hR4, B4, Nat.le_refl _⟩
  clear hR4 B4
  generalize hm : p0.byte.1 = mk at hmlt Hpre
  generalize hv : p1.uint.1 = vr at hvlt Hpre
  clear hm hv
  go_wp2
  go_loopw [9, 24] (fun l i w1 => ULp w w4 g rv n p3 l i w1) (fun _ i _ => n - (intOf i).toNat)
  case atStart => exact Hl.out
  case round =>
    obtain ⟨k, acc, p, hk, rfl, hown, hnew, hacc, hok, hrc, hR, hB, hW0⟩ := hrel
    have Hrc := Lib.hid hrc
    have Hacc := Lib.hid hacc
    clear hrc hacc
    obtain ⟨A, c, rfl⟩ := own_slice hown
    by_cases hlt : k < n
    · have hltd := dT hlt
      go_wp2_with fail
      refine (bool_calls _ g rv p hR).mono ?_
      rintro e w5 ⟨rfl, hR5, hf5⟩
      go_wp2_with fail
      refine (text_calls _ g rv p.bool.2 hR5 120 (by omega)).mono ?_
      rintro e w6 ⟨rfl, hR6, hf6⟩
      cases hgn : p.bool.1
      · have hch := PR.ch_here hgn
        obtain ⟨K, hK⟩ : ∃ K : ByteArray, K = ⟨(p.bool.2.text 120).1.toArray⟩ := ⟨_, rfl⟩
        obtain ⟨q2, hq2⟩ : ∃ q2, q2 = (p.bool.2.text 120).2 := ⟨_, rfl⟩
        rw [← hK, ← hq2] at hch
        rw [← hq2] at hR6
        rw [← hK]
        have Hch := Lib.hid hch
        clear hch hK hq2 hgn
        go_wp2_with fail
        refine (text_calls _ g rv q2 (hR6.below ((Below.refl _ _).alloc (Nat.le_refl _) _)) 8192 (by omega)).mono ?_
        rintro e w7 ⟨rfl, hR7, hf7⟩
        obtain ⟨V, hV⟩ : ∃ V : ByteArray, V = ⟨(q2.text 8192).1.toArray⟩ := ⟨_, rfl⟩
        obtain ⟨q3, hq3⟩ : ∃ q3, q3 = (q2.text 8192).2 := ⟨_, rfl⟩
        rw [← hq3] at hR7
        rw [← hV]
        have Hch2 : Hid (p.ch = (⟨K, V, false⟩, q3)) := by rw [Hch.out, hV, hq3]; rfl
        clear hV hq3 Hch
        have hbl0 := hf7.blk (blk_new w6 (.cells #[.string K, .string ⟨#[]⟩, .bool false] 32)) (fun e => by have := hf5.size; have := hf6.size; have e2 : w6.heap.size = g := e; omega)
        obtain ⟨c0, c1, c2, f0, f1, f2⟩ := cells3 hbl0
        have hsz5 := hf5.size
        have hsz6 := hf6.size
        have hrvlt6 := hR6.lt
        have hR8 : IsR (w7.setCell ⟨w6.heap.size, 1, none⟩ (.string V)) g rv q3 := hR7.fr ((Fr.refl (Only w6.heap.size) w7).setCell (p := ⟨w6.heap.size, 1, none⟩) (.inl rfl) _) (fun e => by have e2 : g = w6.heap.size := e; omega) (fun b hb e => by have := hrvlt6 b hb; rw [show b = w6.heap.size from e] at this; omega)
        have hF8 : Below w.heap.size w (w7.setCell ⟨w6.heap.size, 1, none⟩ (.string V)) := by
          have b5 := hB.trans (hf5.only_below hgw hB.size)
          have b6 := b5.trans (hf6.only_below hgw b5.size)
          have b7 := (b6.alloc b6.size (.cells #[.string K, .string ⟨#[]⟩, .bool false] 32)).trans (hf7.only_below hgw (by have := b6.size; simp; omega))
          exact b7.setCell (p := ⟨w6.heap.size, 1, none⟩) b6.size _
        have hown8 : (w7.setCell ⟨w6.heap.size, 1, none⟩ (.string V)).ownsRow 0 32 3 (.slice A acc.length c) acc.length (chs acc) := by
          have hng : ∀ b, (Value.slice A acc.length c).ownBlock = some b → ¬ Only g b := fun b hb e => by have := hnew b hb; rw [show b = g from e] at this; omega
          have o7 := hf7.owns (((hf6.owns (hf5.owns hown hng) hng)).alloc (.cells #[.string K, .string ⟨#[]⟩, .bool false] 32)) hng
          have hlt6 := fun b hb => ((hf6.owns (hf5.owns hown hng) hng).lt b hb).2
          exact ((Fr.refl (Only w6.heap.size) w7).setCell (p := ⟨w6.heap.size, 1, none⟩) (.inl rfl) _).owns o7 (fun b hb e => by have := hlt6 b hb; rw [show b = w6.heap.size from e] at this; omega)
        have hbl8 := blk_setCell hbl0 1 (.string V)
        have hW8 : w4.heap.size ≤ (w7.setCell ⟨w6.heap.size, 1, none⟩ (.string V)).heap.size := by
          have := hf7.size; simp at this; simp [World.setCell]; omega
        clear hf5 hf6 hf7 hR5 hR6 hR7 hR hown hB
        go_wp2_with fail
        refine (err_calls _ g rv q3 hR8).mono ?_
        rintro e w9 ⟨rfl, hR9, hf9⟩
        have hng : ∀ b, (Value.slice A acc.length c).ownBlock = some b → ¬ Only g b := fun b hb e => by have := hnew b hb; rw [show b = g from e] at this; omega
        have hown9 := hf9.owns hown8 hng
        have hF9 := hF8.trans (hf9.only_below hgw hF8.size)
        have hW9 := Nat.le_trans hW8 hf9.size
        have hbl9 := hf9.blk hbl8 (fun e => by have e2 : w6.heap.size = g := e; omega)
        clear hf9 hR8 hown8 hF8 hW8 hbl8
        clear c0 c1 c2 f0 f1 f2 hbl0
        obtain ⟨c0, c1, c2, f0, f1, f2⟩ := cells3 hbl9
        by_cases hqe : q3.err = 0
        · have hqe1 : (q3.err != 0) = false := by simpa using hqe
          have Hqe := Lib.hid hqe
          clear hqe
          have hrd1 : ∀ W : World, Rd (W.alloc (.cells #[.string K, .string V, .bool false] 32)) 3 (.slice (some ⟨W.heap.size, 0, none⟩) 1 1) 1 (chs [⟨K, V, false⟩]) := fun W => rd_one W _ _
          have hal : acc.length + 1 ≤ 4096 := by have := Hacc.out; omega
          have hsz9 := hW9
          go_wp2_with (at_builtin; refine wpList_append2 _ rfl (.tmp 40) (.tmp 42) 22 rfl 32 (.agg #[.string ⟨#[]⟩, .string ⟨#[]⟩, .bool false]) 3 40 Try.underlying22 infoCh rfl (by decide) _ acc.length (chs acc) rfl (hown9.alloc _) _ 1 (chs [⟨K, V, false⟩]) rfl (hrd1 _) (chs_one _) ?_ ?_ ?_)
          · exact Nat.le_trans hal (by decide)
          · omega
          intro v' wA hoA hgA hnA _
          have Hk : Hid (ULp w w4 g rv n p3 v' (.int .i64 ((k + 1 : Nat) : Int)) wA) := by
            have hF : Fr (fun b => (Value.slice A acc.length c).ownBlock = some b) w9 wA := ((Fr.refl _ w9).alloc (.cells #[.string K, .string V, .bool false] 32)).grown hgA (fun b hb => .inl hb)
            refine ⟨k + 1, acc ++ [⟨K, V, false⟩], q3, by omega, rfl, ?_, fun b hb => ?_, ?_, ?_, ?_, ?_, ?_, ?_⟩
            · rw [chs_app, List.length_append]; exact hoA
            · rcases hnA b hb with h1 | h1
              · exact hnew b h1
              · have h2 : w9.heap.size + 1 ≤ b := by simpa using h1
                omega
            · rw [List.length_append]; have := Hacc.out; simp; omega
            · intro c hc
              rcases List.mem_append.1 hc with h1 | h1
              · exact hok c h1
              · have := p.ch_ok; rw [Hch2.out] at this; rw [List.mem_singleton.1 h1]; exact this
            · rw [Hrc.out, readChs_go hlt (by rw [Hch2.out]; exact Hqe.out), Hch2.out]
            · exact hR9.fr hF (fun e => hng _ e rfl) (fun b hb e => by have := hrvlt b hb; have := hnew b e; omega)
            · exact hF9.trans (hF.to_below (fun b hb => Nat.le_trans BT0.size (hnew b hb)) hF9.size)
            · exact Nat.le_trans hW9 hF.size
          clear hoA hgA hnA hR9 hown9 hF9 hbl9 c0 c1 c2 f0 f1 f2
          go_wp2
          go_roundw
          case rel => exact Hk.out
          case measure => simp [intOf]; omega
        · have hqe1 : (q3.err != 0) = true := by simpa using hqe
          have HT : Hid (readChs n p3 [] = (acc, q3)) := by rw [Hrc.out, readChs_stop hlt (by rw [Hch2.out]; exact hqe), Hch2.out]; rfl
          have hRT := hR9
          have hownT := hown9
          have BT := hF9
          clear hR9 hown9 hF9 hbl9 c0 c1 c2 f0 f1 f2
          have Hp3 : Hid (pre r = ⟨mk, vr, n, acc, q3⟩) := by
            have e1 : (readChs n p3 []).1 = acc := by rw [HT.out]
            have e2 : (readChs n p3 []).2 = q3 := by rw [HT.out]
            rw [← e1, ← e2]; exact Hpre.out
          have hnone : (q3.fin.err ≠ 0 ∨ mk ≠ 195 ∨ vr < 1 ∨ 1152921504606846976 < vr ∨ rightE acc ≠ 0) → unrecE r = none := fun h => by
            rw [unrecE, if_neg (by omega), Hp3.out, if_pos h]
          have hsome : ¬ (q3.fin.err ≠ 0 ∨ mk ≠ 195 ∨ vr < 1 ∨ 1152921504606846976 < vr ∨ rightE acc ≠ 0) → unrecE r = some (vr, acc) := fun h => by
            rw [unrecE, if_neg (by omega), Hp3.out, if_neg h]
          have hcs := tail_cases q3.fin.err mk vr (rightE acc) (unrecE r) (some (vr, acc)) hnone hsome
          clear hnone hsome
          have HRT := Lib.hid hRT
          have hec := end_calls _ g rv q3 hRT
          generalize q3.fin.err = ee at hec hcs
          generalize hrr : rightE acc = rr at hcs
          have Hrr := Lib.hid hrr
          have Hec := Lib.hid hec
          clear hec hrr
          rcases hcs with ⟨h1, HE⟩ | ⟨h1, rfl, h2, HE⟩ | ⟨h1, rfl, h2, h3, h3', HE⟩ | ⟨h1, rfl, h2, h3, h3', h4, HE⟩ | ⟨h1, rfl, h2, h3, h3', h4, h5, HE⟩ | ⟨h1, rfl, h2, h3, h3', h4, h5, h6, HE⟩
          all_goals
            go_wp2_with fail
            refine Hec.out.mono ?_
            rintro e wE ⟨rfl, hRE, hfE⟩
            have BE := BT.trans (hfE.only_below hgw BT.size)
            have hownE := hfE.owns hownT (fun b hb e => by have := hnew b hb; rw [show b = g from e] at this; omega)
            clear hRE hfE
            first
              | (go_wp2_with fail
                 go_ret3
                 refine ⟨BE, ?_⟩
                 rw [HE.out]
                 rfl)
              | (go_wp2_with fail
                 refine (right_calls wE _ acc (RdC.of_own hownE (by have := Hacc.out; omega) hok)).mono ?_
                 rintro e wF ⟨rfl, hbF⟩
                 rw [Hrr.out]
                 have BF := BE.trans (hbF.mono BE.size)
                 have hownF := (Fr.of_below hbF (fun _ => False)).owns hownE (fun _ _ h => h)
                 clear hbF BE hownE
                 go_wp2
                 go_ret3
                 refine ⟨BF, ?_⟩
                 rw [HE.out]
                 first
                   | rfl
                   | exact ⟨_, rfl, hownF, fun b hb => Nat.le_trans BT0.size (hnew b hb)⟩)
      · have hch := PR.ch_gone hgn
        obtain ⟨K, hK⟩ : ∃ K : ByteArray, K = ⟨(p.bool.2.text 120).1.toArray⟩ := ⟨_, rfl⟩
        obtain ⟨q2, hq2⟩ : ∃ q2, q2 = (p.bool.2.text 120).2 := ⟨_, rfl⟩
        rw [← hK, ← hq2] at hch
        rw [← hq2] at hR6
        rw [← hK]
        have Hch := Lib.hid hch
        clear hch hK hq2 hgn
        have hsz5 := hf5.size
        have hsz6 := hf6.size
        have hrvlt6 := hR6.lt
        have hbl8 := blk_new w6 (.cells #[.string K, .string ⟨#[]⟩, .bool true] 32)
        obtain ⟨V, hV⟩ : ∃ V : ByteArray, V = ⟨#[]⟩ := ⟨_, rfl⟩
        have Hch2 : Hid (p.ch = (⟨K, V, true⟩, q2)) := by rw [Hch.out, hV]; rfl
        have hF8 : Below w.heap.size w (w6.alloc (.cells #[.string K, .string ⟨#[]⟩, .bool true] 32)) := by
          have b5 := hB.trans (hf5.only_below hgw hB.size)
          have b6 := b5.trans (hf6.only_below hgw b5.size)
          exact b6.alloc b6.size _
        have hown8 : (w6.alloc (.cells #[.string K, .string ⟨#[]⟩, .bool true] 32)).ownsRow 0 32 3 (.slice A acc.length c) acc.length (chs acc) := by
          have hng : ∀ b, (Value.slice A acc.length c).ownBlock = some b → ¬ Only g b := fun b hb e => by have := hnew b hb; rw [show b = g from e] at this; omega
          exact ((hf6.owns (hf5.owns hown hng) hng)).alloc _
        have hW8 : w4.heap.size ≤ (w6.alloc (.cells #[.string K, .string ⟨#[]⟩, .bool true] 32)).heap.size := by
          simp; omega
        have hR8 := hR6.below ((Below.refl _ _).alloc (Nat.le_refl _) (.cells #[.string K, .string ⟨#[]⟩, .bool true] 32))
        clear hf5 hf6 hR5 hR6 hR hown hB Hch
        go_wp2_with fail
        refine (err_calls _ g rv q2 hR8).mono ?_
        rintro e w9 ⟨rfl, hR9, hf9⟩
        have hng : ∀ b, (Value.slice A acc.length c).ownBlock = some b → ¬ Only g b := fun b hb e => by have := hnew b hb; rw [show b = g from e] at this; omega
        have hown9 := hf9.owns hown8 hng
        have hF9 := hF8.trans (hf9.only_below hgw hF8.size)
        have hW9 := Nat.le_trans hW8 hf9.size
        have hbl9 := hf9.blk hbl8 (fun e => by have e2 : w6.heap.size = g := e; omega)
        clear hf9 hR8 hown8 hF8 hW8 hbl8
        rw [← hV] at hbl9
        clear hV
        obtain ⟨c0, c1, c2, f0, f1, f2⟩ := cells3 hbl9
        by_cases hqe : q2.err = 0
        · have hqe1 : (q2.err != 0) = false := by simpa using hqe
          have Hqe := Lib.hid hqe
          clear hqe
          have hrd1 : ∀ W : World, Rd (W.alloc (.cells #[.string K, .string V, .bool true] 32)) 3 (.slice (some ⟨W.heap.size, 0, none⟩) 1 1) 1 (chs [⟨K, V, true⟩]) := fun W => rd_one W _ _
          have hal : acc.length + 1 ≤ 4096 := by have := Hacc.out; omega
          have hsz9 := hW9
          go_wp2_with (at_builtin; refine wpList_append2 _ rfl (.tmp 40) (.tmp 42) 22 rfl 32 (.agg #[.string ⟨#[]⟩, .string ⟨#[]⟩, .bool false]) 3 40 Try.underlying22 infoCh rfl (by decide) _ acc.length (chs acc) rfl (hown9.alloc _) _ 1 (chs [⟨K, V, true⟩]) rfl (hrd1 _) (chs_one _) ?_ ?_ ?_)
          · exact Nat.le_trans hal (by decide)
          · omega
          intro v' wA hoA hgA hnA _
          have Hk : Hid (ULp w w4 g rv n p3 v' (.int .i64 ((k + 1 : Nat) : Int)) wA) := by
            have hF : Fr (fun b => (Value.slice A acc.length c).ownBlock = some b) w9 wA := ((Fr.refl _ w9).alloc (.cells #[.string K, .string V, .bool true] 32)).grown hgA (fun b hb => .inl hb)
            refine ⟨k + 1, acc ++ [⟨K, V, true⟩], q2, by omega, rfl, ?_, fun b hb => ?_, ?_, ?_, ?_, ?_, ?_, ?_⟩
            · rw [chs_app, List.length_append]; exact hoA
            · rcases hnA b hb with h1 | h1
              · exact hnew b h1
              · have h2 : w9.heap.size + 1 ≤ b := by simpa using h1
                omega
            · rw [List.length_append]; have := Hacc.out; simp; omega
            · intro c hc
              rcases List.mem_append.1 hc with h1 | h1
              · exact hok c h1
              · have := p.ch_ok; rw [Hch2.out] at this; rw [List.mem_singleton.1 h1]; exact this
            · rw [Hrc.out, readChs_go hlt (by rw [Hch2.out]; exact Hqe.out), Hch2.out]
            · exact hR9.fr hF (fun e => hng _ e rfl) (fun b hb e => by have := hrvlt b hb; have := hnew b e; omega)
            · exact hF9.trans (hF.to_below (fun b hb => Nat.le_trans BT0.size (hnew b hb)) hF9.size)
            · exact Nat.le_trans hW9 hF.size
          clear hoA hgA hnA hR9 hown9 hF9 hbl9 c0 c1 c2 f0 f1 f2
          go_wp2
          go_roundw
          case rel => exact Hk.out
          case measure => simp [intOf]; omega
        · have hqe1 : (q2.err != 0) = true := by simpa using hqe
          have HT : Hid (readChs n p3 [] = (acc, q2)) := by rw [Hrc.out, readChs_stop hlt (by rw [Hch2.out]; exact hqe), Hch2.out]; rfl
          have hRT := hR9
          have hownT := hown9
          have BT := hF9
          clear hR9 hown9 hF9 hbl9 c0 c1 c2 f0 f1 f2
          have Hp3 : Hid (pre r = ⟨mk, vr, n, acc, q2⟩) := by
            have e1 : (readChs n p3 []).1 = acc := by rw [HT.out]
            have e2 : (readChs n p3 []).2 = q2 := by rw [HT.out]
            rw [← e1, ← e2]; exact Hpre.out
          have hnone : (q2.fin.err ≠ 0 ∨ mk ≠ 195 ∨ vr < 1 ∨ 1152921504606846976 < vr ∨ rightE acc ≠ 0) → unrecE r = none := fun h => by
            rw [unrecE, if_neg (by omega), Hp3.out, if_pos h]
          have hsome : ¬ (q2.fin.err ≠ 0 ∨ mk ≠ 195 ∨ vr < 1 ∨ 1152921504606846976 < vr ∨ rightE acc ≠ 0) → unrecE r = some (vr, acc) := fun h => by
            rw [unrecE, if_neg (by omega), Hp3.out, if_neg h]
          have hcs := tail_cases q2.fin.err mk vr (rightE acc) (unrecE r) (some (vr, acc)) hnone hsome
          clear hnone hsome
          have HRT := Lib.hid hRT
          have hec := end_calls _ g rv q2 hRT
          generalize q2.fin.err = ee at hec hcs
          generalize hrr : rightE acc = rr at hcs
          have Hrr := Lib.hid hrr
          have Hec := Lib.hid hec
          clear hec hrr
          rcases hcs with ⟨h1, HE⟩ | ⟨h1, rfl, h2, HE⟩ | ⟨h1, rfl, h2, h3, h3', HE⟩ | ⟨h1, rfl, h2, h3, h3', h4, HE⟩ | ⟨h1, rfl, h2, h3, h3', h4, h5, HE⟩ | ⟨h1, rfl, h2, h3, h3', h4, h5, h6, HE⟩
          all_goals
            go_wp2_with fail
            refine Hec.out.mono ?_
            rintro e wE ⟨rfl, hRE, hfE⟩
            have BE := BT.trans (hfE.only_below hgw BT.size)
            have hownE := hfE.owns hownT (fun b hb e => by have := hnew b hb; rw [show b = g from e] at this; omega)
            clear hRE hfE
            first
              | (go_wp2_with fail
                 go_ret3
                 refine ⟨BE, ?_⟩
                 rw [HE.out]
                 rfl)
              | (go_wp2_with fail
                 refine (right_calls wE _ acc (RdC.of_own hownE (by have := Hacc.out; omega) hok)).mono ?_
                 rintro e wF ⟨rfl, hbF⟩
                 rw [Hrr.out]
                 have BF := BE.trans (hbF.mono BE.size)
                 have hownF := (Fr.of_below hbF (fun _ => False)).owns hownE (fun _ _ h => h)
                 clear hbF BE hownE
                 go_wp2
                 go_ret3
                 refine ⟨BF, ?_⟩
                 rw [HE.out]
                 first
                   | rfl
                   | exact ⟨_, rfl, hownF, fun b hb => Nat.le_trans BT0.size (hnew b hb)⟩)
    · have hltd := dF hlt
      have HT : Hid (readChs n p3 [] = (acc, p)) := by rw [Hrc.out, show n - k = 0 from by omega]; rfl
      have hRT := hR
      have hownT := hown
      have BT := hB
      clear hR hown hB
      have Hp3 : Hid (pre r = ⟨mk, vr, n, acc, p⟩) := by
        have e1 : (readChs n p3 []).1 = acc := by rw [HT.out]
        have e2 : (readChs n p3 []).2 = p := by rw [HT.out]
        rw [← e1, ← e2]; exact Hpre.out
      have hnone : (p.fin.err ≠ 0 ∨ mk ≠ 195 ∨ vr < 1 ∨ 1152921504606846976 < vr ∨ rightE acc ≠ 0) → unrecE r = none := fun h => by
        rw [unrecE, if_neg (by omega), Hp3.out, if_pos h]
      have hsome : ¬ (p.fin.err ≠ 0 ∨ mk ≠ 195 ∨ vr < 1 ∨ 1152921504606846976 < vr ∨ rightE acc ≠ 0) → unrecE r = some (vr, acc) := fun h => by
        rw [unrecE, if_neg (by omega), Hp3.out, if_neg h]
      have hcs := tail_cases p.fin.err mk vr (rightE acc) (unrecE r) (some (vr, acc)) hnone hsome
      clear hnone hsome
      have HRT := Lib.hid hRT
      have hec := end_calls _ g rv p hRT
      generalize p.fin.err = ee at hec hcs
      generalize hrr : rightE acc = rr at hcs
      have Hrr := Lib.hid hrr
      have Hec := Lib.hid hec
      clear hec hrr
      rcases hcs with ⟨h1, HE⟩ | ⟨h1, rfl, h2, HE⟩ | ⟨h1, rfl, h2, h3, h3', HE⟩ | ⟨h1, rfl, h2, h3, h3', h4, HE⟩ | ⟨h1, rfl, h2, h3, h3', h4, h5, HE⟩ | ⟨h1, rfl, h2, h3, h3', h4, h5, h6, HE⟩
      all_goals
        go_wp2_with fail
        refine Hec.out.mono ?_
        rintro e wE ⟨rfl, hRE, hfE⟩
        have BE := BT.trans (hfE.only_below hgw BT.size)
        have hownE := hfE.owns hownT (fun b hb e => by have := hnew b hb; rw [show b = g from e] at this; omega)
        clear hRE hfE
        first
          | (go_wp2_with fail
             go_ret3
             refine ⟨BE, ?_⟩
             rw [HE.out]
             rfl)
          | (go_wp2_with fail
             refine (right_calls wE _ acc (RdC.of_own hownE (by have := Hacc.out; omega) hok)).mono ?_
             rintro e wF ⟨rfl, hbF⟩
             rw [Hrr.out]
             have BF := BE.trans (hbF.mono BE.size)
             have hownF := (Fr.of_below hbF (fun _ => False)).owns hownE (fun _ _ h => h)
             clear hbF BE hownE
             go_wp2
             go_ret3
             refine ⟨BF, ?_⟩
             rw [HE.out]
             first
               | rfl
               | exact ⟨_, rfl, hownF, fun b hb => Nat.le_trans BT0.size (hnew b hb)⟩)
end Go.Proofs.Ytfloaneimmnboaa
