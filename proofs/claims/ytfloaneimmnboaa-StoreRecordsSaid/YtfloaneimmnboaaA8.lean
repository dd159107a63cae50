/- The plain law of records: what is written reads back, what is read is written so. -/
import Derived.Test.YtfloaneimmnboaaA7
namespace Go.Proofs.Ytfloaneimmnboaa
open Go.RowKit Go.Maps Go.WideMaps
set_option linter.unusedVariables false
set_option linter.unusedSimpArgs false

theorem hiB_nat (v : Nat) : (hiB v).toNat = v % 128 + 128 := by simp [hiB, UInt8.toNat_ofNat']; omega
theorem loB_nat (v : Nat) (h : v < 256) : (loB v).toNat = v := by simp [loB, UInt8.toNat_ofNat']; omega
theorem loB_toNat (b : UInt8) : loB b.toNat = b := by simp [loB]

/-! ### a number -/
theorem scan_form (x : Nat) : ∀ (k acc : Nat) (r : List UInt8), k ≤ 9 → x * 128 ^ k < 18446744073709551616 → (0 < k → 0 < x) → scan (form x ++ r) k acc = .ok (acc + x * 128 ^ k, k + (form x).length) := by
  induction x using Nat.strongRecOn with
  | ind x ih =>
    intro k acc r hk hx hpos
    rw [form]
    split
    · rename_i h
      have hn := loB_nat x (by omega)
      rw [List.singleton_append, scan, if_neg (by rw [hn]; omega), if_neg, hn]
      · rfl
      · rw [hn]
        rintro (⟨h1, h2⟩ | ⟨h1, h2⟩)
        · have := hpos h1; omega
        · subst h1
          have e : (128 : Nat) ^ 9 = 9223372036854775808 := by decide
          rw [e] at hx
          omega
    · rename_i h
      have hn := hiB_nat x
      have hk9 : k ≠ 9 := by
        rintro rfl
        have e : (128 : Nat) ^ 9 = 9223372036854775808 := by decide
        rw [e] at hx
        omega
      have hd : x = 128 * (x / 128) + x % 128 := (Nat.div_add_mod x 128).symm
      have he : x * 128 ^ k = (x % 128) * 128 ^ k + (x / 128) * 128 ^ (k + 1) := by
        conv => lhs; rw [hd]
        rw [Nat.add_mul, Nat.pow_succ]
        rw [Nat.mul_comm 128 (x / 128), Nat.mul_assoc, Nat.mul_comm 128 (128 ^ k)]
        omega
      rw [List.cons_append, scan, if_pos (by rw [hn]; omega), if_neg hk9, ih (x / 128) (by omega) (k + 1) _ r (by omega) (by omega) (fun _ => by omega), hn]
      have hm : (x % 128 + 128) % 128 = x % 128 := by omega
      rw [hm, List.length_cons]
      congr 1
      ext
      · simp only; omega
      · simp only; omega

theorem form_scan (l : List UInt8) : ∀ (k acc x n : Nat), scan l k acc = .ok (x, n) → ∃ y r, l = form y ++ r ∧ x = acc + y * 128 ^ k ∧ n = k + (form y).length ∧ (0 < k → 0 < y) := by
  induction l with
  | nil => intro k acc x n h; cases h
  | cons b l ih =>
    intro k acc x n h
    rw [scan] at h
    have hb := UInt8.toNat_lt b
    split at h
    · rename_i h1
      split at h
      · cases h
      · obtain ⟨y, r, rfl, rfl, rfl, hy⟩ := ih _ _ _ _ h
        have hy := hy (by omega)
        refine ⟨b.toNat % 128 + 128 * y, r, ?_, ?_, ?_, fun _ => by omega⟩
        · rw [form.eq_1 (b.toNat % 128 + 128 * y), if_neg (by omega), show (b.toNat % 128 + 128 * y) / 128 = y from by omega, List.cons_append]
          congr 1
          apply UInt8.toNat_inj.1
          rw [hiB_nat]; omega
        · rw [Nat.add_mul, Nat.pow_succ, Nat.mul_comm 128 y, Nat.mul_assoc, Nat.mul_comm 128 (128 ^ k)]; omega
        · rw [form.eq_1 (b.toNat % 128 + 128 * y), if_neg (by omega), show (b.toNat % 128 + 128 * y) / 128 = y from by omega, List.length_cons]; omega
    · rename_i h1
      split at h
      · cases h
      · rename_i h2
        cases h
        refine ⟨b.toNat, l, ?_, rfl, ?_, fun hk => ?_⟩
        · rw [form, if_pos (by omega), loB_toNat]; rfl
        · rw [form, if_pos (by omega)]; rfl
        · exact Nat.pos_of_ne_zero (fun e => h2 (.inl ⟨hk, e⟩))

/-! ### a Reader that stands before these bytes -/
def At (p : PR) (r : List UInt8) : Prop := p.err = 0 ∧ p.pos ≤ p.b.length ∧ p.b.drop p.pos = r

theorem at_drop {p : PR} {a r : List UInt8} (h : At p (a ++ r)) (q : PR) (hb : q.b = p.b) (he : q.err = 0) (hp : q.pos = p.pos + a.length) : At q r := by
  obtain ⟨h1, h2, h3⟩ := h
  have hl : (p.b.drop p.pos).length = (a ++ r).length := by rw [h3]
  rw [List.length_drop, List.length_append] at hl
  refine ⟨he, by rw [hb, hp]; omega, ?_⟩
  rw [hb, hp, ← List.drop_drop, h3, List.drop_left]

theorem at_byte {p : PR} {b : UInt8} {r : List UInt8} (h : At p (b :: r)) : p.byte.1 = b.toNat ∧ At p.byte.2 r := by
  have hlt : p.pos < p.b.length := by
    have := congrArg List.length h.2.2; rw [List.length_drop, List.length_cons] at this; omega
  have hg : p.b[p.pos] = b := by
    have := List.drop_eq_getElem_cons hlt
    rw [h.2.2] at this
    exact (List.cons.inj this).1.symm
  have e : p.byte = (b.toNat, { p with pos := p.pos + 1 }) := by rw [PR.byte, if_neg (by simpa using h.1), dif_pos hlt, hg]
  rw [e]
  exact ⟨rfl, at_drop (a := [b]) h _ rfl h.1 rfl⟩
theorem at_uint {p : PR} {v : Nat} {r : List UInt8} (hv : v < 18446744073709551616) (h : At p (form v ++ r)) : p.uint.1 = v ∧ At p.uint.2 r := by
  have hs := scan_form v 0 0 r (by decide) (by simpa using hv) (fun h => by omega)
  have e : p.uint = (v, { p with pos := p.pos + (form v).length }) := by
    rw [PR.uint, if_neg (by simpa using h.1), h.2.2, hs]
    simp
  rw [e]
  exact ⟨rfl, at_drop h _ rfl h.1 rfl⟩
theorem at_count {p : PR} {v m : Nat} {r : List UInt8} (hm : v ≤ m) (h4 : v ≤ 4096) (h : At p (form v ++ r)) : (p.count m).1 = v ∧ At (p.count m).2 r := by
  obtain ⟨h1, h2⟩ := at_uint (by omega) h
  have e : p.count m = (p.uint.1, p.uint.2) := by
    rw [PR.count, if_neg (by simpa using h2.1), if_neg (by rw [h1]; omega)]
  rw [e]; exact ⟨h1, h2⟩
theorem at_bool {p : PR} {b : Bool} {r : List UInt8} (h : At p (loB (if b then 1 else 0) :: r)) : p.bool.1 = b ∧ At p.bool.2 r := by
  obtain ⟨h1, h2⟩ := at_byte h
  rw [loB_nat _ (by split <;> decide)] at h1
  have e : p.bool = (p.byte.1 == 1, p.byte.2) := by rw [PR.bool, if_neg (by rw [h1]; split <;> omega)]
  rw [e, h1]
  exact ⟨by cases b <;> rfl, h2⟩
theorem at_text {p : PR} {s r : List UInt8} {m : Nat} (hm : s.length ≤ m) (hs : s.length < 18446744073709551616) (h : At p (form s.length ++ s ++ r)) : (p.text m).1 = s ∧ At (p.text m).2 r := by
  rw [List.append_assoc] at h
  obtain ⟨h1, h2⟩ := at_uint hs h
  have hb := p.uint_b
  have hd := h2.2.2
  rw [hb] at hd
  have hl := congrArg List.length hd
  rw [List.length_drop, List.length_append] at hl
  have hp := h2.2.1
  rw [hb] at hp
  have e : p.text m = (s, { p.uint.2 with pos := p.uint.2.pos + p.uint.1 }) := by
    rw [PR.text, if_neg (by simpa using h2.1), if_neg (by rw [h1]; omega), if_neg (by rw [h1]; omega), hd, h1, List.take_left]
  rw [e]
  exact ⟨rfl, at_drop h2 _ rfl h2.1 (by simp only; rw [h1])⟩

def ChFits (c : Ch) : Prop := c.key.size ≤ 120 ∧ c.val.size ≤ 8192 ∧ (c.gone = true → c.val = ⟨#[]⟩)
theorem ba_mk (s : ByteArray) : (⟨s.data.toList.toArray⟩ : ByteArray) = s := by cases s; simp
theorem at_ch {p : PR} {c : Ch} {r : List UInt8} (hc : ChFits c) (h : At p (c.enc ++ r)) : p.ch.1 = c ∧ At p.ch.2 r := by
  obtain ⟨ck, cv, cg⟩ := c
  obtain ⟨h1, h2, h3⟩ := hc
  simp only at h1 h2 h3
  have hkl : ck.data.toList.length = ck.size := by rw [Array.length_toList]; rfl
  have hvl : cv.data.toList.length = cv.size := by rw [Array.length_toList]; rfl
  cases cg
  · have e : Ch.enc ⟨ck, cv, false⟩ ++ r = loB (if false then 1 else 0) :: (form ck.data.toList.length ++ ck.data.toList ++ (form cv.data.toList.length ++ cv.data.toList ++ r)) := by
      simp [Ch.enc, hkl, hvl]
    rw [e] at h
    obtain ⟨a1, a2⟩ := at_bool h
    obtain ⟨b1, b2⟩ := at_text (m := 120) (by rw [hkl]; exact h1) (by omega) a2
    obtain ⟨c1, c2⟩ := at_text (m := 8192) (by rw [hvl]; exact h2) (by omega) b2
    rw [PR.ch_here a1]
    exact ⟨by simp only [b1, c1, ba_mk], c2⟩
  · obtain rfl := h3 rfl
    have e : Ch.enc ⟨ck, ⟨#[]⟩, true⟩ ++ r = loB (if true then 1 else 0) :: (form ck.data.toList.length ++ ck.data.toList ++ r) := by
      simp [Ch.enc, hkl]
    rw [e] at h
    obtain ⟨a1, a2⟩ := at_bool h
    obtain ⟨b1, b2⟩ := at_text (m := 120) (by rw [hkl]; exact h1) (by omega) a2
    rw [PR.ch_gone a1]
    exact ⟨by simp only [b1, ba_mk], b2⟩
theorem at_chs {l : List Ch} : ∀ {p : PR} {acc : List Ch} {r : List UInt8}, (∀ c ∈ l, ChFits c) → At p (l.flatMap Ch.enc ++ r) → (readChs l.length p acc).1 = acc ++ l ∧ At (readChs l.length p acc).2 r := by
  induction l with
  | nil => intro p acc r _ h; exact ⟨by simp [readChs], by simpa [readChs] using h⟩
  | cons c l ih =>
    intro p acc r hc h
    rw [List.flatMap_cons, List.append_assoc] at h
    obtain ⟨h1, h2⟩ := at_ch (hc c List.mem_cons_self) h
    have e : readChs (c :: l).length p acc = readChs l.length p.ch.2 (acc ++ [c]) := by
      rw [List.length_cons, readChs, if_neg (by simpa using h2.1), h1]
    rw [e]
    have := ih (acc := acc ++ [c]) (fun d hd => hc d (List.mem_cons_of_mem _ hd)) h2
    simpa using this

theorem form_lt60 {v : Nat} (h : v ≤ 1152921504606846976) : v < 18446744073709551616 := by omega

theorem fits_of_right {l : List Ch} (h : rightE l = 0) : ∀ c ∈ l, ChFits c := by
  obtain ⟨-, hg, hl, -⟩ := rightE_zero h
  intro c hc
  obtain ⟨k, hk, rfl⟩ := List.getElem_of_mem hc
  have h1 := hg k hk hk
  have h2 : ¬ (120 < l[k].key.size ∨ 8192 < l[k].val.size) := fun h => hl k ⟨hk, h⟩
  refine ⟨by omega, by omega, fun hgn => ?_⟩
  have := h1.2.1 hgn
  apply ba_ext
  show l[k].val.data.toList = []
  exact List.eq_nil_of_length_eq_zero (by rw [Array.length_toList]; exact this)

theorem recordE_ok {v : Int} {l : List Ch} (h : (recordE v l).2 = 0) : 1 ≤ v ∧ v ≤ 1152921504606846976 ∧ rightE l = 0 ∧ (recEnc v.toNat l).length ≤ 32768 ∧ (recordE v l).1 = ⟨(recEnc v.toNat l).toArray⟩ := by
  unfold recordE at h ⊢
  split at h
  · cases h
  · rename_i h1
    split at h
    · rename_i h2; exact absurd h h2
    · rename_i h2
      split at h
      · cases h
      · rename_i h3
        rw [if_neg h1, if_neg h2, if_neg h3]
        exact ⟨by omega, by omega, by simpa using h2, by omega, rfl⟩
theorem recordE_bad {v : Int} {l : List Ch} (h : (recordE v l).2 ≠ 0) : (recordE v l).1 = ⟨#[]⟩ := by
  unfold recordE at h ⊢
  split
  · rfl
  · split
    · rfl
    · split
      · rfl
      · rename_i h1 h2 h3
        rw [if_neg h1, if_neg h2, if_neg h3] at h
        exact absurd rfl h

/-- what Record wrote, Unrecord reads -/
theorem unrec_record {v : Int} {l : List Ch} (h : (recordE v l).2 = 0) : unrecE (recordE v l).1.data.toList = some (v.toNat, l) := by
  obtain ⟨h1, h2, h3, h4, h5⟩ := recordE_ok h
  rw [h5]
  have hl := (rightE_zero h3).2.2.2
  show unrecE (recEnc v.toNat l) = _
  have A0 : At ⟨recEnc v.toNat l, 0, 0⟩ (loB 195 :: (form v.toNat ++ (form l.length ++ (l.flatMap Ch.enc ++ [])))) := ⟨rfl, Nat.zero_le _, by simp [recEnc, headEnc]⟩
  obtain ⟨a1, A1⟩ := at_byte A0
  obtain ⟨a2, A2⟩ := at_uint (by omega) A1
  obtain ⟨a3, A3⟩ := at_count (m := 4096) hl hl A2
  obtain ⟨a4, A4⟩ := at_chs (acc := []) (fits_of_right h3) A3
  have hp : pre (recEnc v.toNat l) = ⟨195, v.toNat, l.length, l, (readChs l.length ((⟨recEnc v.toNat l, 0, 0⟩ : PR).byte.2.uint.2.count 4096).2 []).2⟩ := by
    unfold pre
    simp only [a1, a2, a3]
    rw [a4]
    rfl
  rw [unrecE, if_neg (by omega), hp]
  simp only
  have hf : (readChs l.length ((⟨recEnc v.toNat l, 0, 0⟩ : PR).byte.2.uint.2.count 4096).2 []).2.fin.err = 0 := by
    rw [PR.fin, if_neg]
    · exact A4.1
    · rintro ⟨-, hlt⟩
      have := congrArg List.length A4.2.2
      rw [List.length_drop] at this
      simp at this
      omega
  rw [if_neg]
  rintro (h | h | h | h | h)
  · exact h hf
  · exact h rfl
  · omega
  · omega
  · exact h h3

/-! ### the other way: what was read stood there so -/
/-- a Reader goes on from p to q over these bytes -/
def Over (p q : PR) (a : List UInt8) : Prop := p.err = 0 ∧ q.b = p.b ∧ (p.pos ≤ p.b.length → q.pos ≤ q.b.length) ∧ p.b.drop p.pos = a ++ q.b.drop q.pos
theorem Over.trans {p q r : PR} {a b : List UInt8} (h : Over p q a) (k : Over q r b) : Over p r (a ++ b) :=
  ⟨h.1, k.2.1.trans h.2.1, fun hp => k.2.2.1 (h.2.2.1 hp), by rw [h.2.2.2, k.2.2.2, List.append_assoc]⟩

theorem over_byte {p : PR} (h : p.byte.2.err = 0) : Over p p.byte.2 [loB p.byte.1] := by
  unfold PR.byte at h ⊢
  split at h
  · rename_i h1; exact absurd h h1
  · rename_i h1
    split at h
    · rename_i h2
      rw [if_neg h1, dif_pos h2]
      refine ⟨h, rfl, fun _ => h2, ?_⟩
      rw [loB_toNat]
      exact List.drop_eq_getElem_cons h2
    · cases h
theorem over_uint {p : PR} (h : p.uint.2.err = 0) : Over p p.uint.2 (form p.uint.1) := by
  unfold PR.uint at h ⊢
  split at h
  · rename_i h1; exact absurd h h1
  · rename_i h1
    rw [if_neg h1]
    have h1 : p.err = 0 := by simpa using h1
    cases hs : scan (p.b.drop p.pos) 0 0 with
    | error e =>
      rw [hs] at h
      have : e = 0 := h
      subst this
      exact absurd hs (scan_err _ _ _)
    | ok x =>
      obtain ⟨v, n⟩ := x
      obtain ⟨y, r, hd, hv, hn, -⟩ := form_scan _ _ _ _ _ hs
      have hv : v = y := by rw [hv]; simp
      have hn : n = (form y).length := by rw [hn]; simp
      subst hv
      subst hn
      have hl := congrArg List.length hd
      rw [List.length_drop, List.length_append] at hl
      have hp := form_pos v
      refine ⟨h1, rfl, fun _ => by simp only; omega, ?_⟩
      simp only
      rw [← List.drop_drop, hd, List.drop_left]
  where
  scan_err : ∀ (l : List UInt8) (k v : Nat), scan l k v ≠ .error 0 := by
    intro l
    induction l with
    | nil => intro k v h; cases h
    | cons b l ih =>
      intro k v h
      rw [scan] at h
      split at h
      · split at h
        · cases h
        · exact ih _ _ h
      · split at h <;> cases h
theorem over_count {p : PR} {m : Nat} (h : (p.count m).2.err = 0) : Over p (p.count m).2 (form (p.count m).1) := by
  unfold PR.count at h ⊢
  split at h
  · rename_i h1; exact absurd h h1
  · rename_i h1
    rw [if_neg h1]
    split at h
    · cases h
    · rename_i h2; rw [if_neg h2]; exact over_uint h
theorem over_bool {p : PR} (h : p.bool.2.err = 0) : Over p p.bool.2 [loB (if p.bool.1 then 1 else 0)] := by
  unfold PR.bool at h ⊢
  split at h
  · cases h
  · rename_i h1
    rw [if_neg h1]
    have := over_byte h
    have e : loB (if ((p.byte.1 == 1) = true) then 1 else 0) = loB p.byte.1 := by
      have h3 : p.byte.1 = 0 ∨ p.byte.1 = 1 := by omega
      rcases h3 with h3 | h3 <;> rw [h3] <;> rfl
    rw [e]; exact this
theorem over_text {p : PR} {m : Nat} (h : (p.text m).2.err = 0) : Over p (p.text m).2 (form (p.text m).1.length ++ (p.text m).1) := by
  unfold PR.text at h ⊢
  split at h
  · rename_i h1; exact absurd h h1
  · rename_i h1
    rw [if_neg h1]
    split at h
    · cases h
    · rename_i h2
      rw [if_neg h2]
      split at h
      · cases h
      · rename_i h3
        rw [if_neg h3]
        have ho := over_uint (p := p) (by simpa using h1)
        have hb := p.uint_b
        have hl : ((p.b.drop p.uint.2.pos).take p.uint.1).length = p.uint.1 := by rw [List.length_take, List.length_drop]; omega
        rw [hl]
        refine ho.trans ⟨by simpa using h1, rfl, fun hp => ?_, ?_⟩
        · simp only; rw [hb] at hp ⊢; omega
        · simp only
          rw [hb, ← List.drop_drop, List.take_append_drop]
theorem over_ch {p : PR} (h : p.ch.2.err = 0) : Over p p.ch.2 p.ch.1.enc := by
  cases hb : p.bool.1
  · rw [PR.ch_here hb] at h ⊢
    have h3 := over_text h
    have h2 := over_text h3.1
    have h1 := over_bool h2.1
    rw [hb] at h1
    have := h1.trans (h2.trans h3)
    have e : Ch.enc ⟨⟨(p.bool.2.text 120).1.toArray⟩, ⟨((p.bool.2.text 120).2.text 8192).1.toArray⟩, false⟩ =
        [loB (if false = true then 1 else 0)] ++ ((form (p.bool.2.text 120).1.length ++ (p.bool.2.text 120).1) ++ (form ((p.bool.2.text 120).2.text 8192).1.length ++ ((p.bool.2.text 120).2.text 8192).1)) := by
      simp [Ch.enc, ba_size]
    rw [e]; exact this
  · rw [PR.ch_gone hb] at h ⊢
    have h2 := over_text h
    have h1 := over_bool h2.1
    rw [hb] at h1
    have := h1.trans h2
    have e : Ch.enc ⟨⟨(p.bool.2.text 120).1.toArray⟩, ⟨#[]⟩, true⟩ = [loB (if true = true then 1 else 0)] ++ (form (p.bool.2.text 120).1.length ++ (p.bool.2.text 120).1) := by
      simp [Ch.enc, ba_size]
    rw [e]; exact this
theorem over_chs : ∀ (n : Nat) (p : PR) (acc : List Ch), (readChs n p acc).2.err = 0 → ∃ l, (readChs n p acc).1 = acc ++ l ∧ l.length = n ∧ (n = 0 ∨ p.err = 0) ∧ (p.err = 0 → Over p (readChs n p acc).2 (l.flatMap Ch.enc)) := by
  intro n
  induction n with
  | zero => intro p acc h; exact ⟨[], by simp [readChs], rfl, .inl rfl, fun he => ⟨he, rfl, fun h => h, by simp [readChs]⟩⟩
  | succ n ih =>
    intro p acc h
    rw [readChs] at h
    split at h
    · rename_i h1; exact absurd h h1
    · rename_i h1
      have h1 : p.ch.2.err = 0 := by simpa using h1
      have ho := over_ch h1
      obtain ⟨l, e1, e2, -, e3⟩ := ih p.ch.2 (acc ++ [p.ch.1]) h
      refine ⟨p.ch.1 :: l, ?_, by rw [List.length_cons, e2], .inr ho.1, fun _ => ?_⟩
      · rw [readChs, if_neg (by simpa using h1), e1]; simp
      · rw [readChs, if_neg (by simpa using h1), List.flatMap_cons]
        exact ho.trans (e3 h1)

theorem unrec_ok {r : List UInt8} {v : Nat} {l : List Ch} (h : unrecE r = some (v, l)) : recordE (v : Int) l = (⟨r.toArray⟩, 0) ∧ 1 ≤ v ∧ v ≤ 1152921504606846976 ∧ l.length ≤ 4096 := by
  unfold unrecE at h
  split at h
  · cases h
  · rename_i hlen
    split at h
    · cases h
    · rename_i hno
      obtain ⟨hv, hl⟩ := Prod.mk.inj (Option.some.inj h)
      have f1 : (pre r).p.fin.err = 0 := Classical.not_not.1 (fun h => hno (.inl h))
      have f2 : (pre r).mark = 195 := Classical.not_not.1 (fun h => hno (.inr (.inl h)))
      have f3 : ¬ (pre r).ver < 1 := fun h => hno (.inr (.inr (.inl h)))
      have f4 : ¬ 1152921504606846976 < (pre r).ver := fun h => hno (.inr (.inr (.inr (.inl h))))
      have f5 : rightE (pre r).l = 0 := Classical.not_not.1 (fun h => hno (.inr (.inr (.inr (.inr h)))))
      rw [hv] at f3 f4
      rw [hl] at f5
      have hpe : (pre r).p.err = 0 ∧ ¬ (pre r).p.pos < (pre r).p.b.length := by
        unfold PR.fin at f1
        split at f1
        · cases f1
        · rename_i h1
          exact ⟨f1, fun h => h1 ⟨f1, h⟩⟩
      obtain ⟨l2, e1, e2, e3, e4⟩ := over_chs _ _ _ hpe.1
      have hl2 : l2 = l := by
        rw [← hl]; show _ = (readChs _ _ _).1; rw [e1]; rfl
      subst hl2
      have hne := (rightE_zero f5).1
      have hn4 := (rightE_zero f5).2.2.2
      have hp3 : ((⟨r, 0, 0⟩ : PR).byte.2.uint.2.count 4096).2.err = 0 := by
        rcases e3 with h0 | h0
        · rw [h0] at e2; exact absurd (List.eq_nil_of_length_eq_zero e2) hne
        · exact h0
      have o4 := e4 hp3
      have o3 := over_count hp3
      have o2 := over_uint o3.1
      have o1 := over_byte o2.1
      have oo := o1.trans (o2.trans (o3.trans o4))
      have hb : (pre r).p.b = r := oo.2.1
      have hlast : (pre r).p.b.drop (pre r).p.pos = [] := List.drop_eq_nil_of_le (by omega)
      have hr := oo.2.2.2
      have hr2 : r = [loB (pre r).mark] ++ (form (pre r).ver ++ (form (pre r).n ++ (l2.flatMap Ch.enc))) := by
        have : (readChs (pre r).n ((⟨r, 0, 0⟩ : PR).byte.2.uint.2.count 4096).2 []).2.b.drop (readChs (pre r).n ((⟨r, 0, 0⟩ : PR).byte.2.uint.2.count 4096).2 []).2.pos = [] := hlast
        conv => lhs; rw [show r = (⟨r, 0, 0⟩ : PR).b.drop (⟨r, 0, 0⟩ : PR).pos from rfl, hr]
        rw [show (((⟨r, 0, 0⟩ : PR).byte.2.uint.2.count 4096)).1 = (pre r).n from rfl, this, List.append_nil]
        rfl
      have hnl : (pre r).n = l2.length := e2.symm
      rw [f2, hv, hnl] at hr2
      have henc : recEnc v l2 = r := by
        rw [hr2]; simp [recEnc, headEnc]
      refine ⟨?_, by omega, by omega, hn4⟩
      rw [recordE, if_neg (by omega), if_neg (by omega), if_neg]
      · rw [show (v : Int).toNat = v from rfl, henc]
      · rw [show (v : Int).toNat = v from rfl, henc]; exact hlen

theorem readChs_ok : ∀ (n : Nat) (p : PR) (acc : List Ch), (∀ c ∈ acc, ChOk c) → ∀ c ∈ (readChs n p acc).1, ChOk c := by
  intro n
  induction n with
  | zero => intro p acc h; exact h
  | succ n ih =>
    intro p acc h
    rw [readChs]
    split
    · exact h
    · exact ih _ _ (fun c hc => (List.mem_append.1 hc).elim (h c) (fun h1 => by rw [List.mem_singleton.1 h1]; exact p.ch_ok))
theorem unrec_chok {r : List UInt8} {v : Nat} {l : List Ch} (h : unrecE r = some (v, l)) : ∀ c ∈ l, ChOk c := by
  unfold unrecE at h
  split at h
  · cases h
  · split at h
    · cases h
    · obtain ⟨-, hl⟩ := Prod.mk.inj (Option.some.inj h)
      rw [← hl]
      exact readChs_ok _ _ _ (fun c hc => by cases hc)
end Go.Proofs.Ytfloaneimmnboaa
