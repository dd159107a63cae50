/- The contracts of pack's Reader. -/
import Derived.Test.YtfloaneimmnboaaA3
namespace Go.Proofs.Ytfloaneimmnboaa
open Go.RowKit Go.Maps Go.WideMaps
set_option linter.unusedVariables false
set_option linter.unusedSimpArgs false

structure PR where
  b : List UInt8
  pos : Nat
  err : Int
structure IsR (w : World) (g : Nat) (rv : Value) (p : PR) : Prop where
  blk : w.heap[g]? = some (.cells #[rv, .int .i64 p.pos, .int .i64 p.err] 67 (0, 0))
  rd : RdB w rv p.b
  ne : rv.ownBlock ≠ some g
  fit : p.pos ≤ p.b.length
  len : p.b.length ≤ 140737488355328
  lt : ∀ k, rv.ownBlock = some k → k < w.heap.size
theorem IsR.fr {S : Nat → Prop} {w w1 : World} {g : Nat} {p : PR} {rv : Value} (h : IsR w g rv p) (hf : Fr S w w1) (hn : ¬ S g) (hn2 : ∀ k, rv.ownBlock = some k → ¬ S k) : IsR w1 g rv p :=
  ⟨hf.blk h.blk hn, h.rd.fr hf hn2, h.ne, h.fit, h.len, fun k hk => Nat.lt_of_lt_of_le (h.lt k hk) hf.size⟩
theorem IsR.below {w w1 : World} {g : Nat} {p : PR} {rv : Value} (h : IsR w g rv p) (hb : Below w.heap.size w w1) : IsR w1 g rv p :=
  h.fr (Fr.of_below hb (fun _ => False)) (fun h => h) (fun _ _ h => h)
/-- the fields set anew -/
theorem IsR.set {w w1 : World} {g : Nat} {p : PR} {rv : Value} (h : IsR w g rv p) (hf : Fr (Only g) w w1) (p' : PR) (hb : p'.b = p.b) (hfit : p'.pos ≤ p.b.length)
    (hblk : w1.heap[g]? = some (.cells #[rv, .int .i64 p'.pos, .int .i64 p'.err] 67 (0, 0))) : IsR w1 g rv p' :=
  ⟨hblk, by rw [hb]; exact h.rd.fr hf (fun k hk e => h.ne (by rw [hk, show k = g from e])), h.ne, by rw [hb]; exact hfit, by rw [hb]; exact h.len, fun k hk => Nat.lt_of_lt_of_le (h.lt k hk) hf.size⟩

def RPost (w : World) (g : Nat) (rv : Value) (v : Value) (p : PR) : Ending → World → Prop := fun e w' => e = .returned v ∧ IsR w' g rv p ∧ Fr (Only g) w w'

theorem fail_calls (w : World) (g : Nat) (rv : Value) (p : PR) (h : IsR w g rv p) (n : Nat) (hn : n ≤ p.b.length) (e : Int) :
    Calls Try.prog 48 #[.pointer (some ⟨g, 0, none⟩), .int .i64 n, .int .i64 e] w (RPost w g rv (.tuple #[]) { p with pos := n, err := e }) := by
  obtain ⟨c0, c1, c2, f0, f1, f2⟩ := cells3 h.blk
  go_enter Try.func48, Try.ntmps48
  go_wp2
  go_end0
  have hf : Fr (Only g) w ((w.setCell ⟨g, 1, none⟩ (.int .i64 n)).setCell ⟨g, 2, none⟩ (.int .i64 e)) := ((Fr.refl (Only g) w).setCell (p := ⟨g, 1, none⟩) (.inl rfl) _).setCell (p := ⟨g, 2, none⟩) (.inl rfl) _
  exact ⟨rfl, h.set hf _ rfl hn (blk_setCell (blk_setCell h.blk 1 _) 2 _), hf⟩

theorem left_calls (w : World) (g : Nat) (rv : Value) (p : PR) (h : IsR w g rv p) :
    Calls Try.prog 47 #[.pointer (some ⟨g, 0, none⟩)] w (RPost w g rv (.int .i64 ((p.b.length - p.pos : Nat) : Int)) p) := by
  obtain ⟨A, c, rfl⟩ := h.rd.slice
  obtain ⟨c0, c1, c2, f0, f1, f2⟩ := cells3 h.blk
  have hfit := h.fit
  have hlen := h.len
  go_enter Try.func47, Try.ntmps47
  go_wp2
  go_quiet (fail)
  go_wp2
  go_ret
  have hb : Below w.heap.size w (w.drewN nq) := (Fr.to_below (B := w.heap.size) ((Fr.refl (fun _ => False) w).drewN _) (fun _ h => h.elim) (Nat.le_refl _))
  refine ⟨ret_eq ?_, h.below hb, Fr.of_below hb _⟩
  show Value.int .i64 ((p.b.length : Int) - p.pos) = _
  rw [show ((p.b.length - p.pos : Nat) : Int) = (p.b.length : Int) - p.pos from by omega]

theorem err_calls (w : World) (g : Nat) (rv : Value) (p : PR) (h : IsR w g rv p) :
    Calls Try.prog 33 #[.pointer (some ⟨g, 0, none⟩)] w (RPost w g rv (.int .i64 p.err) p) := by
  obtain ⟨c0, c1, c2, f0, f1, f2⟩ := cells3 h.blk
  go_enter Try.func33, Try.ntmps33
  go_wp2
  go_ret
  exact ⟨rfl, h, Fr.refl _ _⟩

def PR.byte (p : PR) : Nat × PR := if p.err ≠ 0 then (0, p) else if h : p.pos < p.b.length then (p.b[p.pos].toNat, { p with pos := p.pos + 1 }) else (0, { p with err := 20 })

theorem byte_calls (w : World) (g : Nat) (rv : Value) (p : PR) (h : IsR w g rv p) :
    Calls Try.prog 28 #[.pointer (some ⟨g, 0, none⟩)] w (RPost w g rv (.int .u8 p.byte.1) p.byte.2) := by
  obtain ⟨c0, c1, c2, f0, f1, f2⟩ := cells3 h.blk
  have hfit := h.fit
  have hlen := h.len
  by_cases he : p.err = 0
  · by_cases hlt : p.pos < p.b.length
    · have hp : p.byte = (p.b[p.pos].toNat, { p with pos := p.pos + 1 }) := by rw [PR.byte, if_neg (by simpa using he), dif_pos hlt]
      have Hp := Lib.hid hp
      clear hp
      rw [he] at c2
      obtain ⟨b, off, c, rfl, hc, hb, hcell⟩ := h.rd.some (by intro e; simp [u8s] at e; rw [e] at hlt; simp at hlt)
      have hcl := hcell p.pos (.int .u8 (p.b[p.pos].toNat)) (by simp [u8s, hlt])
      have h0 : (((p.b.length - p.pos : Nat) : Int) == 0) = false := by simp; omega
      generalize p.b[p.pos] = x at hcl Hp
      go_enter Try.func28, Try.ntmps28
      go_wp2_with fail
      refine (left_calls _ g _ p h).mono ?_
      rintro e w1 ⟨rfl, h1, hf1⟩
      have hblk := blk_setCell h1.blk 1 (.int .i64 ((p.pos : Int) + 1))
      have hcl1 : (w1.setCell ⟨g, 1, none⟩ (.int .i64 ((p.pos : Int) + 1))).cell? ⟨b, off + p.pos, none⟩ = some (.int .u8 x.toNat) :=
        (hf1.setCell (p := ⟨g, 1, none⟩) (.inl rfl) _).cell hcl (fun e => h.ne (by rw [show g = b from (show b = g from e).symm]; rfl))
      clear c0 c1 c2 f0 f1 f2 hcl hcell
      obtain ⟨c0, c1, c2, f0, f1, f2⟩ := cells3 h1.blk
      rw [he] at c2
      go_wp2
      go_quiet (fail)
      go_wp2
      go_ret
      have hf2 : Fr (Only g) w ((w1.setCell ⟨g, 1, none⟩ (.int .i64 ((p.pos : Int) + 1))).drewN nq) := (hf1.setCell (p := ⟨g, 1, none⟩) (.inl rfl) _).drewN nq
      refine ⟨ret_eq ?_, ?_⟩
      · rw [Hp.out]; rfl
      · rw [Hp.out]; exact ⟨h.set hf2 _ rfl (show p.pos + 1 ≤ _ by omega) hblk, hf2⟩
    · have hp : p.byte = (0, { p with err := 20 }) := by rw [PR.byte, if_neg (by simpa using he), dif_neg hlt]
      have Hp := Lib.hid hp
      clear hp
      rw [he] at c2
      have h0 : (((p.b.length - p.pos : Nat) : Int) == 0) = true := by simp; omega
      go_enter Try.func28, Try.ntmps28
      go_wp2_with fail
      refine (left_calls _ g _ p h).mono ?_
      rintro e w1 ⟨rfl, h1, hf1⟩
      clear c0 c1 c2 f0 f1 f2
      obtain ⟨c0, c1, c2, f0, f1, f2⟩ := cells3 h1.blk
      go_wp2
      go_ret
      have hf2 : Fr (Only g) w (w1.setCell ⟨g, 2, none⟩ (.int .i64 20)) := (hf1.setCell (p := ⟨g, 2, none⟩) (.inl rfl) _)
      rw [Hp.out]
      exact ⟨rfl, h.set hf2 _ rfl hfit (blk_setCell h1.blk 2 _), hf2⟩
  · have hne : (p.err != 0) = true := by simpa using he
    have hp : p.byte = (0, p) := by rw [PR.byte, if_pos he]
    rw [hp]
    go_enter Try.func28, Try.ntmps28
    go_wp2
    go_ret
    exact ⟨rfl, h, Fr.refl _ _⟩

def PR.fin (p : PR) : PR := if p.err = 0 ∧ p.pos < p.b.length then { p with err := 22 } else p

theorem end_calls (w : World) (g : Nat) (rv : Value) (p : PR) (h : IsR w g rv p) :
    Calls Try.prog 34 #[.pointer (some ⟨g, 0, none⟩)] w (RPost w g rv (.int .i64 p.fin.err) p.fin) := by
  obtain ⟨c0, c1, c2, f0, f1, f2⟩ := cells3 h.blk
  have hfit := h.fit
  have hlen := h.len
  by_cases he : p.err = 0
  · have he1 : (p.err == 0) = true := by simpa using he
    by_cases hlt : p.pos < p.b.length
    · have hp : p.fin = { p with err := 22 } := by rw [PR.fin, if_pos ⟨he, hlt⟩]
      rw [hp]
      have h0 : decide ((0 : Int) < ((p.b.length - p.pos : Nat) : Int)) = true := decide_eq_true (by omega)
      go_enter Try.func34, Try.ntmps34
      go_wp2_with fail
      refine (left_calls _ g _ p h).mono ?_
      rintro e w1 ⟨rfl, h1, hf1⟩
      clear c0 c1 c2 f0 f1 f2
      obtain ⟨c0, c1, c2, f0, f1, f2⟩ := cells3 h1.blk
      go_wp2
      go_ret
      have hf2 : Fr (Only g) w (w1.setCell ⟨g, 2, none⟩ (.int .i64 22)) := (hf1.setCell (p := ⟨g, 2, none⟩) (.inl rfl) _)
      exact ⟨rfl, h.set hf2 _ rfl hfit (blk_setCell h1.blk 2 _), hf2⟩
    · have hp : p.fin = p := by rw [PR.fin, if_neg (fun h => hlt h.2)]
      rw [hp]
      have h0 : decide ((0 : Int) < ((p.b.length - p.pos : Nat) : Int)) = false := decide_eq_false (by omega)
      go_enter Try.func34, Try.ntmps34
      go_wp2_with fail
      refine (left_calls _ g _ p h).mono ?_
      rintro e w1 ⟨rfl, h1, hf1⟩
      clear c0 c1 c2 f0 f1 f2
      obtain ⟨c0, c1, c2, f0, f1, f2⟩ := cells3 h1.blk
      go_wp2
      go_ret
      exact ⟨by show _ = Ending.returned (Value.int .i64 p.err); rw [he]; rfl, h1, hf1⟩
  · have hne : (p.err == 0) = false := by simpa using he
    have hp : p.fin = p := by rw [PR.fin, if_neg (fun h => he h.1)]
    rw [hp]
    go_enter Try.func34, Try.ntmps34
    go_wp2
    go_ret
    exact ⟨rfl, h, Fr.refl _ _⟩

theorem PR.byte_lt (p : PR) : p.byte.1 < 256 := by
  unfold PR.byte; split
  · simp
  · split
    · exact UInt8.toNat_lt _
    · simp
theorem PR.byte_b (p : PR) : p.byte.2.b = p.b := by
  unfold PR.byte; split
  · rfl
  · split <;> rfl

def PR.bool (p : PR) : Bool × PR := if 1 < p.byte.1 then (false, { p.byte.2 with pos := p.pos, err := 21 }) else (p.byte.1 == 1, p.byte.2)

theorem bool_calls (w : World) (g : Nat) (rv : Value) (p : PR) (h : IsR w g rv p) :
    Calls Try.prog 31 #[.pointer (some ⟨g, 0, none⟩)] w (RPost w g rv (.bool p.bool.1) p.bool.2) := by
  have hb := byte_calls w g rv p h
  have hlt := p.byte_lt
  have hbb := p.byte_b
  have hpb : p.bool = if 1 < p.byte.1 then (false, { p.byte.2 with pos := p.pos, err := 21 }) else (p.byte.1 == 1, p.byte.2) := rfl
  generalize hq : p.byte = q at hb hlt hbb hpb
  obtain ⟨x, q⟩ := q
  simp only at hb hlt hbb hpb
  clear hq
  have Hb := Lib.hid hb
  have Hpb := Lib.hid hpb
  have Hbb := Lib.hid hbb
  clear hb hpb hbb
  obtain ⟨c0, c1, c2, f0, f1, f2⟩ := cells3 h.blk
  by_cases h1 : 1 < x
  · have h1d : decide ((1 : Int) < x) = true := decide_eq_true (by omega)
    go_enter Try.func31, Try.ntmps31
    go_wp2_with fail
    refine Hb.out.mono ?_
    rintro e w1 ⟨rfl, hR, hf⟩
    go_wp2_with fail
    refine (fail_calls w1 g rv q hR p.pos (by rw [Hbb.out]; exact h.fit) 21).mono ?_
    rintro e w2 ⟨rfl, hR2, hf2⟩
    go_wp2
    go_ret
    rw [Hpb.out, if_pos h1]
    exact ⟨rfl, hR2, hf.trans hf2 (fun _ h => .inl h)⟩
  · have h1d : decide ((1 : Int) < x) = false := decide_eq_false (by omega)
    go_enter Try.func31, Try.ntmps31
    go_wp2_with fail
    refine Hb.out.mono ?_
    rintro e w1 ⟨rfl, hR, hf⟩
    go_wp2
    go_ret
    rw [Hpb.out, if_neg h1]
    refine ⟨ret_eq ?_, hR, hf⟩
    show Value.bool ((x : Int) == 1) = Value.bool (x == 1)
    congr 1
    rw [Bool.eq_iff_iff]; simp; omega

/-- a number's bytes read: the rest, the byte's index, the value so far -/
def scan : List UInt8 → Nat → Nat → Except Int (Nat × Nat)
  | [], _, _ => .error 20
  | x :: r, i, v =>
    if 128 ≤ x.toNat then (if i = 9 then .error 21 else scan r (i + 1) (v + (x.toNat % 128) * 128 ^ i))
    else if (0 < i ∧ x.toNat = 0) ∨ (i = 9 ∧ 1 < x.toNat) then .error 21 else .ok (v + x.toNat * 128 ^ i, i + 1)
def PR.uint (p : PR) : Nat × PR :=
  if p.err ≠ 0 then (0, p) else match scan (p.b.drop p.pos) 0 0 with
    | .error e => (0, { p with err := e })
    | .ok (v, n) => (v, { p with pos := p.pos + n })


theorem pow128 (i : Nat) : 128 ^ i = 2 ^ (7 * i) := by rw [Nat.pow_mul]
theorem wraps_u64 (n : Int) (h₀ : 0 ≤ n) (h₁ : n < 2 ^ 64) : IntKind.u64.wrap n = n := by
  simp [IntKind.wrap, IntKind.bits, IntKind.signed]; omega
theorem u64_nat (n : Int) : ∃ m : Nat, IntKind.u64.wrap n = m ∧ m < 2 ^ 64 := by
  simp [IntKind.wrap, IntKind.bits, IntKind.signed]
  exact ⟨(n % 18446744073709551616).toNat, by omega, by omega⟩
theorem and127 (x : Nat) (hx : x < 256) : Go.bits .and .u8 (x : Int) 127 = ((x % 128 : Nat) : Int) := by
  have := bits_mask .u8 8 (by decide) wraps_u8 7 (by decide) (x : Int) (by omega) (by omega)
  simpa using this
/-- what 'v |= uint64(b&127) << (7*i)' makes of v -/
def orVal (v x k : Nat) : Int := Go.bits .or .u64 (v : Int) (IntKind.u64.wrap (IntKind.u64.wrap (Go.bits .and .u8 (x : Int) 127) * 2 ^ (7 * k)))
theorem orVal_nat (v x k : Nat) (hv : v < 2 ^ 64) : ∃ m : Nat, orVal v x k = m := by
  obtain ⟨m, hm, hlt⟩ := u64_nat (IntKind.u64.wrap (Go.bits .and .u8 (x : Int) 127) * 2 ^ (7 * k))
  rw [orVal, hm, (bits_nat .u64 64 (by decide) wraps_u64 v m hv hlt).2]
  exact ⟨_, rfl⟩
theorem pow128_le {k : Nat} (h : k ≤ 9) : 128 ^ k ≤ 128 ^ 9 := Nat.pow_le_pow_right (by decide) h
theorem orVal_eq (v x k : Nat) (hk : k ≤ 9) (hv : v < 128 ^ k) (hx : x < 256) (h9 : k = 9 → x % 128 ≤ 1) : orVal v x k = ((v + (x % 128) * 128 ^ k : Nat) : Int) := by
  have hm : x % 128 < 128 := Nat.mod_lt _ (by decide)
  have hp := pow128_le hk
  have hy : (x % 128) * 128 ^ k < 2 ^ 64 := by
    by_cases h8 : k ≤ 8
    · have h1 : 128 ^ k ≤ 128 ^ 8 := Nat.pow_le_pow_right (by decide) h8
      calc (x % 128) * 128 ^ k ≤ 127 * 128 ^ 8 := Nat.mul_le_mul (by omega) h1
        _ < 2 ^ 64 := by decide
    · have : k = 9 := by omega
      subst this
      calc (x % 128) * 128 ^ 9 ≤ 1 * 128 ^ 9 := Nat.mul_le_mul (h9 rfl) (Nat.le_refl _)
        _ < 2 ^ 64 := by decide
  have e1 : IntKind.u64.wrap (Go.bits .and .u8 (x : Int) 127) = ((x % 128 : Nat) : Int) := by
    rw [and127 x hx]; exact wraps_u64 _ (by omega) (by omega)
  have e2 : ((x % 128 : Nat) : Int) * 2 ^ (7 * k) = (((x % 128) * 128 ^ k : Nat) : Int) := by
    rw [pow128]; push_cast; rfl
  have e3 : IntKind.u64.wrap ((((x % 128) * 128 ^ k : Nat)) : Int) = (((x % 128) * 128 ^ k : Nat) : Int) := wraps_u64 _ (by omega) (by exact_mod_cast hy)
  rw [orVal, e1, e2, e3, (bits_nat .u64 64 (by decide) wraps_u64 v _ (Nat.lt_of_lt_of_le (Nat.lt_of_lt_of_le hv hp) (by decide)) hy).2]
  congr 1
  rw [pow128, Nat.mul_comm, Nat.or_comm]
  rw [← Nat.two_pow_add_eq_or_of_lt (by rw [← pow128]; exact hv) (x % 128)]
  omega
theorem scan_end {l : List UInt8} {k v : Nat} (h : l = []) : scan l k v = .error 20 := by rw [h]; rfl
theorem scan_more {l r : List UInt8} {b : UInt8} {k v : Nat} (h : l = b :: r) (hb : 128 ≤ b.toNat) (hk : k ≠ 9) : scan l k v = scan r (k + 1) (v + (b.toNat % 128) * 128 ^ k) := by
  rw [h, scan, if_pos hb, if_neg hk]
theorem scan_nine {l r : List UInt8} {b : UInt8} {k v : Nat} (h : l = b :: r) (hb : 128 ≤ b.toNat) (hk : k = 9) : scan l k v = .error 21 := by
  rw [h, scan, if_pos hb, if_pos hk]
theorem scan_bad {l r : List UInt8} {b : UInt8} {k v : Nat} (h : l = b :: r) (hb : ¬ 128 ≤ b.toNat) (hk : (0 < k ∧ b.toNat = 0) ∨ (k = 9 ∧ 1 < b.toNat)) : scan l k v = .error 21 := by
  rw [h, scan, if_neg hb, if_pos hk]
theorem scan_ok {l r : List UInt8} {b : UInt8} {k v : Nat} (h : l = b :: r) (hb : ¬ 128 ≤ b.toNat) (hk : ¬ ((0 < k ∧ b.toNat = 0) ∨ (k = 9 ∧ 1 < b.toNat))) : scan l k v = .ok (v + b.toNat * 128 ^ k, k + 1) := by
  rw [h, scan, if_neg hb, if_neg hk]
theorem grow128 {v k y : Nat} (hv : v < 128 ^ k) (hy : y < 128) : v + y * 128 ^ k < 128 ^ (k + 1) := by
  rw [Nat.pow_succ]
  have : y * 128 ^ k ≤ 127 * 128 ^ k := Nat.mul_le_mul_right _ (by omega)
  omega

def ULoop (w : World) (g : Nat) (rv : Value) (p : PR) (v3 i : Value) (w1 : World) : Prop :=
  ∃ (k v : Nat), k ≤ 10 ∧ i = .int .i64 k ∧ v3 = .int .u64 v ∧ p.pos + k ≤ p.b.length ∧ (k ≤ 9 → v < 128 ^ k ∧ scan (p.b.drop p.pos) 0 0 = scan (p.b.drop (p.pos + k)) k v) ∧ (k = 10 → scan (p.b.drop p.pos) 0 0 = .error 21) ∧
    IsR w1 g rv p ∧ Fr (Only g) w w1

set_option maxRecDepth 100000 in
set_option maxHeartbeats 1600000 in
theorem uint_good (w : World) (g : Nat) (rv : Value) (p : PR) (h : IsR w g rv p) (he : p.err = 0) :
    Calls Try.prog 29 #[.pointer (some ⟨g, 0, none⟩)] w (RPost w g rv (.int .u64 p.uint.1) p.uint.2) := by
  have hu : p.uint = match scan (p.b.drop p.pos) 0 0 with
    | .error e => (0, { p with err := e })
    | .ok (v, n) => (v, { p with pos := p.pos + n }) := by rw [PR.uint, if_neg (by simpa using he)]
  have Hu := Lib.hid hu
  clear hu
  obtain ⟨c0, c1, c2, f0, f1, f2⟩ := cells3 h.blk
  rw [he] at c2
  have hfit := h.fit
  have hlen := h.len
  have hne := h.ne
  have He := Lib.hid he
  obtain ⟨A, c, rfl⟩ := h.rd.slice
  go_enter Try.func29, Try.ntmps29
  go_wp2
  clear c0 c1 c2 f0 f1 f2
  go_loopw [3, 11] (fun v i w1 => ULoop w g (.slice A p.b.length c) p v i w1) (fun _ i _ => 10 - (intOf i).toNat)
  case atStart => exact ⟨0, 0, by omega, rfl, rfl, by omega, fun _ => ⟨by decide, rfl⟩, (fun h => by omega), h, Fr.refl _ _⟩
  case round =>
    clear he
    obtain ⟨k, v, hk, rfl, rfl, hpk, hsc, hsc2, hR, hf⟩ := hrel
    have Hsc := Lib.hid hsc
    have Hsc2 := Lib.hid hsc2
    clear hsc hsc2
    obtain ⟨c0, c1, c2, f0, f1, f2⟩ := cells3 hR.blk
    rw [He.out] at c2
    have hw : ∀ n, IsR (wr.drewN n) g (.slice A p.b.length c) p ∧ Fr (Only g) w (wr.drewN n) := fun n =>
      ⟨hR.below (Fr.to_below (B := wr.heap.size) ((Fr.refl (fun _ => False) wr).drewN n) (fun _ h => h.elim) (Nat.le_refl _)), hf.drewN n⟩
    have Hw := Lib.hid hw
    clear hw
    have herr : ∀ e, scan (p.b.drop p.pos) 0 0 = .error e → ∀ w2, RPost w g (.slice A p.b.length c) (.tuple #[]) { p with pos := p.pos, err := e } (.returned (.tuple #[])) w2 → RPost w g (.slice A p.b.length c) (.int .u64 p.uint.1) p.uint.2 (.returned (.int .u64 0)) w2 := by
      intro e he w2 h2
      rw [Hu.out, he]
      exact ⟨rfl, h2.2⟩
    have Herr := Lib.hid herr
    clear herr
    by_cases hlt : k < 10
    · have hltd := dT (b := 10) hlt
      have hsc2 := (Hsc.out (by omega)).2
      have hv := (Hsc.out (by omega)).1
      by_cases hend : p.pos + k = p.b.length
      · have hed : (((p.pos : Int) + k) == p.b.length) = true := by simp; omega
        have hs20 : scan (p.b.drop p.pos) 0 0 = .error 20 := by rw [hsc2]; exact scan_end (by rw [hend]; exact List.drop_length)
        have Hs20 := Lib.hid hs20
        clear hsc2 hs20 hv
        go_wp2
        go_quiet (fail)
        go_wp2_with fail
        refine (fail_calls _ g _ p (Hw.out nq).1 p.pos hfit 20).mono ?_
        rintro e w2 ⟨rfl, h2, h3⟩
        have HH := Lib.hid (Herr.out 20 Hs20.out w2 ⟨rfl, h2, (Hw.out nq).2.trans h3 (fun _ h => .inl h)⟩)
        clear h2 h3
        go_wp2
        go_ret
        exact HH.out
      · have hed : (((p.pos : Int) + k) == p.b.length) = false := by simp; omega
        obtain ⟨b, off, c', hv', hc', hb, hcell⟩ := hR.rd.some (by intro e; simp [u8s] at e; rw [e] at hpk hend; simp at hpk hend; omega)
        cases hv'
        have hpl : p.pos + k < p.b.length := by omega
        have hcl := hcell (p.pos + k) (.int .u8 (p.b[p.pos + k].toNat)) (by simp [u8s, hpl])
        have hx256 := UInt8.toNat_lt p.b[p.pos + k]
        have hd : p.b.drop (p.pos + k) = p.b[p.pos + k] :: p.b.drop (p.pos + k + 1) := List.drop_eq_getElem_cons hpl
        have Hd := Lib.hid hd
        have Hsc3 := Lib.hid hsc2
        have Hv := Lib.hid hv
        clear hd hcell hsc2 hv
        generalize p.b[p.pos + k] = xb at hcl hx256 Hd
        have Hxb : Hid (∃ x, x = xb.toNat) := ⟨_, rfl⟩
        obtain ⟨x, hx⟩ := Hxb.out
        rw [← hx] at hcl hx256
        have Hx := Lib.hid hx
        clear hx Hxb
        have hw1 : IntKind.i64.wrap ((p.pos : Int) + k) = (p.pos : Int) + k := IntWalk.i64_in _ (by omega)
        have hw2 : (0 : Int) ≤ (p.pos : Int) + k := by omega
        have hw3 : (p.pos : Int) + k < p.b.length := by omega
        have hw4 : ((p.pos : Int) + k).toNat = p.pos + k := by omega
        go_wp2
        go_quiet (fail)
        go_wp2
        go_quiet (fail)
        clear hw1 hw2 hw4
        by_cases h128 : 128 ≤ x
        · have h128d : decide ((128 : Int) ≤ x) = true := decide_eq_true (by omega)
          have hnext : ∀ n, ULoop w g (.slice (some ⟨b, off, none⟩) p.b.length c) p (.int .u64 (orVal v x k)) (.int .i64 ((k + 1 : Nat) : Int)) (wr.drewN n) := by
            intro n
            by_cases h9 : k = 9
            · obtain ⟨m, hm⟩ := orVal_nat v x k (Nat.lt_of_lt_of_le (Nat.lt_of_lt_of_le Hv.out (pow128_le (by omega))) (by decide))
              rw [hm]
              refine ⟨k + 1, m, by omega, rfl, rfl, by omega, fun h => by omega, fun _ => ?_, (Hw.out n).1, (Hw.out n).2⟩
              rw [Hsc3.out]; exact scan_nine Hd.out (by rw [← Hx.out]; exact h128) h9
            · rw [orVal_eq v x k (by omega) Hv.out hx256 (fun h => absurd h h9)]
              refine ⟨k + 1, _, by omega, rfl, rfl, by omega, fun h => ⟨grow128 Hv.out (Nat.mod_lt _ (by decide)), ?_⟩, fun h => by omega, (Hw.out n).1, (Hw.out n).2⟩
              rw [Hsc3.out, scan_more Hd.out (by rw [← Hx.out]; exact h128) h9, ← Hx.out, Nat.add_assoc]
          have Hnext := Lib.hid hnext
          clear hnext
          go_wp2
          refine ⟨Hnext.out _, by simp [intOf]; omega⟩
        · have h128d : decide ((128 : Int) ≤ x) = false := decide_eq_false (by omega)
          by_cases hbad : (0 < k ∧ x = 0) ∨ (k = 9 ∧ 1 < x)
          · have Hs21 : Hid (scan (p.b.drop p.pos) 0 0 = .error 21) := Hsc3.out.trans (scan_bad Hd.out (by rw [← Hx.out]; exact h128) (by rw [← Hx.out]; exact hbad))
            have hcs : (0 < k ∧ decide (0 < k) = true ∧ x = 0 ∧ ((x : Int) == 0) = true) ∨ (0 < k ∧ decide (0 < k) = true ∧ ¬ x = 0 ∧ ((x : Int) == 0) = false ∧ ((k : Int) == 9) = true ∧ decide ((1 : Int) < x) = true) := by
              rcases hbad with ⟨h1, h2⟩ | ⟨h1, h2⟩
              · exact .inl ⟨h1, decide_eq_true h1, h2, by simp; omega⟩
              · exact .inr ⟨by omega, decide_eq_true (by omega), by omega, by simp; omega, by simp; omega, decide_eq_true (by omega)⟩
            clear hbad
            rcases hcs with ⟨h1, h1', h2, h2'⟩ | ⟨h1, h1', h2, h2', h3, h4⟩
            all_goals
              go_wp2_with fail
              refine (fail_calls _ g _ p (Hw.out _).1 p.pos hfit 21).mono ?_
              rintro e w2 ⟨rfl, h2, h3⟩
              have HH := Lib.hid (Herr.out 21 Hs21.out w2 ⟨rfl, h2, (Hw.out _).2.trans h3 (fun _ h => .inl h)⟩)
              clear h2 h3
              go_wp2
              go_ret
              exact HH.out
          · have hok := Hsc3.out.trans (scan_ok Hd.out (by rw [← Hx.out]; exact h128) (by rw [← Hx.out]; exact hbad))
            rw [← Hx.out] at hok
            have hval := orVal_eq v x k (by omega) Hv.out hx256 (fun h => by omega)
            rw [Nat.mod_eq_of_lt (show x < 128 by omega)] at hval
            have hfin : ∀ n, RPost w g (.slice (some ⟨b, off, none⟩) p.b.length c) (.int .u64 p.uint.1) p.uint.2 (.returned (.int .u64 (orVal v x k))) ((wr.drewN n).setCell ⟨g, 1, none⟩ (.int .i64 ((p.pos : Int) + ((k : Int) + 1)))) := by
              intro n
              rw [Hu.out, hok, hval]
              have hf2 := (Hw.out n).2.setCell (p := ⟨g, 1, none⟩) (.inl rfl) (.int .i64 ((p.pos : Int) + ((k : Int) + 1)))
              refine ⟨rfl, h.set hf2 _ rfl (show p.pos + (k + 1) ≤ _ by omega) ?_, hf2⟩
              exact blk_setCell (Hw.out n).1.blk 1 _
            have Hfin := Lib.hid hfin
            clear hfin hok hval
            have hcs : (0 < k ∧ decide (0 < k) = true ∧ ¬ x = 0 ∧ ((x : Int) == 0) = false ∧ ((k : Int) == 9) = true ∧ decide ((1 : Int) < x) = false) ∨ (0 < k ∧ decide (0 < k) = true ∧ ¬ x = 0 ∧ ((x : Int) == 0) = false ∧ ((k : Int) == 9) = false) ∨
                (¬ 0 < k ∧ decide (0 < k) = false ∧ ((k : Int) == 9) = false) := by
              by_cases h1 : 0 < k
              · by_cases h2 : k = 9
                · exact .inl ⟨h1, decide_eq_true h1, by omega, by simp; omega, by simp; omega, decide_eq_false (by omega)⟩
                · exact .inr (.inl ⟨h1, decide_eq_true h1, by omega, by simp; omega, by simp; omega⟩)
              · exact .inr (.inr ⟨h1, decide_eq_false h1, by simp; omega⟩)
            clear hbad
            rcases hcs with ⟨h1, h1', h2, h2', h3, h4⟩ | ⟨h1, h1', h2, h2', h3⟩ | ⟨h1, h1', h3⟩
            all_goals
              go_wp2
              go_ret
              exact Hfin.out _
    · have hltd := dF (b := 10) hlt
      have hk10 : k = 10 := by omega
      have Hs21 : Hid (scan (p.b.drop p.pos) 0 0 = .error 21) := Hsc2.out hk10
      clear hk10
      go_wp2_with fail
      refine (fail_calls _ g _ p (Hw.out 0).1 p.pos hfit 21).mono ?_
      rintro e w2 ⟨rfl, h2, h3⟩
      have HH := Lib.hid (Herr.out 21 Hs21.out w2 ⟨rfl, h2, (Hw.out 0).2.trans h3 (fun _ h => .inl h)⟩)
      clear h2 h3
      go_wp2
      go_ret
      exact HH.out
end Go.Proofs.Ytfloaneimmnboaa
