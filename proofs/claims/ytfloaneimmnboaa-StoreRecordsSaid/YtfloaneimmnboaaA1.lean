/- The contracts of pack's Writer. -/
import Derived.Test.YtfloaneimmnboaaA0
namespace Go.Proofs.Ytfloaneimmnboaa
open Go.RowKit
set_option linter.unusedVariables false
set_option linter.unusedSimpArgs false

theorem infoU8 : (Try.prog.info? 5).map (fun i => (i.zero, i.size, i.bytes)) = some (some (.int .u8 0), 1, 1) := by kernel_rfl

/-- a byte that more follow, and the last -/
def hiB (v : Nat) : UInt8 := UInt8.ofNat (v % 128 + 128)
def loB (v : Nat) : UInt8 := UInt8.ofNat v
/-- the form of a number -/
def form (v : Nat) : List UInt8 := if v < 128 then [loB v] else hiB v :: form (v / 128)
  termination_by v
  decreasing_by omega

theorem form_len {k v : Nat} (h : v < 128 ^ (k + 1)) : (form v).length ≤ k + 1 := by
  induction k generalizing v with
  | zero => rw [form, if_pos (by simpa using h)]; simp
  | succ k ih =>
    rw [form]; split
    · simp
    · have := ih (v := v / 128) (by rw [Nat.div_lt_iff_lt_mul (by omega)]; rw [Nat.pow_succ] at h; exact h)
      simp; omega
theorem form_len10 {v : Nat} (h : v < 18446744073709551616) : (form v).length ≤ 10 := form_len (k := 9) (Nat.lt_of_lt_of_le h (by decide))
theorem form_pos (v : Nat) : 0 < (form v).length := by rw [form]; split <;> simp

theorem or128 (v : Nat) : Go.bits .or .u8 ((v : Int) % 256) 128 = ((hiB v).toNat : Int) := by
  have h : ∀ m : Fin 256, Go.bits .or .u8 ((m.val : Nat) : Int) 128 = ((m.val % 128 + 128 : Nat) : Int) := by decide +kernel
  have h2 := h ⟨v % 256, Nat.mod_lt _ (by omega)⟩
  simp only at h2
  rw [show ((v : Int) % 256) = ((v % 256 : Nat) : Int) from by omega, h2]
  simp [hiB, UInt8.toNat_ofNat']; omega

def NumLoop (B : World) (v : Nat) (v0 v3 : Value) (w : World) : Prop :=
  ∃ (done : List UInt8) (x : Nat), v0 = .int .u64 x ∧ x ≤ v ∧ form v = done ++ form x ∧ w.ownsRow 0 5 1 v3 done.length (u8s done) ∧ (∀ k, v3.ownBlock = some k → B.heap.size ≤ k) ∧ Below B.heap.size B w

set_option maxHeartbeats 800000 in
theorem number_calls (v : Nat) (hv : v < 18446744073709551616) (w : World) :
    Calls Try.prog 44 #[.int .u64 v] w fun e w' => ∃ sv, e = .returned sv ∧ w'.ownsRow 0 5 1 sv (form v).length (u8s (form v)) ∧ (∀ k, sv.ownBlock = some k → w.heap.size ≤ k) ∧ Below w.heap.size w w' := by
  go_enter Try.func44, Try.ntmps44
  go_wp2
  go_loopw [0, 3] (fun v0 v3 w1 => NumLoop w v v0 v3 w1) (fun v0 _ _ => (intOf v0).toNat)
  case atStart => exact ⟨[], v, rfl, Nat.le_refl _, rfl, World.ownsRow_nil _ _ _ _, (fun k hk => by cases hk), Below.refl _ _⟩
  case round =>
    rename_i w1 v0 v3
    obtain ⟨done, x, rfl, hxv, hf, hown, hnew, hb⟩ := hrel
    have Hf := Lib.hid hf
    clear hf
    obtain ⟨A, c, rfl⟩ := own_slice hown
    by_cases h : 128 ≤ x
    · have hlt : decide ((128 : Int) ≤ x) = true := by simp; omega
      have hl := congrArg List.length Hf.out
      have hfl := form_len10 hv
      simp only [List.length_append] at hl
      have ho := or128 x
      have Ho := Lib.hid ho
      clear ho
      have hl2 : done.length + 1 ≤ 20 := by have := form_pos x; omega
      clear hl
      go_wp2_with (at_builtin; refine wpList_append2 _ rfl (.tmp 6) (.tmp 10) 42 rfl 5 (.int .u8 0) 1 1 Try.underlying42 infoU8 rfl (by decide) _ done.length (u8s done) rfl (hown.alloc _) _ 1 (u8s [hiB x]) rfl ?c1 (u8s_one _) ?c2 ?c3 ?_)
      case c1 => rw [Ho.out]; exact RdB.one _ _ _
      case c2 => unfold maxLen; omega
      case c3 => omega
      intro v' w2 ho2 hg2 hn2 _
      have Hk : Hid (NumLoop w v (.int .u64 ((x / 128 : Nat) : Int)) v' w2) := by
        refine ⟨done ++ [hiB x], x / 128, rfl, by omega, ?_, ?_, ?_, ?_⟩
        · rw [Hf.out]; conv => lhs; rw [form, if_neg (by omega)]
          simp
        · rw [u8s_app, List.length_append]; exact ho2
        · intro k hk
          rcases hn2 k hk with h1 | h1
          · exact hnew k h1
          · have := hb.size; have h2 : wr.heap.size + 1 ≤ k := by simpa using h1
            omega
        · refine (hb.alloc hb.size _).grown hg2 ?_ ?_
          · have := hb.size; simp; omega
          · intro k hk; exact hnew k hk
      clear ho2 hg2 hn2 hown hnew hb
      have hdiv : ((x / 128 : Nat) : Int) = (x : Int) / 128 := by omega
      rw [hdiv] at Hk
      clear hdiv
      go_wp2
      go_roundw
      case rel => exact Hk.out
      case measure => simp [intOf]; omega
    · have hlt : decide ((128 : Int) ≤ x) = false := by simp; omega
      have hl := congrArg List.length Hf.out
      have hfl := form_len10 hv
      simp only [List.length_append] at hl
      have hl2 : done.length + 1 ≤ 20 := by have := form_pos x; omega
      clear hl
      have Ho : Hid ((x : Int) = ((loB x).toNat : Int)) := by
        show (x : Int) = _
        simp [loB, UInt8.toNat_ofNat']; omega
      go_wp2_with (at_builtin; refine wpList_append2 _ rfl (.tmp 14) (.tmp 17) 42 rfl 5 (.int .u8 0) 1 1 Try.underlying42 infoU8 rfl (by decide) _ done.length (u8s done) rfl (hown.alloc _) _ 1 (u8s [loB x]) rfl ?c1 (u8s_one _) ?c2 ?c3 ?_)
      case c1 => rw [Ho.out]; exact RdB.one _ _ _
      case c2 => unfold maxLen; omega
      case c3 => omega
      intro v' w2 ho2 hg2 hn2 _
      go_wp2
      go_ret
      have hform : form v = done ++ [loB x] := by rw [Hf.out]; congr 1; rw [form, if_pos (by omega)]
      refine ⟨_, rfl, ?_, ?_, ?_⟩
      · rw [hform, u8s_app, List.length_append]; exact ho2
      · intro k hk
        rcases hn2 k hk with h1 | h1
        · exact hnew k h1
        · have := hb.size; have h2 : wr.heap.size + 1 ≤ k := by simpa using h1
          omega
      · refine (hb.alloc hb.size _).grown hg2 ?_ ?_
        · have := hb.size; simp; omega
        · intro k hk; exact hnew k hk

/-! ### the Writer -/
structure PW where
  limit : Nat
  out : List UInt8
  err : Int
def PW.lay (p : PW) (b : List UInt8) : PW :=
  if p.err ≠ 0 then p else if p.limit < p.out.length + b.length then { p with err := 23 } else { p with out := p.out ++ b }

structure IsW (w : World) (g : Nat) (p : PW) (sv : Value) : Prop where
  blk : w.heap[g]? = some (.cells #[.int .i64 p.limit, sv, .int .i64 p.err] 60 (0, 0))
  own : w.ownsRow 0 5 1 sv p.out.length (u8s p.out)
  lim : p.limit ≤ 1048576
  fit : p.out.length ≤ p.limit
theorem IsW.ne {w : World} {g : Nat} {p : PW} {sv : Value} (h : IsW w g p sv) : sv.ownBlock ≠ some g := own_ne_blk h.own h.blk (by decide)
def WS (g : Nat) (sv : Value) : Nat → Prop := fun k => k = g ∨ sv.ownBlock = some k
theorem IsW.fr {S : Nat → Prop} {w w1 : World} {g : Nat} {p : PW} {sv : Value} (h : IsW w g p sv) (hf : Fr S w w1) (hn : ∀ k, WS g sv k → ¬ S k) : IsW w1 g p sv :=
  ⟨hf.blk h.blk (hn g (.inl rfl)), hf.owns h.own (fun k hk => hn k (.inr hk)), h.lim, h.fit⟩
theorem IsW.below {w w1 : World} {g : Nat} {p : PW} {sv : Value} (h : IsW w g p sv) (hb : Below w.heap.size w w1) : IsW w1 g p sv :=
  h.fr (Fr.of_below hb (fun _ => False)) (fun _ _ h => h)
theorem WS_lt {w : World} {g : Nat} {p : PW} {sv : Value} (h : IsW w g p sv) : ∀ k, WS g sv k → k < w.heap.size := by
  rintro k (rfl | hk)
  · exact blk_lt h.blk
  · exact (h.own.lt k hk).2

/-- what a call on a Writer leaves -/
def WPost (w : World) (g : Nat) (p : PW) (sv : Value) : Ending → World → Prop :=
  fun e w' => e = .returned (.tuple #[]) ∧ ∃ sv', IsW w' g p sv' ∧ Step (WS g sv) (WS g sv') w w'

theorem IsW.set_err {w : World} {g : Nat} {p : PW} {sv : Value} (h : IsW w g p sv) (e : Int) (w1 : World) (hw : w1.heap = (w.setCell ⟨g, 2, none⟩ (.int .i64 e)).heap) :
    IsW w1 g { p with err := e } sv := by
  have hb := blk_setCell h.blk 2 (.int .i64 e)
  rw [← hw] at hb
  refine ⟨hb, ?_, h.lim, h.fit⟩
  refine ⟨h.own.1, ?_⟩
  rcases h.own.2 with h1 | ⟨g', cap, cur, rfl, h0, hg, r⟩
  · exact .inl h1
  · refine .inr ⟨g', cap, cur, rfl, h0, ?_, r⟩
    rw [hw]
    exact blk_far hg (p := ⟨g, 2, none⟩) (fun hgg => h.ne (by rw [show g' = g from hgg]; rfl)) _

set_option maxHeartbeats 800000 in
theorem lay_bad (w : World) (g : Nat) (p : PW) (sv : Value) (h : IsW w g p sv) (hv : Value) (head : List UInt8) (hh : RdB w hv head)
    (s : ByteArray) (he : p.err ≠ 0) :
    Calls Try.prog 43 #[.pointer (some ⟨g, 0, none⟩), hv, .string s] w (WPost w g p sv) := by
  obtain ⟨c0, c1, c2, f0, f1, f2⟩ := cells3 h.blk
  have hne : (p.err != 0) = true := by simpa using he
  go_enter Try.func43, Try.ntmps43
  go_wp2
  exact bodyPost_ret (v := .tuple #[]) (by simp [results, go_sem]) rfl ⟨rfl, _, h, Step.refl _ _⟩

set_option maxHeartbeats 800000 in
theorem lay_long (w : World) (g : Nat) (p : PW) (sv : Value) (h : IsW w g p sv) (hv : Value) (head : List UInt8) (hh : RdB w hv head) (hhl : head.length ≤ 140737488351232)
    (s : ByteArray) (hs : s.size ≤ 140737488351232) (he : p.err = 0) (hlong : p.limit < p.out.length + head.length + s.size) :
    Calls Try.prog 43 #[.pointer (some ⟨g, 0, none⟩), hv, .string s] w (WPost w g { p with err := 23 } sv) := by
  obtain ⟨A, c, rfl⟩ := hh.slice
  obtain ⟨A', c', rfl⟩ := own_slice h.own
  obtain ⟨c0, c1, c2, f0, f1, f2⟩ := cells3 h.blk
  have hlim := h.lim
  have hfit := h.fit
  rw [he] at c2
  have hpost : ∀ n, WPost w g { p with err := 23 } (.slice A' p.out.length c') (.returned (.tuple #[])) ((w.drewN n).setCell ⟨g, 2, none⟩ (.int .i64 23)) := fun n =>
    ⟨rfl, _, h.set_err 23 _ rfl, ⟨((Fr.refl _ _).drewN n).setCell (.inl (.inl rfl)) _, fun _ h => .inl h⟩⟩
  by_cases h1 : (p.limit : Int) - p.out.length < head.length
  · have hd : decide ((p.limit : Int) - p.out.length < head.length) = true := decide_eq_true h1
    go_enter Try.func43, Try.ntmps43
    go_wp2
    go_quiet (fail)
    go_wp2
    exact bodyPost_ret (v := .tuple #[]) (by simp [results, go_sem]) rfl (hpost _)
  · have hd : decide ((p.limit : Int) - p.out.length < head.length) = false := decide_eq_false h1
    have hd2 : decide ((p.limit : Int) - p.out.length - head.length < s.size) = true := decide_eq_true (by omega)
    go_enter Try.func43, Try.ntmps43
    go_wp2
    go_quiet (fail)
    go_wp2
    exact bodyPost_ret (v := .tuple #[]) (by simp [results, go_sem]) rfl (hpost _)

set_option maxHeartbeats 800000 in
theorem lay_fits (w : World) (g : Nat) (p : PW) (sv : Value) (h : IsW w g p sv) (hv : Value) (head : List UInt8) (hh : RdB w hv head) (hhl : head.length ≤ 140737488351232)
    (s : ByteArray) (hs : s.size ≤ 140737488351232) (he : p.err = 0) (hshort : p.out.length + head.length + s.size ≤ p.limit) :
    Calls Try.prog 43 #[.pointer (some ⟨g, 0, none⟩), hv, .string s] w (WPost w g { p with out := p.out ++ (head ++ s.data.toList) } sv) := by
  have hh2 := hh
  obtain ⟨A, c, rfl⟩ := hh.slice
  have hown := h.own
  obtain ⟨A', c', rfl⟩ := own_slice h.own
  obtain ⟨c0, c1, c2, f0, f1, f2⟩ := cells3 h.blk
  have hlim := h.lim
  have hfit := h.fit
  rw [he] at c2
  have hd : decide ((p.limit : Int) - p.out.length < head.length) = false := decide_eq_false (by omega)
  have hd2 : decide ((p.limit : Int) - p.out.length - head.length < s.size) = false := decide_eq_false (by omega)
  go_enter Try.func43, Try.ntmps43
  go_wp2
  go_quiet (fail)
  have hb0 : (w.drewN nq).heap[g]? = w.heap[g]? := rfl
  go_wp2_with (at_builtin; refine wpList_append2 _ rfl (.tmp 49) (.tmp 50) 42 rfl 5 (.int .u8 0) 1 1 Try.underlying42 infoU8 rfl (by decide) _ p.out.length (u8s p.out) rfl hown _ head.length (u8s head) rfl hh2 (u8s_one _) ?c2 ?c3 ?_)
  case c2 => unfold maxLen; omega
  case c3 => omega
  intro v1 w1 ho1 hg1 hn1 _
  have hne := h.ne
  have hb1 := blk_grown (w := w.drewN nq) h.blk hg1 hne
  have hsz1 := hg1.size
  clear c0 c1 c2 f0 f1 f2
  go_wp2_with (at_builtin; refine wpList_append2_string _ rfl (.tmp 51) (.tmp 52) 42 9 rfl 5 Try.underlying42 Try.underlying9 infoU8 _ (p.out.length + head.length) (u8s p.out ++ u8s head) rfl ho1 s rfl ?c3 ?_)
  case c3 => omega
  intro v2 w2 ho2 hg2 hn2
  obtain ⟨A2, k2, rfl⟩ := own_slice ho2
  have hne1 : v1.ownBlock ≠ some g := own_ne_blk ho1 hb1 (by decide)
  have hne2 : (Value.slice A2 (p.out.length + head.length + s.size) k2).ownBlock ≠ some g := own_ne_blk ho2 (blk_grown hb1 hg2 hne1) (by decide)
  have hb2 := blk_grown hb1 hg2 hne1
  obtain ⟨c0, c1, c2, f0, f1, f2⟩ := cells3 hb2
  go_wp2
  have hsd : s.data.toList.length = s.size := by rw [Array.length_toList]; rfl
  go_end0
  refine ⟨rfl, .slice A2 (p.out.length + head.length + s.size) k2, ⟨?_, ?_, hlim, ?_⟩, ⟨?_, ?_⟩⟩
  · have := blk_setCell hb2 1 (.slice A2 (p.out.length + head.length + s.size) k2)
    rw [he] at this; exact this
  · have := (Fr.refl (fun k => k = g) w2).setCell (p := ⟨g, 1, none⟩) (.inl rfl) (.slice A2 (p.out.length + head.length + s.size) k2) |>.owns ho2 (fun k hk e => hne2 (by rw [hk, show k = g from e]))
    rw [← u8s_app, ← u8s_app] at this
    simpa [hsd, Nat.add_assoc] using this
  · simp [hsd]; omega
  · refine Fr.setCell ?_ (.inl (.inl rfl)) _
    refine Fr.grown (Fr.grown ((Fr.refl _ _).drewN nq) hg1 (fun k hk => .inl (.inr hk))) hg2 (fun k hk => ?_)
    exact (hn1 k hk).imp (fun h => .inr h) (fun h => h)
  · rintro k (rfl | hk)
    · exact .inl (.inl rfl)
    · rcases hn2 k hk with h1 | h1
      · exact (hn1 k h1).imp (fun h => .inr h) (fun h => h)
      · exact .inr (Nat.le_trans hsz1 h1)

theorem lay_calls (w : World) (g : Nat) (p : PW) (sv : Value) (h : IsW w g p sv) (hv : Value) (head : List UInt8) (hh : RdB w hv head) (hhl : head.length ≤ 140737488351232)
    (s : ByteArray) (hs : s.size ≤ 140737488351232) :
    Calls Try.prog 43 #[.pointer (some ⟨g, 0, none⟩), hv, .string s] w (WPost w g (p.lay (head ++ s.data.toList)) sv) := by
  have hsd : s.data.toList.length = s.size := by rw [Array.length_toList]; rfl
  by_cases he : p.err = 0
  · by_cases hl : p.limit < p.out.length + head.length + s.size
    · have : p.lay (head ++ s.data.toList) = { p with err := 23 } := by rw [PW.lay, if_neg (by simpa using he), if_pos (by rw [List.length_append, hsd]; omega)]
      rw [this]; exact lay_long w g p sv h hv head hh hhl s hs he hl
    · have : p.lay (head ++ s.data.toList) = { p with out := p.out ++ (head ++ s.data.toList) } := by rw [PW.lay, if_neg (by simpa using he), if_neg (by rw [List.length_append, hsd]; omega)]
      rw [this]; exact lay_fits w g p sv h hv head hh hhl s hs he (by omega)
  · have : p.lay (head ++ s.data.toList) = p := by rw [PW.lay, if_pos he]
    rw [this]; exact lay_bad w g p sv h hv head hh s he

theorem lay_none (p : PW) : (∃ x : PW, x = p) := ⟨p, rfl⟩

set_option maxHeartbeats 800000 in
theorem W_byte (w : World) (g : Nat) (p : PW) (sv : Value) (h : IsW w g p sv) (b : Nat) (hb : b < 256) :
    Calls Try.prog 13 #[.pointer (some ⟨g, 0, none⟩), .int .u8 b] w (WPost w g (p.lay [loB b]) sv) := by
  have Hb : Hid ((b : Int) = ((loB b).toNat : Int)) := by
    show (b : Int) = _
    simp [loB, UInt8.toNat_ofNat']; omega
  go_enter Try.func13, Try.ntmps13
  go_wp2_with fail
  rw [Hb.out]
  refine (lay_calls _ g p sv (h.below ((Below.refl _ _).alloc (Nat.le_refl _) _)) _ [loB b] (RdB.one _ _ _) (by simp) ⟨#[]⟩ (by decide)).mono ?_
  rintro e w' ⟨rfl, sv', h1, h2⟩
  go_wp2
  go_end0
  exact ⟨rfl, sv', h1, ((Fr.refl _ _).alloc _).trans h2.fr (fun _ h => .inl h), fun k hk => (h2.new k hk).imp id (fun h => by have := h; simp at this; omega)⟩

set_option maxHeartbeats 800000 in
theorem W_uint (w : World) (g : Nat) (p : PW) (sv : Value) (h : IsW w g p sv) (v : Nat) (hv : v < 18446744073709551616) :
    Calls Try.prog 14 #[.pointer (some ⟨g, 0, none⟩), .int .u64 v] w (WPost w g (p.lay (form v)) sv) := by
  have hfl := form_len10 hv
  go_enter Try.func14, Try.ntmps14
  go_wp2_with fail
  refine (number_calls v hv _).mono ?_
  rintro e w1 ⟨nv, rfl, ho, hn, hb⟩
  go_wp2_with fail
  have := lay_calls w1 g p sv (h.below hb) nv (form v) (RdB.of_own ho) (by omega) ⟨#[]⟩ (by decide)
  simp only [List.append_nil] at this
  refine this.mono ?_
  rintro e w' ⟨rfl, sv', h1, h2⟩
  go_wp2
  go_end0
  exact ⟨rfl, sv', h1, (Fr.of_below hb _).trans h2.fr (fun _ h => .inl h), fun k hk => (h2.new k hk).imp id (fun h => Nat.le_trans hb.size h)⟩

set_option maxHeartbeats 800000 in
theorem W_text (w : World) (g : Nat) (p : PW) (sv : Value) (h : IsW w g p sv) (s : ByteArray) (hs : s.size ≤ 140737488351232) :
    Calls Try.prog 17 #[.pointer (some ⟨g, 0, none⟩), .string s] w (WPost w g (p.lay (form s.size ++ s.data.toList)) sv) := by
  have hv : s.size < 18446744073709551616 := by omega
  have hfl := form_len10 hv
  go_enter Try.func17, Try.ntmps17
  go_wp2_with fail
  refine (number_calls s.size hv _).mono ?_
  rintro e w1 ⟨nv, rfl, ho, hn, hb⟩
  go_wp2_with fail
  refine (lay_calls w1 g p sv (h.below hb) nv (form s.size) (RdB.of_own ho) (by omega) s hs).mono ?_
  rintro e w' ⟨rfl, sv', h1, h2⟩
  go_wp2
  go_end0
  exact ⟨rfl, sv', h1, (Fr.of_below hb _).trans h2.fr (fun _ h => .inl h), fun k hk => (h2.new k hk).imp id (fun h => Nat.le_trans hb.size h)⟩

theorem W_bool (w : World) (g : Nat) (p : PW) (sv : Value) (h : IsW w g p sv) (b : Bool) :
    Calls Try.prog 16 #[.pointer (some ⟨g, 0, none⟩), .bool b] w (WPost w g (p.lay [loB (if b then 1 else 0)]) sv) := by
  cases b
  · go_enter Try.func16, Try.ntmps16
    go_wp2_with fail
    refine (W_byte w g p sv h 0 (by decide)).mono ?_
    rintro e w' ⟨rfl, h2⟩
    go_wp2
    go_end0
    exact ⟨rfl, h2⟩
  · go_enter Try.func16, Try.ntmps16
    go_wp2_with fail
    refine (W_byte w g p sv h 1 (by decide)).mono ?_
    rintro e w' ⟨rfl, h2⟩
    go_wp2
    go_end0
    exact ⟨rfl, h2⟩

def PW.count (p : PW) (n : Nat) : PW := (if p.err = 0 ∧ 4096 < n then { p with err := 1 } else p).lay (form n)

set_option maxHeartbeats 800000 in
theorem W_count (w : World) (g : Nat) (p : PW) (sv : Value) (h : IsW w g p sv) (n : Nat) (hn : n ≤ 4096) :
    Calls Try.prog 15 #[.pointer (some ⟨g, 0, none⟩), .int .i64 n] w (WPost w g (p.lay (form n)) sv) := by
  obtain ⟨c0, c1, c2, f0, f1, f2⟩ := cells3 h.blk
  have hv : n < 18446744073709551616 := by omega
  have hfl := form_len10 hv
  by_cases he : p.err = 0
  · rw [he] at c2
    go_enter Try.func15, Try.ntmps15
    go_wp2_with fail
    refine (number_calls n hv _).mono ?_
    rintro e w1 ⟨nv, rfl, ho, hn, hb⟩
    go_wp2_with fail
    have := lay_calls w1 g p sv (h.below hb) nv (form n) (RdB.of_own ho) (by omega) ⟨#[]⟩ (by decide)
    simp only [List.append_nil] at this
    refine this.mono ?_
    rintro e w' ⟨rfl, sv', h1, h2⟩
    go_wp2
    go_end0
    exact ⟨rfl, sv', h1, (Fr.of_below hb _).trans h2.fr (fun _ h => .inl h), fun k hk => (h2.new k hk).imp id (fun h => Nat.le_trans hb.size h)⟩
  · have hne : (p.err == 0) = false := by simpa using he
    go_enter Try.func15, Try.ntmps15
    go_wp2_with fail
    refine (number_calls n hv _).mono ?_
    rintro e w1 ⟨nv, rfl, ho, hn, hb⟩
    go_wp2_with fail
    have := lay_calls w1 g p sv (h.below hb) nv (form n) (RdB.of_own ho) (by omega) ⟨#[]⟩ (by decide)
    simp only [List.append_nil] at this
    refine this.mono ?_
    rintro e w' ⟨rfl, sv', h1, h2⟩
    go_wp2
    go_end0
    exact ⟨rfl, sv', h1, (Fr.of_below hb _).trans h2.fr (fun _ h => .inl h), fun k hk => (h2.new k hk).imp id (fun h => Nat.le_trans hb.size h)⟩

set_option maxHeartbeats 800000 in
theorem newWriter_calls (w : World) (n : Nat) (hn : n ≤ 1048576) :
    Calls Try.prog 12 #[.int .i64 n] w fun e w' => ∃ g, e = .returned (.pointer (some ⟨g, 0, none⟩)) ∧ IsW w' g ⟨n, [], 0⟩ (.slice none 0 0) ∧ w.heap.size ≤ g ∧ Below w.heap.size w w' := by
  go_enter Try.func12, Try.ntmps12
  go_wp2
  go_ret
  exact ⟨_, rfl, ⟨blk_new _ _, World.ownsRow_nil _ _ _ _, hn, Nat.zero_le _⟩, Nat.le_refl _, (Below.refl _ _).alloc (Nat.le_refl _) _⟩
end Go.Proofs.Ytfloaneimmnboaa
