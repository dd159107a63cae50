/- The reference's pack: Form and its Writer. -/
import Derived.Test.YtfloaneimmnboaaA3
import Derived.Deep.RegionLaw
namespace Go.Proofs.Ytfloaneimmnboaa
open Go.RowKit Go.Maps Go.WideMaps
set_option linter.unusedVariables false
set_option linter.unusedSimpArgs false

theorem rem128 (v : Nat) : ((v : Int) % 128 + 128) = ((hiB v).toNat : Int) := by
  simp [hiB, UInt8.toNat_ofNat']; omega

def FormLoop (B : World) (v : Nat) (v0 v3 : Value) (w : World) : Prop :=
  ∃ (done : List UInt8) (x : Nat), v0 = .int .u64 x ∧ x ≤ v ∧ form v = done ++ form x ∧ w.ownsRow 0 5 1 v3 done.length (u8s done) ∧ (∀ k, v3.ownBlock = some k → B.heap.size ≤ k) ∧ Below B.heap.size B w

set_option maxHeartbeats 800000 in
theorem form_calls (v : Nat) (hv : v < 18446744073709551616) (w : World) :
    Calls Try.prog 46 #[.int .u64 v] w fun e w' => ∃ sv, e = .returned sv ∧ w'.ownsRow 0 5 1 sv (form v).length (u8s (form v)) ∧ (∀ k, sv.ownBlock = some k → w.heap.size ≤ k) ∧ Below w.heap.size w w' := by
  go_enter Try.func46, Try.ntmps46
  go_wp2
  go_loopw [0, 3] (fun v0 v3 w1 => FormLoop w v v0 v3 w1) (fun v0 _ _ => (intOf v0).toNat)
  case atStart => exact ⟨[], v, rfl, Nat.le_refl _, rfl, World.ownsRow_nil _ _ _ _, (fun k hk => by cases hk), Below.refl _ _⟩
  case round =>
    rename_i w1 v0 v3
    obtain ⟨done, x, rfl, hxv, hf, hown, hnew, hb⟩ := hrel
    have Hf := Lib.hid hf
    clear hf
    obtain ⟨A, c, rfl⟩ := own_slice hown
    by_cases h : 128 ≤ x
    · have hlt : decide ((128 : Int) ≤ x) = true := by simp; omega
      have hl := congrArg List.length Hf.out
      have hfl := form_len10 hv
      simp only [List.length_append] at hl
      have ho := rem128 x
      have Ho := Lib.hid ho
      clear ho
      have hl2 : done.length + 1 ≤ 20 := by have := form_pos x; omega
      clear hl
      go_wp2_with (at_builtin; refine wpList_append2 _ rfl (.tmp 6) (.tmp 11) 42 rfl 5 (.int .u8 0) 1 1 Try.underlying42 infoU8 rfl (by decide) _ done.length (u8s done) rfl (hown.alloc _) _ 1 (u8s [hiB x]) rfl ?c1 (u8s_one _) ?c2 ?c3 ?_)
      case c1 => rw [Ho.out]; exact RdB.one _ _ _
      case c2 => unfold maxLen; omega
      case c3 => omega
      intro v' w2 ho2 hg2 hn2 _
      have Hk : Hid (FormLoop w v (.int .u64 ((x / 128 : Nat) : Int)) v' w2) := by
        refine ⟨done ++ [hiB x], x / 128, rfl, by omega, ?_, ?_, ?_, ?_⟩
        · rw [Hf.out]; conv => lhs; rw [form, if_neg (by omega)]
          simp
        · rw [u8s_app, List.length_append]; exact ho2
        · intro k hk
          rcases hn2 k hk with h1 | h1
          · exact hnew k h1
          · have := hb.size; have h2 : wr.heap.size + 1 ≤ k := by simpa using h1
            omega
        · refine (hb.alloc hb.size _).grown hg2 ?_ ?_
          · have := hb.size; simp; omega
          · intro k hk; exact hnew k hk
      clear ho2 hg2 hn2 hown hnew hb
      have hdiv : ((x / 128 : Nat) : Int) = (x : Int) / 128 := by omega
      rw [hdiv] at Hk
      clear hdiv
      go_wp2
      go_roundw
      case rel => exact Hk.out
      case measure => simp [intOf]; omega
    · have hlt : decide ((128 : Int) ≤ x) = false := by simp; omega
      have hl := congrArg List.length Hf.out
      have hfl := form_len10 hv
      simp only [List.length_append] at hl
      have hl2 : done.length + 1 ≤ 20 := by have := form_pos x; omega
      clear hl
      have Ho : Hid ((x : Int) = ((loB x).toNat : Int)) := by
        show (x : Int) = _
        simp [loB, UInt8.toNat_ofNat']; omega
      go_wp2_with (at_builtin; refine wpList_append2 _ rfl (.tmp 15) (.tmp 18) 42 rfl 5 (.int .u8 0) 1 1 Try.underlying42 infoU8 rfl (by decide) _ done.length (u8s done) rfl (hown.alloc _) _ 1 (u8s [loB x]) rfl ?c1 (u8s_one _) ?c2 ?c3 ?_)
      case c1 => rw [Ho.out]; exact RdB.one _ _ _
      case c2 => unfold maxLen; omega
      case c3 => omega
      intro v' w2 ho2 hg2 hn2 _
      go_wp2
      go_ret
      have hform : form v = done ++ [loB x] := by rw [Hf.out]; congr 1; rw [form, if_pos (by omega)]
      refine ⟨_, rfl, ?_, ?_, ?_⟩
      · rw [hform, u8s_app, List.length_append]; exact ho2
      · intro k hk
        rcases hn2 k hk with h1 | h1
        · exact hnew k h1
        · have := hb.size; have h2 : wr.heap.size + 1 ≤ k := by simpa using h1
          omega
      · refine (hb.alloc hb.size _).grown hg2 ?_ ?_
        · have := hb.size; simp; omega
        · intro k hk; exact hnew k hk


structure IsV (w : World) (g : Nat) (p : PW) (sv : Value) : Prop where
  blk : w.heap[g]? = some (.cells #[sv, .int .i64 p.limit, .int .i64 p.err] 64 (0, 0))
  own : w.ownsRow 0 5 1 sv p.out.length (u8s p.out)
  lim : p.limit ≤ 1048576
  fit : p.out.length ≤ p.limit
theorem IsV.ne {w : World} {g : Nat} {p : PW} {sv : Value} (h : IsV w g p sv) : sv.ownBlock ≠ some g := own_ne_blk h.own h.blk (by decide)
theorem IsV.fr {S : Nat → Prop} {w w1 : World} {g : Nat} {p : PW} {sv : Value} (h : IsV w g p sv) (hf : Fr S w w1) (hn : ∀ k, WS g sv k → ¬ S k) : IsV w1 g p sv :=
  ⟨hf.blk h.blk (hn g (.inl rfl)), hf.owns h.own (fun k hk => hn k (.inr hk)), h.lim, h.fit⟩
theorem IsV.below {w w1 : World} {g : Nat} {p : PW} {sv : Value} (h : IsV w g p sv) (hb : Below w.heap.size w w1) : IsV w1 g p sv :=
  h.fr (Fr.of_below hb (fun _ => False)) (fun _ _ h => h)
theorem VS_lt {w : World} {g : Nat} {p : PW} {sv : Value} (h : IsV w g p sv) : ∀ k, WS g sv k → k < w.heap.size := by
  rintro k (rfl | hk)
  · exact blk_lt h.blk
  · exact (h.own.lt k hk).2
def VPost (w : World) (g : Nat) (p : PW) (sv : Value) : Ending → World → Prop :=
  fun e w' => e = .returned (.tuple #[]) ∧ ∃ sv', IsV w' g p sv' ∧ Step (WS g sv) (WS g sv') w w'
theorem IsV.set_err {w : World} {g : Nat} {p : PW} {sv : Value} (h : IsV w g p sv) (e : Int) (w1 : World) (hw : w1.heap = (w.setCell ⟨g, 2, none⟩ (.int .i64 e)).heap) :
    IsV w1 g { p with err := e } sv := by
  have hb := blk_setCell h.blk 2 (.int .i64 e)
  rw [← hw] at hb
  refine ⟨hb, ?_, h.lim, h.fit⟩
  refine ⟨h.own.1, ?_⟩
  rcases h.own.2 with h1 | ⟨g', cap, cur, rfl, h0, hg, r⟩
  · exact .inl h1
  · refine .inr ⟨g', cap, cur, rfl, h0, ?_, r⟩
    rw [hw]
    exact blk_far hg (p := ⟨g, 2, none⟩) (fun hgg => h.ne (by rw [show g' = g from hgg]; rfl)) _

set_option maxHeartbeats 800000 in
theorem vlay_bad (w : World) (g : Nat) (p : PW) (sv : Value) (h : IsV w g p sv) (hv : Value) (he : p.err ≠ 0) :
    Calls Try.prog 45 #[.pointer (some ⟨g, 0, none⟩), hv] w (VPost w g p sv) := by
  obtain ⟨c0, c1, c2, f0, f1, f2⟩ := cells3 h.blk
  have hne : (p.err != 0) = true := by simpa using he
  go_enter Try.func45, Try.ntmps45
  go_wp2
  exact bodyPost_ret (v := .tuple #[]) (by simp [results, go_sem]) rfl ⟨rfl, _, h, Step.refl _ _⟩

set_option maxHeartbeats 800000 in
theorem vlay_long (w : World) (g : Nat) (p : PW) (sv : Value) (h : IsV w g p sv) (hv : Value) (head : List UInt8) (hh : RdB w hv head) (hhl : head.length ≤ 140737488355328)
    (he : p.err = 0) (hlong : p.limit < p.out.length + head.length) :
    Calls Try.prog 45 #[.pointer (some ⟨g, 0, none⟩), hv] w (VPost w g { p with err := 23 } sv) := by
  obtain ⟨A, c, rfl⟩ := hh.slice
  obtain ⟨A', c', rfl⟩ := own_slice h.own
  obtain ⟨c0, c1, c2, f0, f1, f2⟩ := cells3 h.blk
  have hlim := h.lim
  have hfit := h.fit
  rw [he] at c2
  have hpost : ∀ n, VPost w g { p with err := 23 } (.slice A' p.out.length c') (.returned (.tuple #[])) ((w.drewN n).setCell ⟨g, 2, none⟩ (.int .i64 23)) := fun n =>
    ⟨rfl, _, h.set_err 23 _ rfl, ⟨((Fr.refl _ _).drewN n).setCell (.inl (.inl rfl)) _, fun _ h => .inl h⟩⟩
  have hd : decide ((p.limit : Int) < (p.out.length : Int) + head.length) = true := decide_eq_true (by omega)
  have hd2 : (p.limit : Int) < (p.out.length : Int) + head.length := by omega
  have hw1 : IntKind.i64.wrap ((p.out.length : Int) + head.length) = (p.out.length : Int) + head.length := IntWalk.i64_in _ (by omega)
  go_enter Try.func45, Try.ntmps45
  go_wp2
  go_quiet (fail)
  go_wp2
  exact bodyPost_ret (v := .tuple #[]) (by simp [results, go_sem]) rfl (hpost _)

def VLoop (w : World) (g : Nat) (p : PW) (sv : Value) (head : List UInt8) (i : Value) (w1 : World) : Prop :=
  ∃ (k : Nat) (A1 : Option Addr) (c1 : Nat), k ≤ head.length ∧ i = .int .i64 k ∧ IsV w1 g { p with out := p.out ++ head.take k } (.slice A1 (p.out.length + k) c1) ∧ Step (WS g sv) (WS g (.slice A1 (p.out.length + k) c1)) w w1

theorem vloop_next {w wr w1 : World} {g : Nat} {p : PW} {sv : Value} {head : List UInt8} {k : Nat} {A1 A2 : Option Addr} {c1 k2 : Nat} {xb : UInt8} {o : Obj}
    (hV : IsV wr g { p with out := p.out ++ head.take k } (.slice A1 (p.out.length + k) c1)) (hst : Step (WS g sv) (WS g (.slice A1 (p.out.length + k) c1)) w wr) (htk : head.take (k + 1) = head.take k ++ [xb]) (hlt : k < head.length)
    (hfit : p.out.length + head.length ≤ p.limit) (ho1 : w1.ownsRow 0 5 1 (.slice A2 (p.out.length + k + 1) k2) (p.out.length + k + 1) (u8s (p.out ++ head.take k) ++ u8s [xb]))
    (hg1 : (World.drew (wr.alloc o)).grownBy w1 (Value.slice A1 (p.out.length + k) c1).ownBlock)
    (hn1 : ∀ j, (Value.slice A2 (p.out.length + k + 1) k2).ownBlock = some j → (Value.slice A1 (p.out.length + k) c1).ownBlock = some j ∨ (World.drew (wr.alloc o)).heap.size ≤ j) :
    VLoop w g p sv head (.int .i64 ((k + 1 : Nat) : Int)) (w1.setCell ⟨g, 0, none⟩ (.slice A2 (p.out.length + k + 1) k2)) := by
  have hb0 : (World.drew (wr.alloc o)).heap[g]? = _ := blk_alloc hV.blk o
  have hb1 := blk_grown hb0 hg1 hV.ne
  have hne1 : (Value.slice A2 (p.out.length + k + 1) k2).ownBlock ≠ some g := own_ne_blk ho1 hb1 (by decide)
  have hlen : (p.out ++ head.take (k + 1)).length = p.out.length + k + 1 := by rw [List.length_append, List.length_take]; omega
  refine ⟨k + 1, A2, k2, by omega, rfl, ⟨blk_setCell hb1 0 _, ?_, hV.lim, by show (p.out ++ head.take (k + 1)).length ≤ p.limit; rw [hlen]; omega⟩, ?_, ?_⟩
  · have := ((Fr.refl (Only g) w1).setCell (p := ⟨g, 0, none⟩) (.inl rfl) (.slice A2 (p.out.length + k + 1) k2)).owns ho1 (fun k hk e => hne1 (by rw [hk, show k = g from e]))
    simp only
    rw [hlen, htk, ← List.append_assoc, u8s_app]
    exact this
  · refine Fr.setCell ?_ (.inl (.inl rfl)) _
    exact Fr.grown ((hst.fr.alloc o).drew) hg1 (fun j hj => hst.new j (.inr hj))
  · rintro j (rfl | hj)
    · exact .inl (.inl rfl)
    · rcases hn1 j hj with h1 | h1
      · exact hst.new j (.inr h1)
      · exact .inr (by have := hst.fr.size; have h2 : wr.heap.size + 1 ≤ j := by simpa using h1
                       omega)
set_option maxHeartbeats 1600000 in
theorem vlay_fits (w : World) (g : Nat) (p : PW) (sv : Value) (h : IsV w g p sv) (hv : Value) (head : List UInt8) (hh : RdB w hv head) (hd : ∀ k, hv.ownBlock = some k → ¬ WS g sv k ∧ k < w.heap.size)
    (he : p.err = 0) (hshort : p.out.length + head.length ≤ p.limit) :
    Calls Try.prog 45 #[.pointer (some ⟨g, 0, none⟩), hv] w (VPost w g { p with out := p.out ++ head } sv) := by
  have hh2 := hh
  obtain ⟨A, c, rfl⟩ := hh.slice
  obtain ⟨A', c', rfl⟩ := own_slice h.own
  obtain ⟨c0, c1, c2, f0, f1, f2⟩ := cells3 h.blk
  have hlim := h.lim
  have hfit := h.fit
  rw [he] at c2
  have hd1 : decide ((p.limit : Int) < (p.out.length : Int) + head.length) = false := decide_eq_false (by omega)
  have hd2 : ¬ (p.limit : Int) < (p.out.length : Int) + head.length := by omega
  have hw1 : IntKind.i64.wrap ((p.out.length : Int) + head.length) = (p.out.length : Int) + head.length := IntWalk.i64_in _ (by omega)
  have Hst : Hid (∀ n, VLoop w g p (.slice A' p.out.length c') head (.int .i64 0) (w.drewN n)) := fun n => ⟨0, A', c', Nat.zero_le _, rfl, by
    have := h.below (Fr.to_below (B := w.heap.size) ((Fr.refl (fun _ => False) w).drewN n) (fun _ h => h.elim) (Nat.le_refl _))
    simpa using this, (Step.refl _ _).drewN n⟩
  have He := Lib.hid he
  clear he
  go_enter Try.func45, Try.ntmps45
  go_wp2
  go_quiet (fail)
  clear c0 c1 c2 f0 f1 f2 hd1 hd2 hw1
  go_wp2
  go_loopw [4] (fun i w1 => VLoop w g p (.slice A' p.out.length c') head i w1) (fun i _ => head.length - (intOf i).toNat)
  case atStart => exact Hst.out _
  case round =>
    obtain ⟨k, A1, c1', hk, rfl, hV, hst⟩ := hrel
    have hne := hV.ne
    obtain ⟨c0, c1, c2, f0, f1, f2⟩ := cells3 hV.blk
    by_cases hlt : k < head.length
    · have hltd := dT hlt
      have hrd : RdB wr (.slice A head.length c) head := hh2.fr hst.fr (fun k hk => (hd k hk).1)
      obtain ⟨b, off, cc, hv', hc', hb, hcell⟩ := hrd.some (by intro e; simp [u8s] at e; rw [e] at hlt; simp at hlt)
      cases hv'
      have hcl := hcell k (.int .u8 (head[k].toNat)) (by simp [u8s, hlt])
      have Htk : Hid (head.take (k + 1) = head.take k ++ [head[k]]) := by
        show _ = _
        rw [List.take_add_one, List.getElem?_eq_getElem hlt]; rfl
      have hol : (p.out ++ head.take k).length = p.out.length + k := by rw [List.length_append, List.length_take]; omega
      have hownk := hV.own
      have hblk := hV.blk
      simp only [hol] at hownk
      generalize head[k] = xb at hcl Htk
      go_wp2
      have hca : ∀ o, (wr.alloc o).cell? ⟨g, 0, none⟩ = some (.slice A1 (p.out.length + k) c1') := fun o => (cells3 (blk_alloc hblk o)).1
      have HV := Lib.hid hV
      have Hst2 := Lib.hid hst
      clear hV hst
      go_region_law ((refine step_append2 _ rfl (.tmp 36) (.tmp 41) 42 rfl 5 (.int .u8 0) 1 1 Try.underlying42 infoU8 rfl (by decide) (.slice A1 (p.out.length + k) c1') (p.out.length + k) (u8s (p.out ++ head.take k)) rfl (hownk.alloc _) _ 1 (u8s [xb]) rfl (RdB.one _ _ _) (u8s_one _) (by unfold maxLen; omega) (by omega) ?_); (intro v1 w1 ho1 hg1 hn1); (obtain ⟨A2, k2, rfl⟩ := own_slice ho1); (have hb1 := cells3 (blk_grown (w := World.drew (World.alloc _ _)) (blk_alloc hblk _) hg1 hne)))
      all_goals
        have Hk := Lib.hid (vloop_next (sv := .slice A' p.out.length c') HV.out Hst2.out Htk.out hlt hshort ho1 hg1 hn1)
        clear ho1 hg1 hn1 hb1 hcl hca c0 c1 c2 f0 f1 f2 hownk hblk
        go_wp2
        go_roundw
        case rel => exact Hk.out
        case measure => simp [intOf]; omega
    · have hltd := dF hlt
      have HV := Lib.hid hV
      have Hst2 := Lib.hid hst
      clear hV hst
      go_wp2
      go_end0
      have h1 := HV.out
      rw [List.take_of_length_le (by omega)] at h1
      exact ⟨rfl, _, h1, Hst2.out⟩

theorem vlay_calls (w : World) (g : Nat) (p : PW) (sv : Value) (h : IsV w g p sv) (hv : Value) (head : List UInt8) (hh : RdB w hv head) (hhl : head.length ≤ 140737488355328) (hd : ∀ k, hv.ownBlock = some k → ¬ WS g sv k ∧ k < w.heap.size) :
    Calls Try.prog 45 #[.pointer (some ⟨g, 0, none⟩), hv] w (VPost w g (p.lay head) sv) := by
  by_cases he : p.err = 0
  · by_cases hl : p.limit < p.out.length + head.length
    · have : p.lay head = { p with err := 23 } := by rw [PW.lay, if_neg (by simpa using he), if_pos hl]
      rw [this]; exact vlay_long w g p sv h hv head hh hhl he hl
    · have : p.lay head = { p with out := p.out ++ head } := by rw [PW.lay, if_neg (by simpa using he), if_neg hl]
      rw [this]; exact vlay_fits w g p sv h hv head hh hd he (by omega)
  · have : p.lay head = p := by rw [PW.lay, if_pos he]
    rw [this]; exact vlay_bad w g p sv h hv he

theorem vdis_one {w : World} {g : Nat} {p : PW} {sv : Value} (h : IsV w g p sv) (o : Obj) : ∀ k, (Value.slice (some ⟨w.heap.size, 0, none⟩) 1 1).ownBlock = some k → ¬ WS g sv k ∧ k < (w.alloc o).heap.size := by
  intro k hk
  cases hk
  exact ⟨fun hs => Nat.lt_irrefl _ (VS_lt h _ hs), by simp⟩

set_option maxHeartbeats 800000 in
theorem V_byte (w : World) (g : Nat) (p : PW) (sv : Value) (h : IsV w g p sv) (b : Nat) (hb : b < 256) :
    Calls Try.prog 21 #[.pointer (some ⟨g, 0, none⟩), .int .u8 b] w (VPost w g (p.lay [loB b]) sv) := by
  have Hb : Hid ((b : Int) = ((loB b).toNat : Int)) := by
    show (b : Int) = _
    simp [loB, UInt8.toNat_ofNat']; omega
  go_enter Try.func21, Try.ntmps21
  go_wp2_with fail
  rw [Hb.out]
  refine (vlay_calls _ g p sv (h.below ((Below.refl _ _).alloc (Nat.le_refl _) _)) _ [loB b] (RdB.one _ _ _) (by simp) (vdis_one h _)).mono ?_
  rintro e w' ⟨rfl, sv', h1, h2⟩
  go_wp2
  go_end0
  exact ⟨rfl, sv', h1, ((Fr.refl _ _).alloc _).trans h2.fr (fun _ h => .inl h), fun k hk => (h2.new k hk).imp id (fun h => by have := h; simp at this; omega)⟩

theorem V_bool (w : World) (g : Nat) (p : PW) (sv : Value) (h : IsV w g p sv) (b : Bool) :
    Calls Try.prog 24 #[.pointer (some ⟨g, 0, none⟩), .bool b] w (VPost w g (p.lay [loB (if b then 1 else 0)]) sv) := by
  cases b
  all_goals
    go_enter Try.func24, Try.ntmps24
    go_wp2_with fail
    first
      | refine (vlay_calls _ g p sv (h.below ((Below.refl _ _).alloc (Nat.le_refl _) _)) _ [loB 0] (RdB.one _ _ _) (by simp) (vdis_one h _)).mono ?_
      | refine (vlay_calls _ g p sv (h.below ((Below.refl _ _).alloc (Nat.le_refl _) _)) _ [loB 1] (RdB.one _ _ _) (by simp) (vdis_one h _)).mono ?_
    rintro e w' ⟨rfl, sv', h1, h2⟩
    go_wp2
    go_end0
    exact ⟨rfl, sv', h1, ((Fr.refl _ _).alloc _).trans h2.fr (fun _ h => .inl h), fun k hk => (h2.new k hk).imp id (fun h => by have := h; simp at this; omega)⟩

theorem vdis_new {w w1 : World} {g : Nat} {p : PW} {sv nv : Value} (h : IsV w g p sv) {xs : List Value} {n : Nat} {e : TypeId} (ho : w1.ownsRow 0 e 1 nv n xs) (hn : ∀ k, nv.ownBlock = some k → w.heap.size ≤ k) :
    ∀ k, nv.ownBlock = some k → ¬ WS g sv k ∧ k < w1.heap.size := fun k hk =>
  ⟨fun hs => by have := VS_lt h k hs; have := hn k hk; omega, (ho.lt k hk).2⟩

set_option maxHeartbeats 800000 in
theorem V_uint (w : World) (g : Nat) (p : PW) (sv : Value) (h : IsV w g p sv) (v : Nat) (hv : v < 18446744073709551616) :
    Calls Try.prog 22 #[.pointer (some ⟨g, 0, none⟩), .int .u64 v] w (VPost w g (p.lay (form v)) sv) := by
  have hfl := form_len10 hv
  go_enter Try.func22, Try.ntmps22
  go_wp2_with fail
  refine (form_calls v hv _).mono ?_
  rintro e w1 ⟨nv, rfl, ho, hn, hb⟩
  go_wp2_with fail
  refine (vlay_calls w1 g p sv (h.below hb) nv (form v) (RdB.of_own ho) (by omega) (vdis_new h ho hn)).mono ?_
  rintro e w' ⟨rfl, sv', h1, h2⟩
  go_wp2
  go_end0
  exact ⟨rfl, sv', h1, (Fr.of_below hb _).trans h2.fr (fun _ h => .inl h), fun k hk => (h2.new k hk).imp id (fun h => Nat.le_trans hb.size h)⟩

set_option maxHeartbeats 800000 in
theorem V_count (w : World) (g : Nat) (p : PW) (sv : Value) (h : IsV w g p sv) (n : Nat) (hn : n ≤ 4096) :
    Calls Try.prog 23 #[.pointer (some ⟨g, 0, none⟩), .int .i64 n] w (VPost w g (p.lay (form n)) sv) := by
  obtain ⟨c0, c1, c2, f0, f1, f2⟩ := cells3 h.blk
  have hv : n < 18446744073709551616 := by omega
  have hfl := form_len10 hv
  have h1 : decide ((4096 : Int) < n) = false := decide_eq_false (by omega)
  have h2 : ¬ (4096 : Int) < n := by omega
  have hcs : (p.err == 0) = true ∨ (p.err == 0) = false := by cases (p.err == 0) <;> simp
  rcases hcs with he | he
  all_goals
    go_enter Try.func23, Try.ntmps23
    go_wp2_with fail
    refine (form_calls n hv _).mono ?_
    rintro e w1 ⟨nv, rfl, ho, hn, hb⟩
    go_wp2_with fail
    refine (vlay_calls w1 g p sv (h.below hb) nv (form n) (RdB.of_own ho) (by omega) (vdis_new h ho hn)).mono ?_
    rintro e w' ⟨rfl, sv', h1, h2⟩
    go_wp2
    go_end0
    exact ⟨rfl, sv', h1, (Fr.of_below hb _).trans h2.fr (fun _ h => .inl h), fun k hk => (h2.new k hk).imp id (fun h => Nat.le_trans hb.size h)⟩

def TLoop (w : World) (s : ByteArray) (v i : Value) (w1 : World) : Prop :=
  ∃ (k : Nat), k ≤ s.size ∧ i = .int .i64 k ∧ w1.ownsRow 0 5 1 v ((form s.size).length + k) (u8s (form s.size ++ s.data.toList.take k)) ∧ (∀ j, v.ownBlock = some j → w.heap.size ≤ j) ∧ Below w.heap.size w w1

set_option maxHeartbeats 1600000 in
theorem V_text (w : World) (g : Nat) (p : PW) (sv : Value) (h : IsV w g p sv) (s : ByteArray) (hs : s.size ≤ 140737488351232) :
    Calls Try.prog 25 #[.pointer (some ⟨g, 0, none⟩), .string s] w (VPost w g (p.lay (form s.size ++ s.data.toList)) sv) := by
  have hv : s.size < 18446744073709551616 := by omega
  have hfl := form_len10 hv
  have hsd : s.data.toList.length = s.size := by rw [Array.length_toList]; rfl
  go_enter Try.func25, Try.ntmps25
  go_wp2_with fail
  refine (form_calls s.size hv _).mono ?_
  rintro e w1 ⟨nv, rfl, ho, hn, hb⟩
  have Hst : Hid (TLoop w s nv (.int .i64 0) w1) := ⟨0, Nat.zero_le _, rfl, by simpa using ho, hn, hb⟩
  clear ho hn hb
  go_wp2
  go_loopw [4, 5] (fun v i w1 => TLoop w s v i w1) (fun _ i _ => s.size - (intOf i).toNat)
  case atStart => exact Hst.out
  case round =>
    obtain ⟨k, hk, rfl, ho, hn, hb⟩ := hrel
    obtain ⟨A1, c1, rfl⟩ := own_slice ho
    by_cases hlt : k < s.size
    · have hltd := dT hlt
      have hlt2 : k < s.data.toList.length := by omega
      have Htk : Hid (s.data.toList.take (k + 1) = s.data.toList.take k ++ [s.data.toList[k]]) := by
        show _ = _
        rw [List.take_add_one, List.getElem?_eq_getElem hlt2]; rfl
      have Hbx : Hid (s.data.toList[k] = s[k]) := by
        show _ = _
        simp; rfl
      rw [Hbx.out] at Htk
      have Hn := Lib.hid hn
      clear hn
      go_wp2_with (at_builtin; refine wpList_append2 _ rfl (.tmp 16) (.tmp 20) 42 rfl 5 (.int .u8 0) 1 1 Try.underlying42 infoU8 rfl (by decide) _ ((form s.size).length + k) (u8s (form s.size ++ s.data.toList.take k)) rfl (ho.alloc _) _ 1 (u8s [s[k]]) rfl (RdB.one _ _ _) (u8s_one _) ?c2 ?c3 ?_)
      case c2 => unfold maxLen; omega
      case c3 => omega
      intro v' w2 ho2 hg2 hn2 _
      have Hk : Hid (TLoop w s v' (.int .i64 ((k + 1 : Nat) : Int)) w2) := by
        refine ⟨k + 1, by omega, rfl, ?_, ?_, ?_⟩
        · rw [Htk.out, ← List.append_assoc, u8s_app, ← Nat.add_assoc]; exact ho2
        · intro j hj
          rcases hn2 j hj with h1 | h1
          · exact Hn.out j h1
          · have := hb.size; have h2 : wr.heap.size + 1 ≤ j := by simpa using h1
            omega
        · refine (hb.alloc hb.size _).grown hg2 ?_ ?_
          · have := hb.size; simp; omega
          · intro j hj; exact Hn.out j hj
      clear ho2 hg2 hn2 ho hb
      go_wp2
      go_roundw
      case rel => exact Hk.out
      case measure => simp [intOf]; omega
    · have hltd := dF hlt
      obtain rfl : k = s.size := by omega
      have ho2 : wr.ownsRow 0 5 1 (.slice A1 ((form s.size).length + s.size) c1) (form s.size ++ s.data.toList).length (u8s (form s.size ++ s.data.toList)) := by
        rw [List.take_of_length_le (by omega)] at ho
        rw [List.length_append, hsd]
        exact ho
      go_wp2_with fail
      refine (vlay_calls wr g p sv (h.below hb) _ (form s.size ++ s.data.toList) (RdB.of_own ho2) (by rw [List.length_append]; omega) (vdis_new h ho2 hn)).mono ?_
      rintro e w' ⟨rfl, sv', h1, h2⟩
      go_wp2
      go_end0
      exact ⟨rfl, sv', h1, (Fr.of_below hb _).trans h2.fr (fun _ h => .inl h), fun k hk => (h2.new k hk).imp id (fun h => Nat.le_trans hb.size h)⟩

set_option maxHeartbeats 800000 in
theorem newV_calls (w : World) (n : Nat) (h0 : 0 < n) (hn : n ≤ 1048576) :
    Calls Try.prog 20 #[.int .i64 n] w fun e w' => ∃ g, e = .returned (.pointer (some ⟨g, 0, none⟩)) ∧ IsV w' g ⟨n, [], 0⟩ (.slice none 0 0) ∧ w.heap.size ≤ g ∧ Below w.heap.size w w' := by
  go_enter Try.func20, Try.ntmps20
  go_wp2
  go_ret
  exact ⟨_, rfl, ⟨blk_new _ _, World.ownsRow_nil _ _ _ _, hn, Nat.zero_le _⟩, Nat.le_refl _, (Below.refl _ _).alloc (Nat.le_refl _) _⟩
end Go.Proofs.Ytfloaneimmnboaa
