/- The contracts of store's right, own, and of Writer.Out. -/
import Derived.Test.YtfloaneimmnboaaA1
import Derived.Maps.OwnOps
import Derived.Maps.OwnSet
namespace Go.Proofs.Ytfloaneimmnboaa
open Go.RowKit Go.Maps Go.WideMaps
set_option linter.unusedVariables false
set_option linter.unusedSimpArgs false

/-- a change -/
structure Ch where
  key : ByteArray
  val : ByteArray
  gone : Bool
  deriving DecidableEq
def Ch.cells (c : Ch) : List Value := [.string c.key, .string c.val, .bool c.gone]
def chs (l : List Ch) : List Value := l.flatMap Ch.cells
theorem chs_len (l : List Ch) : (chs l).length = l.length * 3 := by
  induction l with
  | nil => rfl
  | cons c l ih => simp [chs, Ch.cells] at ih ⊢; omega
theorem chs_app (l r : List Ch) : chs (l ++ r) = chs l ++ chs r := by simp [chs]
theorem chs_at (l : List Ch) (k : Nat) (hk : k < l.length) : (chs l)[k * 3]? = some (.string l[k].key) ∧ (chs l)[k * 3 + 1]? = some (.string l[k].val) ∧ (chs l)[k * 3 + 2]? = some (.bool l[k].gone) := by
  induction l generalizing k with
  | nil => simp at hk
  | cons c l ih =>
    cases k with
    | zero => exact ⟨rfl, rfl, rfl⟩
    | succ k =>
      have := ih k (by simpa using hk)
      have e : chs (c :: l) = .string c.key :: .string c.val :: .bool c.gone :: chs l := rfl
      rw [e, show (k + 1) * 3 = k * 3 + 1 + 1 + 1 from by omega]
      simpa [Nat.add_assoc] using this
/-- the slice reads as these changes, each of its strings no longer than the reach -/
structure RdC (w : World) (v : Value) (l : List Ch) : Prop where
  rd : Rd w 3 v l.length (chs l)
  len : l.length * 40 ≤ 140737488351232
  str : ∀ c ∈ l, c.key.size ≤ 140737488351232 ∧ c.val.size ≤ 140737488351232
theorem Rd.some {w : World} {size n : Nat} {v : Value} {xs : List Value} (h : Rd w size v n xs) (hn : xs ≠ []) :
    ∃ b off c, v = .slice (some ⟨b, off, none⟩) n c ∧ n ≤ c ∧ b < w.heap.size ∧ ∀ j u, xs[j]? = some u → w.cell? ⟨b, off + j, none⟩ = some u := by
  obtain ⟨h1, A, c, rfl, h2, h3, h4⟩ := h
  cases A with
  | none =>
    have := h3 rfl
    subst this
    exact absurd (List.eq_nil_of_length_eq_zero (by simpa using h1)) hn
  | some ad =>
    have h4 := h4 ad rfl
    obtain ⟨x, r, rfl⟩ := List.exists_cons_of_ne_nil hn
    have h0 := h4 0 x rfl
    obtain ⟨b, off, sp⟩ := ad
    have hsp : sp = none := by
      cases sp with
      | none => rfl
      | some q => simp [Addr.add, World.cell?] at h0; split at h0 <;> simp at h0
    subst hsp
    refine ⟨b, off, c, rfl, h2, ?_, fun j u hu => ?_⟩
    · exact World.block_lt_of_cell? w (a := ⟨b, off, none⟩) h0
    · have := h4 j u hu
      have e : (⟨b, off, none⟩ : Addr).add j = ⟨b, off + j, none⟩ := by unfold Addr.add; split <;> simp_all
      rw [e] at this; exact this
theorem RdC.some {w : World} {v : Value} {l : List Ch} (h : RdC w v l) (hn : l ≠ []) :
    ∃ b off c, v = .slice (some ⟨b, off, none⟩) l.length c ∧ l.length ≤ c ∧ b < w.heap.size ∧ ∀ k (hk : k < l.length),
      w.cell? ⟨b, off + k * 3, none⟩ = some (.string l[k].key) ∧ w.cell? ⟨b, off + k * 3 + 1, none⟩ = some (.string l[k].val) ∧ w.cell? ⟨b, off + k * 3 + 2, none⟩ = some (.bool l[k].gone) := by
  obtain ⟨b, off, c, hv, hc, hb, hcell⟩ := h.rd.some (by intro e; have := chs_len l; rw [e] at this; have h2 : l.length = 0 := (by simp at this; omega); exact hn (List.eq_nil_of_length_eq_zero h2))
  refine ⟨b, off, c, hv, hc, hb, fun k hk => ?_⟩
  obtain ⟨h0, h1, h2⟩ := chs_at l k hk
  exact ⟨hcell _ _ h0, by rw [Nat.add_assoc]; exact hcell _ _ h1, by rw [Nat.add_assoc]; exact hcell _ _ h2⟩

theorem empty_iff (s : ByteArray) : s.toList = [] ↔ s.size = 0 := by
  rw [ByteArray.toList_eq, ← List.length_eq_zero_iff, Array.length_toList]; rfl
theorem isEmpty_iff (s : ByteArray) : s.toList.isEmpty = true ↔ s.size = 0 := by rw [List.isEmpty_iff, empty_iff]
theorem ba_ext {a b : ByteArray} (h : a.data.toList = b.data.toList) : a = b := by
  cases a; cases b; simp at h; rw [h]
/-- element k is right, as far as 'right' looks in its first loop -/
def okAt (l : List Ch) (k : Nat) : Prop := ∀ hk : k < l.length, l[k].key.size ≠ 0 ∧ (l[k].gone = true → l[k].val.size = 0) ∧ ∀ j (hj : j < k), l[j].key ≠ l[k].key
def goodTo (l : List Ch) (n : Nat) : Prop := ∀ k, k < n → okAt l k
def longAt (l : List Ch) (k : Nat) : Prop := ∃ hk : k < l.length, 120 < l[k].key.size ∨ 8192 < l[k].val.size
open Classical in
noncomputable def rightL (l : List Ch) : Int := if (∃ k, longAt l k) ∨ 4096 < l.length then 23 else 0
open Classical in
noncomputable def rightE (l : List Ch) : Int :=
  if l.length = 0 ∨ ¬ goodTo l l.length then 1 else if (∃ k, longAt l k) ∨ 4096 < l.length then 23 else 0

theorem right_cases (l : List Ch) (k : Nat) (hlt : k < l.length) (D : DataW Unit) (hD : IsMap D) (hgood : goodTo l k) (hhas : ∀ s : List UInt8, has D (.string s) = true ↔ ∃ j, ∃ hj : j < l.length, j < k ∧ l[j].key.data.toList = s)
    (xk xv : ByteArray) (xg : Bool) (hx : l[k] = ⟨xk, xv, xg⟩) :
    (xk.toList = [] ∧ Hid (rightE l = 1)) ∨ (¬ xk.toList = [] ∧ xk.toList.isEmpty = false ∧ xg = true ∧ ¬ xv.toList = [] ∧ Hid (rightE l = 1)) ∨
    (¬ xk.toList = [] ∧ xk.toList.isEmpty = false ∧ xg = true ∧ xv.toList = [] ∧ has D (.string xk.data.toList) = true ∧ Hid (rightE l = 1)) ∨
    (¬ xk.toList = [] ∧ xk.toList.isEmpty = false ∧ xg = false ∧ has D (.string xk.data.toList) = true ∧ Hid (rightE l = 1)) ∨
    (¬ xk.toList = [] ∧ xk.toList.isEmpty = false ∧ xg = true ∧ xv.toList = [] ∧ has D (.string xk.data.toList) = false ∧ Hid (goodTo l (k + 1))) ∨
    (¬ xk.toList = [] ∧ xk.toList.isEmpty = false ∧ xg = false ∧ has D (.string xk.data.toList) = false ∧ Hid (goodTo l (k + 1))) := by
  have hxk : l[k].key = xk := by rw [hx]
  have hxv : l[k].val = xv := by rw [hx]
  have hxg : l[k].gone = xg := by rw [hx]
  have hbad : ¬ okAt l k → rightE l = 1 := fun hno => by
    rw [rightE, if_pos (.inr (fun hg => hno (hg k hlt)))]
  have hne : xk.toList ≠ [] → xk.toList.isEmpty = false := fun h => by
    cases e : xk.toList with
    | nil => exact absurd e h
    | cons => rfl
  by_cases h1 : xk.toList = []
  · exact .inl ⟨h1, hbad (fun hok => (hok hlt).1 (by rw [hxk]; exact (empty_iff _).1 h1))⟩
  have h1' := hne h1
  have hh1 : has D (.string xk.data.toList) = true → rightE l = 1 := fun hh => hbad (fun hok => by
    obtain ⟨j, hj, hjk, e⟩ := (hhas _).1 hh
    exact (hok hlt).2.2 j hjk (by rw [hxk]; exact ba_ext e))
  have hgo : (xg = true → xv.toList = []) → has D (.string xk.data.toList) = false → goodTo l (k + 1) := fun hg hh j hj => by
    by_cases hjk : j = k
    · subst hjk
      intro hj2
      rw [hxk, hxv, hxg]
      refine ⟨fun e => h1 ((empty_iff _).2 e), fun h => (empty_iff _).1 (hg h), fun i hi e => ?_⟩
      have : has D (.string xk.data.toList) = true := (hhas _).2 ⟨i, by omega, hi, by rw [e]⟩
      rw [hh] at this; cases this
    · exact hgood j (by omega)
  cases hh : has D (.string xk.data.toList)
  · cases xg
    · exact .inr (.inr (.inr (.inr (.inr ⟨h1, h1', rfl, rfl, hgo (fun h => by cases h) hh⟩))))
    · by_cases h3 : xv.toList = []
      · exact .inr (.inr (.inr (.inr (.inl ⟨h1, h1', rfl, h3, rfl, hgo (fun _ => h3) hh⟩))))
      · exact .inr (.inl ⟨h1, h1', rfl, h3, hbad (fun hok => h3 ((empty_iff _).2 (by rw [← hxv]; exact (hok hlt).2.1 hxg)))⟩)
  · cases xg
    · exact .inr (.inr (.inr (.inl ⟨h1, h1', rfl, rfl, hh1 hh⟩)))
    · by_cases h3 : xv.toList = []
      · exact .inr (.inr (.inl ⟨h1, h1', rfl, h3, rfl, hh1 hh⟩))
      · exact .inr (.inl ⟨h1, h1', rfl, h3, hbad (fun hok => h3 ((empty_iff _).2 (by rw [← hxv]; exact (hok hlt).2.1 hxg)))⟩)

theorem right_next (l : List Ch) (k : Nat) (hlt : k < l.length) (D : DataW Unit) (hD : IsMap D) (hhas : ∀ s : List UInt8, has D (.string s) = true ↔ ∃ j, ∃ hj : j < l.length, j < k ∧ l[j].key.data.toList = s)
    (xk : ByteArray) (hxk : l[k].key = xk) (d : DataW Unit) (s : List UInt8) :
    has (D.put (.string xk.data.toList) d) (.string s) = true ↔ ∃ j, ∃ hj : j < l.length, j < k + 1 ∧ l[j].key.data.toList = s := by
  by_cases e : s = xk.data.toList
  · subst e
    rw [has_put_same hD (by simp [WideAt.IsKeyLit])]
    simp only [true_iff]
    exact ⟨k, hlt, by omega, by rw [hxk]⟩
  · rw [has_put_other (by intro h; cases h; exact e rfl), hhas]
    constructor
    · rintro ⟨j, hj, hjk, e2⟩; exact ⟨j, hj, by omega, e2⟩
    · rintro ⟨j, hj, hjk, e2⟩
      refine ⟨j, hj, ?_, e2⟩
      by_cases hjk2 : j = k
      · subst hjk2; rw [hxk] at e2; exact absurd e2.symm e
      · omega

theorem rightE_end (l : List Ch) (hg : goodTo l l.length) (h0 : l.length ≠ 0) : rightE l = rightL l := by
  rw [rightE, if_neg (by rintro (h | h) <;> contradiction)]; rfl

theorem lawS : Keyed Try.prog 9 := string_keyed Try.underlying9

def RLoop1 (B : World) (l : List Ch) (mb : Nat) (i : Value) (w : World) : Prop :=
  ∃ k : Nat, k ≤ l.length ∧ i = .int .i64 k ∧ goodTo l k ∧ (∃ D, w.ownsMap (H := Unit) Try.prog 9 (plainElem Try.prog 3) mb k D ∧ IsMap D ∧
    ∀ s : List UInt8, has D (.string s) = true ↔ ∃ j, ∃ hj : j < l.length, j < k ∧ l[j].key.data.toList = s)  ∧ Below B.heap.size B w

set_option maxRecDepth 100000 in
set_option maxHeartbeats 1600000 in
theorem right_calls (w : World) (v : Value) (l : List Ch) (h : RdC w v l) :
    Calls Try.prog 11 #[v] w fun e w' => e = .returned (.int .i64 (rightE l)) ∧ Below w.heap.size w w' := by
  by_cases hl : l = []
  · obtain ⟨-, A, c, rfl, -⟩ := h.rd
    subst hl
    have e0 : ([] : List Ch).length = 0 := rfl
    rw [e0]
    clear h e0
    go_enter Try.func11, Try.ntmps11
    go_wp2
    go_ret
    exact ⟨by rw [show rightE [] = 1 from by rw [rightE, if_pos (.inl rfl)]]; rfl, Below.refl _ _⟩
  · obtain ⟨b, off, c, rfl, hc, hb, hcell⟩ := h.some hl
    have hlen := h.len
    have hpos : 0 < l.length := List.length_pos_iff.2 hl
    have h0 : ((l.length : Int) == 0) = false := by simp; omega
    have hmm := @run_makeMap Try.prog
    go_enter Try.func11, Try.ntmps11
    go_wp2
    go_loopw [16] (fun i w1 => RLoop1 w l w.heap.size i w1) (fun i _ => l.length - (intOf i).toNat)
    case atStart => exact ⟨0, Nat.zero_le _, rfl, fun k hk => absurd hk (by omega), ⟨_, World.ownsMap_made _ _ _ _, isMap_empty, fun s => by simp [has]⟩, (Below.refl _ _).alloc (Nat.le_refl _) _⟩
    case round =>
      obtain ⟨k, hk, rfl, hgood, ⟨D, hown, hD, hhas⟩, hbe⟩ := hrel
      by_cases hlt : k < l.length
      · obtain ⟨q0, q1, q2⟩ := hcell k hlt
        replace q0 := (hbe.cell (p := ⟨b, off + k * 3, none⟩) hb).trans q0
        replace q1 := (hbe.cell (p := ⟨b, off + k * 3 + 1, none⟩) hb).trans q1
        replace q2 := (hbe.cell (p := ⟨b, off + k * 3 + 2, none⟩) hb).trans q2
        have hltd : decide ((k : Int) < l.length) = true := by simp; omega
        have hkey : keyOf Try.prog 9 (.string l[k].key) = some (.string l[k].key.data.toList) := keyOf_string_mk Try.underlying9 (Nat.le_trans (h.str l[k] (List.getElem_mem hlt)).1 (by decide))
        have hz : ∀ W, (zeroValue 3).run Try.prog W = .ok (.int .i64 0) W := fun W => by kernel_rfl
        generalize hx : l[k] = x at q0 q1 q2 hkey
        obtain ⟨xk, xv, xg⟩ := x
        simp only at q0 q1 q2 hkey
        have hn : k < maxLen := Nat.lt_of_lt_of_le (show k < 3518437208781 by omega) (by decide)
        have hwf : (Lit.int .i64 (k : Int)).wf = true := wf64 (by omega)
        have hpe := plainElem_int (H := Unit) Try.underlying3 hwf
        clear hwf
        have hcs := right_cases l k hlt D hD hgood hhas xk xv xg hx
        have Hx := Lib.hid hx
        clear hx
        have hbe1 : ∀ o, Below w.heap.size w (wr.alloc o) := fun o => hbe.alloc hbe.size _
        have Hbe1 := Lib.hid hbe1
        clear hbe1
        have Hhas := Lib.hid hhas
        have Hgood := Lib.hid hgood
        clear hhas hgood
        rcases hcs with ⟨s1, Hr⟩ | ⟨s1, s2, rfl, s3, Hr⟩ | ⟨s1, s2, rfl, s3, s4, Hr⟩ | ⟨s1, s2, rfl, s4, Hr⟩ | ⟨s1, s2, rfl, s3, s4, Hr⟩ | ⟨s1, s2, rfl, s4, Hr⟩
        all_goals
          go_wp2_with (first
            | (at_lookup; refine wpList_lookup_own_ok_int _ rfl (.tmp 22) (.tmp 24) 57 rfl 9 3 .i64 lawS Try.underlying57 Try.underlying3 (hz _) w.heap.size k D rfl (hown.alloc _) _ _ rfl hkey ?_; intro cc hcc hwc; clear hcc hwc)
            | (at_mapUpdate; refine wpList_mapUpdate_own _ rfl (.tmp 43) (.tmp 45) (.tmp 46) 57 rfl 9 3 lawS Try.underlying57 (plainElem (H := Unit) Try.prog 3) w.heap.size k _ rfl (hown.alloc _) hn _ _ _ rfl rfl hkey (.lit (.int .i64 k)) [] hpe ?_; intro w2 hown2 hgrow2))
          first
            | (go_ret
               exact ⟨by rw [Hr.out]; rfl, Hbe1.out _⟩)
            | (have Hd : Hid (RLoop1 w l w.heap.size (.int .i64 ((k + 1 : Nat) : Int)) w2) := ⟨k + 1, by omega, rfl, Hr.out, ⟨_, hown2, hD.put _ _, fun s => right_next l k hlt D hD Hhas.out xk (by rw [Hx.out]) _ s⟩, (Hbe1.out _).grown hgrow2 (Hbe1.out _).size (fun j hj => by cases hj; exact Nat.le_refl _)⟩
               clear hown2 hgrow2
               go_wp2
               go_roundw
               case rel => exact Hd.out
               case measure => simp [intOf]; omega)
      · have hkl : k = l.length := by omega
        have Hgood : Hid (goodTo l l.length) := by rw [← hkl]; exact hgood
        clear hgood hown hhas hD
        have hltd : decide ((k : Int) < l.length) = false := by simp; omega
        clear hkl
        go_wp2
        go_loopw [50] (fun i w1 => ∃ k : Nat, k ≤ l.length ∧ i = .int .i64 k ∧ (∀ j, j < k → ¬ longAt l j) ∧ Below w.heap.size w w1) (fun i _ => l.length - (intOf i).toNat)
        case atStart => exact ⟨0, Nat.zero_le _, rfl, fun j hj => absurd hj (by omega), hbe⟩
        case round =>
          obtain ⟨k2, hk2, rfl, hno, hbe2⟩ := hrel
          by_cases hlt2 : k2 < l.length
          · have hltd2 : decide ((k2 : Int) < l.length) = true := by simp; omega
            obtain ⟨q0, q1, q2⟩ := hcell k2 hlt2
            have hbe3 : ∀ o, Below w.heap.size w (wr.alloc o) := fun o => hbe2.alloc hbe2.size _
            have Hbe3 := Lib.hid hbe3
            clear hbe3
            replace q0 := (hbe2.cell (p := ⟨b, off + k2 * 3, none⟩) hb).trans q0
            replace q1 := (hbe2.cell (p := ⟨b, off + k2 * 3 + 1, none⟩) hb).trans q1
            replace q2 := (hbe2.cell (p := ⟨b, off + k2 * 3 + 2, none⟩) hb).trans q2
            have hs1 := (h.str _ (List.getElem_mem hlt2)).1
            have hs2 := (h.str _ (List.getElem_mem hlt2)).2
            have hlg : longAt l k2 ↔ (120 < l[k2].key.size ∨ 8192 < l[k2].val.size) := ⟨fun ⟨_, h⟩ => h, fun h => ⟨hlt2, h⟩⟩
            have hr23 : longAt l k2 → rightE l = 23 := fun hlo => by rw [rightE_end l Hgood.out (by omega), rightL, if_pos (.inl ⟨_, hlo⟩)]
            have Hno := Lib.hid hno
            clear hno
            generalize hx : l[k2] = x at q0 q1 q2 hs1 hs2 hlg
            obtain ⟨xk, xv, xg⟩ := x
            simp only at q0 q1 q2 hs1 hs2 hlg
            clear hx
            have hcs : ((120 : Int) < xk.size ∧ decide ((120 : Int) < xk.size) = true ∧ Hid (rightE l = 23)) ∨ (¬ (120 : Int) < xk.size ∧ decide ((120 : Int) < xk.size) = false ∧ decide ((8192 : Int) < xv.size) = true ∧ Hid (rightE l = 23)) ∨
                (¬ (120 : Int) < xk.size ∧ decide ((120 : Int) < xk.size) = false ∧ decide ((8192 : Int) < xv.size) = false ∧ Hid (¬ longAt l k2)) := by
              by_cases h1 : 120 < xk.size
              · exact .inl ⟨by omega, dT (a := 120) h1, hr23 (hlg.2 (.inl h1))⟩
              · by_cases h2 : 8192 < xv.size
                · exact .inr (.inl ⟨by omega, dF (a := 120) h1, dT (a := 8192) h2, hr23 (hlg.2 (.inr h2))⟩)
                · exact .inr (.inr ⟨by omega, dF (a := 120) h1, dF (a := 8192) h2, fun h => (hlg.1 h).elim h1 h2⟩)
            clear hlg hr23
            rcases hcs with ⟨s0, s1, Hr⟩ | ⟨s0, s1, s2, Hr⟩ | ⟨s0, s1, s2, Hr⟩
            all_goals
              go_wp2
              first
                | (go_ret
                   exact ⟨by rw [Hr.out]; rfl, Hbe3.out _⟩)
                | (go_roundw
                   case rel => exact ⟨k2 + 1, by omega, by go_num, fun j hj => (Nat.lt_or_eq_of_le (Nat.le_of_lt_succ hj)).elim (fun h => Hno.out j h) (fun e => by rw [e]; exact Hr.out), Hbe3.out _⟩
                   case measure => simp [intOf]; omega)
          · have hltd2 : decide ((k2 : Int) < l.length) = false := by simp; omega
            have hall : ¬ ∃ k, longAt l k := fun ⟨j, hj⟩ => hno j (by have := hj.1; omega) hj
            have hE := rightE_end l Hgood.out (by omega)
            rw [rightL] at hE
            have HE := Lib.hid hE
            have Hall := Lib.hid hall
            clear hE hall hno
            by_cases h4 : 4096 < l.length
            · have h4d : decide ((4096 : Int) < l.length) = true := by simp; omega
              go_wp2
              go_ret
              exact ⟨by rw [HE.out, if_pos (.inr h4)]; rfl, hbe2⟩
            · have h4d : decide ((4096 : Int) < l.length) = false := by simp; omega
              go_wp2
              go_ret
              exact ⟨by rw [HE.out, if_neg (fun h => h.elim Hall.out h4)]; rfl, hbe2⟩
end Go.Proofs.Ytfloaneimmnboaa
