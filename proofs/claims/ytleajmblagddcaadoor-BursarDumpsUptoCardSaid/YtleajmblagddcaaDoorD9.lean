/- strings.Builder's calls (WriteString, WriteByte, String), with the builder's own footprint. -/
import Derived.Test.YtleajmblagddcaaDoorD8
import Derived.Test.YtleajmblagddcaaDoorShelf
import Derived.Lib.Builder
namespace Go.Proofs.YtleajmblagddcaaDoor
open Go.RowKit
set_option linter.unusedVariables false
set_option linter.unusedSimpArgs false

theorem sizeBld : (Tryd.prog.info? 56).map (·.size) = some 2 := by kernel_rfl
theorem liesBld : liesAt Tryd.prog Tryd.prog.depth 56 (2 / Tryd.prog.cellsOf 56) 0 56 1 = true := by kernel_rfl
theorem infoU8 : (Tryd.prog.info? 5).map (fun i => (i.zero, i.size, i.bytes)) = some (some (.int .u8 0), 1, 1) := by kernel_rfl

set_option maxRecDepth 100000 in
set_option maxHeartbeats 1000000 in
theorem copyCheck_used (b : Nat) (w : World) (h0 : w.cell? ⟨b, 0, none⟩ = some (.pointer (some ⟨b, 0, none⟩))) :
    Calls Tryd.prog 38 #[.pointer (some ⟨b, 0, none⟩)] w fun e w' => e = .returned (.tuple #[]) ∧ w = w' := by
  obtain ⟨j, hj, _⟩ := Option.map_eq_some_iff.1 sizeBld
  go_enter Tryd.func38, Tryd.ntmps38
  go_wp2
  rw [Lib.run_neq_ptr_same w _ Tryd.underlying53 hj]
  go_wp2
  go_end0
  exact ⟨rfl, rfl⟩

set_option maxRecDepth 100000 in
set_option maxHeartbeats 1000000 in
theorem copyCheck_fresh (b : Nat) (w : World) (h0 : w.cell? ⟨b, 0, none⟩ = some (.pointer none)) (hsh : w.shape? b = some (56, 2)) (hfz : w.frozen? ⟨b, 0, none⟩ = false) :
    Calls Tryd.prog 38 #[.pointer (some ⟨b, 0, none⟩)] w fun e w' => e = .returned (.tuple #[]) ∧ w.setCell ⟨b, 0, none⟩ (.pointer (some ⟨b, 0, none⟩)) = w' := by
  obtain ⟨j, hj, hjs⟩ := Option.map_eq_some_iff.1 sizeBld
  go_enter Tryd.func38, Tryd.ntmps38
  go_wp2
  rw [Lib.run_to_unsafe w ⟨b, 0, none⟩ Tryd.underlying53 Tryd.underlying124 hj (by rw [hjs]; decide) hsh (Nat.zero_lt_succ 1)]
  simp only [Result.andThen]
  rw [Oper.upon_value]
  go_wp2
  rw [run_callFunc_extern Tryd.func50 (by kernel_rfl) (by kernel_rfl) (by kernel_rfl) (e := Extern.AbiNoEscape.same) (by kernel_rfl)]
  rw [Lib.run_noEscape]
  simp only [Result.andThen]
  rw [Oper.upon_value]
  go_wp2
  rw [Lib.run_from_unsafe w ⟨b, 0, none⟩ Tryd.underlying124 Tryd.underlying53 hj hsh liesBld]
  simp only [Result.andThen]
  rw [Oper.upon_value]
  go_wp2
  go_end0
  exact ⟨rfl, rfl⟩

/-- A builder in block g, whose buffer is sv, holding bs. -/
structure IsB (w : World) (g : Nat) (sv : Value) (bs : List UInt8) : Prop where
  blk : ∃ p, (p = .pointer none ∨ p = .pointer (some ⟨g, 0, none⟩)) ∧ w.heap[g]? = some (.cells #[p, sv] 56 (0, 0))
  own : w.ownsRow 0 5 1 sv bs.length (u8s bs)
def BS (g : Nat) (sv : Value) : Nat → Prop := fun k => k = g ∨ sv.ownBlock = some k
theorem IsB.ne {w : World} {g : Nat} {sv : Value} {bs : List UInt8} (h : IsB w g sv bs) : sv.ownBlock ≠ some g := by
  obtain ⟨p, -, hb⟩ := h.blk; exact own_ne_blk h.own hb (by decide)
theorem IsB.fr {S : Nat → Prop} {w w1 : World} {g : Nat} {sv : Value} {bs : List UInt8} (h : IsB w g sv bs) (hf : Fr S w w1) (hn : ∀ k, BS g sv k → ¬ S k) : IsB w1 g sv bs := by
  obtain ⟨p, hp, hb⟩ := h.blk
  exact ⟨⟨p, hp, hf.blk hb (hn g (.inl rfl))⟩, hf.owns h.own (fun k hk => hn k (.inr hk))⟩
theorem IsB.below {w w1 : World} {g : Nat} {sv : Value} {bs : List UInt8} (h : IsB w g sv bs) (hb : Below w.heap.size w w1) : IsB w1 g sv bs :=
  h.fr (Fr.of_below hb (fun _ => False)) (fun _ _ h => h)
theorem BS_lt {w : World} {g : Nat} {sv : Value} {bs : List UInt8} (h : IsB w g sv bs) : ∀ k, BS g sv k → k < w.heap.size := by
  rintro k (rfl | hk)
  · obtain ⟨p, -, hb⟩ := h.blk; exact blk_lt hb
  · exact (h.own.lt k hk).2
theorem IsB.fresh (w : World) : IsB (w.alloc (.cells #[.pointer none, .slice none 0 0] 56)) w.heap.size (.slice none 0 0) [] :=
  ⟨⟨_, .inl rfl, blk_new _ _⟩, World.ownsRow_nil _ _ _ _⟩
theorem IsB.slice {w : World} {g : Nat} {sv : Value} {bs : List UInt8} (h : IsB w g sv bs) : ∃ A c, sv = .slice A bs.length c := own_slice h.own

theorem copyCheck_calls (g : Nat) (sv : Value) (bs : List UInt8) (w : World) (h : IsB w g sv bs) :
    Calls Tryd.prog 38 #[.pointer (some ⟨g, 0, none⟩)] w fun e w' => e = .returned (.tuple #[]) ∧
      w'.heap[g]? = some (.cells #[.pointer (some ⟨g, 0, none⟩), sv] 56 (0, 0)) ∧ w'.ownsRow 0 5 1 sv bs.length (u8s bs) ∧ w'.heap.size = w.heap.size ∧ Fr (Only g) w w' := by
  obtain ⟨p, hp, hb⟩ := h.blk
  have hne := h.ne
  rcases hp with rfl | rfl
  · refine (copyCheck_fresh g w (by rw [Lib.cell_of_heap hb]; rfl) (by simp [World.shape?, hb]) (Lib.frozen_of_heap hb 0)).mono ?_
    rintro e w' ⟨rfl, rfl⟩
    have hf : Fr (Only g) w (w.setCell ⟨g, 0, none⟩ (.pointer (some ⟨g, 0, none⟩))) := (Fr.refl (Only g) w).setCell (p := ⟨g, 0, none⟩) (.inl rfl) _
    refine ⟨rfl, blk_setCell hb 0 _, hf.owns h.own (fun k hk e => hne (e ▸ hk)), by simp [World.setCell], hf⟩
  · refine (copyCheck_used g w (by rw [Lib.cell_of_heap hb]; rfl)).mono ?_
    rintro e w' ⟨rfl, rfl⟩
    exact ⟨rfl, hb, h.own, rfl, Fr.refl _ _⟩

/-- what a writing call on a Builder leaves -/
structure BOut (w : World) (g : Nat) (sv : Value) (w' : World) (sv' : Value) (bs' : List UInt8) : Prop where
  is : IsB w' g sv' bs'
  step : Step (BS g sv) (BS g sv') w w'

theorem bOut_of {w w1 w2 : World} {g : Nat} {sv v' : Value} {bs bs' : List UInt8} (hb : w1.heap[g]? = some (.cells #[.pointer (some ⟨g, 0, none⟩), sv] 56 (0, 0)))
    (hsz : w1.heap.size = w.heap.size) (hne : sv.ownBlock ≠ some g) (hlt : ∀ k, sv.ownBlock = some k → k < w.heap.size) (hf : Fr (Only g) w w1) (w1' : World) (ha : Below w1.heap.size w1 w1') (hown : w2.ownsRow 0 5 1 v' bs'.length (u8s bs')) (hg : w1'.grownBy w2 sv.ownBlock)
    (hn : ∀ k, v'.ownBlock = some k → sv.ownBlock = some k ∨ w1'.heap.size ≤ k) : BOut w g sv (w2.setCell ⟨g, 1, none⟩ v') v' bs' := by
  have hb1 : w1'.heap[g]? = _ := blk_below hb ha
  have hb2 := blk_grown hb1 hg hne
  have hs := ha.size
  have hs1 : v'.ownBlock ≠ some g := own_ne_blk hown hb2 (by decide)
  have hF : Fr (BS g sv) w w2 := ((hf.mono (fun k hk => .inl hk)).below ha).grown hg (fun k hk => .inl (.inr hk))
  refine ⟨⟨⟨_, .inr rfl, blk_setCell hb2 1 v'⟩, ?_⟩, hF.setCell (p := ⟨g, 1, none⟩) (.inl (.inl rfl)) _, ?_⟩
  · exact ((Fr.refl (Only g) w2).setCell (p := ⟨g, 1, none⟩) (.inl rfl) v').owns hown (fun k hk e => hs1 (e ▸ hk))
  · rintro k (rfl | hk)
    · exact .inl (.inl rfl)
    · rcases hn k hk with h1 | h1
      · exact .inl (.inr h1)
      · exact .inr (by omega)

set_option maxHeartbeats 2000000 in
theorem writeByte_calls (g : Nat) (sv : Value) (bs : List UInt8) (c : UInt8) (w : World) (h : IsB w g sv bs) (hlen : bs.length + 1 ≤ 140737488355328) :
    Calls Tryd.prog 28 #[.pointer (some ⟨g, 0, none⟩), .int .u8 c.toNat] w fun e w' => e = .returned .nilIface ∧ ∃ sv', BOut w g sv w' sv' (bs ++ [c]) := by
  have hne := h.ne
  have hlt : ∀ k, sv.ownBlock = some k → k < w.heap.size := fun k hk => (h.own.lt k hk).2
  obtain ⟨A, cp, rfl⟩ := h.slice
  go_enter Tryd.func28, Tryd.ntmps28
  go_wp2_with fail
  refine (copyCheck_calls g _ bs _ h).mono ?_
  rintro e w1 ⟨rfl, hb, hown, hsz, hf⟩
  have c0 : w1.cell? ⟨g, 0, none⟩ = some (.pointer (some ⟨g, 0, none⟩)) := by rw [Lib.cell_of_heap hb]; rfl
  have c1 : w1.cell? ⟨g, 1, none⟩ = some (.slice A bs.length cp) := by rw [Lib.cell_of_heap hb]; rfl
  have Hsz := Lib.hid hsz
  have Hb := Lib.hid hb
  clear hsz hb
  go_wp2_with (at_builtin; refine wpList_append2 _ rfl (.tmp 11) (.tmp 13) 54 rfl 5 (.int .u8 0) 1 1 Tryd.underlying54 infoU8 rfl (by decide) _ bs.length (u8s bs) rfl (hown.alloc _) _ 1 (u8s [c]) rfl (RdB.one _ _ _) (u8s_one _) ?c2 ?c3 ?_)
  case c2 => unfold maxLen; omega
  case c3 => omega
  intro v' w2 ho2 hg2 hn2 _
  have hb1 : (w1.alloc (.cells #[.int .u8 c.toNat] 5)).heap[g]? = _ := blk_alloc Hb.out _
  have hb2 := blk_grown hb1 hg2 hne
  have d0 : w2.cell? ⟨g, 0, none⟩ = some (.pointer (some ⟨g, 0, none⟩)) := by rw [Lib.cell_of_heap hb2]; rfl
  have d1 : w2.cell? ⟨g, 1, none⟩ = some (.slice A bs.length cp) := by rw [Lib.cell_of_heap hb2]; rfl
  have f1 : w2.frozen? ⟨g, 1, none⟩ = false := Lib.frozen_of_heap hb2 1
  clear hb1 hb2
  obtain ⟨A', c', rfl⟩ := own_slice ho2
  have Hfin : Hid (BOut w g (.slice A bs.length cp) (w2.setCell ⟨g, 1, none⟩ (.slice A' (bs.length + 1) c')) (.slice A' (bs.length + 1) c') (bs ++ [c])) :=
    bOut_of (bs := bs) Hb.out Hsz.out hne hlt hf _ ((Below.refl _ _).alloc (Nat.le_refl _) _) (by rw [u8s_app, List.length_append]; exact ho2) hg2 (fun k hk => by have := hn2 k hk; simpa using this)
  clear ho2 hg2 hn2 hown hne hlt hf
  go_wp2
  go_ret
  exact ⟨rfl, _, Hfin.out⟩

set_option maxHeartbeats 2000000 in
theorem writeString_calls (g : Nat) (sv : Value) (bs : List UInt8) (s : ByteArray) (w : World) (h : IsB w g sv bs) (hlen : bs.length + s.size ≤ 140737488355328) :
    Calls Tryd.prog 16 #[.pointer (some ⟨g, 0, none⟩), .string s] w fun e w' => (∃ v, e = .returned v) ∧ ∃ sv', BOut w g sv w' sv' (bs ++ s.data.toList) := by
  have hne := h.ne
  have hlt : ∀ k, sv.ownBlock = some k → k < w.heap.size := fun k hk => (h.own.lt k hk).2
  obtain ⟨A, cp, rfl⟩ := h.slice
  go_enter Tryd.func16, Tryd.ntmps16
  go_wp2_with fail
  refine (copyCheck_calls g _ bs _ h).mono ?_
  rintro e w1 ⟨rfl, hb, hown, hsz, hf⟩
  have c0 : w1.cell? ⟨g, 0, none⟩ = some (.pointer (some ⟨g, 0, none⟩)) := by rw [Lib.cell_of_heap hb]; rfl
  have c1 : w1.cell? ⟨g, 1, none⟩ = some (.slice A bs.length cp) := by rw [Lib.cell_of_heap hb]; rfl
  have Hsz := Lib.hid hsz
  have Hb := Lib.hid hb
  clear hsz hb
  go_wp2_with (at_builtin; refine wpList_append2_string _ rfl (.tmp 12) (.tmp 13) 54 9 rfl 5 Tryd.underlying54 Tryd.underlying9 infoU8 _ bs.length (u8s bs) rfl hown s rfl ?c2 ?_)
  case c2 => omega
  intro v' w2 ho2 hg2 hn2
  have hb2 := blk_grown Hb.out hg2 hne
  have d0 : w2.cell? ⟨g, 0, none⟩ = some (.pointer (some ⟨g, 0, none⟩)) := by rw [Lib.cell_of_heap hb2]; rfl
  have d1 : w2.cell? ⟨g, 1, none⟩ = some (.slice A bs.length cp) := by rw [Lib.cell_of_heap hb2]; rfl
  have f1 : w2.frozen? ⟨g, 1, none⟩ = false := Lib.frozen_of_heap hb2 1
  clear hb2
  obtain ⟨A', c', rfl⟩ := own_slice ho2
  have Hfin : Hid (BOut w g (.slice A bs.length cp) (w2.setCell ⟨g, 1, none⟩ (.slice A' (bs.length + s.size) c')) (.slice A' (bs.length + s.size) c') (bs ++ s.data.toList)) :=
    bOut_of (bs := bs) Hb.out Hsz.out hne hlt hf _ (Below.refl _ _) (by rw [u8s_app, List.length_append, ← size_toList]; exact ho2) hg2 hn2
  clear ho2 hg2 hn2 hown hne hlt hf
  go_wp2
  go_ret2
  exact ⟨⟨_, rfl⟩, _, Hfin.out⟩

theorem bstring_calls (g : Nat) (sv : Value) (bs : List UInt8) (w : World) (B : Nat) (h : IsB w g sv bs) (hB : ∀ k, BS g sv k → B ≤ k) :
    Calls Tryd.prog 20 #[.pointer (some ⟨g, 0, none⟩)] w fun e w' => e = .returned (.string ⟨bs.toArray⟩) ∧ Below B w w' := by
  obtain ⟨p, hp, hb⟩ := h.blk
  have hBg : B ≤ g := hB g (.inl rfl)
  have hAt : Lib.BuilderAt 56 5 B g p (Lib.byteCells bs) w := by
    refine ⟨hBg, sv, hb, ?_, h.ne⟩
    have e : Lib.byteCells bs = u8s bs := rfl
    rw [e, u8s_len]
    refine ⟨h.own.1, ?_⟩
    rcases h.own.2 with h1 | ⟨g', cap, cur, hv, -, r⟩
    · exact .inl h1
    · exact .inr ⟨g', cap, cur, hv, hB g' (.inr (by rw [hv]; rfl)), r⟩
  have hI : Lib.IsBuilder 56 5 B g (Lib.byteCells bs) w := by
    rcases hp with rfl | rfl
    · exact .inl hAt
    · exact .inr hAt
  exact Tryd.Builder_String_any B g bs w hI (by have := blk_lt hb; omega)
end Go.Proofs.YtleajmblagddcaaDoor
