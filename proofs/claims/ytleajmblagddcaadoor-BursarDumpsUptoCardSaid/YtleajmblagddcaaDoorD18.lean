/- Rows of objects: ref27.objectLines, bursar.objects, bursar.more. -/
import Derived.Test.YtleajmblagddcaaDoorD17
import Derived.Laws.BytesArg
import Derived.Laws.BytesString
namespace Go.Proofs.YtleajmblagddcaaDoor
open Go.RowKit
set_option linter.unusedVariables false
set_option linter.unusedSimpArgs false

theorem strOfNums_map (l : List UInt8) : strOfNums (l.map fun b => (b.toNat : Int)) = ⟨l.toArray⟩ := by
  unfold strOfNums
  congr 1
  rw [List.map_map]
  have : (fun n : Int => UInt8.ofNat n.toNat) ∘ (fun b : UInt8 => (b.toNat : Int)) = id := by funext b; simp
  rw [this, List.map_id]
theorem conv_bytes {P : Program} {w : World} {v : Value} {l : List UInt8} (src dst e : TypeId) (hs : P.underlying src = some (.slice e)) (he : P.underlying e = some (.int .u8)) (hd : P.underlying dst = some .string)
    (h : RdB w v l) : (convert src dst v).run P w = .ok (.string ⟨l.toArray⟩) w := by
  by_cases hl : l = []
  · subst hl
    obtain ⟨-, A, c, rfl, hc, hA, hcell⟩ := h
    cases A with
    | none => exact run_convert_bytes_nil w src e hs he _ _ dst hd
    | some ad =>
      rw [run_convert_bytes_string w src dst e _ _ c hs he hd]
      rfl
  · obtain ⟨b, off, c, rfl, hc, hb, hcell⟩ := Rd.some h (by intro e; exact hl (by simpa [u8s] using e))
    have := run_convert_bytes_arg (P := P) w src e hs he b off l.length c (l.map fun b => (b.toNat : Int)) (by simp) (fun i hi => by
      rw [hcell i (.int .u8 (l[i].toNat)) (by simp [u8s, hi])]
      simp [List.getD, hi]) dst hd
    rw [strOfNums_map] at this
    exact this
def obsS (l : List Ob) : List UInt8 := l.flatMap Ob.txt
theorem txt_pos (o : Ob) : 0 < o.txt.length := by simp only [Ob.txt, List.length_append, List.length_cons, List.length_nil]; omega
def OlLoop (w : World) (l : List Ob) (v3 v4 : Value) (w1 : World) : Prop := ∃ i : Nat, i ≤ l.length ∧ v4 = .int .i64 i ∧ w1.ownsRow 0 5 1 v3 (obsS (l.take i)).length (u8s (obsS (l.take i))) ∧ (∀ k, v3.ownBlock = some k → w.heap.size ≤ k) ∧ Below w.heap.size w w1

set_option maxRecDepth 100000 in
set_option maxHeartbeats 1600000 in
theorem robjects_calls (v : Value) (l : List Ob) (w : World) (hl : RdOb w v l) (hlen : (obsS l).length ≤ 1099511627776) (htab : PowTab w) :
    Calls Tryd.prog 12 #[v] w fun e w' => ∃ sv, e = .returned sv ∧ StrIs sv (obsS l) ∧ Below w.heap.size w w' := by
  obtain ⟨A, c, rfl⟩ := hl.1.slice
  have Hl := Lib.hid hl
  have hll : l.length ≤ 1099511627776 := Nat.le_trans (flat_count Ob.txt txt_pos l) hlen
  have Hlen := Lib.hid hlen
  have Htab := Lib.hid htab
  clear hl hlen htab
  go_enter Tryd.func12, Tryd.ntmps12
  go_wp2
  go_loopw [3, 4] (fun v3 v4 w1 => OlLoop w l v3 v4 w1) (fun _ i _ => l.length - (intOf i).toNat)
  case atStart => exact ⟨0, Nat.zero_le _, rfl, World.ownsRow_nil _ _ _ _, (fun k hk => by simp [Value.ownBlock] at hk), Below.refl _ _⟩
  case round =>
    obtain ⟨i, hi, rfl, hown, hnew, hB⟩ := hrel
    have Hown := Lib.hid hown
    have Hnew := Lib.hid hnew
    have HB := Lib.hid hB
    obtain ⟨A3, c3, rfl⟩ := own_slice hown
    by_cases hlt : i < l.length
    · have hd := dT hlt
      obtain ⟨b, off, c', hv, hc', hb, hc0, hc1, hc2, hc3, hc4, hc5, hc6⟩ := Ob.at (Hl.out.below hB) i hlt
      cases hv
      have hok := (Hl.out.2 _ (List.getElem_mem hlt)).below hB
      have HT : Hid (obsS (l.take (i + 1)) = obsS (l.take i) ++ l[i].txt) := take_snoc Ob.txt hlt
      have hsz : (obsS (l.take i)).length + l[i].txt.length ≤ 1099511627776 := Nat.le_trans (take_len_le Ob.txt hlt) Hlen.out
      generalize l[i] = o at hc0 hc1 hc2 hc3 hc4 hc5 hc6 hok HT hsz
      obtain ⟨op, on, olv, oll, opr, ode, opv, opl, ovr⟩ := o
      obtain ⟨A1, c1, hlv⟩ := hok.lb.slice
      obtain ⟨A2, c2, hpv⟩ := hok.pa.1.slice
      change olv = .slice A1 oll.length c1 at hlv
      change opv = .slice A2 opl.length c2 at hpv
      subst hlv hpv
      simp only at hc0 hc1 hc2 hc3 hc4 hc5 hc6
      have Hok := Lib.hid hok
      have hi0 : (0 : Int) ≤ i := by omega
      clear hown hnew hB hok
      go_wp2_with fail
      refine (robject_calls ⟨op, on, .slice A1 oll.length c1, oll, opr, ode, .slice A2 opl.length c2, opl, ovr⟩ _ Hok.out (by omega) (Htab.out.below HB.out)).mono ?_
      rintro e w5 ⟨_, rfl, ⟨t, rfl, ht⟩, h5⟩
      have Ht := Lib.hid ht
      have H5 := Lib.hid h5
      have hts : (obsS (l.take i)).length + t.size ≤ 140737488355328 := by rw [size_toList, ht]; omega
      clear ht h5
      go_wp2_with (at_builtin; refine wpList_append2_string _ rfl (.tmp 11) (.tmp 16) 54 9 rfl 5 Tryd.underlying54 Tryd.underlying9 infoU8 _ _ _ rfl (own_below Hown.out H5.out) t rfl hts ?_)
      intro v' w6 ho6 hg6 hn6
      have Hn : Hid (OlLoop w l v' (.int .i64 ((i : Int) + 1)) w6) := by
        have hsz5 := H5.out.size
        refine ⟨i + 1, hlt, rfl, ?_, ?_, ?_⟩
        · rw [HT.out, List.length_append, u8s_app, ← Ht.out, ← size_toList]; exact ho6
        · intro k hk
          rcases hn6 k hk with h1 | h1
          · exact Hnew.out k h1
          · have := HB.out.size; omega
        · exact ((HB.out.trans (H5.out.mono HB.out.size)).grown hg6 (by have := HB.out.size; omega) (fun k hk => Hnew.out k hk))
      clear ho6 hg6 hn6
      go_wp2
      go_roundw
      case rel => exact Hn.out
      case measure => simp [intOf]; omega
    · obtain rfl : i = l.length := by omega
      have hd := dF hlt
      rw [List.take_length] at Hown
      have hcv := conv_bytes (P := Tryd.prog) 54 9 5 Tryd.underlying54 Tryd.underlying5 Tryd.underlying9 (RdB.of_own Hown.out)
      clear hlt hown hnew hB
      simp only [List.take_length] at hcv ⊢
      go_wp2
      go_ret
      exact ⟨_, rfl, ⟨_, rfl, by simp⟩, HB.out⟩

def OsLoop (w : World) (g : Nat) (sv : Value) (bs : List UInt8) (l : List Ob) (v8 : Value) (w1 : World) : Prop := ∃ (i : Nat) (s1 : Value), i ≤ l.length ∧ v8 = .int .i64 i ∧ BOut w g sv w1 s1 (bs ++ obsS (l.take i))

set_option maxRecDepth 100000 in
set_option maxHeartbeats 1600000 in
theorem objects_calls (w0 w : World) (g : Nat) (sv : Value) (bs : List UInt8) (v : Value) (l : List Ob) (h0 : Below w0.heap.size w0 w) (hIs : IsB w g sv bs) (hS : ∀ k, BS g sv k → w0.heap.size ≤ k) (hl : RdOb w0 v l) (hlen : (bs ++ obsS l).length ≤ 1099511627776) (hU : Uni w0) (htab : PowTab w0) :
    Calls Tryd.prog 17 #[.pointer (some ⟨g, 0, none⟩), v] w fun e w' => e = .returned (.tuple #[]) ∧ ∃ s', BOut w g sv w' s' (bs ++ obsS l) := by
  obtain ⟨A, c, rfl⟩ := hl.1.slice
  have Hl := Lib.hid hl
  have hll : l.length ≤ 1099511627776 := by have := flat_count Ob.txt txt_pos l; rw [List.length_append] at hlen; rw [show l.flatMap Ob.txt = obsS l from rfl] at this; omega
  have Hlen := Lib.hid hlen
  have H0 := Lib.hid h0
  have HS := Lib.hid hS
  have HU := Lib.hid hU
  have Htab := Lib.hid htab
  have HIs := Lib.hid hIs
  clear hl hlen h0 hS hU htab hIs
  go_enter Tryd.func17, Tryd.ntmps17
  go_wp2
  go_loopw [8] (fun v8 w1 => OsLoop w g sv bs l v8 w1) (fun i _ => l.length - (intOf i).toNat)
  case atStart => exact ⟨0, sv, Nat.zero_le _, rfl, by simpa [obsS] using BOut.refl HIs.out⟩
  case round =>
    obtain ⟨i, s1, hi, rfl, hO⟩ := hrel
    have HO := Lib.hid hO
    have hB0 : Below w0.heap.size w0 wr := H0.out.trans (hO.keep HS.out H0.out.size).2
    have HB0 := Lib.hid hB0
    by_cases hlt : i < l.length
    · have hd := dT hlt
      obtain ⟨b, off, c', hv, hc', hb, hc0, hc1, hc2, hc3, hc4, hc5, hc6⟩ := Ob.at (Hl.out.below hB0) i hlt
      cases hv
      have hok := Hl.out.2 _ (List.getElem_mem hlt)
      have HT : Hid (obsS (l.take (i + 1)) = obsS (l.take i) ++ l[i].txt) := take_snoc Ob.txt hlt
      have hsz : (bs ++ obsS (l.take i)).length + l[i].txt.length ≤ 1099511627776 := by
        have h1 : (obsS (l.take i)).length + l[i].txt.length ≤ (obsS l).length := take_len_le Ob.txt hlt
        have h2 := Hlen.out
        rw [List.length_append] at h2 ⊢; omega
      generalize l[i] = o at hc0 hc1 hc2 hc3 hc4 hc5 hc6 hok HT hsz
      obtain ⟨op, on, olv, oll, opr, ode, opv, opl, ovr⟩ := o
      obtain ⟨A1, c1, hlv⟩ := hok.lb.slice
      obtain ⟨A2, c2, hpv⟩ := hok.pa.1.slice
      change olv = .slice A1 oll.length c1 at hlv
      change opv = .slice A2 opl.length c2 at hpv
      subst hlv hpv
      simp only at hc0 hc1 hc2 hc3 hc4 hc5 hc6
      have Hok := Lib.hid hok
      have hi0 : (0 : Int) ≤ i := by omega
      have HBa : Hid (Below wr.heap.size wr (wr.alloc (.cells #[.string op, .string on, .slice A1 oll.length c1, .int .i64 opr, .int .i64 ode, .slice A2 opl.length c2, .int .i64 ovr] 88))) := (Below.refl _ _).alloc (Nat.le_refl _) _
      have HPa : Hid (Below w0.heap.size w0 (wr.alloc (.cells #[.string op, .string on, .slice A1 oll.length c1, .int .i64 opr, .int .i64 ode, .slice A2 opl.length c2, .int .i64 ovr] 88))) := HB0.out.trans (HBa.out.mono HB0.out.size)
      clear hok hO hB0
      go_wp2_with fail
      refine (object_calls ⟨op, on, .slice A1 oll.length c1, oll, opr, ode, .slice A2 opl.length c2, opl, ovr⟩ _ (Hok.out.below HPa.out) (by omega) (HU.out.below HPa.out) (Htab.out.below HPa.out)).mono ?_
      rintro e w5 ⟨rfl, h5⟩
      have H5 := Lib.hid ((HO.out.below HBa.out).below h5)
      clear h5
      go_wp2_with fail
      refine (writeString_calls g s1 (bs ++ obsS (l.take i)) _ _ H5.out.is (by rw [ba_size]; omega)).mono ?_
      rintro e w6 ⟨⟨_, rfl⟩, s6, h6⟩
      have Hn : Hid (OsLoop w g sv bs l (.int .i64 ((i : Int) + 1)) w6) := by
        refine ⟨i + 1, s6, hlt, rfl, ?_⟩
        have := H5.out.trans h6
        rw [HT.out, ← List.append_assoc]
        simpa using this
      clear h6
      go_wp2
      go_roundw
      case rel => exact Hn.out
      case measure => simp [intOf]; omega
    · obtain rfl : i = l.length := by omega
      have hd := dF hlt
      clear hlt hO hB0
      go_wp2
      go_end0
      exact ⟨rfl, s1, by have := HO.out; rw [List.take_length] at this; exact this⟩
end Go.Proofs.YtleajmblagddcaaDoor
