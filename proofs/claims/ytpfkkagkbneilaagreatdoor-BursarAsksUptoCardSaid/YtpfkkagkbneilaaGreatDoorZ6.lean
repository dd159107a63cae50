/- Texts G3, G4, G5, G6, G7, G8 of the proof of BursarAsks, joined. -/
import Derived.Test.YtpfkkagkbneilaaGreatDoorZ2
import Derived.Test.YtpfkkagkbneilaaGreatDoorZ4
import Derived.Test.YtpfkkagkbneilaaGreatDoorZ5
import Derived.Shelf.Strings.SlTrimAscii
import Derived.Laws.EntriesVeiled
import Derived.Laws.Runes
import Derived.Laws.IdiomStrings
namespace Go.Proofs.YtpfkkagkbneilaaGreatDoor
open Go.RowKit
set_option linter.unusedVariables false
set_option linter.unusedSimpArgs false
def unitsT:List (Str × Nat):=qunits
def textsT:List Str := [[97,108,108], [98,101,115,116], [110,111,116,98,101,115,116], [101,110,100,115], [110,111,116,101,110,100,115], [112,114,105,111,114,105,116,121,61]]
def verbsT:List Str := [[114,101,97,100], [119,114,105,116,101], [103,111,118,101,114,110], [98,105,110,100]]
structure Glob (w:World):Prop where
 len:∃ m:Int,w.cell? ⟨0,0,none⟩ = some (.int .i64 m)
 uni:∀ i (h:i < qunits.length),w.cell? ⟨3,i * 2,none⟩ = some (.string (sb qunits[i].1)) ∧ w.cell? ⟨3,i * 2 + 1,none⟩ = some (.int .u64 (qunits[i].2:Nat))
 txt:∀ i (h:i < textsT.length),w.cell? ⟨2,i,none⟩ = some (.string (sb textsT[i]))
 vrb:∀ i (h:i < verbsT.length),w.cell? ⟨1,i,none⟩ = some (.string (sb verbsT[i]))
theorem Glob.keep {S:Nat → Prop} {w w1:World} (h:Glob w) (hf:Fr S w w1) (hS:∀ k,S k → 4 ≤ k):Glob w1:=by
 have key:∀ {a:Addr} {v:Value},a.block < 4 → w.cell? a = some v → w1.cell? a = some v:=fun ha hc=>hf.cell hc (fun hs=>by have:=hS _ hs;omega)
 obtain ⟨m,hm⟩:=h.len
 exact ⟨⟨m,key (by decide) hm⟩,fun i hi=>⟨key (show (3:Nat) < 4 by decide) (h.uni i hi).1,key (show (3:Nat) < 4 by decide) (h.uni i hi).2⟩,
  fun i hi=>key (show (2:Nat) < 4 by decide) (h.txt i hi),fun i hi=>key (show (1:Nat) < 4 by decide) (h.vrb i hi)⟩
theorem Glob.size {w:World} (h:Glob w):4 ≤ w.heap.size:=by
 have:=World.block_lt_of_cell? w _ (h.uni 0 (by decide)).1
 exact this
theorem Glob.below {w w1:World} (h:Glob w) (hb:Below w.heap.size w w1):Glob w1:=h.keep (Fr.of_below hb (fun _=>False)) (fun _ h=>h.elim)
theorem cut_lib {sep:Str} (hs:sep ≠ []):∀ s:Str,Lib.cut s sep = match cutAt sep s with
  | some x=>(x.1,x.2,true)
  | none=>(s, [],false):=by
 have key:∀ s:Str,match cutAt sep s with
   | some x=>Lib.index s sep = (x.1.length:Int) ∧ s.take x.1.length = x.1 ∧ s.drop (x.1.length + sep.length) = x.2
   | none=>Lib.index s sep = -1:=by
  intro s
  induction s with
  | nil=>simp [cutAt,Lib.index,hs]
  | cons a r ih=>
   unfold cutAt
   by_cases h:sep.isPrefixOf (a :: r) = true
   ·simp [h,Lib.index]
   ·rw [if_neg h]
    cases hc:cutAt sep r with
    | none=>
     rw [hc] at ih
     simp only [Option.map_none]
     unfold Lib.index
     rw [if_neg h,ih];rfl
    | some x=>
     rw [hc] at ih
     obtain ⟨h1,h2,h3⟩:=ih
     simp only [Option.map_some]
     refine ⟨?_,?_,?_⟩
     ·unfold Lib.index
      rw [if_neg h,h1,if_neg (by simp <;> omega)];simp
     ·simp [h2]
     ·rw [List.length_cons,show x.1.length + 1 + sep.length = x.1.length + sep.length + 1 by omega,List.drop_succ_cons,h3]
 intro s
 have:=key s
 unfold Lib.cut
 cases hc:cutAt sep s with
 | none=>rw [hc] at this;rw [this];rfl
 | some x=>
  rw [hc] at this
  obtain ⟨h1,h2,h3⟩:=this
  rw [h1,if_pos (by omega),Int.toNat_natCast,h2,h3]
theorem pieces_cut (c:UInt8) (s:Str):pieces c s = match cutAt [c] s with
  | some x=>x.1 :: pieces c x.2
  | none => [s]:=by
 induction s with
 | nil=>simp [pieces,cutAt]
 | cons a r ih=>
  rw [pieces,cutAt]
  by_cases h:a = c
  ·subst h
   simp [List.isPrefixOf]
  ·have h2:([c] : Str).isPrefixOf (a :: r) = false:=by simp [List.isPrefixOf];exact fun e=>h e.symm
   rw [if_neg h,if_neg (by rw [h2];decide),ih]
   cases hc:cutAt [c] r with
   | none=>rfl
   | some x=>rfl
theorem cutAt_len {sep s:Str} {x:Str × Str} (h:cutAt sep s = some x):x.1.length + sep.length + x.2.length = s.length:=by
 induction s generalizing x with
 | nil=>
  unfold cutAt at h
  split at h
  ·rename_i h2;cases h;simp [h2]
  ·cases h
 | cons a r ih=>
  unfold cutAt at h
  split at h
  ·rename_i h2
   cases h
   have:=List.IsPrefix.length_le (List.isPrefixOf_iff_prefix.1 h2)
   simp only [List.length_nil,List.length_drop];omega
  ·obtain ⟨y,hy,rfl⟩:=Option.map_eq_some_iff.1 h
   have:=ih hy
   simp only [List.length_cons];omega
theorem index_cut {sep s:Str} (hs:sep ≠ []):match cutAt sep s with
   | some x=>Lib.index s sep = (x.1.length:Int) ∧ s.take x.1.length = x.1 ∧ s.drop (x.1.length + sep.length) = x.2
   | none=>Lib.index s sep = -1:=by
 have h:=cut_lib hs s
 have hge:=Lib.index_ge s sep
 cases hc:cutAt sep s with
 | none=>
  rw [hc] at h
  unfold Lib.cut at h
  simp only
  split at h
  ·have:=congrArg (fun y=>y.2.2) h
   cases this
  ·omega
 | some x=>
  rw [hc] at h
  unfold Lib.cut at h
  split at h
  ·rename_i h0
   simp only [Prod.mk.injEq] at h
   obtain ⟨h1,h2, -⟩:=h
   have hl:=cutAt_len hc
   have hlen:x.1.length = (Lib.index s sep).toNat:=by
    rw [← h1,List.length_take]
    have h3:(Lib.index s sep).toNat ≤ s.length:=by
     rcases Nat.le_total (Lib.index s sep).toNat s.length with h4 | h4
     ·exact h4
     ·have e1:x.1 = s:=by rw [← h1,List.take_of_length_le h4]
      have e2:0 < sep.length:=List.length_pos_iff.2 hs
      rw [e1] at hl;omega
    omega
   refine ⟨by omega,by rw [hlen];exact h1,by rw [hlen];exact h2⟩
  ·have:=congrArg (fun y=>y.2.2) h
   cases this
theorem split_pieces (c:UInt8):∀ (k:Nat) (s:Str),s.count c ≤ k → Lib.splitK [c] 0 k s = pieces c s:=by
 intro k
 induction k with
 | zero=>
  intro s h
  have:c ∉ s:=by
   intro hm
   have:=List.count_pos_iff.2 hm
   omega
  rw [pieces_free this];rfl
 | succ k ih=>
  intro s h
  rw [pieces_cut]
  have hi:=index_cut (sep := [c]) (s:=s) (by simp)
  unfold Lib.splitK
  cases hc:cutAt [c] s with
  | none=>
   rw [hc] at hi
   simp only at hi ⊢
   rw [hi];rfl
  | some x=>
   rw [hc] at hi
   obtain ⟨h1,h2,h3⟩:=hi
   rw [h1,if_neg (by simp <;> omega)]
   simp only [Int.toNat_natCast,Nat.add_zero,h2,h3]
   have hsp:s = x.1 ++ c :: x.2:=by
    have h4:s = s.take x.1.length ++ s.drop x.1.length:=(List.take_append_drop _ _).symm
    have h5:s.drop x.1.length = (s.drop x.1.length).take 1 ++ s.drop (x.1.length + 1):=by rw [← List.drop_drop,List.take_append_drop]
    have hpre:∀ (t:Str) (y:Str × Str),cutAt [c] t = some y → (t.drop y.1.length).take 1 = [c]:=by
     intro t
     induction t with
     | nil=>intro y hy;simp [cutAt] at hy
     | cons a r iht=>
      intro y hy
      unfold cutAt at hy
      split at hy
      ·rename_i hp;cases hy;simp [List.isPrefixOf] at hp;simp [hp]
      ·obtain ⟨z,hz,rfl⟩:=Option.map_eq_some_iff.1 hy
       simpa using iht z hz
    rw [h4,h2,h5,hpre s x hc]
    have h3' : s.drop (x.1.length + 1) = x.2:=h3
    rw [h3'];rfl
   congr 1
   apply ih
   rw [hsp,List.count_append,List.count_cons_self] at h
   omega
theorem pieces_count (c:UInt8) (s:Str):(pieces c s).length = s.count c + 1:=by
 induction s with
 | nil=>rfl
 | cons a r ih=>
  unfold pieces
  by_cases h:a = c
  ·subst h;simp [ih]
  ·rw [if_neg h,List.count_cons_of_ne h]
   split
   ·rename_i h2;exact absurd h2 (pieces_ne c r)
   ·rename_i p q h2;rw [h2] at ih;simpa using ih
theorem join_lib (sep:Str):∀ l:List Str,Lib.join l sep = joinS sep l
 | []=>rfl
 | [a]=>by simp [Lib.join_one,joinS]
 | a :: b :: r=>by
  have h:=join_lib sep (b :: r)
  rw [Lib.join_cons] at h ⊢
  simp only [joinS,← h,Lib.joinTail,List.map_cons,List.flatten_cons]
  simp
theorem blank_cs (b:UInt8):([32,9] : Str).contains b = blank b:=by
 simp only [blank,List.contains,List.elem]
 cases b == 32 <;> cases b == 9 <;> rfl
theorem parse_lib {l:Str} (hne:l ≠ []) (hd:∀ b ∈ l,isDg b = true) (hl:l.length ≤ 19):Lib.parseUintB 64 l = .ok (numv l):=by
 have dgi:∀ c:UInt8,isDg c = true → 48 ≤ c.toNat ∧ c.toNat ≤ 57:=by
  intro c h
  simp only [isDg,Bool.and_eq_true,decide_eq_true_eq,UInt8.le_iff_toNat_le] at h
  exact h
 have key:∀ (l:Str) (acc j:Nat),(∀ b ∈ l,isDg b = true) → acc < 10 ^ j → j + l.length ≤ 19 → Lib.parseUintM (2 ^ 64 - 1) acc l = .ok (l.foldl (fun n b=>n * 10 + (b.toNat - 48)) acc):=by
  intro l
  induction l with
  | nil=>intro acc j _ _ _;rfl
  | cons c r ih=>
   intro acc j h1 h2 h3
   obtain ⟨g1,g2⟩:=dgi c (h1 c List.mem_cons_self)
   have hj:10 ^ j ≤ 10 ^ 18:=Nat.pow_le_pow_right (by decide) (by simp only [List.length_cons] at h3;omega)
   unfold Lib.parseUintM
   rw [if_pos ⟨g1,g2⟩,if_neg (by omega)]
   rw [if_neg (by omega)]
   rw [List.foldl_cons]
   exact ih _ (j + 1) (fun b hb=>h1 b (List.mem_cons_of_mem _ hb)) (by rw [Nat.pow_succ];omega) (by simp only [List.length_cons] at h3;omega)
 unfold Lib.parseUintB
 rw [if_neg hne]
 exact key l 0 0 hd (by decide) (by omega)
end Go.Proofs.YtpfkkagkbneilaaGreatDoor
namespace Go.Proofs.YtpfkkagkbneilaaGreatDoor
open Go.RowKit
set_option linter.unusedVariables false
set_option linter.unusedSimpArgs false
def cutR (sep s:Str):Str × Str × Bool:=match cutAt sep s with
 | some x=>(x.1,x.2,true)
 | none=>(s, [],false)
theorem lcut_calls (w:World) (G:Glob w) (s sep:Str) (hs:s.length ≤ 4194304) (hne:sep ≠ []) :
  Calls Tryz.prog 11 #[.string (sb s),.string (sb sep)] w fun e w'=>e = .returned (.tuple #[.string (sb (cutR sep s).1),.string (sb (cutR sep s).2.1),.bool (cutR sep s).2.2]) ∧ Below w.heap.size w w':=by
 obtain ⟨m,hm⟩:=G.len
 refine (Tryz.strings_Cut (sb s) (sb sep) m w (by rw [sb_size];omega) hm).mono ?_
 rintro e w' ⟨rfl,n,rfl⟩
 refine ⟨?_,drewB (Below.refl _ _) n⟩
 rw [sb_toList,sb_toList,cut_lib hne]
 rfl
theorem lcontains_calls (w:World) (s:Str) (c:UInt8):Calls Tryz.prog 10 #[.string (sb s),.string (sb [c])] w fun e w'=>e = .returned (.bool (decide (c ∈ s))) ∧ Below w.heap.size w w':=by
 refine (Tryz.strings_Contains_one (sb s) c w).mono ?_
 rintro e w' ⟨rfl,rfl⟩
 refine ⟨?_,Below.refl _ _⟩
 have key:∀ l:Str,(0 ≤ Lib.indexByte l c ↔ c ∈ l) ∧ -1 ≤ Lib.indexByte l c:=by
  intro l
  induction l with
  | nil=>simp [Lib.indexByte]
  | cons a r ih=>
   unfold Lib.indexByte
   by_cases h:(a == c) = true
   ·have h2:a = c:=by simpa using h
    rw [if_pos h];simp [h2]
   ·rw [if_neg h]
    have h2:¬ a = c:=by simpa using h
    have h3:¬ c = a:=fun e=>h2 e.symm
    by_cases h4:Lib.indexByte r c = -1
    ·rw [if_pos (by rw [h4];rfl)]
     have:c ∉ r:=fun hm=>by have:=ih.1.2 hm;omega
     simp [h3,this]
    ·rw [if_neg (by simpa using h4)]
     have h5:c ∈ r:=ih.1.1 (by omega)
     have:=ih.1.2 h5
     simp [h5];omega
 rw [sb_toList]
 congr 2
 exact decide_eq_decide.2 (key s).1
theorem lcutpre_calls (w:World) (s p:Str):Calls Tryz.prog 124 #[.string (sb s),.string (sb p)] w fun e w'=>e = .returned (.tuple #[.string (sb ((cutPre p s).getD s)),.bool (cutPre p s).isSome]) ∧ Below w.heap.size w w':=by
 refine (Tryz.strings_CutPrefix (sb s) (sb p) w).mono ?_
 rintro e w' ⟨rfl,rfl⟩
 refine ⟨?_,Below.refl _ _⟩
 rw [sb_toList,sb_toList]
 unfold Lib.trimPrefix Lib.hasPrefix cutPre
 split
 ·rename_i h;rw [h];rfl
 ·rename_i h;rw [Bool.not_eq_true] at h;rw [h];rfl
theorem lcutsuf_calls (w:World) (s p:Str) (hs:s.length ≤ 4194304):Calls Tryz.prog 153 #[.string (sb s),.string (sb p)] w fun e w'=>e = .returned (.tuple #[.string (sb ((cutSuf p s).getD s)),.bool (cutSuf p s).isSome]) ∧ Below w.heap.size w w':=by
 refine (Tryz.strings_CutSuffix (sb s) (sb p) w (by rw [sb_size];omega)).mono ?_
 rintro e w' ⟨rfl,rfl⟩
 refine ⟨?_,Below.refl _ _⟩
 rw [sb_toList,sb_toList]
 unfold Lib.trimSuffix Lib.hasSuffix cutSuf
 split
 ·rename_i h;rw [h];rfl
 ·rename_i h;rw [Bool.not_eq_true] at h;rw [h];rfl
theorem lhassuf_calls (w:World) (s p:Str) (hs:s.length ≤ 4194304):Calls Tryz.prog 146 #[.string (sb s),.string (sb p)] w fun e w'=>e = .returned (.bool (p.isSuffixOf s)) ∧ Below w.heap.size w w':=by
 refine (Tryz.strings_HasSuffix (sb s) (sb p) w (by rw [sb_size];omega)).mono ?_
 rintro e w' ⟨rfl,rfl⟩
 exact ⟨rfl,Below.refl _ _⟩
theorem lhaspre_calls (w:World) (s p:Str):Calls Tryz.prog 141 #[.string (sb s),.string (sb p)] w fun e w'=>e = .returned (.bool (p.isPrefixOf s)) ∧ Below w.heap.size w w':=by
 refine (Tryz.strings_HasPrefix (sb s) (sb p) w).mono ?_
 rintro e w' ⟨rfl,rfl⟩
 exact ⟨rfl,Below.refl _ _⟩
theorem ltrimsuf_calls (w:World) (s p:Str) (hs:s.length ≤ 4194304):Calls Tryz.prog 147 #[.string (sb s),.string (sb p)] w fun e w'=>e = .returned (.string (sb (if p.isSuffixOf s = true then s.take (s.length - p.length) else s))) ∧ Below w.heap.size w w':=by
 refine (Tryz.strings_TrimSuffix (sb s) (sb p) w (by rw [sb_size];omega)).mono ?_
 rintro e w' ⟨rfl,rfl⟩
 exact ⟨rfl,Below.refl _ _⟩
def digitsC:Str := [48,49,50,51,52,53,54,55,56,57]
theorem ltrim_calls (w:World) (s:Str) (hs:s.length ≤ 4194304):Calls Tryz.prog 170 #[.string (sb s),.string (sb digitsC)] w fun e w' => ∃ t:Str,e = .returned (.string (sb t)) ∧ (t = [] ↔ s.all isDg = true) ∧ Below w.heap.size w w':=by
 refine (Any.strings_Trim_laid Tryz.lays160 (by kernel_rfl) (sb s) (sb digitsC) w (by rw [sb_size];omega) (by rw [sb_size];decide) ?_).mono ?_
 ·rw [sb_toList]
  intro j b hb
  have:b ∈ digitsC:=List.mem_of_getElem? hb
  simp only [digitsC,List.mem_cons,List.not_mem_nil,or_false] at this
  rcases this with rfl | rfl | rfl | rfl | rfl | rfl | rfl | rfl | rfl | rfl <;> decide
 rintro e w' ⟨rfl,hb⟩
 refine ⟨Lib.trimS s digitsC,rfl,?_,hb⟩
 have hcs:∀ b:UInt8,digitsC.contains b = isDg b:=by
  intro b
  have key:∀ n:Fin 256,digitsC.contains (UInt8.ofFin n) = isDg (UInt8.ofFin n):=by decide +kernel
  exact key b.toFin
 have dall:∀ (l:Str),l.dropWhile (digitsC.contains ·) = [] ↔ l.all isDg = true:=by
  intro l
  induction l with
  | nil=>simp
  | cons a r ih=>
   rw [List.dropWhile_cons,List.all_cons,hcs a]
   by_cases h:isDg a = true
   ·rw [if_pos h,h,ih];simp
   ·rw [if_neg h];simp [h]
 unfold Lib.trimS Lib.trimLeftS Lib.trimRightS
 rw [dall]
 constructor
 ·intro h
  rw [← List.all_reverse]
  rw [← dall]
  cases hr:s.reverse.dropWhile (digitsC.contains ·) with
  | nil=>rfl
  | cons a q=>
   rw [hr,List.all_reverse,List.all_cons,Bool.and_eq_true] at h
   have h2:=List.head?_dropWhile_not (digitsC.contains ·) s.reverse
   rw [hr] at h2
   simp only [List.head?_cons] at h2
   rw [hcs a,h.1] at h2
   simp at h2
 ·intro h
  have h3:s.reverse.dropWhile (digitsC.contains ·) = []:=(dall _).2 (by rw [List.all_reverse];exact h)
  rw [h3];rfl
theorem ltriml_calls (w:World) (s:Str):Calls Tryz.prog 44 #[.string (sb s),.string (sb [32,9])] w fun e w'=>e = .returned (.string (sb (dropB s))) ∧ Below w.heap.size w w':=by
 refine (Any.strings_TrimLeft_laid Tryz.lays161 (by kernel_rfl) (sb s) (sb [32,9]) w (by rw [sb_size];decide) ?_).mono ?_
 ·rw [sb_toList]
  intro j b hb
  have:b ∈ ([32,9] : Str):=List.mem_of_getElem? hb
  simp only [List.mem_cons,List.not_mem_nil,or_false] at this
  rcases this with rfl | rfl <;> decide
 rintro e w' ⟨rfl,hb⟩
 refine ⟨?_,hb⟩
 unfold Lib.trimLeftS dropB
 simp only [sb_toList,blank_cs];rfl
theorem ltrimr_calls (w:World) (s:Str) (hs:s.length ≤ 4194304):Calls Tryz.prog 104 #[.string (sb s),.string (sb [32,9])] w fun e w'=>e = .returned (.string (sb (trimRB s))) ∧ Below w.heap.size w w':=by
 refine (Any.strings_TrimRight_laid Tryz.lays162 (by kernel_rfl) (sb s) (sb [32,9]) w (by rw [sb_size];omega) (by rw [sb_size];decide) ?_).mono ?_
 ·rw [sb_toList]
  intro j b hb
  have:b ∈ ([32,9] : Str):=List.mem_of_getElem? hb
  simp only [List.mem_cons,List.not_mem_nil,or_false] at this
  rcases this with rfl | rfl <;> decide
 rintro e w' ⟨rfl,hb⟩
 refine ⟨?_,hb⟩
 unfold Lib.trimRightS trimRB
 simp only [sb_toList,blank_cs];rfl
theorem rdT_block (w:World) (l:List Str) (t:TypeId):RdT (w.alloc (.cells (l.map fun s=>Value.string (sb s)).toArray t)) (.slice (some ⟨w.heap.size,0,none⟩) l.length l.length) l:=by
 have e:l.flatMap strC = l.map fun s=>Value.string (sb s):=by
  induction l with
  | nil=>rfl
  | cons a r ih=>rw [List.flatMap_cons,ih];rfl
 refine ⟨by rw [flat_len strC_len],_,_,rfl,Nat.le_refl _,(fun h=>by cases h),fun ad hA j u hu=>?_⟩
 cases hA
 rw [e] at hu
 have ea:(Addr.mk w.heap.size 0 none).add j = Addr.mk w.heap.size j none:=by unfold Addr.add;split <;> simp_all
 rw [ea]
 simp only [World.cell?,blk_new]
 simpa using hu
theorem lsplit_calls (w:World) (G:Glob w) (s:Str) (c:UInt8) (hs:s.length ≤ 4194304) :
  Calls Tryz.prog 127 #[.string (sb s),.string (sb [c])] w fun e w'=>e = .returned (.slice (some ⟨w.heap.size,0,none⟩) (pieces c s).length (pieces c s).length) ∧ w' = w.alloc (.cells ((pieces c s).map fun s=>Value.string (sb s)).toArray 9):=by
 obtain ⟨m,hm⟩:=G.len
 refine (Tryz.strings_Split (sb s) (sb [c]) m w (by rw [sb_size];omega) hm (by rw [sb_size];exact Nat.le_refl 1)).mono ?_
 rintro e w' ⟨rfl,rfl⟩
 have hk:Lib.countB (sb s) (sb [c]) = s.count c:=by
  have key:∀ (n:Nat) (s:Str),s.length ≤ n → Lib.countB (sb s) (sb [c]) = s.count c:=by
   intro n
   induction n with
   | zero=>
    intro s h
    have:s = []:=List.eq_nil_of_length_eq_zero (by omega)
    subst this
    exact Lib.countB_miss _ _ rfl
   | succ n ih=>
    intro s h
    have hi:=index_cut (sep := [c]) (s:=s) (by simp)
    cases hc:cutAt [c] s with
    | none=>
     rw [hc] at hi
     simp only at hi
     rw [Lib.countB_miss _ _ hi]
     have hp:=pieces_cut c s
     rw [hc] at hp
     have h2:=pieces_count c s
     rw [hp] at h2
     simp only [List.length_singleton] at h2
     omega
    | some x=>
     rw [hc] at hi
     obtain ⟨h1,h2,h3⟩:=hi
     have hl:x.1.length + 1 + x.2.length = s.length:=cutAt_len hc
     rw [Lib.countB_hit (sb s) (sb [c]) x.1.length (by rw [sb_size];exact Nat.le_refl 1) h1]
     rw [sb_extract,sb_size,sb_size,show ([c] : Str).length = 1 from rfl]
     have e3:s.drop (x.1.length + 1) = x.2:=h3
     rw [e3,List.take_of_length_le (by omega),ih x.2 (by omega)]
     have hp:=pieces_cut c s
     rw [hc] at hp
     have h4:=pieces_count c s
     rw [hp,List.length_cons,pieces_count] at h4
     omega
  exact key _ s (Nat.le_refl _)
 have hsp:(Lib.splitB (sb [c]) 0 (s.count c) (sb s)) = (pieces c s).map sb:=by
  have h1:=Lib.splitB_data (sb [c]) 0 (s.count c) (sb s)
  rw [sb_toList,sb_toList,split_pieces c _ s (Nat.le_refl _)] at h1
  rw [← h1,List.map_map]
  conv=>lhs;rw [← List.map_id (Lib.splitB (sb [c]) 0 (s.count c) (sb s))]
  rfl
 rw [hk,hsp,pieces_count,List.map_map]
 exact ⟨rfl,rfl⟩
theorem rdT_cells {w:World} {v:Value} {l:List Str} (h:RdT w v l) (hn:l ≠ []):∃ bk o c,v = .slice (some ⟨bk,o,none⟩) (l.map sb).length c ∧ (l.map sb).length ≤ c ∧ bk < w.heap.size ∧ ∀ (j:Nat) x,(l.map sb)[j]? = some x → w.cell? ⟨bk,o + j,none⟩ = some (.string x):=by
 obtain ⟨b,off,c,hv,hc,hb,hcell⟩:=h.some hn
 refine ⟨b,off,c,by simpa using hv,by simpa using hc,hb,fun j x hx=>?_⟩
 rw [List.getElem?_map] at hx
 obtain ⟨y,hy,rfl⟩:=Option.map_eq_some_iff.1 hx
 obtain ⟨hlt,rfl⟩:=List.getElem?_eq_some_iff.1 hy
 exact hcell j hlt
theorem ljoin_calls (w:World) (v:Value) (l:List Str) (sep:Str) (h:RdT w v l) (hn:l ≠ []) (hl:l.length ≤ 4194304) (hlen:(joinS sep l).length ≤ 140737488355328) :
  Calls Tryz.prog 156 #[v,.string (sb sep)] w fun e w'=>e = .returned (.string (sb (joinS sep l))) ∧ Below w.heap.size w w':=by
 obtain ⟨bk,o,c,rfl,hc,hb,hcell⟩:=rdT_cells h hn
 have e:(l.map sb).map (·.data.toList) = l:=by
  rw [List.map_map]
  conv=>rhs;rw [← List.map_id l]
  rfl
 refine (Tryz.strings_Join bk o c (l.map sb) (sb sep) w hcell hb (by rw [List.length_map];omega) hc (by rw [e,sb_toList,join_lib];exact hlen)).mono ?_
 rintro e' w' ⟨rfl,hb'⟩
 refine ⟨?_,hb'⟩
 rw [e,sb_toList,join_lib];rfl
theorem lparse_calls (w:World) (l:Str) (hne:l ≠ []) (hd:∀ b ∈ l,isDg b = true) (hl:l.length ≤ 19) :
  Calls Tryz.prog 149 #[.string (sb l),.int .i64 10,.int .i64 64] w fun e w'=>e = .returned (.tuple #[.int .u64 (numv l:Nat),.nilIface]) ∧ Below w.heap.size w w':=by
 refine (Tryz.strconv_ParseUint_10_at64_ok (sb l) (by rw [sb_size];omega) (numv l) (parse_lib hne hd hl) w).mono ?_
 rintro e w' ⟨rfl,hw⟩
 refine ⟨rfl,?_⟩
 rcases hw with rfl | rfl
 ·exact Below.refl _ _
 ·exact Lib.bytesWorld_below _ _ _
end Go.Proofs.YtpfkkagkbneilaaGreatDoor
namespace Go.Proofs.YtpfkkagkbneilaaGreatDoor
open Go.RowKit
set_option linter.unusedVariables false
set_option linter.unusedSimpArgs false
def ceilQ (N d:Nat):Option Nat:=if (N + d - 1) / d ≤ 9223372036854775807 then some ((N + d - 1) / d) else none
theorem ceilQ_eq (N d:Nat) (hd:0 < d):ceilQ N d = if N / d + (if N % d = 0 then 0 else 1) ≤ 9223372036854775807 then some (N / d + if N % d = 0 then 0 else 1) else none:=by
 unfold ceilQ;rw [ceil_div _ _ hd]
set_option maxRecDepth 100000 in
set_option maxHeartbeats 3200000 in
theorem over_calls (w:World) (N d:Nat) (hN:N < 18446744073709551616 * 18446744073709551616) (hd:0 < d) (hd2:d < 9223372036854775808) :
  Calls Tryz.prog 151 #[.int .u64 ((N / 18446744073709551616:Nat):Int),.int .u64 ((N % 18446744073709551616:Nat):Int),.int .u64 d] w fun e w' => ∃ v ec:Int,e = .returned (.tuple #[.int .i64 v,.int .i64 ec]) ∧ QRes (ceilQ N d) v ec ∧ Below w.heap.size w w':=by
 obtain ⟨hi,hhi⟩ : ∃ a,a = N / 18446744073709551616:=⟨_,rfl⟩
 obtain ⟨lo,hlo⟩ : ∃ a,a = N % 18446744073709551616:=⟨_,rfl⟩
 have hNe:N = hi * 18446744073709551616 + lo:=by omega
 have hlo2:lo < 18446744073709551616:=by omega
 have hhi2:hi < 18446744073709551616:=by omega
 rw [← hhi,← hlo]
 have Hspec:=Lib.hid (ceilQ_eq N d hd)
 clear hhi hlo hN
 by_cases hge:d ≤ hi
 ·have Hnone:Hid (ceilQ N d = none):=by
   show _ = _
   rw [Hspec.out,if_neg]
   have h1:18446744073709551616 ≤ N / d:=by
    rw [Nat.le_div_iff_mul_le hd,hNe]
    rw [Nat.mul_comm]
    exact Nat.le_trans (Nat.mul_le_mul_right 18446744073709551616 hge) (Nat.le_add_right _ _)
   omega
  have hgi:(d:Int) ≤ hi:=by omega
  clear Hspec hNe hge
  go_enter Tryz.func151,Tryz.ntmps151
  go_wp2
  go_ret2
  exact ⟨_,_,rfl,.inr ⟨Hnone.out,by decide⟩,Below.refl _ _⟩
 ·have hgi:¬ (d:Int) ≤ hi:=by omega
  have Hdiv:=Lib.hid (fun W=>div64_calls W hi lo d (by omega) hlo2 hd2)
  rw [← hNe] at Hdiv
  have hq64:N / d < 18446744073709551616:=by
   rw [Nat.div_lt_iff_lt_mul hd,hNe]
   have:(hi + 1) * 18446744073709551616 ≤ d * 18446744073709551616:=Nat.mul_le_mul_right _ (by omega)
   rw [Nat.mul_comm 18446744073709551616];omega
  generalize N / d = q at Hspec Hdiv hq64
  generalize N % d = r at Hspec Hdiv
  clear hNe hge
  by_cases hr:r = 0
  ·subst hr
   rw [if_pos rfl,Nat.add_zero] at Hspec
   by_cases hM:q ≤ 9223372036854775807
   ·rw [if_pos hM] at Hspec
    have hMi:¬ (9223372036854775807:Int) < q:=by omega
    have hc:IntKind.i64.wrap (q:Int) = (q:Int):=by rw [IntKind.wrap_i64];omega
    clear hM
    go_enter Tryz.func151,Tryz.ntmps151
    go_wp2_with (go_at_call 173;refine (Hdiv.out _).mono ?_;rintro e w1 ⟨rfl,hw1⟩)
    go_ret2
    exact ⟨_,_,rfl,.inl ⟨q,Hspec.out,rfl,rfl⟩,hw1⟩
   ·rw [if_neg hM] at Hspec
    have hMi:(9223372036854775807:Int) < q:=by omega
    clear hM
    go_enter Tryz.func151,Tryz.ntmps151
    go_wp2_with (go_at_call 173;refine (Hdiv.out _).mono ?_;rintro e w1 ⟨rfl,hw1⟩)
    go_ret2
    exact ⟨_,_,rfl,.inr ⟨Hspec.out,by decide⟩,hw1⟩
  ·rw [if_neg hr] at Hspec
   have hr0:(0:Int) < r:=by omega
   clear hr
   by_cases hov:q = 18446744073709551615
   ·subst hov
    rw [if_neg (by omega)] at Hspec
    go_enter Tryz.func151,Tryz.ntmps151
    go_wp2_with (go_at_call 173;refine (Hdiv.out _).mono ?_;rintro e w1 ⟨rfl,hw1⟩)
    go_ret2
    exact ⟨_,_,rfl,.inr ⟨Hspec.out,by decide⟩,hw1⟩
   ·obtain ⟨p,hp⟩ : ∃ p,p = q + 1:=⟨_,rfl⟩
    have hn0:((p:Int) == 0) = false:=by simp;omega
    have E:IntKind.u64.wrap ((q:Int) + 1) = (p:Int):=by rw [IntKind.wrap_u64];omega
    rw [← hp] at Hspec
    clear hov hp hq64
    by_cases hM:p ≤ 9223372036854775807
    ·rw [if_pos hM] at Hspec
     have hMi:¬ (9223372036854775807:Int) < (p:Int):=by omega
     have hc:IntKind.i64.wrap (p:Int) = (p:Int):=by rw [IntKind.wrap_i64];omega
     clear hM
     go_enter Tryz.func151,Tryz.ntmps151
     go_wp2_with (go_at_call 173;refine (Hdiv.out _).mono ?_;rintro e w1 ⟨rfl,hw1⟩)
     go_ret2
     exact ⟨_,_,rfl,.inl ⟨p,Hspec.out,rfl,rfl⟩,hw1⟩
    ·rw [if_neg hM] at Hspec
     have hMi:(9223372036854775807:Int) < (p:Int):=by omega
     clear hM
     go_enter Tryz.func151,Tryz.ntmps151
     go_wp2_with (go_at_call 173;refine (Hdiv.out _).mono ?_;rintro e w1 ⟨rfl,hw1⟩)
     go_ret2
     exact ⟨_,_,rfl,.inr ⟨Hspec.out,by decide⟩,hw1⟩
theorem qall_calls (w:World) (s:Str) (hs:s.length ≤ 4194304):Calls Tryz.prog 148 #[.string (sb s)] w fun e w'=>e = .returned (.bool (qall s)) ∧ Below w.heap.size w w':=by
 by_cases h0:s = []
 ·subst h0
  rw [show qall [] = false from rfl]
  have hp:(sb []).toList = []:=sb_toL []
  generalize sb [] = S at hp
  go_enter Tryz.func148,Tryz.ntmps148
  go_wp2
  go_ret
  exact ⟨rfl,Below.refl _ _⟩
 ·have Htrim:=Lib.hid (fun W=>ltrim_calls W s hs)
  have hn:(sb s).toList.isEmpty = false:=by rw [sb_toL];simpa using h0
  have hp:¬ (sb s).toList = []:=by rw [sb_toL];exact h0
  have Hq:Hid (qall s = s.all isDg):=by show _ = _;simp [qall,h0]
  generalize sb s = S at Htrim hn hp
  go_enter Tryz.func148,Tryz.ntmps148
  go_wp2_with (go_at_call 170;refine (Htrim.out _).mono ?_;rintro e w1 ⟨t,rfl,ht,hw1⟩)
  have Ht:=Lib.hid ht
  clear ht
  go_ret
  refine ⟨?_,hw1⟩
  rw [Hq.out,sb_toL]
  congr 2
  cases h:s.all isDg with
  | true=>rw [Ht.out.2 h];rfl
  | false=>
   cases t with
   | nil=>have:=Ht.out.1 rfl;rw [h] at this;cases this
   | cons a r=>rfl
theorem unit_calls (w:World) (t:Str) (i:Nat) (h:i < qunits.length) (p:Nat) (hp:w.cell? ⟨p,0,none⟩ = some (.string (sb t))) (ht:t.length ≤ 4194304) :
  Calls Tryz.prog 145 #[.agg #[.string (sb qunits[i].1),.int .u64 (qunits[i].2:Nat)],.pointer (some ⟨p,0,none⟩)] w fun e w'=>e = .returned (.bool (qunits[i].1.isSuffixOf t)) ∧ Below w.heap.size w w':=by
 have Hs:=Lib.hid (fun W=>lhassuf_calls W t qunits[i].1 ht)
 have hpl:=World.block_lt_of_cell? w (a:=⟨p,0,none⟩) hp
 have HB:Hid (∀ o,Below w.heap.size w (w.alloc o)):=fun o=>(Below.refl _ _).alloc (Nat.le_refl _) o
 have hp2:∀ o,(w.alloc o).cell? ⟨p,0,none⟩ = some (.string (sb t)):=fun o=>((HB.out o).cell (p:=⟨p,0,none⟩) hpl).trans hp
 generalize qunits[i].1.isSuffixOf t = b at Hs
 generalize sb qunits[i].1 = u at Hs
 generalize (qunits[i].2) = f
 generalize sb t = T at Hs hp hp2
 clear h ht
 go_enter Tryz.func145,Tryz.ntmps145
 go_wp2_with (go_at_call 146;refine (Hs.out _).mono ?_;rintro e w1 ⟨rfl,hw1⟩)
 go_ret
 exact ⟨rfl,(HB.out _).trans (hw1.mono (by simp))⟩
end Go.Proofs.YtpfkkagkbneilaaGreatDoor
namespace Go.Proofs.YtpfkkagkbneilaaGreatDoor
open Go.RowKit
set_option linter.unusedVariables false
set_option linter.unusedSimpArgs false
def ULoop (w:World) (t:Str) (v8:Value) (w1:World):Prop := ∃ i:Nat,i < 12 ∧ v8 = .int .i64 i ∧ (∀ j (h:j < qunits.length),j < i → qunits[j].1.isSuffixOf t = false) ∧ Below w.heap.size w w1
theorem qlen:qunits.length = 12:=rfl
theorem find_first {α : Type} (p : α → Bool):∀ (l:List α) (i:Nat) (h:i < l.length),p l[i] = true → (∀ j (h' : j < l.length),j < i → p l[j] = false) → l.find? p = some l[i]
 | a :: r,0,_,h1,_=>by
  have h3:p a = true:=h1
  simp [List.find?,h3]
 | a :: r,i + 1,h,h1,h2=>by
  have h3:p a = false:=h2 0 (by simp) (by omega)
  have h4:=find_first p r i (by simpa using h) (by simpa using h1) (fun j hj hji=>by have:=h2 (j + 1) (by simpa using hj) (by omega);simpa using this)
  simp [List.find?,h3,h4]
set_option maxRecDepth 100000 in
set_option maxHeartbeats 1600000 in
theorem index_calls (w:World) (G:Glob w) (t:Str) (p:Nat) (hp:w.cell? ⟨p,0,none⟩ = some (.string (sb t))) (ht:t.length ≤ 4194304) (c:Nat) :
  Calls Tryz.prog 144 #[.slice (some ⟨3,0,none⟩) 12 c,.func (Fn.func 145) #[] #[.pointer (some ⟨p,0,none⟩)]] w fun e w'=>
   ∃ i, ∃ h:i < qunits.length,e = .returned (.int .i64 i) ∧ qunits.find? (fun e=>e.1.isSuffixOf t) = some qunits[i] ∧ Below w.heap.size w w':=by
 have hpl:=World.block_lt_of_cell? w (a:=⟨p,0,none⟩) hp
 have Hp:=Lib.hid hp
 have HG:=Lib.hid G
 have Hst:Hid (ULoop w t (.int .i64 0) w):=⟨0,by omega,rfl,fun j h hj=>by omega,Below.refl _ _⟩
 clear hp G
 go_enter Tryz.func144,Tryz.ntmps144
 go_wp2
 go_loopw [8] (fun v8 w1=>ULoop w t v8 w1) (fun i _=>12 - (intOf i).toNat)
 case atStart=>exact Hst.out
 case round=>
  clear Hst
  obtain ⟨i,hi,rfl,hno,hB⟩:=hrel
  have hil:i < qunits.length:=hi
  obtain ⟨c1,c2⟩:=(HG.out.below hB).uni i hil
  have Hcall:=Lib.hid (unit_calls wr t i hil p ((hB.cell (p:=⟨p,0,none⟩) hpl).trans Hp.out) ht)
  have Hno:=Lib.hid hno
  have HB:=Lib.hid hB
  have hlt:(i:Int) < 12:=by omega
  have hi0:(0:Int) ≤ i:=by omega
  have hltd:decide ((i:Int) < 12) = true:=decide_eq_true hlt
  clear hno hB
  by_cases hh:qunits[i].1.isSuffixOf t = true
  ·have Hf:=Lib.hid (find_first (fun e:Str × Nat=>e.1.isSuffixOf t) qunits i hil hh Hno.out)
   rw [hh] at Hcall
   generalize hE:qunits[i] = E at c1 c2 Hcall Hf
   have HE:=Lib.hid hE
   clear hh hE
   go_wp2_with (go_at_call 145;refine Hcall.out.mono ?_;rintro e w1 ⟨rfl,hw1⟩)
   go_ret
   exact ⟨i,hil,rfl,by rw [HE.out];exact Hf.out,HB.out.trans (hw1.mono HB.out.size)⟩
  ·have hh2:qunits[i].1.isSuffixOf t = false:=(Bool.not_eq_true _).mp hh
   have hne:i ≠ 11:=by
    intro e
    subst e
    exact hh (by simp [qunits])
   rw [hh2] at Hcall
   have Hk:Hid (∀ W,Below w.heap.size w W → ULoop w t (.int .i64 ((i:Int) + 1)) W):=fun W hW=>by
    refine ⟨i + 1,by omega,rfl,fun j h hj=>?_,hW⟩
    by_cases e:j = i
    ·subst e;exact hh2
    ·exact Hno.out j h (by omega)
   generalize qunits[i] = E at c1 c2 Hcall
   clear hh hh2
   go_wp2_with (go_at_call 145;refine Hcall.out.mono ?_;rintro e w1 ⟨rfl,hw1⟩)
   go_roundw
   case rel=>exact Hk.out _ (HB.out.trans (hw1.mono HB.out.size))
   case measure=>simp [intOf];omega
end Go.Proofs.YtpfkkagkbneilaaGreatDoor
namespace Go.Proofs.YtpfkkagkbneilaaGreatDoor
open Go.RowKit
set_option linter.unusedVariables false
set_option linter.unusedSimpArgs false
def qbad (wh pt:Str) (dot:Bool):Bool := !qall wh || (dot && !qall pt) || decide (19 < wh.length + pt.length)
theorem cutR_dot (n:Str):cutR [46] n = if (46:UInt8) ∈ n then (n.takeWhile (· != 46),(n.dropWhile (· != 46)).drop 1,true) else (n, [],false):=by
 have key:cutAt [46] n = if (46:UInt8) ∈ n then some (n.takeWhile (· != 46),(n.dropWhile (· != 46)).drop 1) else none:=by
  induction n with
  | nil=>simp [cutAt]
  | cons a r ih=>
   rw [cutAt]
   by_cases h:a = 46
   ·subst h;simp [List.isPrefixOf]
   ·have h2:([46] : Str).isPrefixOf (a :: r) = false:=by simp [List.isPrefixOf];exact fun e=>h e.symm
    have h3:(46:UInt8) ≠ a:=fun e=>h e.symm
    rw [if_neg (by rw [h2];decide),ih]
    by_cases h4:(46:UInt8) ∈ r
    ·simp [h4,h,List.takeWhile_cons,List.dropWhile_cons]
    ·simp [h4,h3]
 unfold cutR
 rw [key]
 by_cases h:(46:UInt8) ∈ n
 ·simp [h]
 ·simp [h]
theorem qprog_cut {t:Str} {e:Str × Nat} (h:qunits.find? (fun e=>e.1.isSuffixOf t) = some e) :
  qprog t = if qbad (cutR [46] (t.take (t.length - e.1.length))).1 (cutR [46] (t.take (t.length - e.1.length))).2.1 (cutR [46] (t.take (t.length - e.1.length))).2.2 = true then none
   else ceilQ (numv ((cutR [46] (t.take (t.length - e.1.length))).1 ++ (cutR [46] (t.take (t.length - e.1.length))).2.1) * e.2) (10 ^ (cutR [46] (t.take (t.length - e.1.length))).2.1.length):=by
 unfold qprog
 rw [h]
 simp only
 generalize t.take (t.length - e.1.length) = n
 rw [cutR_dot]
 unfold qnum
 by_cases hd:(46:UInt8) ∈ n
 ·rw [if_pos hd,if_pos hd]
  simp only
  generalize n.takeWhile (· != 46) = w
  generalize (n.dropWhile (· != 46)).drop 1 = p
  unfold qbad qval ceilQ
  cases hw:qall w <;> cases hp:qall p <;> simp
  by_cases h19:w.length + p.length ≤ 19
  ·simp [h19,show ¬ 19 < w.length + p.length by omega]
  ·simp [h19,show 19 < w.length + p.length by omega]
 ·rw [if_neg hd,if_neg hd]
  simp only
  unfold qbad qval ceilQ
  cases hw:qall n <;> simp
  by_cases h19:n.length ≤ 19
  ·simp [h19,show ¬ 19 < n.length by omega]
  ·simp [h19,show 19 < n.length by omega]
theorem cutR_len (n:Str):(cutR [46] n).1.length ≤ n.length ∧ (cutR [46] n).2.1.length ≤ n.length:=by
 unfold cutR
 cases h:cutAt [46] n with
 | none=>simp
 | some x=>have:=cutAt_len h;simp only;omega
theorem cutR_nodot (n:Str) (h:(cutR [46] n).2.2 = false):(cutR [46] n).2.1 = []:=by
 rw [cutR_dot] at h ⊢
 split at h
 ·cases h
 ·rename_i h2;rw [if_neg h2]
theorem numv_lt {l:Str} (h:∀ b ∈ l,isDg b = true):numv l < 10 ^ l.length:=by
 rw [numv_numd,numd_rev]
 have h1:=vald_lt (l:=(l.map dval).reverse) (fun x hx=>by
  obtain ⟨b,hb,rfl⟩:=List.mem_map.1 (List.mem_reverse.1 hx)
  have:=h b hb
  simp only [isDg,Bool.and_eq_true,decide_eq_true_eq,UInt8.le_iff_toNat_le] at this
  have h2:b.toNat ≤ 57:=this.2
  unfold dval;omega)
 simpa using h1
theorem unit_worth:∀ e ∈ qunits,e.2 < 18446744073709551616:=by decide
def DLoop (p:Nat) (v11 v59:Value):Prop := ∃ k D:Nat,k ≤ p ∧ v59 = .int .i64 k ∧ v11 = .int .u64 (D:Int) ∧ Hid (D = 10 ^ k)
set_option maxRecDepth 100000 in
set_option maxHeartbeats 6400000 in
theorem qparse_calls (w:World) (G:Glob w) (l:Str) (hl:l.length ≤ 1048576) :
  Calls Tryz.prog 125 #[.string (sb l)] w fun e w' => ∃ v ec:Int,e = .returned (.tuple #[.int .i64 v,.int .i64 ec]) ∧ QRes (qparse l) v ec ∧ Below w.heap.size w w':=by
 rw [← qprog_eq]
 have hmf:∀ (fn:Fn) (first cap:Array Value) (w:World),(Instr.makeFunc fn first cap).run Tryz.prog w = .ok (.func fn first cap) w:=fun _ _ _ _=>rfl
 have HB0:Hid (∀ o,Below w.heap.size w (w.alloc o)):=fun o=>(Below.refl _ _).alloc (Nat.le_refl _) o
 have hbx:(w.alloc (.cells #[.string (sb l)] 9)).heap[w.heap.size]? = some (.cells #[.string (sb l)] 9 (0,0)):=blk_new _ _
 have Hbx:=Lib.hid hbx
 have HG:=Lib.hid (G.below (HB0.out (.cells #[.string (sb l)] 9)))
 clear hbx G
 go_enter Tryz.func125,Tryz.ntmps125
 go_wp2_with fail
 refine (index_calls _ HG.out l w.heap.size (cells1 Hbx.out).1 (by omega) _).mono ?_
 rintro e w1 ⟨i,hi,rfl,hf,hw1⟩
 have hi12:(i:Int) < 12:=by have:i < 12:=hi;omega
 have hi0:(0:Int) ≤ i:=by omega
 have H1:Hid (Below w.heap.size w w1):=(HB0.out _).trans (hw1.mono (by simp))
 have HG1:=Lib.hid (HG.out.below hw1)
 obtain ⟨c1,c2⟩:=HG1.out.uni i hi
 have hbx1:=blk_below Hbx.out hw1
 obtain ⟨d1, -⟩:=cells1 hbx1
 have hbu:(w1.alloc (.cells #[.string (sb qunits[i].1),.int .u64 (qunits[i].2:Nat)] 214)).heap[w1.heap.size]? = some (.cells #[.string (sb qunits[i].1),.int .u64 (qunits[i].2:Nat)] 214 (0,0)):=blk_new _ _
 have HBU:=Lib.hid hbu
 have HBX:=Lib.hid (blk_alloc hbx1 (.cells #[.string (sb qunits[i].1),.int .u64 (qunits[i].2:Nat)] 214))
 have H1a:Hid (Below w1.heap.size w1 (w1.alloc (.cells #[.string (sb qunits[i].1),.int .u64 (qunits[i].2:Nat)] 214))):=(Below.refl _ _).alloc (Nat.le_refl _) _
 have Hspec:=Lib.hid (qprog_cut hf)
 have hworth:=unit_worth _ (List.getElem_mem hi)
 have hsuf:=List.find?_some hf
 have Hworth:=Lib.hid hworth
 have Htr:=Lib.hid (fun W=>ltrimsuf_calls W l qunits[i].1 (by omega))
 have hsuf:qunits[i].1.isSuffixOf l = true:=hsuf
 rw [if_pos hsuf] at Htr
 clear hsuf
 clear hbx1 hbu hf hw1 hworth HB0
 obtain ⟨num,hnum⟩ : ∃ n,n = l.take (l.length - qunits[i].1.length):=⟨_,rfl⟩
 have hnl:num.length ≤ 1048576:=by rw [hnum,List.length_take];omega
 rw [← hnum] at Hspec Htr
 clear hnum
 generalize hsu:sb qunits[i].1 = su at *
 generalize hwo:qunits[i].2 = wo at *
 clear hsu hwo
 have d2:=(cells1 HBX.out).1
 have Hcut:=Lib.hid (fun W G=>lcut_calls W G num [46] (by omega) (by simp))
 have hcl:=cutR_len num
 have Hnd:=Lib.hid (cutR_nodot num)
 obtain ⟨wh,hwh⟩ : ∃ x,x = (cutR [46] num).1:=⟨_,rfl⟩
 obtain ⟨pt,hpt⟩ : ∃ x,x = (cutR [46] num).2.1:=⟨_,rfl⟩
 obtain ⟨dot,hdot⟩ : ∃ x,x = (cutR [46] num).2.2:=⟨_,rfl⟩
 rw [← hwh,← hpt,← hdot] at Hcut Hspec
 rw [← hwh,← hpt] at hcl
 rw [← hdot,← hpt] at Hnd
 obtain ⟨hwl,hpl⟩:=hcl
 have hd46:ByteArray.mk #[46] = sb [46]:=rfl
 clear hwh hpt hdot
 have Hwh:=Lib.hid (fun W=>qall_calls W wh (by omega))
 have Hpt:=Lib.hid (fun W=>qall_calls W pt (by omega))
 go_wp2_with fail
 refine (Htr.out _).mono ?_
 rintro e w2 ⟨rfl,hw2⟩
 have H2:Hid (Below w1.heap.size w1 w2):=H1a.out.trans (hw2.mono (by simp))
 have HU2:=Lib.hid (blk_below HBU.out hw2)
 clear hw2 H1a d1 d2 c1 c2 HBX HBU
 go_wp2_with fail
 refine (Hcut.out _ (HG1.out.below H2.out)).mono ?_
 rintro e w3 ⟨rfl,hw3⟩
 have H3:Hid (Below w1.heap.size w1 w3):=H2.out.trans (hw3.mono H2.out.size)
 have HU3:=Lib.hid (blk_below HU2.out hw3)
 clear hw3 H2 HU2 Hcut Htr hd46
 have hws:(sb wh).size = wh.length:=sb_size wh
 have hps:(sb pt).size = pt.length:=sb_size pt
 have Happ:Hid (sb wh ++ sb pt = sb (wh ++ pt)):=sb_append wh pt
 generalize hWH:sb wh = WH at *
 generalize hPT:sb pt = PT at *
 clear hWH hPT
 go_upto_region 4 with fail
 go_cut [47] from 29 to 48 (fun v47 wx=>v47 = .bool (qbad wh pt dot) ∧ Below w3.heap.size w3 wx)
 case first=>
  have Hq:Hid (qbad wh pt dot = (!qall wh || (dot && !qall pt) || decide (19 < wh.length + pt.length))):=rfl
  generalize qall wh = qw at Hwh Hq
  generalize qall pt = qp at Hpt Hq
  clear Hspec
  cases qw with
  | false=>
   go_wp2_with (go_at_call 148;with_reducible refine (Hwh.out _).mono ?_;rintro e wa ⟨rfl,hwa⟩)
   go_meet
   case rel=>exact ⟨by rw [Hq.out];rfl,hwa⟩
  | true=>
   cases dot with
   | true=>
    cases qp with
    | false=>
     go_wp2_with (go_at_call 148;(first | (with_reducible refine (Hwh.out _).mono ?_;rintro e wa ⟨rfl,hwa⟩) | (with_reducible refine (Hpt.out _).mono ?_;rintro e wb ⟨rfl,hwb⟩)))
     go_meet
     case rel=>exact ⟨by rw [Hq.out];rfl,hwa.trans (hwb.mono hwa.size)⟩
    | true=>
     by_cases h19:19 < wh.length + pt.length
     ·have h19i:(19:Int) < (wh.length:Int) + pt.length:=by omega
      go_wp2_with (go_at_call 148;(first | (with_reducible refine (Hwh.out _).mono ?_;rintro e wa ⟨rfl,hwa⟩) | (with_reducible refine (Hpt.out _).mono ?_;rintro e wb ⟨rfl,hwb⟩)))
      go_meet
      case rel=>exact ⟨by rw [Hq.out];first | (simp [h19];done) | (simp [h19,h19i];done),hwa.trans (hwb.mono hwa.size)⟩
     ·have h19i:¬ (19:Int) < (wh.length:Int) + pt.length:=by omega
      go_wp2_with (go_at_call 148;(first | (with_reducible refine (Hwh.out _).mono ?_;rintro e wa ⟨rfl,hwa⟩) | (with_reducible refine (Hpt.out _).mono ?_;rintro e wb ⟨rfl,hwb⟩)))
      go_meet
      case rel=>exact ⟨by rw [Hq.out];first | (simp [h19];done) | (simp [h19,h19i];done),hwa.trans (hwb.mono hwa.size)⟩
   | false=>
    by_cases h19:19 < wh.length + pt.length
    ·have h19i:(19:Int) < (wh.length:Int) + pt.length:=by omega
     go_wp2_with (go_at_call 148;(first | (with_reducible refine (Hwh.out _).mono ?_;rintro e wa ⟨rfl,hwa⟩) | (with_reducible refine (Hpt.out _).mono ?_;rintro e wb ⟨rfl,hwb⟩)))
     go_meet
     case rel=>exact ⟨by rw [Hq.out];first | (simp [h19];done) | (simp [h19,h19i];done),hwa⟩
    ·have h19i:¬ (19:Int) < (wh.length:Int) + pt.length:=by omega
     go_wp2_with (go_at_call 148;(first | (with_reducible refine (Hwh.out _).mono ?_;rintro e wa ⟨rfl,hwa⟩) | (with_reducible refine (Hpt.out _).mono ?_;rintro e wb ⟨rfl,hwb⟩)))
     go_meet
     case rel=>exact ⟨by rw [Hq.out];first | (simp [h19];done) | (simp [h19,h19i];done),hwa⟩
 case rest=>
  obtain ⟨rfl,hwc⟩:=hcut
  have H4:Hid (Below w.heap.size w wc):=H1.out.trans ((H3.out.trans (hwc.mono H3.out.size)).mono H1.out.size)
  have HU4:=Lib.hid (blk_below HU3.out hwc)
  clear hwc H3 HU3 Hwh Hpt H1
  by_cases hbad:qbad wh pt dot = true
  ·rw [if_pos hbad] at Hspec
   rw [hbad]
   clear hbad
   go_wp2
   go_ret2
   exact ⟨_,_,rfl,.inr ⟨Hspec.out,by decide⟩,H4.out⟩
  ·rw [if_neg hbad] at Hspec
   have hbf:qbad wh pt dot = false:=(Bool.not_eq_true _).mp hbad
   rw [hbf]
   have hall:(∀ b ∈ wh ++ pt,isDg b = true) ∧ wh ++ pt ≠ [] ∧ (wh ++ pt).length ≤ 19 ∧ pt.length ≤ 18:=by
    unfold qbad at hbf
    simp only [Bool.or_eq_false_iff,Bool.not_eq_false',Bool.and_eq_false_iff,decide_eq_false_iff_not] at hbf
    obtain ⟨⟨h1,h2⟩,h3⟩:=hbf
    obtain ⟨g1,g2⟩:=all_of h1
    have hpd:∀ b ∈ pt,isDg b = true:=by
     rcases h2 with h2 | h2
     ·rw [Hnd.out h2];intro b hb;cases hb
     ·exact (all_of h2).2
    have hwl0:0 < wh.length:=List.length_pos_iff.2 g1
    refine ⟨fun b hb=>?_,?_,?_,by omega⟩
    ·rcases List.mem_append.1 hb with h | h
     ·exact g2 b h
     ·exact hpd b h
    ·intro e;simp at e;exact g1 e.1
    ·rw [List.length_append];omega
   obtain ⟨ha1,ha2,ha3,ha4⟩:=hall
   have hnum:=numv_lt ha1
   have hnum19:numv (wh ++ pt) < 10 ^ 19:=Nat.lt_of_lt_of_le hnum (Nat.pow_le_pow_right (by decide) ha3)
   have hn64:numv (wh ++ pt) < 18446744073709551616:=by omega
   have Hparse:=Lib.hid (fun W=>lparse_calls W (wh ++ pt) ha2 ha1 ha3)
   have hsz:WH.size + PT.size ≤ 9223372036854775807:=by omega
   have hsz2:¬ 9223372036854775807 < wh.length + pt.length:=by omega
   have Hn64:=Lib.hid hn64
   have Ha4:=Lib.hid ha4
   clear hbad hbf ha1 ha2 ha3 ha4 hnum hnum19 hn64 Hnd
   go_wp2_with fail
   rw [Happ.out]
   refine (Hparse.out _).mono ?_
   rintro e w5 ⟨rfl,hw5⟩
   have H5:Hid (Below w.heap.size w w5):=H4.out.trans (hw5.mono H4.out.size)
   have hu5:=blk_below HU4.out hw5
   have hu6:w5.cell? ⟨w1.heap.size,1,none⟩ = some (.int .u64 wo):=by simp [World.cell?,hu5]
   generalize numv (wh ++ pt) = n at Hn64 Hspec
   have hpl18:=Ha4.out
   clear hw5 hu5 H4 HU4 Hparse Happ hsz hsz2
   go_wp2
   go_loop [11,59] (fun v11 v59=>DLoop pt.length v11 v59) (fun _ i=>pt.length - (intOf i).toNat)
   case atStart=>exact ⟨0,1,by omega,rfl,rfl,rfl⟩
   case round=>
    obtain ⟨k,D,hk,rfl,rfl,hD⟩:=hrel
    by_cases hlt:k < pt.length
    ·have hDb:D * 10 ≤ 10 ^ 18:=by
      rw [hD.out,← Nat.pow_succ]
      exact Nat.pow_le_pow_right (by decide) (by omega)
     have hlti:(k:Int) < pt.length:=by omega
     have Hk:Hid (DLoop pt.length (.int .u64 ((D:Int) * 10)) (.int .i64 ((k:Int) + 1))):=⟨k + 1,D * 10,by omega,rfl,by simp,by show _ = _;rw [Nat.pow_succ,hD.out]⟩
     go_wp2
     go_round
     case rel=>exact Hk.out
     case measure=>simp [intOf];omega
    ·obtain rfl:k = pt.length:=by omega
     have hlti:¬ ((pt.length:Nat):Int) < pt.length:=by omega
     have hD0:0 < D:=by rw [hD.out];exact Nat.pow_pos (by decide)
     have hD18:D ≤ 10 ^ 18:=by rw [hD.out];exact Nat.pow_le_pow_right (by decide) (by omega)
     have Hov:=Lib.hid (fun W=>over_calls W (n * wo) D (Nat.mul_lt_mul'' Hn64.out Hworth.out) hD0 (by omega))
     rw [← hD.out] at Hspec
     have Hmul:=Lib.hid (fun W=>Tryz.bits_Mul64 n wo Hn64.out Hworth.out W)
     generalize n * wo / 18446744073709551616 = hi at Hov Hmul
     generalize n * wo % 18446744073709551616 = lo at Hov Hmul
     clear hD18 hD0 hk
     go_wp2_with (first
      | (go_at_call 150;with_reducible refine (Hmul.out _).mono ?_;rintro e w6 ⟨rfl,hw6⟩;obtain rfl:=hw6)
      | (go_at_call 151;with_reducible refine (Hov.out _).mono ?_;rintro e w7 ⟨v7,e7,rfl,hres,hw7⟩))
     go_ret2
     exact ⟨_,_,rfl,by rw [Hspec.out];exact hres,H5.out.trans (hw7.mono H5.out.size)⟩
end Go.Proofs.YtpfkkagkbneilaaGreatDoor
namespace Go.Proofs.YtpfkkagkbneilaaGreatDoor
open Go.RowKit
set_option linter.unusedVariables false
set_option linter.unusedSimpArgs false
def scTexts:List ByteArray := [⟨#[97,108,108]⟩,⟨#[98,101,115,116]⟩,⟨#[110,111,116,98,101,115,116]⟩,⟨#[101,110,100,115]⟩,⟨#[110,111,116,101,110,100,115]⟩,⟨#[112,114,105,111,114,105,116,121,61]⟩]
def scOk (k a:Int):Prop:=(0 ≤ k ∧ k < 5 ∧ a = 0) ∨ (k = 5 ∧ 0 ≤ a ∧ a ≤ 9)
instance (k a:Int):Decidable (scOk k a):=by unfold scOk;infer_instance
def scWord (k a:Int):List UInt8:=(scTexts.getD k.toNat ⟨#[]⟩).data.toList ++ (if k = 5 then [UInt8.ofNat (48 + a.toNat)] else [])
theorem scOk_cases {k a:Int} (h:scOk k a):(k = 0 ∧ a = 0) ∨ (k = 1 ∧ a = 0) ∨ (k = 2 ∧ a = 0) ∨ (k = 3 ∧ a = 0) ∨ (k = 4 ∧ a = 0) ∨ (k = 5 ∧ a = 0) ∨ (k = 5 ∧ a = 1) ∨ (k = 5 ∧ a = 2) ∨ (k = 5 ∧ a = 3) ∨ (k = 5 ∧ a = 4) ∨ (k = 5 ∧ a = 5) ∨ (k = 5 ∧ a = 6) ∨ (k = 5 ∧ a = 7) ∨ (k = 5 ∧ a = 8) ∨ (k = 5 ∧ a = 9):=by
 unfold scOk at h
 rcases h with ⟨h1,h2,rfl⟩ | ⟨rfl,h1,h2⟩
 ·have h:k = 0 ∨ k = 1 ∨ k = 2 ∨ k = 3 ∨ k = 4:=by omega
  clear h1 h2
  rcases h with rfl | rfl | rfl | rfl | rfl <;> simp
 ·have h:a = 0 ∨ a = 1 ∨ a = 2 ∨ a = 3 ∨ a = 4 ∨ a = 5 ∨ a = 6 ∨ a = 7 ∨ a = 8 ∨ a = 9:=by omega
  clear h1 h2
  rcases h with rfl | rfl | rfl | rfl | rfl | rfl | rfl | rfl | rfl | rfl <;> simp
theorem rvalid_calls (k a:Int) (w:World):Calls Tryz.prog 166 #[.agg #[.int .i64 k,.int .i64 a]] w fun e w'=>e = .returned (.bool (decide (scOk k a))) ∧ Below w.heap.size w w':=by
 by_cases h5:k = 5
 ·subst h5
  by_cases ha0:0 ≤ a
  ·have hda:decide (0 ≤ a) = true:=decide_eq_true ha0
   by_cases ha:a ≤ 9
   ·have Hr:Hid (decide (scOk 5 a) = true):=decide_eq_true (by unfold scOk;omega)
    have hdb:decide (a ≤ 9) = true:=decide_eq_true ha
    go_enter Tryz.func166,Tryz.ntmps166
    go_wp2
    go_ret
    exact ⟨by rw [Hr.out];rfl,(Below.refl _ _).alloc (Nat.le_refl _) _⟩
   ·have Hr:Hid (decide (scOk 5 a) = false):=decide_eq_false (by unfold scOk;omega)
    have hdb:decide (a ≤ 9) = false:=decide_eq_false ha
    go_enter Tryz.func166,Tryz.ntmps166
    go_wp2
    go_ret
    exact ⟨by rw [Hr.out];rfl,(Below.refl _ _).alloc (Nat.le_refl _) _⟩
  ·have Hr:Hid (decide (scOk 5 a) = false):=decide_eq_false (by unfold scOk;omega)
   have hda:decide (0 ≤ a) = false:=decide_eq_false ha0
   go_enter Tryz.func166,Tryz.ntmps166
   go_wp2
   go_ret
   exact ⟨by rw [Hr.out];rfl,(Below.refl _ _).alloc (Nat.le_refl _) _⟩
 ·have h5b:(k == 5) = false:=by simpa using h5
  by_cases hk0:0 ≤ k
  ·have hdk:decide (0 ≤ k) = true:=decide_eq_true hk0
   by_cases hk5:k < 5
   ·have hdl:decide (k < 5) = true:=decide_eq_true hk5
    by_cases ha:a = 0
    ·have Hr:Hid (decide (scOk k a) = true):=decide_eq_true (by unfold scOk;omega)
     have hda:(a == 0) = true:=by simpa using ha
     clear ha
     go_enter Tryz.func166,Tryz.ntmps166
     go_wp2
     go_ret
     exact ⟨by rw [Hr.out];rfl,(Below.refl _ _).alloc (Nat.le_refl _) _⟩
    ·have Hr:Hid (decide (scOk k a) = false):=decide_eq_false (by unfold scOk;omega)
     have hda:(a == 0) = false:=by simpa using ha
     go_enter Tryz.func166,Tryz.ntmps166
     go_wp2
     go_ret
     exact ⟨by rw [Hr.out];rfl,(Below.refl _ _).alloc (Nat.le_refl _) _⟩
   ·have hdl:decide (k < 5) = false:=decide_eq_false hk5
    have Hr:Hid (decide (scOk k a) = false):=decide_eq_false (by unfold scOk;omega)
    go_enter Tryz.func166,Tryz.ntmps166
    go_wp2
    go_ret
    exact ⟨by rw [Hr.out];rfl,(Below.refl _ _).alloc (Nat.le_refl _) _⟩
  ·have hdk:decide (0 ≤ k) = false:=decide_eq_false hk0
   have Hr:Hid (decide (scOk k a) = false):=decide_eq_false (by unfold scOk;omega)
   go_enter Tryz.func166,Tryz.ntmps166
   go_wp2
   go_ret
   exact ⟨by rw [Hr.out];rfl,(Below.refl _ _).alloc (Nat.le_refl _) _⟩
theorem conv_one (w:World) (n:Nat) (hn:n < 256) (g:Nat) (hg:g = w.heap.size) (t:TypeId):(convert 66 9 (.slice (some ⟨g,0,none⟩) 1 1)).run Tryz.prog (w.alloc (.cells #[.int .u8 n] t)) = .ok (.string ⟨#[UInt8.ofNat n]⟩) (w.alloc (.cells #[.int .u8 n] t)):=by
 subst hg
 have h:=run_convert_bytes_back (P:=Tryz.prog) (w.alloc (.cells #[.int .u8 n] t)) 66 9 5 ⟨w.heap.size,0,none⟩ 1 [UInt8.ofNat n] Tryz.underlying66 Tryz.underlying5 Tryz.underlying9 (fun j hj=>by
  have:j = 0:=by simp at hj;omega
  subst this
  refine ((cells1 (blk_new w (.cells #[.int .u8 n] t))).1).trans ?_
  simp;omega)
 exact h
theorem conv_at (w:World) (t u:TypeId) (cs:Array Value) (n:Nat) (hn:n < 256):(convert 66 9 (.slice (some ⟨w.heap.size + 1,0,none⟩) 1 1)).run Tryz.prog ((w.alloc (.cells cs u)).alloc (.cells #[.int .u8 n] t)) = .ok (.string ⟨#[UInt8.ofNat n]⟩) ((w.alloc (.cells cs u)).alloc (.cells #[.int .u8 n] t)):=
 conv_one _ n hn _ (by simp) t
theorem sc_box {w w1:World} {k a:Int} {t:TypeId} (h:Below (w.alloc (.cells #[.int .i64 k,.int .i64 a] t)).heap.size (w.alloc (.cells #[.int .i64 k,.int .i64 a] t)) w1):w1.heap[w.heap.size]? = some (.cells #[.int .i64 k,.int .i64 a] t (0,0)):=blk_below (blk_new w _) h
theorem sc_cells {w:World} {g:Nat} {u v:Value} {t:TypeId} (h:w.heap[g]? = some (.cells #[u,v] t (0,0))):w.cell? ⟨g,0,none⟩ = some u ∧ w.cell? ⟨g,1,none⟩ = some v ∧ ∀ o,(w.alloc o).cell? ⟨g,0,none⟩ = some u ∧ (w.alloc o).cell? ⟨g,1,none⟩ = some v:=
 ⟨by simp [World.cell?,h],by simp [World.cell?,h],fun o=>by have h2:=blk_alloc h o;exact ⟨by simp [World.cell?,h2],by simp [World.cell?,h2]⟩⟩
set_option maxHeartbeats 4000000 in
set_option maxRecDepth 100000 in
theorem rsprint_calls (k a:Int) (h:scOk k a) (w:World):Calls Tryz.prog 140 #[.agg #[.int .i64 k,.int .i64 a]] w fun e w'=>(∃ sv,e = .returned (.tuple #[sv,.int .i64 0]) ∧ StrIs sv (scWord k a)) ∧ Below w.heap.size w w':=by
 generalize hS:(⟨(scWord k a).toArray⟩ : ByteArray) = S
 have HS:=Lib.hid hS
 have HW:=Lib.hid (show S.data.toList = scWord k a from by rw [← hS])
 clear hS
 have hv:decide (scOk k a) = true:=decide_eq_true h
 rcases scOk_cases h with ⟨rfl,rfl⟩ | ⟨rfl,rfl⟩ | ⟨rfl,rfl⟩ | ⟨rfl,rfl⟩ | ⟨rfl,rfl⟩ | ⟨rfl,rfl⟩ | ⟨rfl,rfl⟩ | ⟨rfl,rfl⟩ | ⟨rfl,rfl⟩ | ⟨rfl,rfl⟩ | ⟨rfl,rfl⟩ | ⟨rfl,rfl⟩ | ⟨rfl,rfl⟩ | ⟨rfl,rfl⟩ | ⟨rfl,rfl⟩
 all_goals
  go_enter Tryz.func140,Tryz.ntmps140
  go_wp2_with (fail)
  go_at_call 166
  refine (rvalid_calls _ _ _).mono ?_
  rintro e w1 ⟨rfl,hw1⟩
  rw [hv]
  have Hw1:=Lib.hid hw1
  have Hbox:=Lib.hid (sc_box hw1)
  obtain ⟨c0,c1,cA⟩:=sc_cells Hbox.out
  have cA0:=fun o=>(cA o).1
  have cA1:=fun o=>(cA o).2
  have cv0:=fun (cs:Array Value) (u t:TypeId)=>conv_at w1 t u cs 48 (by omega)
  have cv1:=fun (cs:Array Value) (u t:TypeId)=>conv_at w1 t u cs 49 (by omega)
  have cv2:=fun (cs:Array Value) (u t:TypeId)=>conv_at w1 t u cs 50 (by omega)
  have cv3:=fun (cs:Array Value) (u t:TypeId)=>conv_at w1 t u cs 51 (by omega)
  have cv4:=fun (cs:Array Value) (u t:TypeId)=>conv_at w1 t u cs 52 (by omega)
  have cv5:=fun (cs:Array Value) (u t:TypeId)=>conv_at w1 t u cs 53 (by omega)
  have cv6:=fun (cs:Array Value) (u t:TypeId)=>conv_at w1 t u cs 54 (by omega)
  have cv7:=fun (cs:Array Value) (u t:TypeId)=>conv_at w1 t u cs 55 (by omega)
  have cv8:=fun (cs:Array Value) (u t:TypeId)=>conv_at w1 t u cs 56 (by omega)
  have cv9:=fun (cs:Array Value) (u t:TypeId)=>conv_at w1 t u cs 57 (by omega)
  simp only [Int.cast_ofNat_Int] at cv0 cv1 cv2 cv3 cv4 cv5 cv6 cv7 cv8 cv9
  clear hw1 cA Hbox
  go_wp2
  refine bodyPost_ret (v:=.tuple #[.string S,.int .i64 0]) ?h rfl ⟨⟨_,rfl,_,rfl,HW.out⟩,?b⟩
  case h=>simp [results,go_sem];exact HS.out
  case b=>
   have hB:=((Below.refl w.heap.size w).alloc (Nat.le_refl _) (.cells #[.int .i64 _,.int .i64 _] 27)).trans (Hw1.out.mono (by simp))
   have hL:=hB.size
   first
   | exact hB.alloc hL _
   | exact (hB.alloc hL _).alloc (by simp;omega) _
def okP (x:Nat × Nat):Bool:=decide (scOk x.1 x.2)
def scRow (k:Nat):List (Nat × Nat):=((List.range 10).map fun a=>(k,a)).filter okP
def scUp (k a:Nat):List (Nat × Nat):=(List.range k).flatMap scRow ++ ((List.range a).map fun a=>(k,a)).filter okP
def scAll:List (Nat × Nat):=scUp 6 0
def scC (x:Nat × Nat):List Value := [.int .i64 x.1,.int .i64 x.2]
theorem scC_len (x:Nat × Nat):(scC x).length = 2:=rfl
theorem scUp_next (k a:Nat):scUp k (a + 1) = scUp k a ++ (if okP (k,a) = true then [(k,a)] else []):=by
 unfold scUp
 rw [List.range_succ,List.map_append,List.filter_append,← List.append_assoc]
 congr 1
 by_cases h:okP (k,a) = true <;> simp [List.filter,h]
theorem scUp_row (k:Nat):scUp (k + 1) 0 = scUp k 10:=by
 unfold scUp
 rw [List.range_succ,List.flatMap_append]
 simp [scRow]
theorem scUp_len (k a:Nat) (hk:k ≤ 6) (ha:a ≤ 10):(scUp k a).length ≤ 70:=by
 have h1:∀ k,(scRow k).length ≤ 10:=fun k=>by
  unfold scRow
  exact Nat.le_trans (List.length_filter_le _ _) (by simp)
 have h2:∀ k,((List.range k).flatMap scRow).length ≤ k * 10:=by
  intro k
  induction k with
  | zero=>simp
  | succ k ih=>rw [List.range_succ,List.flatMap_append,List.length_append];have:=h1 k;simp only [List.flatMap_cons,List.flatMap_nil,List.append_nil];omega
 unfold scUp
 rw [List.length_append]
 have h3:(((List.range a).map fun a=>(k,a)).filter okP).length ≤ a:=Nat.le_trans (List.length_filter_le _ _) (by simp)
 have:=h2 k
 omega
theorem infoSc:(Tryz.prog.info? 27).map (fun i=>(i.zero,i.size,i.bytes)) = some (some (.agg #[.int .i64 0,.int .i64 0]),2,16):=by kernel_rfl
def SALoop (w:World) (v1 v2:Value) (w1:World):Prop := ∃ k:Nat,k ≤ 6 ∧ v2 = .int .i64 k ∧ w1.ownsRow 0 27 2 v1 (scUp k 0).length ((scUp k 0).flatMap scC) ∧ (∀ j,v1.ownBlock = some j → w.heap.size ≤ j) ∧ Below w.heap.size w w1
def SAIn (w:World) (k:Nat) (v1 v3:Value) (w1:World):Prop := ∃ a:Nat,a ≤ 10 ∧ v3 = .int .i64 a ∧ w1.ownsRow 0 27 2 v1 (scUp k a).length ((scUp k a).flatMap scC) ∧ (∀ j,v1.ownBlock = some j → w.heap.size ≤ j) ∧ Below w.heap.size w w1
theorem rd_sc (w:World) (t:TypeId) (x:Nat × Nat):Rd (w.alloc (.cells #[.int .i64 x.1,.int .i64 x.2] t)) 2 (.slice (some ⟨w.heap.size,0,none⟩) 1 1) 1 (scC x):=by
 refine ⟨rfl,_,_,rfl,Nat.le_refl _,(fun h=>by cases h),fun ad hA j u hu=>?_⟩
 cases hA
 match j,hu with
 | 0,hu=>cases hu;rw [show (⟨w.heap.size,0,none⟩ : Addr).add 0 = ⟨w.heap.size,0,none⟩ from rfl];simp only [World.cell?,blk_new];rfl
 | 1,hu=>cases hu;rw [show (⟨w.heap.size,0,none⟩ : Addr).add 1 = ⟨w.heap.size,1,none⟩ from rfl];simp only [World.cell?,blk_new];rfl
theorem scC_one (x:Nat × Nat):∀ u ∈ scC x,u.oneCell' = true:=by
 intro u hu
 simp only [scC,List.mem_cons,List.not_mem_nil,or_false] at hu
 rcases hu with rfl | rfl <;> rfl
set_option maxRecDepth 100000 in
set_option maxHeartbeats 3200000 in
theorem scall_calls (w:World):Calls Tryz.prog 139 #[] w fun e w' => ∃ v,e = .returned v ∧ RdS scC 2 w' v scAll ∧ Below w.heap.size w w':=by
 have Hst:Hid (SALoop w (.slice none 0 0) (.int .i64 0) w):=⟨0,by omega,rfl,World.ownsRow_nil _ _ _ _,(fun j hj=>by cases hj),Below.refl _ _⟩
 go_enter Tryz.func139,Tryz.ntmps139
 go_wp2
 go_loopw [1,2] (fun v1 v2 w1=>SALoop w v1 v2 w1) (fun _ i _=>6 - (intOf i).toNat)
 case atStart=>exact Hst.out
 case round=>
  clear Hst
  obtain ⟨k,hk,rfl,hown,hnew,hB⟩:=hrel
  obtain ⟨A0,c0,rfl⟩:=own_slice hown
  by_cases hlt:k < 6
  ·have hlti:(k:Int) < 6:=by omega
   have Hst:Hid (SAIn w k (.slice A0 (scUp k 0).length c0) (.int .i64 0) wr):=⟨0,by omega,rfl,hown,hnew,hB⟩
   generalize (scUp k 0).length = n0 at Hst
   clear hown hnew hB
   go_wp2
   go_loopw [1,3] (fun v1 v3 w1=>SAIn w k v1 v3 w1) (fun _ i _=>10 - (intOf i).toNat)
   case atStart=>exact Hst.out
   case round=>
    clear Hst
    obtain ⟨a,ha,rfl,hown,hnew,hB⟩:=hrel
    obtain ⟨A1,c1,rfl⟩:=own_slice hown
    have hl70:=scUp_len k a (by omega) ha
    by_cases hlta:a < 10
    ·have hltai:(a:Int) < 10:=by omega
     have Hnext:=Lib.hid (scUp_next k a)
     have Hval:=Lib.hid (fun W=>rvalid_calls (k:Int) (a:Int) W)
     have Hown:=Lib.hid hown
     have Hnew:=Lib.hid hnew
     have HB:=Lib.hid hB
     have Hbx:=Lib.hid (blk_new wr (.cells #[.int .i64 k,.int .i64 a] 27))
     have HBx:Hid (Below w.heap.size w (wr.alloc (.cells #[.int .i64 k,.int .i64 a] 27))):=hB.alloc hB.size _
     have HOx:=Lib.hid (own_below hown ((Below.refl _ _).alloc (Nat.le_refl _) (.cells #[.int .i64 k,.int .i64 a] 27)))
     generalize scUp k a = L at *
     clear hown hnew hB
     by_cases hok:scOk (k:Int) (a:Int)
     ·rw [if_pos (by simpa [okP] using hok)] at Hnext
      rw [decide_eq_true hok] at Hval
      clear hok
      go_wp2_with (first
       | (go_at_call 166;with_reducible refine (Hval.out _).mono ?_;rintro e w1 ⟨rfl,hw1⟩;have HW1:=Lib.hid hw1;have Hb1:=Lib.hid (blk_below Hbx.out hw1);have hc2:=sc_cells Hb1.out;obtain ⟨c21,c22, -⟩:=hc2)
       | (at_builtin;refine wpList_append2 _ rfl (.tmp 18) (.tmp 20) 207 rfl 27 (.agg #[.int .i64 0,.int .i64 0]) 2 16 Tryz.underlying207 infoSc rfl (by decide) _ L.length (L.flatMap scC) rfl ((own_below HOx.out HW1.out).alloc _) _ 1 (scC (k,a)) rfl (rd_sc _ _ (k,a)) (scC_one _) (by unfold maxLen;omega) (by omega) ?_))
      intro v' w2 ho2 hg2 hn2 _
      have Hk:Hid (SAIn w k v' (.int .i64 ((a:Int) + 1)) w2):=by
       have hB2:Below w.heap.size w w1:=HBx.out.trans (HW1.out.mono HBx.out.size)
       have hs:=hB2.size
       have hs1:w.heap.size ≤ wr.heap.size:=HB.out.size
       have hs2:wr.heap.size + 1 ≤ w1.heap.size:=by have:=HW1.out.size;simpa using this
       refine ⟨a + 1,by omega,rfl,?_,?_,?_⟩
       ·rw [Hnext.out,List.flatMap_append,List.length_append]
        simpa using ho2
       ·intro j hj
        rcases hn2 j hj with h1 | h1
        ·exact Hnew.out j h1
        ·have:w1.heap.size + 1 ≤ j:=by simpa using h1
         omega
       ·exact (hB2.alloc hs _).grown hg2 (by simp;omega) (fun j hj=>Hnew.out j hj)
      clear ho2 hg2 hn2
      go_wp2
      go_roundw
      case rel=>exact Hk.out
      case measure=>simp [intOf];omega
     ·rw [if_neg (by simpa [okP] using hok),List.append_nil] at Hnext
      rw [decide_eq_false hok] at Hval
      clear hok
      have Hk:Hid (∀ W,Below (wr.alloc (.cells #[.int .i64 k,.int .i64 a] 27)).heap.size (wr.alloc (.cells #[.int .i64 k,.int .i64 a] 27)) W → SAIn w k (.slice A1 L.length c1) (.int .i64 ((a:Int) + 1)) W):=fun W hW=>
       ⟨a + 1,by omega,rfl,by rw [Hnext.out];exact own_below HOx.out hW,Hnew.out,HBx.out.trans (hW.mono HBx.out.size)⟩
      go_wp2_with (go_at_call 166;with_reducible refine (Hval.out _).mono ?_;rintro e w1 ⟨rfl,hw1⟩)
      go_roundw
      case rel=>exact Hk.out _ hw1
      case measure=>simp [intOf];omega
    ·obtain rfl:a = 10:=by omega
     have hltai:¬ ((10:Nat):Int) < 10:=by omega
     have Hk:Hid (SALoop w (.slice A1 (scUp k 10).length c1) (.int .i64 ((k:Int) + 1)) wr):=⟨k + 1,by omega,rfl,by rw [scUp_row];exact hown,hnew,hB⟩
     generalize (scUp k 10).length = n1 at Hk
     clear hown hnew hB
     go_wp2
     go_roundw
     case rel=>exact Hk.out
     case measure=>simp [intOf];omega
  ·obtain rfl:k = 6:=by omega
   have hlti:¬ ((6:Nat):Int) < 6:=by omega
   have Hr:Hid (RdS scC 2 wr (.slice A0 (scUp 6 0).length c0) scAll):=RdS.of_own hown
   have HB:=Lib.hid hB
   generalize (scUp 6 0).length = n1 at Hr
   clear hown hnew hB
   go_wp2
   go_ret
   exact ⟨_,rfl,Hr.out,HB.out⟩
end Go.Proofs.YtpfkkagkbneilaaGreatDoor
