/- Texts D4, D5, F6, F7, P1 of the proof of BursarAsks, joined. -/
import Derived.Test.YtpfkkagkbneilaaGreatDoorProg
import Derived.Test.YtpfkkagkbneilaaGreatDoorZ1
import Derived.Deep.OwnRows
import Derived.Deep.RegionLaw
import Derived.Deep.RegionWith
import Derived.Deep.RegionHeld3
namespace Go.Proofs.YtpfkkagkbneilaaGreatDoor
open Go.RowKit
set_option linter.unusedVariables false
set_option linter.unusedSimpArgs false
def IBlk (w:World) (g:Nat) (l:List Nat):Prop:=w.heap[g]? = some (.cells (ints l).toArray 3 (0,0))
theorem ints_getElem? (l:List Nat) (k:Nat) (hk:k < l.length):(ints l)[k]? = some (.int .i64 (l[k] : Nat)):=by simp [ints,hk]
theorem IBlk.cell {w:World} {g:Nat} {l:List Nat} (h:IBlk w g l) (k:Nat) (hk:k < l.length):w.cell? ⟨g,k,none⟩ = some (.int .i64 (l[k] : Nat)):=by
 unfold IBlk at h;simp [World.cell?,h,ints,hk]
theorem IBlk.frozen {w:World} {g:Nat} {l:List Nat} (h:IBlk w g l) (k:Nat):w.frozen? ⟨g,k,none⟩ = false:=by
 unfold IBlk at h;simp [World.frozen?,h]
theorem IBlk.set {w:World} {g:Nat} {l:List Nat} (h:IBlk w g l) (k d:Nat):IBlk (w.setCell ⟨g,k,none⟩ (.int .i64 (d:Int))) g (l.set k d):=by
 unfold IBlk;rw [blk_setCell h];simp [ints,List.map_set]
theorem IBlk.far {w:World} {g:Nat} {l:List Nat} (h:IBlk w g l) {p:Addr} (hp:g ≠ p.block) (u:Value):IBlk (w.setCell p u) g l:=blk_far h hp u
theorem IBlk.below {w w1:World} {g:Nat} {l:List Nat} (h:IBlk w g l) (hb:Below w.heap.size w w1):IBlk w1 g l:=blk_below h hb
theorem IBlk.rd {w:World} {g:Nat} {l:List Nat} (h:IBlk w g l) {n:Nat} (hn:l.length = n):RdI w (.slice (some ⟨g,0,none⟩) n n) l:=by
 subst hn
 refine ⟨by simp [ints],_,_,rfl,Nat.le_refl _,(fun h=>by cases h),fun ad hA j u hu=>?_⟩
 cases hA
 have hj:j < l.length:=by
  have:=(List.getElem?_eq_some_iff.1 hu).1;simpa [ints] using this
 rw [ints_getElem? l j hj] at hu
 cases hu
 have e:(⟨g,0,none⟩ : Addr).add j = ⟨g,j,none⟩:=by unfold Addr.add;split <;> simp_all
 rw [e];exact h.cell j hj
theorem IBlk.new (w:World) (n:Nat):IBlk (w.alloc (.cells (madeCells #[.int .i64 0] n) 3)) w.heap.size (List.replicate n 0):=by
 unfold IBlk
 rw [blk_new]
 congr 2
 apply Array.ext
 ·simp [ints,size_madeCells]
 ·intro i h1 h2;simp [ints,madeCells,Nat.mod_one]
theorem vald_set {l:List Nat} {k d:Nat} (hk:k < l.length):vald (l.set k d) + 10 ^ k * l[k] = vald l + 10 ^ k * d:=by
 induction l generalizing k with
 | nil=>simp at hk
 | cons a r ih=>
  cases k with
  | zero=>simp [vald];omega
  | succ k=>
   have:=ih (k:=k) (by simpa using hk)
   simp only [List.set_cons_succ,vald,List.getElem_cons_succ,Nat.pow_succ]
   rw [Nat.mul_comm (10 ^ k) 10,Nat.mul_assoc,Nat.mul_assoc];omega
theorem vald_zeros (n:Nat):vald (List.replicate n 0) = 0:=by
 induction n with
 | zero=>rfl
 | succ n ih=>rw [List.replicate_succ,vald,ih]
theorem vald_take_le (l:List Nat) (k:Nat):vald (l.take k) ≤ vald l:=by
 have:=vald_app (l.take k) (l.drop k)
 rw [List.take_append_drop] at this
 rw [this];exact Nat.le_add_right _ _
def TB (w:World) (va vb:Value) (out:List Nat) (w1:World):Prop:=
 w1.heap[w.heap.size]? = some (.cells #[va] 201 (0,0)) ∧ w1.heap[w.heap.size + 1]? = some (.cells #[vb] 201 (0,0)) ∧
 w1.heap[w.heap.size + 1 + 1]? = some (.cells #[.slice none 0 0] 201 (0,0)) ∧ IBlk w1 (w.heap.size + 1 + 1 + 1) out ∧ Below w.heap.size w w1
def TOut (N:Nat) (w:World) (x y:List Nat) (va vb v6:Value) (w1:World):Prop := ∃ (i:Nat) (out:List Nat),i ≤ x.length ∧ v6 = .int .i64 i ∧ out.length = N ∧ DLt out ∧
 vald out = vald (x.take i) * vald y ∧ TB w va vb out w1
def TIn (N:Nat) (w:World) (x y:List Nat) (i p:Nat) (va vb v7 v8:Value) (w1:World):Prop := ∃ (c j:Nat) (out:List Nat),v7 = .int .i64 c ∧ v8 = .int .i64 j ∧ c ≤ 9 ∧ j ≤ y.length + 1 ∧ out.length = N ∧ DLt out ∧
 vald out + c * 10 ^ (i + j) = vald (x.take i) * vald y + 10 ^ i * (p * vald (y.take j)) ∧ TB w va vb out w1
theorem TB.below {w w1 w2:World} {va vb:Value} {out:List Nat} (h:TB w va vb out w1) (hb:Below w1.heap.size w1 w2):TB w va vb out w2:=
 ⟨blk_below h.1 hb,blk_below h.2.1 hb,blk_below h.2.2.1 hb,h.2.2.2.1.below hb,h.2.2.2.2.trans (hb.mono h.2.2.2.2.size)⟩
theorem TB.set {w w1:World} {va vb:Value} {out:List Nat} (h:TB w va vb out w1) (k d:Nat):TB w va vb (out.set k d) (w1.setCell ⟨w.heap.size + 1 + 1 + 1,k,none⟩ (.int .i64 (d:Int))):=
 ⟨blk_far h.1 (by show w.heap.size ≠ w.heap.size + 1 + 1 + 1;omega) _,blk_far h.2.1 (by show w.heap.size + 1 ≠ w.heap.size + 1 + 1 + 1;omega) _,blk_far h.2.2.1 (by show w.heap.size + 1 + 1 ≠ w.heap.size + 1 + 1 + 1;omega) _,h.2.2.2.1.set k d,h.2.2.2.2.setCell (by show _ ≤ _;simp;omega) _⟩
theorem tbound {X Y p P i m c v:Nat} (h:v + c * P = X * Y + 10 ^ i * (p * Y)) (hX:X < 10 ^ i) (hp:p < 10) (hY:Y < 10 ^ m) (hc:0 < c):P < 10 ^ (i + m + 1):=by
 have h1:P ≤ X * Y + 10 ^ i * (p * Y):=by
  have:=Nat.le_mul_of_pos_left P hc
  omega
 have h2:X * Y + 10 ^ i * (p * Y) = (X + 10 ^ i * p) * Y:=by rw [Nat.add_mul,Nat.mul_assoc]
 rw [h2] at h1
 have h3:X + 10 ^ i * p < 10 ^ (i + 1):=by
  have:10 ^ i * p ≤ 10 ^ i * 9:=Nat.mul_le_mul_left _ (by omega)
  rw [Nat.pow_succ];omega
 have h4:(X + 10 ^ i * p) * Y < 10 ^ (i + 1) * 10 ^ m:=Nat.mul_lt_mul'' h3 hY
 rw [← Nat.pow_add] at h4
 rw [show i + m + 1 = i + 1 + m from by omega]
 omega
theorem tsum {V V' R p t q o d c c' v I J P:Nat} (hIJ:P = I * J) (h:V + c * P = R + I * (p * t)) (hs:V' + P * o = V + P * d) (hv:v = o + p * q + c) (hd:d + 10 * c' = v):V' + c' * (P * 10) = R + I * (p * (t + J * q)):=by
 subst hv
 have e1:P * (d + 10 * c') = P * (o + p * q + c):=by rw [hd]
 rw [Nat.mul_add,Nat.mul_add,Nat.mul_add] at e1
 have e2:I * (p * (t + J * q)) = I * (p * t) + P * (p * q):=by
  subst hIJ;rw [Nat.mul_add,Nat.mul_add];congr 1;rw [Nat.mul_assoc,Nat.mul_left_comm p J q]
 have e3:c' * (P * 10) = P * (10 * c'):=by rw [Nat.mul_comm c',Nat.mul_assoc]
 rw [e2,e3]
 rw [Nat.mul_comm c P] at h
 omega
set_option maxRecDepth 100000 in
set_option maxHeartbeats 3200000 in
theorem times_calls (w:World) (va vb:Value) (a b:Nat) (ha:RdI w va (dig a)) (hb:RdI w vb (dig b)) (hla:(dig a).length ≤ 1048576) (hlb:(dig b).length ≤ 1048576) :
  Calls Tryz.prog 160 #[.agg #[va],.agg #[vb]] w (LPost w (dig (a * b))):=by
 have hda:=dlt_dig a
 have hdb:=dlt_dig b
 have Hva:Hid (vald (dig a) = a):=vald_dig a
 have Hvb:Hid (vald (dig b) = b):=vald_dig b
 generalize dig a = x at ha hda hla Hva
 generalize dig b = y at hb hdb hlb Hvb
 obtain ⟨A,c0,rfl⟩:=ha.slice
 obtain ⟨A2,c2,rfl⟩:=hb.slice
 have hmk:=run_make_row' (P:=Tryz.prog) 65 3 (.int .i64 0) 8 Tryz.underlying65 infoInt rfl .i64 .i64 (x.length + y.length + 1) (by omega) (by omega)
 have hN:(x.length:Int) + y.length + 1 = ((x.length + y.length + 1:Nat):Int):=by omega
 rw [← hN] at hmk
 clear hN
 obtain ⟨N,hNN⟩ : ∃ N,x.length + y.length + 1 = N:=⟨_,rfl⟩
 rw [hNN] at hmk
 have HN:=Lib.hid hNN
 have Hst:Hid (TOut N w x y (.slice A x.length c0) (.slice A2 y.length c2) (.int .i64 0) ((((w.alloc (.cells #[.slice A x.length c0] 201)).alloc (.cells #[.slice A2 y.length c2] 201)).alloc (.cells #[.slice none 0 0] 201)).alloc (.cells (madeCells #[.int .i64 0] N) 3))):=
  ⟨0,List.replicate N 0,Nat.zero_le _,rfl,by simp,(fun d hd=>by have:=(List.mem_replicate.1 hd).2;omega),by simp [vald,vald_zeros],blk_alloc (blk_alloc (blk_alloc (blk_new _ _) _) _) _,blk_alloc (blk_alloc (by simpa using blk_new (w.alloc (.cells #[.slice A x.length c0] 201)) _) _) _,
   blk_alloc (by simpa using blk_new ((w.alloc (.cells #[.slice A x.length c0] 201)).alloc (.cells #[.slice A2 y.length c2] 201)) _) _,
   by simpa using IBlk.new (((w.alloc (.cells #[.slice A x.length c0] 201)).alloc (.cells #[.slice A2 y.length c2] 201)).alloc (.cells #[.slice none 0 0] 201)) N,(((((Below.refl _ _).alloc (Nat.le_refl _) _).alloc (by simp) _).alloc (by simp;omega) _).alloc (by simp;omega) _)⟩
 clear hNN
 go_enter Tryz.func160,Tryz.ntmps160
 go_wp2
 go_loopw [6] (fun v6 w1=>TOut N w x y (.slice A x.length c0) (.slice A2 y.length c2) v6 w1) (fun i _=>x.length - (intOf i).toNat)
 case atStart=>exact Hst.out
 case round=>
  obtain ⟨i,out,hi,rfl,hol,hdo,hval,hTB⟩:=hrel
  have Hval:=Lib.hid hval
  have Hol:=Lib.hid hol
  have HTB:=Lib.hid hTB
  clear hval hol
  obtain ⟨d0, -⟩:=cells1 hTB.1
  obtain ⟨d1, -⟩:=cells1 hTB.2.1
  by_cases hlt:i < x.length
  ·have hltd:=dT hlt
   obtain ⟨bx,ox,kx,hv,hkx,hbbx,hcx⟩:=ha.some (by intro e;rw [e] at hlt;simp at hlt)
   cases hv
   have hpc:=hcx i hlt
   have hp10:=hda _ (List.getElem_mem hlt)
   have HX:=Lib.hid (vald_take_succ x i hlt)
   clear hcx
   generalize x[i] = p at hpc hp10 HX
   have HXlt:Hid (vald (x.take i) < 10 ^ i):=by
    have:=vald_lt (l:=x.take i) (fun d hd=>hda d (List.mem_of_mem_take hd))
    rwa [List.length_take,Nat.min_eq_left hi] at this
   have HYlt:=Lib.hid (vald_lt hdb)
   have Hst2:Hid (TIn N w x y i p (.slice (some ⟨bx,ox,none⟩) x.length c0) (.slice A2 y.length c2) (.int .i64 0) (.int .i64 0) wr):=⟨0,0,out,rfl,rfl,by omega,by omega,Hol.out,hdo,by rw [Hval.out];simp [vald],HTB.out⟩
   clear hTB HTB
   go_wp2
   go_loopw [7,8] (fun v7 v8 w1=>TIn N w x y i p (.slice (some ⟨bx,ox,none⟩) x.length c0) (.slice A2 y.length c2) v7 v8 w1) (fun _ j _=>y.length + 1 - (intOf j).toNat)
   case atStart=>exact Hst2.out
   case round=>
    obtain ⟨c,j,out2,rfl,rfl,hc9,hj,hol2,hdo2,hval2,hTB⟩:=hrel
    have Hval2:=Lib.hid hval2
    have Hol2:=Lib.hid hol2
    have HTB:=Lib.hid hTB
    obtain ⟨d0, -⟩:=cells1 hTB.1
    obtain ⟨d1, -⟩:=cells1 hTB.2.1
    by_cases hgo:j < y.length ∨ 0 < c
    ·have hjm:j ≤ y.length:=by
      rcases hgo with h | h
      ·omega
      ·rcases Nat.lt_or_ge y.length j with hlj | hlj
       ·exfalso
        have h1:=hval2
        rw [List.take_of_length_le (by omega:y.length ≤ j)] at h1
        have h2:=tbound h1 HXlt.out hp10 HYlt.out h
        have h3:=Nat.pow_lt_pow_iff_right (a:=10) (by decide) |>.1 h2
        omega
       ·exact hlj
     clear hval2
     obtain ⟨k,hk⟩ : ∃ k,k = i + j:=⟨_,rfl⟩
     have hkk:(i:Int) + j = k:=by omega
     have hkw:IntKind.i64.wrap (k:Int) = k:=by rw [IntKind.wrap_i64];omega
     have hk0:(0:Int) ≤ k:=by omega
     have hkN1:(k:Int) < (N:Int):=by have:=HN.out;omega
     have hkl:k < out2.length:=by have:=HN.out;have:=Hol2.out;omega
     have hkN:k < N:=by have:=HN.out;omega
     have hoc:=hTB.2.2.2.1.cell k hkl
     have hof:=hTB.2.2.2.1.frozen k
     have ho10:=hdo2 _ (List.getElem_mem hkl)
     have hq10:=getD_lt hdb j
     have HY:=Lib.hid (vald_take_getD y j)
     have HS2:=Lib.hid (fun d=>vald_set (d:=d) hkl)
     have hB:=hTB.2.2.2.2
     have Hat:Hid (∀ W,Below wr.heap.size wr W → Calls Tryz.prog 184 #[.agg #[.slice A2 y.length c2],.int .i64 j] W fun e w'=>e = .returned (.int .i64 (y.getD j 0:Nat)) ∧ Below W.heap.size W w'):=fun W hW=>at_calls W _ y (hb.below (hB.trans (hW.mono hB.size))) j (by omega) hlb
     have q1:=(hB.cell (p:=⟨bx,ox + i,none⟩) hbbx).trans hpc
     generalize out2[k] = o at hoc ho10 HS2
     generalize y.getD j 0 = q at Hat hq10 HY
     have HT:Hid (∀ W W',Below wr.heap.size wr W → Below W.heap.size W W' → Below wr.heap.size wr W'):=fun W W' h1 h2=>h1.trans (h2.mono h1.size)
     have HB0:Hid (Below wr.heap.size wr wr.drew):=drewB (Below.refl _ _) 1
     have HS:Hid (∀ W,Below wr.heap.size wr W → W.cell? ⟨w.heap.size,0,none⟩ = some (.slice (some ⟨bx,ox,none⟩) x.length c0) ∧ W.cell? ⟨bx,ox + i,none⟩ = some (.int .i64 p) ∧ W.cell? ⟨w.heap.size + 1,0,none⟩ = some (.slice A2 y.length c2) ∧ W.cell? ⟨w.heap.size + 1 + 1 + 1,k,none⟩ = some (.int .i64 o) ∧ Below wr.heap.size wr W):=by
      intro W hW
      refine ⟨(hW.cell (p:=⟨w.heap.size,0,none⟩) (World.block_lt_of_cell? _ _ d0)).trans d0,(hW.cell (p:=⟨bx,ox + i,none⟩) (World.block_lt_of_cell? _ _ q1)).trans q1,(hW.cell (p:=⟨w.heap.size + 1,0,none⟩) (World.block_lt_of_cell? _ _ d1)).trans d1,(hW.cell (p:=⟨w.heap.size + 1 + 1 + 1,k,none⟩) (World.block_lt_of_cell? _ _ hoc)).trans hoc,hW⟩
     have hpq:p * q ≤ 81:=Nat.mul_le_mul (by omega:p ≤ 9) (by omega:q ≤ 9)
     have hpq2:(p:Int) * q = ((p * q:Nat):Int):=by simp
     obtain ⟨v,hv⟩ : ∃ v,v = o + p * q + c:=⟨_,rfl⟩
     have Hv:=Lib.hid hv
     have e1:IntKind.i64.wrap ((p:Int) * q) = ((p * q:Nat):Int):=by rw [hpq2,IntKind.wrap_i64];omega
     have e2:IntKind.i64.wrap ((o:Int) + ((p * q:Nat):Int)) = (o:Int) + ((p * q:Nat):Int):=by rw [IntKind.wrap_i64];omega
     have e3:IntKind.i64.wrap ((o:Int) + ((p * q:Nat):Int) + c) = v:=by rw [IntKind.wrap_i64];omega
     have E1:=Lib.hid e1
     have E2:=Lib.hid e2
     have E3:=Lib.hid e3
     clear hTB hB e1 e2 e3 hpq2
     have hcond:j < y.length ∨ (¬ j < y.length ∧ 0 < c):=by omega
     have hv99:v ≤ 99:=by omega
     have hm:(v:Int) % 10 = ((v % 10:Nat):Int):=by omega
     have hm2:(v:Int) / 10 = ((v / 10:Nat):Int):=by omega
     have Hnext:Hid (∀ W,Below wr.heap.size wr W → TIn N w x y i p (.slice (some ⟨bx,ox,none⟩) x.length c0) (.slice A2 y.length c2) (.int .i64 ((v / 10:Nat):Int)) (.int .i64 ((j:Int) + 1)) (W.setCell ⟨w.heap.size + 1 + 1 + 1,k,none⟩ (.int .i64 ((v % 10:Nat):Int)))):=by
      intro W hW
      refine ⟨v / 10,j + 1,out2.set k (v % 10),rfl,rfl,by omega,by omega,by simp [Hol2.out],?_,?_,(HTB.out.below hW).set k (v % 10)⟩
      ·intro d hd
       rcases List.mem_or_eq_of_mem_set hd with h | rfl
       ·exact hdo2 d h
       ·omega
      ·rw [HY.out]
       have h1:=Hval2.out
       have h2:=HS2.out (v % 10)
       subst hk
       rw [show i + (j + 1) = i + j + 1 from by omega,Nat.pow_succ]
       exact tsum (d:=v % 10) (by rw [Nat.pow_add]) h1 h2 Hv.out (by omega)
     have Hm:=Lib.hid hm.symm
     have Hm2:=Lib.hid hm2.symm
     clear hm hm2 hv hk hj hkl hgo hpq hp10 hq10 ho10 hc9
     rcases hcond with hc1 | ⟨hc1,hc2⟩
     all_goals go_wp2
     all_goals
      go_region_held3 (fun w' : World=>w'.cell? ⟨w.heap.size,0,none⟩ = some (.slice (some ⟨bx,ox,none⟩) x.length c0) ∧ w'.cell? ⟨bx,ox + i,none⟩ = some (.int .i64 p) ∧ w'.cell? ⟨w.heap.size + 1,0,none⟩ = some (.slice A2 y.length c2) ∧ w'.cell? ⟨w.heap.size + 1 + 1 + 1,k,none⟩ = some (.int .i64 o) ∧ Below wr.heap.size wr w')
       (first | exact HS.out _ HB0.out | (exact HS.out _ (HT.out _ _ (by assumption) (by assumption))))
       ((go_at_call 184;refine (Hat.out _ (by assumption)).mono ?_;rintro e w' ⟨rfl,hq⟩))
      rw [E1.out,E2.out,E3.out]
      have hW:=HT.out _ _ (by assumption) hq
      have hTB2:=HTB.out.below hW
      have z1:=hTB2.2.2.2.1.cell k (by have:=HN.out;have:=Hol2.out;omega)
      have z2:=hTB2.2.2.2.1.frozen k
      have Hk:=Lib.hid (Hnext.out _ hW)
      rw [Hm.out,Hm2.out] at Hk
      clear hTB2 Hnext HB0 HS HT E1 E2 E3
      go_wp2
      go_roundw
      case rel=>exact Hk.out
      case measure=>simp [intOf];omega
    ·have hc0:c = 0:=by omega
     have hjm:¬ j < y.length:=by omega
     subst hc0
     have Hnext:Hid (TOut N w x y (.slice (some ⟨bx,ox,none⟩) x.length c0) (.slice A2 y.length c2) (.int .i64 ((i:Int) + 1)) wr):=by
      refine ⟨i + 1,out2,by omega,rfl,hol2,hdo2,?_,HTB.out⟩
      have h1:=hval2
      rw [Nat.zero_mul,Nat.add_zero,List.take_of_length_le (by omega:y.length ≤ j)] at h1
      rw [h1,HX.out,Nat.add_mul,Nat.mul_assoc]
     clear hval2 hTB HTB hc9
     go_wp2
     go_roundw
     case rel=>exact Hnext.out
     case measure=>simp [intOf];omega
  ·have hin:i = x.length:=by omega
   have hltd:=dF hlt
   have hB:=hTB.2.2.2.2
   have hcall:∀ W,Below wr.heap.size wr W → Calls Tryz.prog 161 #[.slice (some ⟨w.heap.size + 1 + 1 + 1,0,none⟩) N N] W (CutPost W (.slice (some ⟨w.heap.size + 1 + 1 + 1,0,none⟩) N N) (trim out)):=fun W hW=>by
    have h1:=cut_calls W _ out ((hTB.2.2.2.1.below hW).rd Hol.out) (by have:=HN.out;have:=Hol.out;omega)
    exact h1
   have Hcall:=Lib.hid hcall
   have hz2:=hTB.2.2.1
   have hres:Hid (trim out = dig (a * b)):=by
    show _ = _
    have h1:=Hval.out
    rw [hin,List.take_of_length_le (Nat.le_refl _),Hva.out,Hvb.out] at h1
    rw [trim_eq hdo,h1]
   clear hcall hTB HTB
   go_wp2_with fail
   refine (Hcall.out _ (Below.refl _ _)).mono ?_
   rintro e w1 ⟨sv,rfl,hr,hsv,hw1⟩
   obtain ⟨A4,c4,rfl⟩:=hr.slice
   have z2:=blk_below hz2 hw1
   obtain ⟨cd,cg⟩:=cells1 z2
   have hns:(Value.slice A4 (trim out).length c4).ownBlock ≠ some (w.heap.size + 1 + 1):=fun h=>by
    have:=hsv _ h
    simp [Value.ownBlock] at this
   have Hf:=Lib.hid (((hB.trans (hw1.mono hB.size)).setCell (p:=⟨w.heap.size + 1 + 1,0,none⟩) (by show _ ≤ _;simp;omega) (.slice A4 (trim out).length c4)))
   have Hr:=Lib.hid (hr.fr ((Fr.refl (Only (w.heap.size + 1 + 1)) w1).setCell (p:=⟨w.heap.size + 1 + 1,0,none⟩) (.inl rfl) (.slice A4 (trim out).length c4)) (fun k hk e=>hns (by rw [hk,show k = _ from e])))
   have Hn:Hid (∀ k,(Value.slice A4 (trim out).length c4).ownBlock = some k → w.heap.size ≤ k):=fun k hk=>by
    have:=hsv k hk
    simp [Value.ownBlock] at this
    omega
   have Hc:=Lib.hid (cells1 (blk_setCell z2 0 (.slice A4 (trim out).length c4))).1
   clear hr hsv hw1 hns
   go_wp2
   have HC:=Hc.out
   refine bodyPost_ret (v:=.agg #[.slice A4 (trim out).length c4]) (by simp [results,Tryz.results160,go_sem,HC]) rfl ⟨_,rfl,?_,Hn.out,Hf.out⟩
   rw [← hres.out];exact Hr.out
end Go.Proofs.YtpfkkagkbneilaaGreatDoor
namespace Go.Proofs.YtpfkkagkbneilaaGreatDoor
open Go.RowKit
set_option linter.unusedVariables false
set_option linter.unusedSimpArgs false
theorem dig_len_mono {a b:Nat} (h:a ≤ b):(dig a).length ≤ (dig b).length:=by
 rcases Nat.lt_or_ge (dig b).length (dig a).length with h1 | h1
 ·have:=dig_lt_of_len h1;omega
 ·exact h1
theorem dig_lt_pow (b:Nat):b < 10 ^ (dig b).length:=by
 have:=vald_lt (dlt_dig b);rwa [vald_dig] at this
def DB (w:World) (va vb:Value) (qs:List Nat) (L:Nat) (lv:Value) (w1:World):Prop:=
 w1.heap[w.heap.size]? = some (.cells #[va] 201 (0,0)) ∧ w1.heap[w.heap.size + 1]? = some (.cells #[vb] 201 (0,0)) ∧
 w1.heap[w.heap.size + 1 + 1]? = some (.cells #[.slice none 0 0] 201 (0,0)) ∧ w1.heap[w.heap.size + 1 + 1 + 1]? = some (.cells #[.slice none 0 0] 201 (0,0)) ∧
 IBlk w1 (w.heap.size + 1 + 1 + 1 + 1) qs ∧ w1.heap[w.heap.size + 1 + 1 + 1 + 1 + 1]? = some (.cells #[lv] 201 (0,0)) ∧
 RdI w1 lv (dig L) ∧ (∀ k,lv.ownBlock = some k → w.heap.size + 1 + 1 + 1 + 1 + 1 < k) ∧ Below w.heap.size w w1
theorem DB.below {w w1 w2:World} {va vb lv:Value} {qs:List Nat} {L:Nat} (h:DB w va vb qs L lv w1) (hb:Below w1.heap.size w1 w2):DB w va vb qs L lv w2:=by
 obtain ⟨h0,h1,h2,h3,h4,h5,h6,h7,h8⟩:=h
 exact ⟨blk_below h0 hb,blk_below h1 hb,blk_below h2 hb,blk_below h3 hb,h4.below hb,blk_below h5 hb,h6.below hb,h7,h8.trans (hb.mono h8.size)⟩
theorem DB.left {w w1:World} {va vb lv lv' : Value} {qs:List Nat} {L L' : Nat} (h:DB w va vb qs L lv w1) (hr:RdI w1 lv' (dig L')) (hn:∀ k,lv'.ownBlock = some k → w.heap.size + 1 + 1 + 1 + 1 + 1 < k) :
  DB w va vb qs L' lv' (w1.setCell ⟨w.heap.size + 1 + 1 + 1 + 1 + 1,0,none⟩ lv'):=by
 obtain ⟨h0,h1,h2,h3,h4,h5,h6,h7,h8⟩:=h
 refine ⟨blk_far h0 ?_ _,blk_far h1 ?_ _,blk_far h2 ?_ _,blk_far h3 ?_ _,blk_far h4 ?_ _,by simpa using blk_setCell h5 0 lv',hr.fr ((Fr.refl (Only (w.heap.size + 1 + 1 + 1 + 1 + 1)) w1).setCell (p:=⟨w.heap.size + 1 + 1 + 1 + 1 + 1,0,none⟩) (.inl rfl) lv') (fun k hk e=>?_),hn,h8.setCell ?_ _⟩
 ·show w.heap.size ≠ w.heap.size + 1 + 1 + 1 + 1 + 1;omega
 ·show w.heap.size + 1 ≠ w.heap.size + 1 + 1 + 1 + 1 + 1;omega
 ·show w.heap.size + 1 + 1 ≠ w.heap.size + 1 + 1 + 1 + 1 + 1;omega
 ·show w.heap.size + 1 + 1 + 1 ≠ w.heap.size + 1 + 1 + 1 + 1 + 1;omega
 ·show w.heap.size + 1 + 1 + 1 + 1 ≠ w.heap.size + 1 + 1 + 1 + 1 + 1;omega
 ·have h1:=hn k hk
  have h2:k = w.heap.size + 1 + 1 + 1 + 1 + 1:=e
  omega
 ·show w.heap.size ≤ w.heap.size + 1 + 1 + 1 + 1 + 1;omega
theorem DB.q {w w1:World} {va vb lv:Value} {qs:List Nat} {L:Nat} (h:DB w va vb qs L lv w1) (i d:Nat):DB w va vb (qs.set i d) L lv (w1.setCell ⟨w.heap.size + 1 + 1 + 1 + 1,i,none⟩ (.int .i64 (d:Int))):=by
 obtain ⟨h0,h1,h2,h3,h4,h5,h6,h7,h8⟩:=h
 refine ⟨blk_far h0 ?_ _,blk_far h1 ?_ _,blk_far h2 ?_ _,blk_far h3 ?_ _,h4.set i d,blk_far h5 ?_ _,h6.fr ((Fr.refl (Only (w.heap.size + 1 + 1 + 1 + 1)) w1).setCell (p:=⟨w.heap.size + 1 + 1 + 1 + 1,i,none⟩) (.inl rfl) _) (fun k hk e=>?_),h7,h8.setCell ?_ _⟩
 ·show w.heap.size ≠ w.heap.size + 1 + 1 + 1 + 1;omega
 ·show w.heap.size + 1 ≠ w.heap.size + 1 + 1 + 1 + 1;omega
 ·show w.heap.size + 1 + 1 ≠ w.heap.size + 1 + 1 + 1 + 1;omega
 ·show w.heap.size + 1 + 1 + 1 ≠ w.heap.size + 1 + 1 + 1 + 1;omega
 ·show w.heap.size + 1 + 1 + 1 + 1 + 1 ≠ w.heap.size + 1 + 1 + 1 + 1;omega
 ·have h1:=h7 k hk
  have h2:k = w.heap.size + 1 + 1 + 1 + 1:=e
  omega
 ·show w.heap.size ≤ w.heap.size + 1 + 1 + 1 + 1;omega
def DOut (w:World) (x:List Nat) (b:Nat) (va vb v8:Value) (w1:World):Prop := ∃ (k:Nat) (Q:List Nat) (L:Nat) (lv:Value),k ≤ x.length ∧ v8 = .int .i64 ((k:Int) - 1) ∧ Q.length = x.length ∧ DLt Q ∧
 (∀ j (h:j < Q.length),j < k → Q[j] = 0) ∧ vald (x.drop k) = vald (Q.drop k) * b + L ∧ L < b ∧ DB w va vb Q L lv w1
def DIn (w:World) (Q:List Nat) (i T b:Nat) (va vb:Value) (w1:World):Prop := ∃ (t M:Nat) (lv:Value),M + t * b = T ∧ DB w va vb (Q.set i t) M lv w1
def LPost2 (w:World) (ds es:List Nat):Ending → World → Prop:=fun e w' => ∃ sv su,e = .returned (.tuple #[.agg #[sv],.agg #[su]]) ∧ RdI w' sv ds ∧ RdI w' su es ∧ (∀ k,sv.ownBlock = some k → w.heap.size ≤ k) ∧ (∀ k,su.ownBlock = some k → w.heap.size ≤ k) ∧ Below w.heap.size w w'
theorem rdI_cons {w:World} {base n p:Nat} {v:Value} {e:TypeId} {l:List Nat} (h:w.ownsRow base e 1 v n (ints [p] ++ ints l)) (hn:n = l.length + 1):RdI w v (p :: l):=by
 subst hn;exact RdI.of_own h
theorem trim_cons (p L:Nat) (hp:p < 10):trim (p :: dig L) = dig (p + 10 * L):=by
 rw [trim_eq (fun d hd=>by
  rcases List.mem_cons.1 hd with rfl | h
  ·exact hp
  ·exact dlt_dig L d h),vald,vald_dig]
theorem drop_set_self {l:List Nat} {i t:Nat} (h:i < l.length):(l.set i t).drop i = t :: l.drop (i + 1):=by
 have h2:i < (l.set i t).length:=by simpa using h
 rw [List.drop_eq_getElem_cons h2,List.getElem_set_self]
 congr 1
 rw [List.drop_set_of_lt (by omega)]
theorem bsum {p V L t M b:Nat} (hT:M + t * b = p + 10 * L):p + 10 * (V * b + L) = (t + 10 * V) * b + M:=by
 rw [Nat.add_mul,Nat.mul_add,Nat.mul_assoc];omega
theorem t_lt {T M t b:Nat} (hT:M + t * b = T) (h:T < 10 * b):t < 10:=Nat.lt_of_mul_lt_mul_right (a:=b) (by omega)
theorem t_lt2 {T M t b:Nat} (hT:M + t * b = T) (h:T < 10 * b) (hM:b ≤ M):t + 1 < 10:=Nat.lt_of_mul_lt_mul_right (a:=b) (by rw [Nat.add_mul];omega)
theorem DB.post {w w1:World} {va vb sv su:Value} {qs ds:List Nat} {L n m:Nat} (h:DB w va vb qs L su w1) (hr:RdI w1 sv ds) (hs:∀ k,sv.ownBlock = some k → (Value.slice (some ⟨w.heap.size + 1 + 1 + 1 + 1,0,none⟩) n m).ownBlock = some k) :
  LPost2 w ds (dig L) (.returned (.tuple #[.agg #[sv],.agg #[su]])) ((w1.setCell ⟨w.heap.size + 1 + 1,0,none⟩ sv).setCell ⟨w.heap.size + 1 + 1 + 1,0,none⟩ su) ∧
  ((w1.setCell ⟨w.heap.size + 1 + 1,0,none⟩ sv).setCell ⟨w.heap.size + 1 + 1 + 1,0,none⟩ su).cell? ⟨w.heap.size + 1 + 1,0,none⟩ = some sv ∧
  ((w1.setCell ⟨w.heap.size + 1 + 1,0,none⟩ sv).setCell ⟨w.heap.size + 1 + 1 + 1,0,none⟩ su).cell? ⟨w.heap.size + 1 + 1 + 1,0,none⟩ = some su:=by
 obtain ⟨h0,h1,h2,h3,h4,h5,h6,h7,h8⟩:=h
 have hF:Fr (fun k=>k = w.heap.size + 1 + 1 ∨ k = w.heap.size + 1 + 1 + 1) w1 ((w1.setCell ⟨w.heap.size + 1 + 1,0,none⟩ sv).setCell ⟨w.heap.size + 1 + 1 + 1,0,none⟩ su):=
  ((Fr.refl _ w1).setCell (p:=⟨w.heap.size + 1 + 1,0,none⟩) (.inl (.inl rfl)) sv).setCell (p:=⟨w.heap.size + 1 + 1 + 1,0,none⟩) (.inl (.inr rfl)) su
 have hsv:∀ k,sv.ownBlock = some k → k = w.heap.size + 1 + 1 + 1 + 1:=fun k hk=>by
  have:=hs k hk;simp [Value.ownBlock] at this;exact this.symm
 have g2:=blk_setCell h2 0 sv
 have g3:=blk_far h3 (p:=⟨w.heap.size + 1 + 1,0,none⟩) (by show w.heap.size + 1 + 1 + 1 ≠ w.heap.size + 1 + 1;omega) sv
 refine ⟨⟨sv,su,rfl,hr.fr hF (fun k hk e=>?_),h6.fr hF (fun k hk e=>?_),fun k hk=>?_,fun k hk=>?_,(h8.setCell (p:=⟨w.heap.size + 1 + 1,0,none⟩) (by show _ ≤ _;simp;omega) _).setCell (by show _ ≤ _;simp;omega) _⟩,?_,?_⟩
 ·have:=hsv k hk;have e:k = w.heap.size + 1 + 1 ∨ k = w.heap.size + 1 + 1 + 1:=e;omega
 ·have:=h7 k hk;have e:k = w.heap.size + 1 + 1 ∨ k = w.heap.size + 1 + 1 + 1:=e;omega
 ·have:=hsv k hk;omega
 ·have:=h7 k hk;omega
 ·exact (cells1 (blk_far g2 (by show w.heap.size + 1 + 1 ≠ w.heap.size + 1 + 1 + 1;omega) su)).1
 ·exact (cells1 (blk_setCell g3 0 su)).1
set_option maxRecDepth 100000 in
set_option maxHeartbeats 3200000 in
theorem by_calls (w:World) (va vb:Value) (a b:Nat) (hb0:0 < b) (ha:RdI w va (dig a)) (hb:RdI w vb (dig b)) (hla:(dig a).length ≤ 1048000) (hlb:(dig b).length ≤ 1048000) :
  Calls Tryz.prog 162 #[.agg #[va],.agg #[vb]] w (LPost2 w (dig (a / b)) (dig (a % b))):=by
 have hda:=dlt_dig a
 have Hva:Hid (vald (dig a) = a):=vald_dig a
 generalize dig a = x at ha hda hla Hva
 obtain ⟨A,c0,rfl⟩:=ha.slice
 obtain ⟨A2,c2,rfl⟩:=hb.slice
 have hmk:=run_make_row' (P:=Tryz.prog) 65 3 (.int .i64 0) 8 Tryz.underlying65 infoInt rfl .i64 .i64 x.length (by omega) (by omega)
 have Hst:∀ W1 W2:World,W1 = ((((w.alloc (.cells #[.slice A x.length c0] 201)).alloc (.cells #[.slice A2 (dig b).length c2] 201)).alloc (.cells #[.slice none 0 0] 201)).alloc (.cells #[.slice none 0 0] 201)) →
   W2 = (W1.alloc (.cells (madeCells #[.int .i64 0] x.length) 3)).alloc (.cells #[.slice none 0 0] 201) → Hid (DOut w x b (.slice A x.length c0) (.slice A2 (dig b).length c2) (.int .i64 ((x.length:Int) - 1)) W2):=by
  intro W1 W2 h1 h2
  have s1:W1.heap.size = w.heap.size + 1 + 1 + 1 + 1:=by rw [h1];simp
  have b0:W1.heap[w.heap.size]? = some (.cells #[.slice A x.length c0] 201 (0,0)):=by rw [h1];exact blk_alloc (blk_alloc (blk_alloc (blk_new _ _) _) _) _
  have b1:W1.heap[w.heap.size + 1]? = some (.cells #[.slice A2 (dig b).length c2] 201 (0,0)):=by rw [h1];exact blk_alloc (blk_alloc (by simpa using blk_new (w.alloc (.cells #[.slice A x.length c0] 201)) _) _) _
  have b2:W1.heap[w.heap.size + 1 + 1]? = some (.cells #[.slice none 0 0] 201 (0,0)):=by rw [h1];exact blk_alloc (by simpa using blk_new ((w.alloc (.cells #[.slice A x.length c0] 201)).alloc (.cells #[.slice A2 (dig b).length c2] 201)) _) _
  have b3:W1.heap[w.heap.size + 1 + 1 + 1]? = some (.cells #[.slice none 0 0] 201 (0,0)):=by rw [h1];simpa using blk_new (((w.alloc (.cells #[.slice A x.length c0] 201)).alloc (.cells #[.slice A2 (dig b).length c2] 201)).alloc (.cells #[.slice none 0 0] 201)) _
  have bB:Below w.heap.size w W1:=by rw [h1];exact (((((Below.refl _ _).alloc (Nat.le_refl _) _).alloc (by simp) _).alloc (by simp;omega) _).alloc (by simp;omega) _)
  have b4:=IBlk.new W1 x.length
  rw [s1] at b4
  have b5:=blk_new (W1.alloc (.cells (madeCells #[.int .i64 0] x.length) 3)) (.cells #[.slice none 0 0] 201)
  have s2:(W1.alloc (.cells (madeCells #[.int .i64 0] x.length) 3)).heap.size = w.heap.size + 1 + 1 + 1 + 1 + 1:=by simp [s1]
  rw [s2] at b5
  have hDB:DB w (.slice A x.length c0) (.slice A2 (dig b).length c2) (List.replicate x.length 0) 0 (.slice none 0 0) W2:=by
   rw [h2]
   refine ⟨blk_alloc (blk_alloc b0 _) _,blk_alloc (blk_alloc b1 _) _,blk_alloc (blk_alloc b2 _) _,blk_alloc (blk_alloc b3 _) _,blk_alloc b4 _,b5,by rw [dig_zero];exact RdI.nil _,(fun k hk=>by cases hk),(bB.alloc (by omega) _).alloc (by omega) _⟩
  refine ⟨x.length,List.replicate x.length 0,0,.slice none 0 0,Nat.le_refl _,rfl,by simp,(fun d hd=>by have:=(List.mem_replicate.1 hd).2;omega),fun j h _=>by simp,by simp [vald],hb0,hDB⟩
 have HB0:=Lib.hid hb0
 go_enter Tryz.func162,Tryz.ntmps162
 go_wp2
 go_loopw [8] (fun v8 w1=>DOut w x b (.slice A x.length c0) (.slice A2 (dig b).length c2) v8 w1) (fun i _=>(intOf i + 1).toNat)
 case atStart=>exact (Hst _ _ rfl rfl).out
 case round=>
  clear Hst hmk
  obtain ⟨k,Q,L,lv,hk,rfl,hql,hdq,hz,hval,hL,hDB⟩:=hrel
  have Hz:=Lib.hid hz
  have Hval:=Lib.hid hval
  have Hql:=Lib.hid hql
  have HDB:=Lib.hid hDB
  obtain ⟨A4,c4,rfl⟩:=hDB.2.2.2.2.2.2.1.slice
  have hLlen:=dig_len_mono (Nat.le_of_lt hL)
  obtain ⟨d0, -⟩:=cells1 hDB.1
  obtain ⟨d1, -⟩:=cells1 hDB.2.1
  obtain ⟨d5, -⟩:=cells1 hDB.2.2.2.2.2.1
  have hB:=hDB.2.2.2.2.2.2.2.2
  have hrl:=hDB.2.2.2.2.2.2.1
  have hs6:=blk_lt hDB.2.2.2.2.2.1
  clear hz hval hql hDB
  by_cases hk0:0 < k
  ·obtain ⟨i,rfl⟩ : ∃ m,k = m + 1:=⟨k - 1,by omega⟩
   rw [show ((i + 1:Nat):Int) - 1 = (i:Int) from by omega]
   have hix:i < x.length:=by omega
   obtain ⟨bx,ox,kx,hv,hkx,hbbx,hcx⟩:=ha.some (by intro e;rw [e] at hix;simp at hix)
   cases hv
   have q1:=(hB.cell (p:=⟨bx,ox + i,none⟩) hbbx).trans (hcx i hix)
   have hp10:=hda _ (List.getElem_mem hix)
   have HX:Hid (vald (x.drop i) = x[i] + 10 * vald (x.drop (i + 1))):=by
    show _ = _
    rw [List.drop_eq_getElem_cons hix];rfl
   clear hcx
   generalize x[i] = p at q1 hp10 HX
   have hi0:(0:Int) ≤ i:=by omega
   have HTL:Hid ((dig (p + 10 * L)).length ≤ (dig b).length + 1):=by
    show _ ≤ _
    apply dig_len_le
    have:=dig_lt_pow b
    rw [Nat.pow_succ];omega
   have HTb:Hid (p + 10 * L < 10 * b):=by show _ < _;omega
   have HL:=Lib.hid hL
   clear hk0
   have HB:=Lib.hid hB
   clear hB hL
   go_wp2_with (at_builtin;refine wpList_append2 _ rfl (.tmp 23) (.tmp 29) 65 rfl 3 (.int .i64 0) 1 8 Tryz.underlying65 infoInt rfl (by decide) _ 0 (ints []) rfl (World.ownsRow_nil _ 0 _ _) _ 1 (ints [p]) rfl ?c1 (ints_one _) ?c2 ?c3 ?_)
   case c1=>exact RdI.one _ _ _
   case c2=>unfold maxLen;omega
   case c3=>omega
   intro v1 w1 ho1 hg1 hn1 _
   have hW1:Below wr.heap.size wr w1:=((Below.refl wr.heap.size wr).alloc (Nat.le_refl _) _).grown hg1 (by simp) (fun k hk=>by cases hk)
   obtain ⟨A5,c5,rfl⟩:=own_slice ho1
   have hd5:=(hW1.cell (p:=⟨w.heap.size + 1 + 1 + 1 + 1 + 1,0,none⟩) hs6).trans d5
   have hrl1:=hrl.below hW1
   have hnw5:∀ k,(Value.slice A5 1 c5).ownBlock = some k → wr.heap.size ≤ k:=fun k hk=>by
    rcases hn1 k hk with h | h
    ·cases h
    ·omega
   have Hnw5:=Lib.hid hnw5
   clear hnw5 hn1 hg1
   go_wp2_with (at_builtin;refine wpList_append2 _ rfl (.tmp 31) (.tmp 33) 65 rfl 3 (.int .i64 0) 1 8 Tryz.underlying65 infoInt rfl (by decide) _ 1 (ints [p]) rfl ho1 _ (dig L).length (ints (dig L)) rfl ?c1 (ints_one _) ?c2 ?c3 ?_)
   case c1=>exact hrl1
   case c2=>unfold maxLen;omega
   case c3=>omega
   intro v2 w2 ho2 hg2 hn2 _
   have hW2:Below wr.heap.size wr w2:=hW1.grown hg2 hW1.size (fun k hk=>Hnw5.out k hk)
   have hr9:=rdI_cons ho2 (by omega)
   have hnw2:∀ k,v2.ownBlock = some k → wr.heap.size ≤ k:=fun k hk=>by
    rcases hn2 k hk with h | h
    ·exact Hnw5.out k h
    ·have:=hW1.size;omega
   have Hnw2:=Lib.hid hnw2
   have HDB2:=Lib.hid (HDB.out.below hW2)
   have hs2:=hW2.size
   obtain ⟨A6,c6,rfl⟩:=hr9.slice
   have H9:=Lib.hid hr9
   clear hnw2 hn2 hg2 ho2 ho1 hrl1 hr9 hW1 hd5
   go_wp2_with fail
   refine (cut_calls _ _ _ H9.out (by simp;omega)).mono ?_
   rintro e w3 ⟨sv,rfl,hr,hsv,hw3⟩
   have HT:=trim_cons p L hp10
   rw [HT] at hr
   clear HT
   obtain ⟨A7,c7,rfl⟩:=hr.slice
   have HDB3:=Lib.hid (HDB2.out.below hw3)
   obtain ⟨e5,f5⟩:=cells1 HDB3.out.2.2.2.2.2.1
   have Hst:Hid (DIn w Q i (p + 10 * L) b (.slice (some ⟨bx,ox,none⟩) x.length c0) (.slice A2 (dig b).length c2) (w3.setCell ⟨w.heap.size + 1 + 1 + 1 + 1 + 1,0,none⟩ (.slice A7 (dig (p + 10 * L)).length c7))):=by
    refine ⟨0,p + 10 * L,.slice A7 (dig (p + 10 * L)).length c7,by simp,?_⟩
    have hQ:Q.set i 0 = Q:=by
     apply List.ext_getElem (by simp)
     intro n h1 h2
     rw [List.getElem_set]
     by_cases e:i = n
     ·subst e;rw [if_pos rfl];exact (Hz.out i h2 (by omega)).symm
     ·rw [if_neg e]
    rw [hQ]
    refine HDB3.out.left hr (fun k hk=>?_)
    have:=Hnw2.out k (hsv k hk)
    omega
   clear hr hsv hw3
   go_wp2
   clear HDB3 HDB2 HDB e5 f5 H9 Hnw2 Hnw5 d0 d1 d5 q1 hrl hs2 hs6
   go_loopw [] (fun w1=>DIn w Q i (p + 10 * L) b (.slice (some ⟨bx,ox,none⟩) x.length c0) (.slice A2 (dig b).length c2) w1) (fun w1=>10 - (intOf ((w1.cell? ⟨w.heap.size + 1 + 1 + 1 + 1,i,none⟩).getD (.int .i64 0))).toNat)
   case atStart=>exact Hst.out
   case round=>
    clear Hst
    obtain ⟨t,M,lv,hT,hDB⟩:=hrel
    have hM:M ≤ p + 10 * L:=by rw [← hT];exact Nat.le_add_right _ _
    have hMl:=dig_len_mono hM
    have HMl:Hid ((dig M).length ≤ 1048001):=by have:=HTL.out;show _ ≤ _;omega
    clear hMl hM
    obtain ⟨A4,c4,rfl⟩:=hDB.2.2.2.2.2.2.1.slice
    obtain ⟨d1, -⟩:=cells1 hDB.2.1
    obtain ⟨d5, -⟩:=cells1 hDB.2.2.2.2.2.1
    have HrM:=Lib.hid hDB.2.2.2.2.2.2.1
    have HrB:=Lib.hid (hb.below hDB.2.2.2.2.2.2.2.2)
    have HT:=Lib.hid hT
    have HDB:=Lib.hid hDB
    clear hT hDB
    go_wp2_with fail
    refine (less_calls _ _ _ M b HrM.out HrB.out (by have:=HMl.out;omega) (by omega)).mono ?_
    rintro e w4 ⟨rfl,hw4⟩
    have HDB4:=Lib.hid (HDB.out.below hw4)
    have HrM4:=Lib.hid (HrM.out.below hw4)
    have HrB4:=Lib.hid (HrB.out.below hw4)
    obtain ⟨d1, -⟩:=cells1 HDB4.out.2.1
    obtain ⟨d5, -⟩:=cells1 HDB4.out.2.2.2.2.2.1
    clear HrM HrB hw4
    by_cases hlt:M < b
    ·have Hnext:Hid (DOut w x b (.slice (some ⟨bx,ox,none⟩) x.length c0) (.slice A2 (dig b).length c2) (.int .i64 ((i:Int) - 1)) w4):=by
      have hiQ:i < Q.length:=by rw [Hql.out];omega
      refine ⟨i,Q.set i t,M,.slice A4 (dig M).length c4,by omega,rfl,by simp [Hql.out],?_,?_,?_,hlt,HDB4.out⟩
      ·intro d hd
       rcases List.mem_or_eq_of_mem_set hd with h | rfl
       ·exact hdq d h
       ·exact t_lt HT.out HTb.out
      ·intro j h hj
       rw [List.getElem_set_ne (by omega)]
       exact Hz.out j (by simpa using h) (by omega)
      ·rw [drop_set_self hiQ,HX.out,Hval.out];exact bsum HT.out
     clear HDB HDB4
     go_wp2
     go_roundw
     case rel=>exact Hnext.out
     case measure=>first | (simp [intOf];done) | (simp [intOf];omega)
    ·have hbM:b ≤ M:=by omega
     go_wp2_with fail
     refine (minus_calls _ _ _ M b hbM HrM4.out HrB4.out (by have:=HMl.out;omega) (by omega)).mono ?_
     rintro e w5 ⟨su,rfl,hr,hsu,hw5⟩
     obtain ⟨A8,c8,rfl⟩:=hr.slice
     have HDB5:=Lib.hid (HDB4.out.below hw5)
     obtain ⟨e5,f5⟩:=cells1 HDB5.out.2.2.2.2.2.1
     have HDB6:=Lib.hid (HDB5.out.left (L':=M - b) hr (fun k hk=>by
      have h1:=hsu k hk
      have h2:=blk_lt HDB4.out.2.2.2.2.2.1
      omega))
     have hiQ:i < (Q.set i t).length:=by rw [List.length_set,Hql.out];omega
     have z1:=HDB6.out.2.2.2.2.1.cell i hiQ
     have z2:=HDB6.out.2.2.2.2.1.frozen i
     rw [List.getElem_set_self] at z1
     have ht:=t_lt2 HT.out HTb.out hbM
     have Hz3:Hid (DIn w Q i (p + 10 * L) b (.slice (some ⟨bx,ox,none⟩) x.length c0) (.slice A2 (dig b).length c2) ((w5.setCell ⟨w.heap.size + 1 + 1 + 1 + 1 + 1,0,none⟩ (.slice A8 (dig (M - b)).length c8)).setCell ⟨w.heap.size + 1 + 1 + 1 + 1,i,none⟩ (.int .i64 ((t:Int) + 1)))):=by
      refine ⟨t + 1,M - b,.slice A8 (dig (M - b)).length c8,?_,?_⟩
      ·have:=HT.out;rw [Nat.add_mul,Nat.one_mul];omega
      ·have:=HDB6.out.q i (t + 1)
       rw [List.set_set] at this
       exact this
     have hc1:=HDB.out.2.2.2.2.1.cell i hiQ
     rw [List.getElem_set_self] at hc1
     have hm1:=(HDB6.out.q i (t + 1)).2.2.2.2.1.cell i (by simpa using hiQ)
     rw [List.getElem_set_self] at hm1
     have Hc1:=Lib.hid hc1
     have Hm1:=Lib.hid hm1
     clear hc1 hm1
     clear hr hsu hw5
     go_wp2
     go_roundw
     case rel=>exact Hz3.out
     case measure=>
      rw [show ((t:Int) + 1) = ((t + 1:Nat):Int) from by omega,Hm1.out,Hc1.out]
      simp [intOf];omega
  ·obtain rfl:k = 0:=by omega
   have hW:Below wr.heap.size wr wr.drew:=drewB (Below.refl _ _) 1
   have HDBd:=Lib.hid (HDB.out.below hW)
   have hqr:=HDBd.out.2.2.2.2.1.rd Hql.out
   have Hqr:=Lib.hid hqr
   have hLdig:Hid (trim Q = dig (a / b) ∧ L = a % b):=by
    have h1:=Hval.out
    rw [List.drop_zero,List.drop_zero,Hva.out] at h1
    have h2:a / b = vald Q:=by
     rw [h1,Nat.add_comm,Nat.add_mul_div_right _ _ HB0.out,Nat.div_eq_of_lt hL];omega
    have h3:a % b = L:=by
     rw [h1,Nat.add_comm,Nat.add_mul_mod_self_right,Nat.mod_eq_of_lt hL]
    refine ⟨?_,h3.symm⟩
    rw [trim_eq hdq,h2]
   have hql1:Q.length ≤ 1048000:=by rw [Hql.out];exact hla
   clear hqr hW hB hrl hs6
   go_wp2
   go_region_with ((go_at_call 161;refine (cut_calls _ _ _ Hqr.out (by omega)).mono ?_;rintro e w1 ⟨sv,rfl,hr,hsv,hw1⟩;obtain ⟨A7,c7,rfl⟩:=hr.slice;have HDB1:=Lib.hid (HDBd.out.below hw1);have e2:=(cells1 HDB1.out.2.2.1).1;have f2:=(cells1 HDB1.out.2.2.1).2;have e3:=(cells1 HDB1.out.2.2.2.1).1;have f3:=(cells1 HDB1.out.2.2.2.1).2;have e5:=(cells1 HDB1.out.2.2.2.2.2.1).1))
   all_goals
    obtain ⟨hp,g2,g3⟩:=HDB1.out.post hr hsv
    have Hp:=Lib.hid hp
    clear hp hr hsv hw1 e2 f2 e3 f3 e5
    go_wp2
    refine bodyPost_ret (v:=.tuple #[.agg #[.slice A7 (trim Q).length c7],.agg #[.slice A4 (dig L).length c4]]) (by simp [results,Tryz.results162,go_sem,g2,g3]) rfl ?_
    have h1:=Hp.out
    have h2:=hLdig.out
    rw [← h2.1,← h2.2];exact h1
end Go.Proofs.YtpfkkagkbneilaaGreatDoor
namespace Go.Proofs.YtpfkkagkbneilaaGreatDoor
open Go.RowKit
set_option linter.unusedVariables false
set_option linter.unusedSimpArgs false
def dch (d:Nat):UInt8:=UInt8.ofNat (48 + d)
def asc (n:Nat):List UInt8:=if n = 0 then [48] else (dig n).reverse.map dch
def StrIs (v:Value) (l:List UInt8):Prop := ∃ s:ByteArray,v = .string s ∧ s.data.toList = l
theorem size_toList (s:ByteArray):s.size = s.data.toList.length:=by rw [Array.length_toList];rfl
def WLoop (w:World) (f n g:Nat) (v6:Value) (w1:World):Prop := ∃ (i:Nat) (lv:Value),v6 = .int .i64 i ∧ i ≤ n ∧ w1.heap[w.heap.size]? = some (.cells #[.slice none 0 0] 201 (0,0)) ∧ w1.heap[g]? = some (.cells #[lv] 201 (0,0)) ∧
 RdI w1 lv (dig (f ^ i)) ∧ (∀ k,lv.ownBlock = some k → w.heap.size < k ∧ k ≠ g) ∧ Below w.heap.size w w1
theorem dig_pow_len {f i:Nat} (hf:f ≤ 1024) (hi:i ≤ 18):(dig (f ^ i)).length ≤ 56:=by
 apply dig_len_le
 have h1:f ^ i ≤ 1024 ^ i:=Nat.pow_le_pow_left hf i
 have h2:1024 ^ i ≤ 1024 ^ 18:=Nat.pow_le_pow_right (by decide) hi
 have h3:1024 ^ 18 < 10 ^ 56:=by decide
 omega
theorem WLoop.next {w wr w2 w3:World} {f n g i:Nat} {v lt:Value} (hgs:w.heap.size < g) (hi:i < n) (hb0:wr.heap[w.heap.size]? = some (.cells #[.slice none 0 0] 201 (0,0))) (hbg:wr.heap[g]? = some (.cells #[v] 201 (0,0)))
  (hB:Below w.heap.size w wr) (hD:Below wr.heap.size wr w2) (hw3:Below w2.heap.size w2 w3) (hr:RdI w3 lt (dig (f ^ i * f))) (hn:∀ k,lt.ownBlock = some k → w2.heap.size ≤ k) :
  WLoop w f n g (.int .i64 ((i:Int) + 1)) (w3.setCell ⟨g,0,none⟩ lt):=by
 have h1:=blk_lt hbg
 have h2:=hD.size
 refine ⟨i + 1,lt,rfl,hi,blk_far (blk_below (blk_below hb0 hD) hw3) (by show w.heap.size ≠ g;omega) _,by simpa using blk_setCell (blk_below (blk_below hbg hD) hw3) 0 lt,?_,fun k hk=>?_,?_⟩
 ·rw [Nat.pow_succ]
  exact hr.fr ((Fr.refl (Only g) w3).setCell (p:=⟨g,0,none⟩) (.inl rfl) lt) (fun k hk e=>by
   have:=hn k hk
   have e:k = g:=e
   omega)
 ·have:=hn k hk;omega
 ·exact ((hB.trans (hD.mono hB.size)).trans (hw3.mono (Nat.le_trans hB.size hD.size))).setCell (by show w.heap.size ≤ g;omega) _
set_option maxRecDepth 100000 in
set_option maxHeartbeats 1600000 in
theorem power_calls (w:World) (f n:Nat) (hf:f ≤ 1024) (hn:n ≤ 18):Calls Tryz.prog 159 #[.int .i64 f,.int .i64 n] w (LPost w (dig (f ^ n))):=by
 go_enter Tryz.func159,Tryz.ntmps159
 go_wp2_with fail
 refine (long_calls _ 1 (by decide)).mono ?_
 rintro e w1 ⟨lv,rfl,hr,hnew,hw1⟩
 obtain ⟨b,off,c,rfl,hc,hb,hcell⟩:=hr.some (by rw [dig_pos (by decide)];simp)
 have hs:=hw1.size
 have hbs:=hnew b rfl
 simp at hs hbs
 have Hst:Hid (WLoop w f n w1.heap.size (.int .i64 0) (w1.alloc (.cells #[.slice (some ⟨b,off,none⟩) (dig 1).length c] 201))):=by
  refine ⟨0,_,rfl,Nat.zero_le _,?_,blk_new _ _,?_,?_,?_⟩
  ·exact blk_alloc (blk_below (blk_new _ _) hw1) _
  ·rw [Nat.pow_zero];exact hr.below ((Below.refl _ _).alloc (Nat.le_refl _) _)
  ·intro k hk
   have:b = k:=by simpa [Value.ownBlock] using hk
   omega
  ·exact (((Below.refl _ _).alloc (Nat.le_refl _) _).trans (hw1.mono (by simp))).alloc (by omega) _
 clear hr hnew hw1 hcell
 go_wp2
 have hgs:w.heap.size < w1.heap.size:=by omega
 generalize w1.heap.size = g at Hst hgs
 clear hs hbs hb hc
 go_loopw [6] (fun v6 w1=>WLoop w f n g v6 w1) (fun i _=>n - (intOf i).toNat)
 case atStart=>exact Hst.out
 case round=>
  clear Hst
  obtain ⟨i,lv,rfl,hi,hb0,hbg,hr,hnew,hB⟩:=hrel
  obtain ⟨A,c,rfl⟩:=hr.slice
  obtain ⟨d0,g0⟩:=cells1 hb0
  obtain ⟨dg,fg⟩:=cells1 hbg
  have Hr:=Lib.hid hr
  have Hb0:=Lib.hid hb0
  have Hbg:=Lib.hid hbg
  have Hnew:=Lib.hid hnew
  have HB:=Lib.hid hB
  have hpl:=dig_pow_len hf (by omega:i ≤ 18)
  have hfl:=dig_pow_len hf (by omega:1 ≤ 18)
  rw [Nat.pow_one] at hfl
  by_cases hlt:i < n
  ·clear hr hb0 hbg hnew hB
   go_wp2
   go_region_with (first
    | ((go_at_call 158);(refine (long_calls _ f (by omega)).mono ?_);(rintro e w2 ⟨lf,rfl,hrf,hnf,hw2⟩);(obtain ⟨Af,kf,rfl⟩:=hrf.slice);(have Hrf:=Lib.hid hrf);(have HD:=Lib.hid ((drewB (Below.refl wr.heap.size wr) 1).trans hw2));(have eg:=cells1 (blk_below Hbg.out HD.out));(obtain ⟨eg1,eg2⟩:=eg);(clear hrf hnf hw2))
    | ((go_at_call 160);(refine (times_calls _ _ _ (f ^ i) f (Hr.out.below HD.out) Hrf.out (by omega) (by omega)).mono ?_);(rintro e w3 ⟨lt,rfl,hrt,hnt,hw3⟩);(obtain ⟨At,kt,rfl⟩:=hrt.slice);(have eh:=cells1 (blk_below (blk_below Hbg.out HD.out) hw3));(obtain ⟨eh1,eh2⟩:=eh)))
   all_goals
    have Hn:=Lib.hid (WLoop.next hgs hlt Hb0.out Hbg.out HB.out HD.out hw3 hrt hnt)
    clear hrt hnt hw3
    go_wp2
    go_roundw
    case rel=>exact Hn.out
    case measure=>simp [intOf];omega
  ·obtain rfl:i = n:=by omega
   have hns:∀ k,(Value.slice A (dig (f ^ i)).length c).ownBlock = some k → ¬ Only w.heap.size k:=fun k hk e=>by
    have:=hnew k hk
    have e:k = w.heap.size:=e
    omega
   have Hf:=Lib.hid (hB.setCell (p:=⟨w.heap.size,0,none⟩) (Nat.le_refl _) (.slice A (dig (f ^ i)).length c))
   have Hr2:=Lib.hid (hr.fr ((Fr.refl (Only w.heap.size) wr).setCell (p:=⟨w.heap.size,0,none⟩) (.inl rfl) (.slice A (dig (f ^ i)).length c)) hns)
   have Hc:=Lib.hid (cells1 (blk_setCell hb0 0 (.slice A (dig (f ^ i)).length c))).1
   clear hr hb0 hbg hnew hB hns
   go_wp2
   have HC:=Hc.out
   refine bodyPost_ret (v:=.agg #[.slice A (dig (f ^ i)).length c]) (by simp [results,Tryz.results159,go_sem,HC]) rfl ⟨_,rfl,Hr2.out,fun k hk=>Nat.le_of_lt (Hnew.out k hk).1,Hf.out⟩
end Go.Proofs.YtpfkkagkbneilaaGreatDoor
namespace Go.Proofs.YtpfkkagkbneilaaGreatDoor
open Go.RowKit
set_option linter.unusedVariables false
set_option linter.unusedSimpArgs false
structure Ent where
 name:ByteArray
 lv:Value
 val:Nat
def Ent.cells (e:Ent):List Value := [.string e.name,e.lv]
def Ent.tab (e:Ent):List UInt8 × Nat:=(e.name.data.toList,e.val)
def entCells (l:List Ent):List Value:=l.flatMap Ent.cells
theorem entCells_app (a b:List Ent):entCells (a ++ b) = entCells a ++ entCells b:=by simp [entCells]
theorem entCells_len (l:List Ent):(entCells l).length = l.length * 2:=by
 induction l with
 | nil=>rfl
 | cons e r ih=>rw [show entCells (e :: r) = [.string e.name,e.lv] ++ entCells r from rfl,List.length_append,ih];simp;omega
def SRow (w:World) (v:Value) (ents:List Ent):Prop:=w.ownsRow 0 203 2 v ents.length (entCells ents) ∧ ∀ e ∈ ents,0 < e.val ∧ RdI w e.lv (dig e.val) ∧ (∀ k,e.lv.ownBlock = some k → v.ownBlock ≠ some k)
theorem SRow.below {w w1:World} {v:Value} {ents:List Ent} (h:SRow w v ents) (hb:Below w.heap.size w w1):SRow w1 v ents:=
 ⟨own_below h.1 hb,fun e he=>⟨(h.2 e he).1,(h.2 e he).2.1.below hb,(h.2 e he).2.2⟩⟩
theorem infoSfx:(Tryz.prog.info? 203).map (fun i=>(i.zero,i.size,i.bytes)) = some (some (.agg #[.string ⟨#[]⟩,.slice none 0 0]),2,40):=by kernel_rfl
def kch (j:Nat):UInt8 := [107,77,71,84,80].getD j 0
def kCh (j:Nat):UInt8 := [75,77,71,84,80].getD j 0
def tab0:List (List UInt8 × Nat) := [([109],1),([],1000)]
def tabK (i:Nat):List (List UInt8 × Nat):=tab0 ++ (List.range i).map fun j=>([kch j],1000 ^ (j + 2))
def tabB (i:Nat):List (List UInt8 × Nat):=tabK 5 ++ (List.range i).map fun j=>([kCh j,105],1024 ^ (j + 1) * 1000)
def SLoop (w:World) (tab:Nat → List (List UInt8 × Nat)) (v1 v2:Value) (w1:World):Prop := ∃ (i:Nat) (ents:List Ent),i ≤ 5 ∧ v2 = .int .i64 ((i + 1:Nat):Int) ∧ ents.map Ent.tab = tab i ∧ SRow w1 v1 ents ∧ (∀ k,v1.ownBlock = some k → w.heap.size ≤ k) ∧ Below w.heap.size w w1
theorem rd_ent (w:World) (t:TypeId) (e:Ent):Rd (w.alloc (.cells #[.string e.name,e.lv] t)) 2 (.slice (some ⟨w.heap.size,0,none⟩) 1 1) 1 (entCells [e]):=by
 refine ⟨rfl,_,_,rfl,Nat.le_refl _,(fun h=>by cases h),fun ad hA j u hu=>?_⟩
 cases hA
 match j,hu with
 | 0,hu=>cases hu;rw [show (⟨w.heap.size,0,none⟩ : Addr).add 0 = ⟨w.heap.size,0,none⟩ from rfl];simp only [World.cell?,blk_new];rfl
 | 1,hu=>cases hu;rw [show (⟨w.heap.size,0,none⟩ : Addr).add 1 = ⟨w.heap.size,1,none⟩ from rfl];simp only [World.cell?,blk_new];rfl
theorem ent_one (s:ByteArray) (A:Option Addr) (n c v:Nat):∀ u ∈ entCells [⟨s,.slice A n c,v⟩],u.oneCell' = true:=by
 intro u hu
 rcases List.mem_cons.1 (show u ∈ [Value.string s,Value.slice A n c] from hu) with rfl | hu
 ·rfl
 ·rw [List.mem_singleton.1 hu];rfl
theorem own_fresh (w:World) (t:TypeId) (size n:Nat) (xs:List Value) (hl:xs.length = n * size) (hm:n ≤ maxLen):(w.alloc (.cells xs.toArray t)).ownsRow 0 t size (.slice (some ⟨w.heap.size,0,none⟩) n n) n xs:=by
 refine ⟨hl,.inr ⟨w.heap.size,n,xs.toArray,rfl,Nat.zero_le _,blk_new _ _,Nat.le_refl _,hm,by simpa using hl,by simp [← hl]⟩⟩
theorem ownBlk_lt {w:World} {v:Value} {n:Nat} (h:RdI w v (dig n)) (hn:0 < n):∀ k,v.ownBlock = some k → k < w.heap.size:=by
 obtain ⟨b,off,c,rfl,hc,hb,hcell⟩:=h.some (by rw [dig_pos hn];simp)
 intro k hk
 have:b = k:=by simpa [Value.ownBlock] using hk
 omega
theorem ksl (i:Nat) (h:i < 5):((ByteArray.mk #[107,77,71,84,80]).extract i (i + 1)).data.toList = [kch i]:=by
 rcases i with _ | _ | _ | _ | _ | d
 all_goals first | omega | decide
theorem Ksl (i:Nat) (h:i < 5):((ByteArray.mk #[75,77,71,84,80]).extract i (i + 1)).data.toList = [kCh i]:=by
 rcases i with _ | _ | _ | _ | _ | d
 all_goals first | omega | decide
theorem SRow.next {w wr wp w4:World} {v v1:Value} {ents:List Ent} {e:Ent} {o:Obj} (hrow:SRow wr v ents) (hB:Below w.heap.size w wr) (hnew:∀ k,v.ownBlock = some k → w.heap.size ≤ k) (hwp:Below wr.heap.size wr wp) (he0:0 < e.val) (hrp:RdI wp e.lv (dig e.val)) (hnp:∀ k,e.lv.ownBlock = some k → wr.heap.size ≤ k)
  (ho4:w4.ownsRow 0 203 2 v1 (ents.length + 1) (entCells ents ++ entCells [e])) (hg4:(wp.alloc o).grownBy w4 v.ownBlock) (hn4:∀ k,v1.ownBlock = some k → v.ownBlock = some k ∨ wp.heap.size + 1 ≤ k) :
  SRow w4 v1 (ents ++ [e]) ∧ (∀ k,v1.ownBlock = some k → w.heap.size ≤ k) ∧ Below w.heap.size w w4:=by
 have hs:=hwp.size
 have hs2:=hB.size
 have hvl:∀ k,v.ownBlock = some k → k < wr.heap.size:=fun k hk=>(hrow.1.lt k hk).2
 have hF:∀ {l:Value} {n:Nat},RdI wp l (dig n) → (∀ k,l.ownBlock = some k → v.ownBlock ≠ some k) → RdI w4 l (dig n):=by
  intro l n hr hne
  have h1:RdI (wp.alloc o) l (dig n):=hr.below ((Below.refl _ _).alloc (Nat.le_refl _) _)
  exact h1.fr ((Fr.refl (fun k=>v.ownBlock = some k) (wp.alloc o)).grown hg4 (fun k hk=>.inl hk)) (fun k hk e=>hne k hk e)
 refine ⟨⟨by rw [entCells_app,List.length_append];exact ho4,fun x hx=>?_⟩,fun k hk=>?_,?_⟩
 ·rcases List.mem_append.1 hx with hx | hx
  ·obtain ⟨h0,h1,h2⟩:=hrow.2 x hx
   refine ⟨h0,hF (h1.below hwp) h2,fun k hk h=>?_⟩
   rcases hn4 k h with h3 | h3
   ·exact h2 k hk h3
   ·have:=ownBlk_lt h1 h0 k hk;omega
  ·rw [List.mem_singleton.1 hx]
   refine ⟨he0,hF hrp (fun k hk h=>?_),fun k hk h=>?_⟩
   ·have:=hnp k hk;have:=hvl k h;omega
   ·rcases hn4 k h with h3 | h3
    ·have:=hnp k hk;have:=hvl k h3;omega
    ·have:=ownBlk_lt hrp he0 k hk;omega
 ·rcases hn4 k hk with h3 | h3
  ·exact hnew k h3
  ·omega
 ·have h1:Below w.heap.size w (wp.alloc o):=(hB.trans (hwp.mono hs2)).alloc (by omega) _
  exact h1.grown hg4 h1.size (fun k hk=>hnew k hk)
set_option maxRecDepth 100000 in
set_option maxHeartbeats 1600000 in
theorem suffixes_calls (w:World):Calls Tryz.prog 135 #[] w fun e w' => ∃ v ents,e = .returned v ∧ ents.map Ent.tab = tabB 5 ∧ SRow w' v ents ∧ Below w.heap.size w w':=by
 go_enter Tryz.func135,Tryz.ntmps135
 go_wp2_with fail
 refine (long_calls _ 1 (by decide)).mono ?_
 rintro e w1 ⟨l1,rfl,hr1,hn1,hw1⟩
 have Hr1:=Lib.hid hr1
 have Hw1:=Lib.hid hw1
 obtain ⟨A1,c1,rfl⟩:=hr1.slice
 clear hr1 hw1
 go_wp2_with fail
 refine (long_calls _ 1000 (by decide)).mono ?_
 rintro e w2 ⟨l2,rfl,hr2,hn2,hw2⟩
 have Hr2:=Lib.hid hr2
 have Hw2:=Lib.hid hw2
 obtain ⟨A2,c2,rfl⟩:=hr2.slice
 clear hr2 hw2
 go_wp2
 have Hst:Hid (SLoop w tabK (.slice (some ⟨w2.heap.size,0,none⟩) 2 2) (.int .i64 1) (w2.alloc (.cells #[.string ⟨#[109]⟩,.slice A1 (dig 1).length c1,.string ⟨#[]⟩,.slice A2 (dig 1000).length c2] 203))):=by
  have hb1:=Hw1.out
  have hb2:=Hw2.out
  have hs1:=hb1.size
  have hs2:=hb2.size
  have hbl:∀ o,Below w2.heap.size w2 (w2.alloc o):=fun o=>(Below.refl _ _).alloc (Nat.le_refl _) o
  refine ⟨0, [⟨⟨#[109]⟩,.slice A1 (dig 1).length c1,1⟩,⟨⟨#[]⟩,.slice A2 (dig 1000).length c2,1000⟩],by omega,rfl,rfl,⟨?_,?_⟩,?_,?_⟩
  ·exact own_fresh w2 _ 2 2 [.string ⟨#[109]⟩,.slice A1 (dig 1).length c1,.string ⟨#[]⟩,.slice A2 (dig 1000).length c2] rfl (by unfold maxLen;omega)
  ·intro e he
   rcases List.mem_cons.1 he with rfl | he
   ·refine ⟨Nat.zero_lt_one,(Hr1.out.below hb2).below (hbl _),fun k hk h=>?_⟩
    have h1:=ownBlk_lt Hr1.out (by decide) k hk
    have:w2.heap.size = k:=by simpa [Value.ownBlock] using h
    omega
   ·rw [List.mem_singleton.1 he]
    refine ⟨(by decide:0 < 1000),Hr2.out.below (hbl _),fun k hk h=>?_⟩
    have h1:=ownBlk_lt Hr2.out (by decide) k hk
    have:w2.heap.size = k:=by simpa [Value.ownBlock] using h
    omega
  ·intro k hk
   have:w2.heap.size = k:=by simpa [Value.ownBlock] using hk
   omega
  ·exact (hb1.trans (hb2.mono hs1)).alloc (by omega) _
 clear hn1 hn2 Hr1 Hr2 Hw1 Hw2
 go_loopw [1,2] (fun v1 v2 w1=>SLoop w tabK v1 v2 w1) (fun _ i _=>6 - (intOf i).toNat)
 case atStart=>exact Hst.out
 case round=>
  clear Hst
  obtain ⟨i,ents,hi,rfl,htab,hrow,hnew,hB⟩:=hrel
  have Htab:=Lib.hid htab
  have Hnew:=Lib.hid hnew
  have HB:=Lib.hid hB
  have Hrow:=Lib.hid hrow
  have hlen:ents.length = i + 2:=by
   have:=congrArg List.length htab
   simp [tabK,tab0] at this
   omega
  obtain ⟨A,c,rfl⟩:=own_slice hrow.1
  clear htab hnew hB hrow
  by_cases hlt:i < 5
  ·have hle:((i + 1:Nat):Int) ≤ 5:=by omega
   have hsl:=ksl i hlt
   have hrun:∀ W,(Instr.slice 9 (.string (ByteArray.mk #[107,77,71,84,80])) (some (.int .i64 (((i + 1:Nat):Int) - 1))) (some (.int .i64 ((i + 1:Nat):Int))) none).run Tryz.prog W = .ok (.string ((ByteArray.mk #[107,77,71,84,80]).extract i (i + 1))) W:=fun W=>by
    have h1:=run_slice_string (P:=Tryz.prog) W 9 (ByteArray.mk #[107,77,71,84,80]) .i64 .i64 (((i + 1:Nat):Int) - 1) ((i + 1:Nat):Int) Tryz.underlying9 (by omega) (by omega) (by have:(ByteArray.mk #[107,77,71,84,80]).size = 5:=rfl;omega)
    rw [h1,show (((i + 1:Nat):Int) - 1).toNat = i from by omega,show (((i + 1:Nat):Int)).toNat = i + 1 from by omega]
   generalize (ByteArray.mk #[107,77,71,84,80]).extract i (i + 1) = ds at hrun hsl
   have Hsl:=Lib.hid hsl
   obtain ⟨m,hm⟩ : ∃ m,m = i + 1:=⟨_,rfl⟩
   rw [← hm] at hle hrun
   rw [← hm]
   have hm1:(m:Int) + 1 = ((m + 1:Nat):Int):=by omega
   have Hm1:=Lib.hid hm1
   clear hm1
   have Hm:=Lib.hid hm
   have hmm:m ≤ 5:=by omega
   have hw1:IntKind.i64.wrap ((m:Int) - 1) = (m:Int) - 1:=by rw [IntKind.wrap_i64];omega
   have hw2:IntKind.i64.wrap ((m:Int) + 1) = (m:Int) + 1:=by rw [IntKind.wrap_i64];omega
   have Hi:=Lib.hid hi
   have Hlt:=Lib.hid hlt
   clear hsl hm hi hlt
   have hlen2:=Lib.hid hlen
   clear hlen
   go_wp2
   go_region_held3 (fun w' : World=>True) (exact True.intro)
    (first
    | ((go_at_call 159);(rw [Hm1.out]);(refine (power_calls _ 1000 (m + 1) (by omega) (by omega)).mono ?_);(rintro e wp ⟨lp,rfl,hrp,hnp,hwp⟩);(obtain ⟨Ap,kp,rfl⟩:=hrp.slice);(have Hrp:=Lib.hid hrp);(have Hnp:=Lib.hid hnp);(have Hwp:=Lib.hid ((drewB (Below.refl wr.heap.size wr) 1).trans hwp));(clear hrp hnp hwp))
    | ((refine step_append2 _ rfl (.tmp 13) (.tmp 22) 198 rfl 203 (.agg #[.string ⟨#[]⟩,.slice none 0 0]) 2 40 Tryz.underlying198 infoSfx rfl (by decide) (.slice A ents.length c) ents.length (entCells ents) rfl ((own_below Hrow.out.1 Hwp.out).alloc _) _ 1 (entCells [⟨ds,.slice Ap (dig (1000 ^ (m + 1))).length kp,1000 ^ (m + 1)⟩]) rfl (rd_ent _ _ ⟨ds,.slice Ap (dig (1000 ^ (m + 1))).length kp,1000 ^ (m + 1)⟩) (ent_one _ _ _ _ _) (by unfold maxLen;have:=hlen2.out;have:=Hlt.out;omega) (by have:=hlen2.out;have:=Hlt.out;omega) ?_);(intro v1 w4 ho4 hg4 hn4)))
   have hp0:0 < 1000 ^ (m + 1):=Nat.pow_pos (by decide)
   obtain ⟨g1,g2,g3⟩:=SRow.next (e:=⟨ds,.slice Ap (dig (1000 ^ (m + 1))).length kp,1000 ^ (m + 1)⟩) Hrow.out HB.out Hnew.out Hwp.out hp0 Hrp.out Hnp.out ho4 hg4 (fun k hk=>by have:=hn4 k hk;simpa using this)
   obtain ⟨A3,c3,rfl⟩:=own_slice g1.1
   have Hn:Hid (SLoop w tabK (.slice A3 (ents ++ ([⟨ds,.slice Ap (dig (1000 ^ (m + 1))).length kp,1000 ^ (m + 1)⟩] : List Ent)).length c3) (.int .i64 ((m:Int) + 1)) w4):=by
    refine ⟨i + 1,_,by have:=Hlt.out;omega,by rw [Hm.out];rfl,?_,g1,g2,g3⟩
    rw [List.map_append,Htab.out,tabK,tabK,List.range_succ,List.map_append,List.append_assoc]
    simp [Ent.tab,Hsl.out,Hm.out]
   clear g1 g2 g3 ho4 hg4 hn4
   go_wp2
   go_roundw
   case rel=>exact Hn.out
   case measure=>simp [intOf];omega
  ·have hle:¬ ((i + 1:Nat):Int) ≤ 5:=by omega
   have hi5:i = 5:=by omega
   subst hi5
   have Hst2:Hid (SLoop w tabB (.slice A ents.length c) (.int .i64 1) wr):=⟨0,ents,by omega,rfl,by rw [Htab.out];simp [tabB],Hrow.out,Hnew.out,HB.out⟩
   clear Htab Hnew HB Hrow hlen
   go_wp2
   go_loopw [1,3] (fun v1 v3 w1=>SLoop w tabB v1 v3 w1) (fun _ i _=>6 - (intOf i).toNat)
   case atStart=>exact Hst2.out
   case round=>
    clear Hst2
    obtain ⟨i,ents,hi,rfl,htab,hrow,hnew,hB⟩:=hrel
    have Htab:=Lib.hid htab
    have Hnew:=Lib.hid hnew
    have HB:=Lib.hid hB
    have Hrow:=Lib.hid hrow
    have hlen:ents.length = i + 7:=by
     have:=congrArg List.length htab
     simp [tabB,tabK,tab0] at this
     omega
    obtain ⟨A,c,rfl⟩:=own_slice hrow.1
    clear htab hnew hB hrow
    by_cases hlt:i < 5
    ·have hle:((i + 1:Nat):Int) ≤ 5:=by omega
     have hsl:=Ksl i hlt
     have hrun:∀ W,(Instr.slice 9 (.string (ByteArray.mk #[75,77,71,84,80])) (some (.int .i64 (((i + 1:Nat):Int) - 1))) (some (.int .i64 ((i + 1:Nat):Int))) none).run Tryz.prog W = .ok (.string ((ByteArray.mk #[75,77,71,84,80]).extract i (i + 1))) W:=fun W=>by
      have h1:=run_slice_string (P:=Tryz.prog) W 9 (ByteArray.mk #[75,77,71,84,80]) .i64 .i64 (((i + 1:Nat):Int) - 1) ((i + 1:Nat):Int) Tryz.underlying9 (by omega) (by omega) (by have:(ByteArray.mk #[75,77,71,84,80]).size = 5:=rfl;omega)
      rw [h1,show (((i + 1:Nat):Int) - 1).toNat = i from by omega,show (((i + 1:Nat):Int)).toNat = i + 1 from by omega]
     generalize (ByteArray.mk #[75,77,71,84,80]).extract i (i + 1) = ds at hrun hsl
     have Hsl:=Lib.hid hsl
     obtain ⟨m,hm⟩ : ∃ m,m = i + 1:=⟨_,rfl⟩
     rw [← hm] at hle hrun
     rw [← hm]
     have hm1:(m:Int) + 1 = ((m + 1:Nat):Int):=by omega
     have hds:ds.size = 1:=by rw [size_toList,hsl];rfl
     have Hpl:Hid ((dig (1024 ^ m)).length ≤ 1048576):=by
      show _ ≤ _
      have:=dig_pow_len (Nat.le_refl 1024) (by omega:m ≤ 18);omega
     have Hfl:Hid ((dig 1000).length ≤ 1048576):=by
      show _ ≤ _
      have:=dig_pow_len (by decide:1000 ≤ 1024) (by decide:1 ≤ 18);rw [Nat.pow_one] at this;omega
     clear hm1
     have Hm:=Lib.hid hm
     have hmm:m ≤ 5:=by omega
     have hw1:IntKind.i64.wrap ((m:Int) - 1) = (m:Int) - 1:=by rw [IntKind.wrap_i64];omega
     have hw2:IntKind.i64.wrap ((m:Int) + 1) = (m:Int) + 1:=by rw [IntKind.wrap_i64];omega
     have Hi:=Lib.hid hi
     have Hlt:=Lib.hid hlt
     clear hsl hm hi hlt
     have hlen2:=Lib.hid hlen
     clear hlen
     go_wp2
     go_region_held3 (fun w' : World=>True) (exact True.intro)
      (first
      | ((go_at_call 159);(refine (power_calls _ 1024 m (by omega) (by omega)).mono ?_);(rintro e wp ⟨lp,rfl,hrp,hnp,hwp⟩);(obtain ⟨Ap,kp,rfl⟩:=hrp.slice);(have Hrp:=Lib.hid hrp);(have Hwp:=Lib.hid ((drewB (Below.refl wr.heap.size wr) 1).trans hwp));(clear hrp hnp hwp))
      | ((go_at_call 158);(refine (long_calls _ 1000 (by decide)).mono ?_);(rintro e wl ⟨ll,rfl,hrl,hnl,hwl⟩);(obtain ⟨Al,kl,rfl⟩:=hrl.slice);(have Hrl:=Lib.hid hrl);(have Hwl:=Lib.hid hwl);(clear hrl hnl hwl))
      | ((go_at_call 160);(refine (times_calls _ _ _ (1024 ^ m) 1000 (Hrp.out.below Hwl.out) Hrl.out Hpl.out Hfl.out).mono ?_);(rintro e wt ⟨lt,rfl,hrt,hnt,hwt⟩);(obtain ⟨At,kt,rfl⟩:=hrt.slice);(have Hrt:=Lib.hid hrt);(have Hnt:=Lib.hid hnt);(have Hwt:=Lib.hid ((Hwp.out.trans (Hwl.out.mono Hwp.out.size)).trans (hwt.mono (Nat.le_trans Hwp.out.size Hwl.out.size))));(clear hrt hnt hwt))
      | ((refine step_append2 _ rfl (.tmp 28) (.tmp 39) 198 rfl 203 (.agg #[.string ⟨#[]⟩,.slice none 0 0]) 2 40 Tryz.underlying198 infoSfx rfl (by decide) (.slice A ents.length c) ents.length (entCells ents) rfl ((own_below Hrow.out.1 Hwt.out).alloc _) _ 1 (entCells [⟨ds ++ ⟨#[105]⟩,.slice At (dig (1024 ^ m * 1000)).length kt,1024 ^ m * 1000⟩]) rfl (rd_ent _ _ ⟨ds ++ ⟨#[105]⟩,.slice At (dig (1024 ^ m * 1000)).length kt,1024 ^ m * 1000⟩) (ent_one _ _ _ _ _) (by unfold maxLen;have:=hlen2.out;have:=Hlt.out;omega) (by have:=hlen2.out;have:=Hlt.out;omega) ?_);(intro v1 w4 ho4 hg4 hn4)))
     have hp0:0 < 1024 ^ m * 1000:=Nat.mul_pos (Nat.pow_pos (by decide)) (by decide)
     obtain ⟨g1,g2,g3⟩:=SRow.next (e:=⟨ds ++ ⟨#[105]⟩,.slice At (dig (1024 ^ m * 1000)).length kt,1024 ^ m * 1000⟩) Hrow.out HB.out Hnew.out Hwt.out hp0 Hrt.out (fun k hk=>Nat.le_trans (Nat.le_trans Hwp.out.size Hwl.out.size) (Hnt.out k hk)) ho4 hg4 (fun k hk=>by have:=hn4 k hk;simpa using this)
     obtain ⟨A3,c3,rfl⟩:=own_slice g1.1
     have Hn:Hid (SLoop w tabB (.slice A3 (ents ++ ([⟨ds ++ ⟨#[105]⟩,.slice At (dig (1024 ^ m * 1000)).length kt,1024 ^ m * 1000⟩] : List Ent)).length c3) (.int .i64 ((m:Int) + 1)) w4):=by
      refine ⟨i + 1,_,by have:=Hlt.out;omega,by rw [Hm.out];rfl,?_,g1,g2,g3⟩
      rw [List.map_append,Htab.out,tabB,tabB,List.range_succ,List.map_append,List.append_assoc]
      simp [Ent.tab,Hsl.out,Hm.out]
     clear g1 g2 g3 ho4 hg4 hn4
     go_wp2
     go_roundw
     case rel=>exact Hn.out
     case measure=>simp [intOf];omega
    ·have hle:¬ ((i + 1:Nat):Int) ≤ 5:=by omega
     have hi5:i = 5:=by omega
     subst hi5
     clear hlen
     go_wp2
     go_ret
     exact ⟨_,rfl,ents,Htab.out,Hrow.out,HB.out⟩
end Go.Proofs.YtpfkkagkbneilaaGreatDoor
namespace Go.Proofs.YtpfkkagkbneilaaGreatDoor
set_option linter.unusedSimpArgs false
set_option linter.unusedVariables false
def isDg (b:UInt8):Bool:=48 ≤ b && b ≤ 57
def qunits:List (List UInt8 × Nat) := [([75,105],1024000),([77,105],1048576000),([71,105],1073741824000),([84,105],1099511627776000),([80,105],1125899906842624000),([107],1000000),([77],1000000000),([71],1000000000000),([84],1000000000000000),([80],1000000000000000000),([109],1),([],1000)]
def numv (l:List UInt8):Nat:=l.foldl (fun n b=>n * 10 + (b.toNat - 48)) 0
def qval (w p:List UInt8) (f:Nat):Option Nat:=
 if w.length + p.length ≤ 19 ∧ (numv (w ++ p) * f + 10 ^ p.length - 1) / 10 ^ p.length ≤ 9223372036854775807 then some ((numv (w ++ p) * f + 10 ^ p.length - 1) / 10 ^ p.length) else none
def qlook (s:List UInt8):Option Nat:=(qunits.find? (fun e=>e.1 == s)).map (·.2)
def qparse (t:List UInt8):Option Nat:=
 if t.takeWhile isDg = [] then none else
 match t.dropWhile isDg with
 | []=>(qlook []).bind (qval (t.takeWhile isDg) [])
 | c :: r=>if c = 46 then (if r.takeWhile isDg = [] then none else (qlook (r.dropWhile isDg)).bind (qval (t.takeWhile isDg) (r.takeWhile isDg)))
  else (qlook (c :: r)).bind (qval (t.takeWhile isDg) [])
def qall (s:List UInt8):Bool:=s ≠ [] && s.all isDg
def qnum (n:List UInt8) (f:Nat):Option Nat:=
 if (46:UInt8) ∈ n then
  (
   let w:=n.takeWhile (· != 46);let p:=(n.dropWhile (· != 46)).drop 1
   if qall w && qall p then qval w p f else none)
 else if qall n then qval n [] f else none
def qprog (t:List UInt8):Option Nat:=
 match qunits.find? (fun e=>e.1.isSuffixOf t) with
 | some e=>qnum (t.take (t.length - e.1.length)) e.2
 | none=>none
theorem dg_not {c:UInt8} (h:isDg c = true):c ≠ 105 ∧ c ≠ 107 ∧ c ≠ 77 ∧ c ≠ 71 ∧ c ≠ 84 ∧ c ≠ 80 ∧ c ≠ 109 ∧ c ≠ 75 ∧ c ≠ 46:=by
 refine ⟨?_,?_,?_,?_,?_,?_,?_,?_,?_⟩ <;> (rintro rfl;revert h;decide)
theorem beqF {a c:UInt8} (h:c ≠ a):(a == c) = false:=by simpa using fun e=>h e.symm
theorem find_unit {m s:List UInt8} {c:UInt8} {f:Nat} (hc:isDg c = true) (hm:(s,f) ∈ qunits):qunits.find? (fun e=>e.1.isSuffixOf (m ++ [c] ++ s)) = some (s,f):=by
 obtain ⟨h1,h2,h3,h4,h5,h6,h7,h8,h9⟩:=dg_not hc
 simp only [qunits,List.mem_cons,List.not_mem_nil,or_false,Prod.mk.injEq] at hm
 rcases hm with ⟨rfl,rfl⟩ | ⟨rfl,rfl⟩ | ⟨rfl,rfl⟩ | ⟨rfl,rfl⟩ | ⟨rfl,rfl⟩ | ⟨rfl,rfl⟩ | ⟨rfl,rfl⟩ | ⟨rfl,rfl⟩ | ⟨rfl,rfl⟩ | ⟨rfl,rfl⟩ | ⟨rfl,rfl⟩ | ⟨rfl,rfl⟩
 all_goals simp [qunits,List.find?,List.isSuffixOf,List.isPrefixOf,beqF h1,beqF h2,beqF h3,beqF h4,beqF h5,beqF h6,beqF h7,beqF h8]
theorem last_split {n:List UInt8} (hn:n ≠ []):∃ m c,n = m ++ [c]:=by
 induction n with
 | nil=>exact absurd rfl hn
 | cons a r ih=>
  by_cases hr:r = []
  ·exact ⟨[],a,by rw [hr];rfl⟩
  ·obtain ⟨m,c,h⟩:=ih hr
   exact ⟨a :: m,c,by rw [h];rfl⟩
theorem suf_head {s:List UInt8} {f:Nat} (hm:(s,f) ∈ qunits):s = [] ∨ ∃ c r,s = c :: r ∧ isDg c = false ∧ c ≠ 46:=by
 simp only [qunits,List.mem_cons,List.not_mem_nil,or_false,Prod.mk.injEq] at hm
 rcases hm with ⟨rfl,rfl⟩ | ⟨rfl,rfl⟩ | ⟨rfl,rfl⟩ | ⟨rfl,rfl⟩ | ⟨rfl,rfl⟩ | ⟨rfl,rfl⟩ | ⟨rfl,rfl⟩ | ⟨rfl,rfl⟩ | ⟨rfl,rfl⟩ | ⟨rfl,rfl⟩ | ⟨rfl,rfl⟩ | ⟨rfl,rfl⟩
 all_goals first | exact .inl rfl | exact .inr ⟨_,_,rfl,by decide,by decide⟩
theorem look_mem {s:List UInt8} {f:Nat} (hm:(s,f) ∈ qunits):qlook s = some f:=by
 simp only [qunits,List.mem_cons,List.not_mem_nil,or_false,Prod.mk.injEq] at hm
 rcases hm with ⟨rfl,rfl⟩ | ⟨rfl,rfl⟩ | ⟨rfl,rfl⟩ | ⟨rfl,rfl⟩ | ⟨rfl,rfl⟩ | ⟨rfl,rfl⟩ | ⟨rfl,rfl⟩ | ⟨rfl,rfl⟩ | ⟨rfl,rfl⟩ | ⟨rfl,rfl⟩ | ⟨rfl,rfl⟩ | ⟨rfl,rfl⟩
 all_goals rfl
theorem mem_look {s:List UInt8} {f:Nat} (h:qlook s = some f):(s,f) ∈ qunits:=by
 unfold qlook at h
 obtain ⟨e,he,rfl⟩:=Option.map_eq_some_iff.1 h
 have h1:=List.find?_some he
 have h2:=List.mem_of_find?_eq_some he
 have:e.1 = s:=by simpa using h1
 subst this
 exact h2
inductive QForm:List UInt8 → List UInt8 → List UInt8 → Nat → Prop
 | whole (w s:List UInt8) (f:Nat) (hw:w ≠ []) (ha:∀ b ∈ w,isDg b = true) (hm:(s,f) ∈ qunits):QForm (w ++ s) w [] f
 | dot (w p s:List UInt8) (f:Nat) (hw:w ≠ []) (ha:∀ b ∈ w,isDg b = true) (hp:p ≠ []) (hb:∀ b ∈ p,isDg b = true) (hm:(s,f) ∈ qunits):QForm (w ++ 46 :: (p ++ s)) w p f
theorem tw_all {w r:List UInt8} (ha:∀ b ∈ w,isDg b = true) (hr:r = [] ∨ ∃ c q,r = c :: q ∧ isDg c = false):(w ++ r).takeWhile isDg = w ∧ (w ++ r).dropWhile isDg = r:=by
 induction w with
 | nil=>
  rcases hr with rfl | ⟨c,q,rfl,hc⟩
  ·exact ⟨rfl,rfl⟩
  ·simp [hc]
 | cons a w ih=>
  have h1:=ih (fun b hb=>ha b (List.mem_cons_of_mem _ hb))
  have h2:=ha a List.mem_cons_self
  simp [h2,h1]
theorem form_parse {t w p:List UInt8} {f:Nat} (h:QForm t w p f):qparse t = qval w p f:=by
 cases h with
 | whole w s f hw ha hm=>
  have hs:=suf_head hm
  obtain ⟨h1,h2⟩:=tw_all (r:=s) ha (by rcases hs with h | ⟨c,r,h,hc, -⟩;exact .inl h;exact .inr ⟨c,r,h,hc⟩)
  unfold qparse
  rw [h1,h2,if_neg hw]
  rcases hs with rfl | ⟨c,r,rfl,hc,hd⟩
  ·simp [look_mem hm]
  ·simp [hd,look_mem hm]
 | dot w p s f hw ha hp hb hm=>
  have hs:=suf_head hm
  obtain ⟨h1,h2⟩:=tw_all (r:=46 :: (p ++ s)) ha (.inr ⟨46,_,rfl,by decide⟩)
  obtain ⟨h3,h4⟩:=tw_all (r:=s) hb (by rcases hs with h | ⟨c,r,h,hc, -⟩;exact .inl h;exact .inr ⟨c,r,h,hc⟩)
  unfold qparse
  rw [h1,h2,if_neg hw]
  simp [h3,h4,hp,look_mem hm]
theorem all_dg {w:List UInt8} (hw:w ≠ []) (ha:∀ b ∈ w,isDg b = true):qall w = true:=by simp [qall,hw];exact ha
theorem no_dot {w:List UInt8} (ha:∀ b ∈ w,isDg b = true):(46:UInt8) ∉ w:=fun h=>absurd (ha _ h) (by decide)
theorem tw_dot {w r:List UInt8} (h:(46:UInt8) ∉ w):(w ++ 46 :: r).takeWhile (· != 46) = w ∧ (w ++ 46 :: r).dropWhile (· != 46) = 46 :: r:=by
 induction w with
 | nil=>simp
 | cons a w ih=>
  have h1:=ih (fun e=>h (List.mem_cons_of_mem _ e))
  have h2:a ≠ 46:=fun e=>h (by rw [e];exact List.mem_cons_self)
  simp [h2,h1]
theorem form_prog {t w p:List UInt8} {f:Nat} (h:QForm t w p f):qprog t = qval w p f:=by
 cases h with
 | whole w s f hw ha hm=>
  obtain ⟨m,c,rfl⟩:=last_split hw
  have hc:=ha c (by simp)
  unfold qprog
  rw [find_unit hc hm]
  simp only [List.length_append,List.length_singleton,Nat.add_sub_cancel]
  rw [show m.length + 1 = (m ++ [c]).length by simp,List.take_left]
  unfold qnum
  rw [if_neg (no_dot ha),if_pos (all_dg hw ha)]
 | dot w p s f hw ha hp hb hm=>
  obtain ⟨m,c,rfl⟩:=last_split hp
  have hc:=hb c (by simp)
  unfold qprog
  have e:w ++ 46 :: (m ++ [c] ++ s) = (w ++ 46 :: m) ++ [c] ++ s:=by simp
  rw [e,find_unit hc hm]
  simp only
  have e2:((w ++ 46 :: m) ++ [c] ++ s).length - s.length = ((w ++ 46 :: m) ++ [c]).length:=by simp only [List.length_append];omega
  rw [e2,List.take_left]
  unfold qnum
  have e3:(w ++ 46 :: m) ++ [c] = w ++ 46 :: (m ++ [c]):=by simp
  rw [if_pos (by simp),e3]
  obtain ⟨h1,h2⟩:=tw_dot (r:=m ++ [c]) (no_dot ha)
  simp only [h1,h2,List.drop_succ_cons,List.drop_zero,all_dg hw ha,all_dg hp hb,Bool.and_self,if_true]
theorem tw_mem {l:List UInt8}:∀ b ∈ l.takeWhile isDg,isDg b = true:=by
 induction l with
 | nil=>simp
 | cons a r ih=>
  intro b hb
  by_cases h:isDg a = true
  ·simp only [List.takeWhile_cons,h,if_true,List.mem_cons] at hb
   rcases hb with rfl | hb
   ·exact h
   ·exact ih b hb
  ·simp [List.takeWhile_cons,h] at hb
theorem parse_form {t:List UInt8} {v:Nat} (h:qparse t = some v):∃ w p f,QForm t w p f:=by
 unfold qparse at h
 have ht:t = t.takeWhile isDg ++ t.dropWhile isDg:=(List.takeWhile_append_dropWhile).symm
 split at h
 ·cases h
 ·rename_i hw
  split at h
  ·rename_i hd
   obtain ⟨f,hf, -⟩:=Option.bind_eq_some_iff.1 h
   rw [hd] at ht
   have:=QForm.whole (t.takeWhile isDg) [] f hw tw_mem (mem_look hf)
   rw [← ht] at this
   exact ⟨_,_,f,this⟩
  ·rename_i c r hd
   rw [hd] at ht
   split at h
   ·rename_i hc
    split at h
    ·cases h
    ·rename_i hp
     obtain ⟨f,hf, -⟩:=Option.bind_eq_some_iff.1 h
     have hr:r = r.takeWhile isDg ++ r.dropWhile isDg:=(List.takeWhile_append_dropWhile).symm
     have:=QForm.dot (t.takeWhile isDg) (r.takeWhile isDg) (r.dropWhile isDg) f hw tw_mem hp tw_mem (mem_look hf)
     rw [← hr,← hc,← ht] at this
     exact ⟨_,_,f,this⟩
   ·obtain ⟨f,hf, -⟩:=Option.bind_eq_some_iff.1 h
    have:=QForm.whole (t.takeWhile isDg) (c :: r) f hw tw_mem (mem_look hf)
    rw [← ht] at this
    exact ⟨_,_,f,this⟩
theorem all_of {w:List UInt8} (h:qall w = true):w ≠ [] ∧ ∀ b ∈ w,isDg b = true:=by
 simp [qall] at h;exact h
theorem prog_form {t:List UInt8} {v:Nat} (h:qprog t = some v):∃ w p f,QForm t w p f:=by
 unfold qprog at h
 split at h
 ·rename_i e he
  have h1:=List.find?_some he
  have h2:=List.mem_of_find?_eq_some he
  obtain ⟨s,f⟩:=e
  simp only at h h1
  obtain ⟨n,rfl⟩:=List.isSuffixOf_iff_suffix.1 h1
  have e2:(n ++ s).length - s.length = n.length:=by simp
  rw [e2,List.take_left] at h
  unfold qnum at h
  split at h
  ·rename_i hdot
   simp only at h
   split at h
   ·rename_i ha
    rw [Bool.and_eq_true] at ha
    obtain ⟨hw,hwa⟩:=all_of ha.1
    obtain ⟨hp,hpa⟩:=all_of ha.2
    have hn:n = n.takeWhile (· != 46) ++ n.dropWhile (· != 46):=(List.takeWhile_append_dropWhile).symm
    cases hd:n.dropWhile (· != 46) with
    | nil=>rw [hd] at hp;simp at hp
    | cons c r=>
     have hc:c = 46:=by
      have:=List.head?_dropWhile_not (· != 46) n
      rw [hd] at this
      simpa using this
     rw [hd] at hn hp hpa
     simp only [List.drop_succ_cons,List.drop_zero] at hp hpa
     have:=QForm.dot _ _ s f hw hwa hp hpa h2
     rw [hc] at hn
     have e3:n ++ s = n.takeWhile (· != 46) ++ 46 :: (r ++ s):=by
      have:=congrArg (· ++ s) hn
      simpa using this
     rw [← e3] at this
     exact ⟨_,_,f,this⟩
   ·cases h
  ·split at h
   ·rename_i ha
    obtain ⟨hw,hwa⟩:=all_of ha
    exact ⟨_,_,f,QForm.whole _ s f hw hwa h2⟩
   ·cases h
 ·cases h
theorem qprog_eq (t:List UInt8):qprog t = qparse t:=by
 cases h:qparse t with
 | some v=>
  obtain ⟨w,p,f,hF⟩:=parse_form h
  rw [form_prog hF,← form_parse hF,h]
 | none=>
  cases h2:qprog t with
  | none=>rfl
  | some v=>
   obtain ⟨w,p,f,hF⟩:=prog_form h2
   rw [form_prog hF,← form_parse hF,h] at h2
   cases h2
end Go.Proofs.YtpfkkagkbneilaaGreatDoor
