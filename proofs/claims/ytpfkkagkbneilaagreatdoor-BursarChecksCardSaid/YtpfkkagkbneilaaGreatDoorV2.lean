/- Texts D5, F6, F7, P1, P2 of the proof of BursarChecks, joined. -/
import Derived.Test.YtpfkkagkbneilaaGreatDoorProg
import Derived.Test.YtpfkkagkbneilaaGreatDoorV1
import Derived.Deep.RegionLaw
import Derived.Deep.RegionWith
import Derived.Deep.RegionHeld3
namespace Go.Proofs.YtpfkkagkbneilaaGreatDoor
open Go.RowKit
set_option linter.unusedVariables false
set_option linter.unusedSimpArgs false
set_option maxRecDepth 100000
set_option maxHeartbeats 25600000
theorem dig_len_mono {a b:Nat} (h:a ≤ b):(dig a).length ≤ (dig b).length:=by
 rcases Nat.lt_or_ge (dig b).length (dig a).length with h1 | h1
 ·have:=dig_lt_of_len h1;omega
 ·exact h1
theorem dig_lt_pow (b:Nat):b < 10 ^ (dig b).length:=by
 have:=vald_lt (dlt_dig b);rwa [vald_dig] at this
def DB (w:World) (va vb:Value) (qs:List Nat) (L:Nat) (lv:Value) (w1:World):Prop:=
 w1.heap[w.heap.size]? = some (.cells #[va] 201 (0,0)) ∧ w1.heap[w.heap.size + 1]? = some (.cells #[vb] 201 (0,0)) ∧
 w1.heap[w.heap.size + 1 + 1]? = some (.cells #[.slice none 0 0] 201 (0,0)) ∧ w1.heap[w.heap.size + 1 + 1 + 1]? = some (.cells #[.slice none 0 0] 201 (0,0)) ∧
 IBlk w1 (w.heap.size + 1 + 1 + 1 + 1) qs ∧ w1.heap[w.heap.size + 1 + 1 + 1 + 1 + 1]? = some (.cells #[lv] 201 (0,0)) ∧
 RdI w1 lv (dig L) ∧ (∀ k,lv.ownBlock = some k → w.heap.size + 1 + 1 + 1 + 1 + 1 < k) ∧ Below w.heap.size w w1
theorem DB.below {w w1 w2:World} {va vb lv:Value} {qs:List Nat} {L:Nat} (h:DB w va vb qs L lv w1) (hb:Below w1.heap.size w1 w2):DB w va vb qs L lv w2:=by
 obtain ⟨h0,h1,h2,h3,h4,h5,h6,h7,h8⟩:=h;exact ⟨blk_below h0 hb,blk_below h1 hb,blk_below h2 hb,blk_below h3 hb,h4.below hb,blk_below h5 hb,h6.below hb,h7,h8.trans (hb.mono h8.size)⟩
theorem DB.left {w w1:World} {va vb lv lv' : Value} {qs:List Nat} {L L' : Nat} (h:DB w va vb qs L lv w1) (hr:RdI w1 lv' (dig L')) (hn:∀ k,lv'.ownBlock = some k → w.heap.size + 1 + 1 + 1 + 1 + 1 < k) :
  DB w va vb qs L' lv' (w1.setCell ⟨w.heap.size + 1 + 1 + 1 + 1 + 1,0,none⟩ lv'):=by
 obtain ⟨h0,h1,h2,h3,h4,h5,h6,h7,h8⟩:=h;refine ⟨blk_far h0 ?_ _,blk_far h1 ?_ _,blk_far h2 ?_ _,blk_far h3 ?_ _,blk_far h4 ?_ _,by simpa using blk_setCell h5 0 lv',hr.fr ((Fr.refl (Only (w.heap.size + 1 + 1 + 1 + 1 + 1)) w1).setCell (p:=⟨w.heap.size + 1 + 1 + 1 + 1 + 1,0,none⟩) (.inl rfl) lv') (fun k hk e=>?_),hn,h8.setCell ?_ _⟩
 ·show w.heap.size ≠ w.heap.size + 1 + 1 + 1 + 1 + 1;omega
 ·show w.heap.size + 1 ≠ w.heap.size + 1 + 1 + 1 + 1 + 1;omega
 ·show w.heap.size + 1 + 1 ≠ w.heap.size + 1 + 1 + 1 + 1 + 1;omega
 ·show w.heap.size + 1 + 1 + 1 ≠ w.heap.size + 1 + 1 + 1 + 1 + 1;omega
 ·show w.heap.size + 1 + 1 + 1 + 1 ≠ w.heap.size + 1 + 1 + 1 + 1 + 1;omega
 ·have h1:=hn k hk
  have h2:k = w.heap.size + 1 + 1 + 1 + 1 + 1:=e;omega
 ·show w.heap.size ≤ w.heap.size + 1 + 1 + 1 + 1 + 1;omega
theorem DB.q {w w1:World} {va vb lv:Value} {qs:List Nat} {L:Nat} (h:DB w va vb qs L lv w1) (i d:Nat):DB w va vb (qs.set i d) L lv (w1.setCell ⟨w.heap.size + 1 + 1 + 1 + 1,i,none⟩ (.int .i64 (d:Int))):=by
 obtain ⟨h0,h1,h2,h3,h4,h5,h6,h7,h8⟩:=h;refine ⟨blk_far h0 ?_ _,blk_far h1 ?_ _,blk_far h2 ?_ _,blk_far h3 ?_ _,h4.set i d,blk_far h5 ?_ _,h6.fr ((Fr.refl (Only (w.heap.size + 1 + 1 + 1 + 1)) w1).setCell (p:=⟨w.heap.size + 1 + 1 + 1 + 1,i,none⟩) (.inl rfl) _) (fun k hk e=>?_),h7,h8.setCell ?_ _⟩
 ·show w.heap.size ≠ w.heap.size + 1 + 1 + 1 + 1;omega
 ·show w.heap.size + 1 ≠ w.heap.size + 1 + 1 + 1 + 1;omega
 ·show w.heap.size + 1 + 1 ≠ w.heap.size + 1 + 1 + 1 + 1;omega
 ·show w.heap.size + 1 + 1 + 1 ≠ w.heap.size + 1 + 1 + 1 + 1;omega
 ·show w.heap.size + 1 + 1 + 1 + 1 + 1 ≠ w.heap.size + 1 + 1 + 1 + 1;omega
 ·have h1:=h7 k hk
  have h2:k = w.heap.size + 1 + 1 + 1 + 1:=e;omega
 ·show w.heap.size ≤ w.heap.size + 1 + 1 + 1 + 1;omega
def DOut (w:World) (x:List Nat) (b:Nat) (va vb v8:Value) (w1:World):Prop := ∃ (k:Nat) (Q:List Nat) (L:Nat) (lv:Value),k ≤ x.length ∧ v8 = .int .i64 ((k:Int) - 1) ∧ Q.length = x.length ∧ DLt Q ∧
 (∀ j (h:j < Q.length),j < k → Q[j] = 0) ∧ vald (x.drop k) = vald (Q.drop k) * b + L ∧ L < b ∧ DB w va vb Q L lv w1
def DIn (w:World) (Q:List Nat) (i T b:Nat) (va vb:Value) (w1:World):Prop := ∃ (t M:Nat) (lv:Value),M + t * b = T ∧ DB w va vb (Q.set i t) M lv w1
def LPost2 (w:World) (ds es:List Nat):Ending → World → Prop:=fun e w' => ∃ sv su,e = .returned (.tuple #[.agg #[sv],.agg #[su]]) ∧ RdI w' sv ds ∧ RdI w' su es ∧ (∀ k,sv.ownBlock = some k → w.heap.size ≤ k) ∧ (∀ k,su.ownBlock = some k → w.heap.size ≤ k) ∧ Below w.heap.size w w'
theorem rdI_cons {w:World} {base n p:Nat} {v:Value} {e:TypeId} {l:List Nat} (h:w.ownsRow base e 1 v n (ints [p] ++ ints l)) (hn:n = l.length + 1):RdI w v (p :: l):=by
 subst hn;exact RdI.of_own h
theorem trim_cons (p L:Nat) (hp:p < 10):trim (p :: dig L) = dig (p + 10 * L):=by
 rw [trim_eq (fun d hd=>by
  rcases List.mem_cons.1 hd with rfl | h
  ·exact hp
  ·exact dlt_dig L d h),vald,vald_dig]
theorem drop_set_self {l:List Nat} {i t:Nat} (h:i < l.length):(l.set i t).drop i = t :: l.drop (i + 1):=by
 have h2:i < (l.set i t).length:=by simpa using h
 rw [List.drop_eq_getElem_cons h2,List.getElem_set_self]
 congr 1
 rw [List.drop_set_of_lt (by omega)]
theorem bsum {p V L t M b:Nat} (hT:M + t * b = p + 10 * L):p + 10 * (V * b + L) = (t + 10 * V) * b + M:=by
 rw [Nat.add_mul,Nat.mul_add,Nat.mul_assoc];omega
theorem t_lt {T M t b:Nat} (hT:M + t * b = T) (h:T < 10 * b):t < 10:=Nat.lt_of_mul_lt_mul_right (a:=b) (by omega)
theorem t_lt2 {T M t b:Nat} (hT:M + t * b = T) (h:T < 10 * b) (hM:b ≤ M):t + 1 < 10:=Nat.lt_of_mul_lt_mul_right (a:=b) (by rw [Nat.add_mul];omega)
theorem DB.post {w w1:World} {va vb sv su:Value} {qs ds:List Nat} {L n m:Nat} (h:DB w va vb qs L su w1) (hr:RdI w1 sv ds) (hs:∀ k,sv.ownBlock = some k → (Value.slice (some ⟨w.heap.size + 1 + 1 + 1 + 1,0,none⟩) n m).ownBlock = some k) :
  LPost2 w ds (dig L) (.returned (.tuple #[.agg #[sv],.agg #[su]])) ((w1.setCell ⟨w.heap.size + 1 + 1,0,none⟩ sv).setCell ⟨w.heap.size + 1 + 1 + 1,0,none⟩ su) ∧
  ((w1.setCell ⟨w.heap.size + 1 + 1,0,none⟩ sv).setCell ⟨w.heap.size + 1 + 1 + 1,0,none⟩ su).cell? ⟨w.heap.size + 1 + 1,0,none⟩ = some sv ∧
  ((w1.setCell ⟨w.heap.size + 1 + 1,0,none⟩ sv).setCell ⟨w.heap.size + 1 + 1 + 1,0,none⟩ su).cell? ⟨w.heap.size + 1 + 1 + 1,0,none⟩ = some su:=by
 obtain ⟨h0,h1,h2,h3,h4,h5,h6,h7,h8⟩:=h
 have hF:Fr (fun k=>k = w.heap.size + 1 + 1 ∨ k = w.heap.size + 1 + 1 + 1) w1 ((w1.setCell ⟨w.heap.size + 1 + 1,0,none⟩ sv).setCell ⟨w.heap.size + 1 + 1 + 1,0,none⟩ su):=
  ((Fr.refl _ w1).setCell (p:=⟨w.heap.size + 1 + 1,0,none⟩) (.inl (.inl rfl)) sv).setCell (p:=⟨w.heap.size + 1 + 1 + 1,0,none⟩) (.inl (.inr rfl)) su
 have hsv:∀ k,sv.ownBlock = some k → k = w.heap.size + 1 + 1 + 1 + 1:=fun k hk=>by
  have:=hs k hk;simp [Value.ownBlock] at this;exact this.symm
 have g2:=blk_setCell h2 0 sv;have g3:=blk_far h3 (p:=⟨w.heap.size + 1 + 1,0,none⟩) (by show w.heap.size + 1 + 1 + 1 ≠ w.heap.size + 1 + 1;omega) sv;refine ⟨⟨sv,su,rfl,hr.fr hF (fun k hk e=>?_),h6.fr hF (fun k hk e=>?_),fun k hk=>?_,fun k hk=>?_,(h8.setCell (p:=⟨w.heap.size + 1 + 1,0,none⟩) (by show _ ≤ _;simp;omega) _).setCell (by show _ ≤ _;simp;omega) _⟩,?_,?_⟩
 ·have:=hsv k hk;have e:k = w.heap.size + 1 + 1 ∨ k = w.heap.size + 1 + 1 + 1:=e;omega
 ·have:=h7 k hk;have e:k = w.heap.size + 1 + 1 ∨ k = w.heap.size + 1 + 1 + 1:=e;omega
 ·have:=hsv k hk;omega
 ·have:=h7 k hk;omega
 ·exact (cells1 (blk_far g2 (by show w.heap.size + 1 + 1 ≠ w.heap.size + 1 + 1 + 1;omega) su)).1
 ·exact (cells1 (blk_setCell g3 0 su)).1
theorem by_calls (w:World) (va vb:Value) (a b:Nat) (hb0:0 < b) (ha:RdI w va (dig a)) (hb:RdI w vb (dig b)) (hla:(dig a).length ≤ 1048000) (hlb:(dig b).length ≤ 1048000) :
  Calls Tryz.prog 162 #[.agg #[va],.agg #[vb]] w (LPost2 w (dig (a / b)) (dig (a % b))):=by
 have hda:=dlt_dig a;have Hva:Hid (vald (dig a) = a):=vald_dig a;generalize dig a = x at ha hda hla Hva;obtain ⟨A,c0,rfl⟩:=ha.slice;obtain ⟨A2,c2,rfl⟩:=hb.slice;have hmk:=run_make_row' (P:=Tryz.prog) 65 3 (.int .i64 0) 8 Tryz.underlying65 infoInt rfl .i64 .i64 x.length (by omega) (by omega)
 have Hst:∀ W1 W2:World,W1 = ((((w.alloc (.cells #[.slice A x.length c0] 201)).alloc (.cells #[.slice A2 (dig b).length c2] 201)).alloc (.cells #[.slice none 0 0] 201)).alloc (.cells #[.slice none 0 0] 201)) →
   W2 = (W1.alloc (.cells (madeCells #[.int .i64 0] x.length) 3)).alloc (.cells #[.slice none 0 0] 201) → Hid (DOut w x b (.slice A x.length c0) (.slice A2 (dig b).length c2) (.int .i64 ((x.length:Int) - 1)) W2):=by
  intro W1 W2 h1 h2
  have s1:W1.heap.size = w.heap.size + 1 + 1 + 1 + 1:=by rw [h1];simp
  have b0:W1.heap[w.heap.size]? = some (.cells #[.slice A x.length c0] 201 (0,0)):=by rw [h1];exact blk_alloc (blk_alloc (blk_alloc (blk_new _ _) _) _) _
  have b1:W1.heap[w.heap.size + 1]? = some (.cells #[.slice A2 (dig b).length c2] 201 (0,0)):=by rw [h1];exact blk_alloc (blk_alloc (by simpa using blk_new (w.alloc (.cells #[.slice A x.length c0] 201)) _) _) _
  have b2:W1.heap[w.heap.size + 1 + 1]? = some (.cells #[.slice none 0 0] 201 (0,0)):=by rw [h1];exact blk_alloc (by simpa using blk_new ((w.alloc (.cells #[.slice A x.length c0] 201)).alloc (.cells #[.slice A2 (dig b).length c2] 201)) _) _
  have b3:W1.heap[w.heap.size + 1 + 1 + 1]? = some (.cells #[.slice none 0 0] 201 (0,0)):=by rw [h1];simpa using blk_new (((w.alloc (.cells #[.slice A x.length c0] 201)).alloc (.cells #[.slice A2 (dig b).length c2] 201)).alloc (.cells #[.slice none 0 0] 201)) _
  have bB:Below w.heap.size w W1:=by rw [h1];exact (((((Below.refl _ _).alloc (Nat.le_refl _) _).alloc (by simp) _).alloc (by simp;omega) _).alloc (by simp;omega) _)
  have b4:=IBlk.new W1 x.length;rw [s1] at b4;have b5:=blk_new (W1.alloc (.cells (madeCells #[.int .i64 0] x.length) 3)) (.cells #[.slice none 0 0] 201)
  have s2:(W1.alloc (.cells (madeCells #[.int .i64 0] x.length) 3)).heap.size = w.heap.size + 1 + 1 + 1 + 1 + 1:=by simp [s1]
  rw [s2] at b5
  have hDB:DB w (.slice A x.length c0) (.slice A2 (dig b).length c2) (List.replicate x.length 0) 0 (.slice none 0 0) W2:=by
   rw [h2];refine ⟨blk_alloc (blk_alloc b0 _) _,blk_alloc (blk_alloc b1 _) _,blk_alloc (blk_alloc b2 _) _,blk_alloc (blk_alloc b3 _) _,blk_alloc b4 _,b5,by rw [dig_zero];exact RdI.nil _,(fun k hk=>by cases hk),(bB.alloc (by omega) _).alloc (by omega) _⟩
  refine ⟨x.length,List.replicate x.length 0,0,.slice none 0 0,Nat.le_refl _,rfl,by simp,(fun d hd=>by have:=(List.mem_replicate.1 hd).2;omega),fun j h _=>by simp,by simp [vald],hb0,hDB⟩
 have HB0:=hIh hb0;go_enter Tryz.func162,Tryz.ntmps162;go_wp2
 go_loopw [8] (fun v8 w1=>DOut w x b (.slice A x.length c0) (.slice A2 (dig b).length c2) v8 w1) (fun i _=>(intOf i + 1).toNat)
 case atStart=>exact (Hst _ _ rfl rfl).out
 case round=>
  clear Hst hmk;obtain ⟨k,Q,L,lv,hk,rfl,hql,hdq,hz,hval,hL,hDB⟩:=hrel;have Hz:=hIh hz;have Hval:=hIh hval;have Hql:=hIh hql;have HDB:=hIh hDB;obtain ⟨A4,c4,rfl⟩:=hDB.2.2.2.2.2.2.1.slice;have hLlen:=dig_len_mono (Nat.le_of_lt hL);obtain ⟨d0, -⟩:=cells1 hDB.1;obtain ⟨d1, -⟩:=cells1 hDB.2.1;obtain ⟨d5, -⟩:=cells1 hDB.2.2.2.2.2.1;have hB:=hDB.2.2.2.2.2.2.2.2;have hrl:=hDB.2.2.2.2.2.2.1;have hs6:=blk_lt hDB.2.2.2.2.2.1;clear hz hval hql hDB
  by_cases hk0:0 < k
  ·obtain ⟨i,rfl⟩ : ∃ m,k = m + 1:=⟨k - 1,by omega⟩
   rw [show ((i + 1:Nat):Int) - 1 = (i:Int) from by omega];have hix:i < x.length:=(by omega);obtain ⟨bx,ox,kx,hv,hkx,hbbx,hcx⟩:=ha.some (by intro e;rw [e] at hix;simp at hix)
   cases hv
   have q1:=(hB.cell (p:=⟨bx,ox + i,none⟩) hbbx).trans (hcx i hix);have hp10:=hda _ (List.getElem_mem hix)
   have HX:Hid (vald (x.drop i) = x[i] + 10 * vald (x.drop (i + 1))):=by
    show _ = _;rw [List.drop_eq_getElem_cons hix];rfl
   clear hcx;generalize x[i] = p at q1 hp10 HX;have hi0:(0:Int) ≤ i:=(by omega)
   have HTL:Hid ((dig (p + 10 * L)).length ≤ (dig b).length + 1):=by
    show _ ≤ _
    apply dig_len_le
    have:=dig_lt_pow b;rw [Nat.pow_succ];omega
   have HTb:Hid (p + 10 * L < 10 * b):=(by show _ < _;omega);have HL:=hIh hL;clear hk0;have HB:=hIh hB;clear hB hL;go_wp2_with (at_builtin;refine wpList_append2 _ rfl (.tmp 23) (.tmp 29) 65 rfl 3 (.int .i64 0) 1 8 Tryz.underlying65 infoInt rfl (by decide) _ 0 (ints []) rfl (World.ownsRow_nil _ 0 _ _) _ 1 (ints [p]) rfl ?c1 (ints_one _) ?c2 ?c3 ?_)
   case c1=>exact RdI.one _ _ _
   case c2=>unfold maxLen;omega
   case c3=>omega
   intro v1 w1 ho1 hg1 hn1 _;have hW1:Below wr.heap.size wr w1:=((Below.refl wr.heap.size wr).alloc (Nat.le_refl _) _).grown hg1 (by simp) (fun k hk=>by cases hk);obtain ⟨A5,c5,rfl⟩:=own_slice ho1;have hd5:=(hW1.cell (p:=⟨w.heap.size + 1 + 1 + 1 + 1 + 1,0,none⟩) hs6).trans d5;have hrl1:=hrl.below hW1
   have hnw5:∀ k,(Value.slice A5 1 c5).ownBlock = some k → wr.heap.size ≤ k:=fun k hk=>by
    rcases hn1 k hk with h | h
    ·cases h
    ·omega
   have Hnw5:=hIh hnw5;clear hnw5 hn1 hg1;go_wp2_with (at_builtin;refine wpList_append2 _ rfl (.tmp 31) (.tmp 33) 65 rfl 3 (.int .i64 0) 1 8 Tryz.underlying65 infoInt rfl (by decide) _ 1 (ints [p]) rfl ho1 _ (dig L).length (ints (dig L)) rfl ?c1 (ints_one _) ?c2 ?c3 ?_)
   case c1=>exact hrl1
   case c2=>unfold maxLen;omega
   case c3=>omega
   intro v2 w2 ho2 hg2 hn2 _;have hW2:Below wr.heap.size wr w2:=hW1.grown hg2 hW1.size (fun k hk=>Hnw5.out k hk);have hr9:=rdI_cons ho2 (by omega)
   have hnw2:∀ k,v2.ownBlock = some k → wr.heap.size ≤ k:=fun k hk=>by
    rcases hn2 k hk with h | h
    ·exact Hnw5.out k h
    ·have:=hW1.size;omega
   have Hnw2:=hIh hnw2;have HDB2:=hIh (HDB.out.below hW2);have hs2:=hW2.size;obtain ⟨A6,c6,rfl⟩:=hr9.slice;have H9:=hIh hr9;clear hnw2 hn2 hg2 ho2 ho1 hrl1 hr9 hW1 hd5;go_wp2_with fail;refine (cut_calls _ _ _ H9.out (by simp;omega)).mono ?_;rintro e w3 ⟨sv,rfl,hr,hsv,hw3⟩;have HT:=trim_cons p L hp10;rw [HT] at hr;clear HT;obtain ⟨A7,c7,rfl⟩:=hr.slice;have HDB3:=hIh (HDB2.out.below hw3);obtain ⟨e5,f5⟩:=cells1 HDB3.out.2.2.2.2.2.1
   have Hst:Hid (DIn w Q i (p + 10 * L) b (.slice (some ⟨bx,ox,none⟩) x.length c0) (.slice A2 (dig b).length c2) (w3.setCell ⟨w.heap.size + 1 + 1 + 1 + 1 + 1,0,none⟩ (.slice A7 (dig (p + 10 * L)).length c7))):=by
    refine ⟨0,p + 10 * L,.slice A7 (dig (p + 10 * L)).length c7,by simp,?_⟩
    have hQ:Q.set i 0 = Q:=by
     apply List.ext_getElem (by simp)
     intro n h1 h2;rw [List.getElem_set]
     by_cases e:i = n
     ·subst e;rw [if_pos rfl];exact (Hz.out i h2 (by omega)).symm
     ·rw [if_neg e]
    rw [hQ];refine HDB3.out.left hr (fun k hk=>?_);have:=Hnw2.out k (hsv k hk);omega
   clear hr hsv hw3;go_wp2;clear HDB3 HDB2 HDB e5 f5 H9 Hnw2 Hnw5 d0 d1 d5 q1 hrl hs2 hs6
   go_loopw [] (fun w1=>DIn w Q i (p + 10 * L) b (.slice (some ⟨bx,ox,none⟩) x.length c0) (.slice A2 (dig b).length c2) w1) (fun w1=>10 - (intOf ((w1.cell? ⟨w.heap.size + 1 + 1 + 1 + 1,i,none⟩).getD (.int .i64 0))).toNat)
   case atStart=>exact Hst.out
   case round=>
    clear Hst;obtain ⟨t,M,lv,hT,hDB⟩:=hrel;have hM:M ≤ p + 10 * L:=(by rw [← hT];exact Nat.le_add_right _ _);have hMl:=dig_len_mono hM;have HMl:Hid ((dig M).length ≤ 1048001):=(by have:=HTL.out;show _ ≤ _;omega);clear hMl hM;obtain ⟨A4,c4,rfl⟩:=hDB.2.2.2.2.2.2.1.slice;obtain ⟨d1, -⟩:=cells1 hDB.2.1;obtain ⟨d5, -⟩:=cells1 hDB.2.2.2.2.2.1;have HrM:=hIh hDB.2.2.2.2.2.2.1;have HrB:=hIh (hb.below hDB.2.2.2.2.2.2.2.2);have HT:=hIh hT;have HDB:=hIh hDB;clear hT hDB;go_wp2_with fail;refine (less_calls _ _ _ M b HrM.out HrB.out (by have:=HMl.out;omega) (by omega)).mono ?_;rintro e w4 ⟨rfl,hw4⟩;have HDB4:=hIh (HDB.out.below hw4);have HrM4:=hIh (HrM.out.below hw4);have HrB4:=hIh (HrB.out.below hw4);obtain ⟨d1, -⟩:=cells1 HDB4.out.2.1;obtain ⟨d5, -⟩:=cells1 HDB4.out.2.2.2.2.2.1;clear HrM HrB hw4
    by_cases hlt:M < b
    ·have Hnext:Hid (DOut w x b (.slice (some ⟨bx,ox,none⟩) x.length c0) (.slice A2 (dig b).length c2) (.int .i64 ((i:Int) - 1)) w4):=by
      have hiQ:i < Q.length:=(by rw [Hql.out];omega);refine ⟨i,Q.set i t,M,.slice A4 (dig M).length c4,by omega,rfl,by simp [Hql.out],?_,?_,?_,hlt,HDB4.out⟩
      ·intro d hd
       rcases List.mem_or_eq_of_mem_set hd with h | rfl
       ·exact hdq d h
       ·exact t_lt HT.out HTb.out
      ·intro j h hj
       rw [List.getElem_set_ne (by omega)];exact Hz.out j (by simpa using h) (by omega)
      ·rw [drop_set_self hiQ,HX.out,Hval.out];exact bsum HT.out
     clear HDB HDB4;go_wp2;go_roundw
     case rel=>exact Hnext.out
     case measure=>first | (simp [intOf];done) | (simp [intOf];omega)
    ·have hbM:b ≤ M:=by omega
     go_wp2_with fail;refine (minus_calls _ _ _ M b hbM HrM4.out HrB4.out (by have:=HMl.out;omega) (by omega)).mono ?_;rintro e w5 ⟨su,rfl,hr,hsu,hw5⟩;obtain ⟨A8,c8,rfl⟩:=hr.slice;have HDB5:=hIh (HDB4.out.below hw5);obtain ⟨e5,f5⟩:=cells1 HDB5.out.2.2.2.2.2.1
     have HDB6:=hIh (HDB5.out.left (L':=M - b) hr (fun k hk=>by
      have h1:=hsu k hk;have h2:=blk_lt HDB4.out.2.2.2.2.2.1
      omega))
     have hiQ:i < (Q.set i t).length:=(by rw [List.length_set,Hql.out];omega);have z1:=HDB6.out.2.2.2.2.1.cell i hiQ;have z2:=HDB6.out.2.2.2.2.1.frozen i;rw [List.getElem_set_self] at z1;have ht:=t_lt2 HT.out HTb.out hbM
     have Hz3:Hid (DIn w Q i (p + 10 * L) b (.slice (some ⟨bx,ox,none⟩) x.length c0) (.slice A2 (dig b).length c2) ((w5.setCell ⟨w.heap.size + 1 + 1 + 1 + 1 + 1,0,none⟩ (.slice A8 (dig (M - b)).length c8)).setCell ⟨w.heap.size + 1 + 1 + 1 + 1,i,none⟩ (.int .i64 ((t:Int) + 1)))):=by
      refine ⟨t + 1,M - b,.slice A8 (dig (M - b)).length c8,?_,?_⟩
      ·have:=HT.out;rw [Nat.add_mul,Nat.one_mul];omega
      ·have:=HDB6.out.q i (t + 1)
       rw [List.set_set] at this;exact this
     have hc1:=HDB.out.2.2.2.2.1.cell i hiQ;rw [List.getElem_set_self] at hc1;have hm1:=(HDB6.out.q i (t + 1)).2.2.2.2.1.cell i (by simpa using hiQ);rw [List.getElem_set_self] at hm1;have Hc1:=hIh hc1;have Hm1:=hIh hm1;clear hc1 hm1;clear hr hsu hw5;go_wp2;go_roundw
     case rel=>exact Hz3.out
     case measure=>
      rw [show ((t:Int) + 1) = ((t + 1:Nat):Int) from by omega,Hm1.out,Hc1.out];simp [intOf];omega
  ·obtain rfl:k = 0:=by omega
   have hW:Below wr.heap.size wr wr.drew:=drewB (Below.refl _ _) 1;have HDBd:=hIh (HDB.out.below hW);have hqr:=HDBd.out.2.2.2.2.1.rd Hql.out;have Hqr:=hIh hqr
   have hLdig:Hid (trim Q = dig (a / b) ∧ L = a % b):=by
    have h1:=Hval.out;rw [List.drop_zero,List.drop_zero,Hva.out] at h1
    have h2:a / b = vald Q:=by
     rw [h1,Nat.add_comm,Nat.add_mul_div_right _ _ HB0.out,Nat.div_eq_of_lt hL];omega
    have h3:a % b = L:=by
     rw [h1,Nat.add_comm,Nat.add_mul_mod_self_right,Nat.mod_eq_of_lt hL]
    refine ⟨?_,h3.symm⟩;rw [trim_eq hdq,h2]
   have hql1:Q.length ≤ 1048000:=(by rw [Hql.out];exact hla);clear hqr hW hB hrl hs6;go_wp2;go_region_with ((go_at_call 161;refine (cut_calls _ _ _ Hqr.out (by omega)).mono ?_;rintro e w1 ⟨sv,rfl,hr,hsv,hw1⟩;obtain ⟨A7,c7,rfl⟩:=hr.slice;have HDB1:=hIh (HDBd.out.below hw1);have e2:=(cells1 HDB1.out.2.2.1).1;have f2:=(cells1 HDB1.out.2.2.1).2;have e3:=(cells1 HDB1.out.2.2.2.1).1;have f3:=(cells1 HDB1.out.2.2.2.1).2;have e5:=(cells1 HDB1.out.2.2.2.2.2.1).1))
   all_goals
    obtain ⟨hp,g2,g3⟩:=HDB1.out.post hr hsv;have Hp:=hIh hp;clear hp hr hsv hw1 e2 f2 e3 f3 e5;go_wp2;refine bodyPost_ret (v:=.tuple #[.agg #[.slice A7 (trim Q).length c7],.agg #[.slice A4 (dig L).length c4]]) (by simp [results,Tryz.results162,go_sem,g2,g3]) rfl ?_;have h1:=Hp.out;have h2:=hLdig.out;rw [← h2.1,← h2.2];exact h1
def StrIs (v:Value) (l:List UInt8):Prop := ∃ s:ByteArray,v = .string s ∧ s.data.toList = l
theorem size_toList (s:ByteArray):s.size = s.data.toList.length:=by rw [Array.length_toList];rfl
def WLoop (w:World) (f n g:Nat) (v6:Value) (w1:World):Prop := ∃ (i:Nat) (lv:Value),v6 = .int .i64 i ∧ i ≤ n ∧ w1.heap[w.heap.size]? = some (.cells #[.slice none 0 0] 201 (0,0)) ∧ w1.heap[g]? = some (.cells #[lv] 201 (0,0)) ∧
 RdI w1 lv (dig (f ^ i)) ∧ (∀ k,lv.ownBlock = some k → w.heap.size < k ∧ k ≠ g) ∧ Below w.heap.size w w1
theorem dig_pow_len {f i:Nat} (hf:f ≤ 1024) (hi:i ≤ 18):(dig (f ^ i)).length ≤ 56:=by
 apply dig_len_le
 have h1:f ^ i ≤ 1024 ^ i:=Nat.pow_le_pow_left hf i;have h2:1024 ^ i ≤ 1024 ^ 18:=Nat.pow_le_pow_right (by decide) hi
 have h3:1024 ^ 18 < 10 ^ 56:=by decide
 omega
theorem WLoop.next {w wr w2 w3:World} {f n g i:Nat} {v lt:Value} (hgs:w.heap.size < g) (hi:i < n) (hb0:wr.heap[w.heap.size]? = some (.cells #[.slice none 0 0] 201 (0,0))) (hbg:wr.heap[g]? = some (.cells #[v] 201 (0,0)))
  (hB:Below w.heap.size w wr) (hD:Below wr.heap.size wr w2) (hw3:Below w2.heap.size w2 w3) (hr:RdI w3 lt (dig (f ^ i * f))) (hn:∀ k,lt.ownBlock = some k → w2.heap.size ≤ k) :
  WLoop w f n g (.int .i64 ((i:Int) + 1)) (w3.setCell ⟨g,0,none⟩ lt):=by
 have h1:=blk_lt hbg;have h2:=hD.size;refine ⟨i + 1,lt,rfl,hi,blk_far (blk_below (blk_below hb0 hD) hw3) (by show w.heap.size ≠ g;omega) _,by simpa using blk_setCell (blk_below (blk_below hbg hD) hw3) 0 lt,?_,fun k hk=>?_,?_⟩
 ·rw [Nat.pow_succ]
  exact hr.fr ((Fr.refl (Only g) w3).setCell (p:=⟨g,0,none⟩) (.inl rfl) lt) (fun k hk e=>by
   have:=hn k hk;have e:k = g:=e
   omega)
 ·have:=hn k hk;omega
 ·exact ((hB.trans (hD.mono hB.size)).trans (hw3.mono (Nat.le_trans hB.size hD.size))).setCell (by show w.heap.size ≤ g;omega) _
theorem power_calls (w:World) (f n:Nat) (hf:f ≤ 1024) (hn:n ≤ 18):Calls Tryz.prog 159 #[.int .i64 f,.int .i64 n] w (LPost w (dig (f ^ n))):=by
 go_enter Tryz.func159,Tryz.ntmps159;go_wp2_with fail;refine (long_calls _ 1 (by decide)).mono ?_;rintro e w1 ⟨lv,rfl,hr,hnew,hw1⟩;obtain ⟨b,off,c,rfl,hc,hb,hcell⟩:=hr.some (by rw [dig_pos (by decide)];simp);have hs:=hw1.size;have hbs:=hnew b rfl;simp at hs hbs
 have Hst:Hid (WLoop w f n w1.heap.size (.int .i64 0) (w1.alloc (.cells #[.slice (some ⟨b,off,none⟩) (dig 1).length c] 201))):=by
  refine ⟨0,_,rfl,Nat.zero_le _,?_,blk_new _ _,?_,?_,?_⟩
  ·exact blk_alloc (blk_below (blk_new _ _) hw1) _
  ·rw [Nat.pow_zero];exact hr.below ((Below.refl _ _).alloc (Nat.le_refl _) _)
  ·intro k hk
   have:b = k:=(by simpa [Value.ownBlock] using hk);omega
  ·exact (((Below.refl _ _).alloc (Nat.le_refl _) _).trans (hw1.mono (by simp))).alloc (by omega) _
 clear hr hnew hw1 hcell;go_wp2
 have hgs:w.heap.size < w1.heap.size:=by omega
 generalize w1.heap.size = g at Hst hgs;clear hs hbs hb hc
 go_loopw [6] (fun v6 w1=>WLoop w f n g v6 w1) (fun i _=>n - (intOf i).toNat)
 case atStart=>exact Hst.out
 case round=>
  clear Hst;obtain ⟨i,lv,rfl,hi,hb0,hbg,hr,hnew,hB⟩:=hrel;obtain ⟨A,c,rfl⟩:=hr.slice;obtain ⟨d0,g0⟩:=cells1 hb0;obtain ⟨dg,fg⟩:=cells1 hbg;have Hr:=hIh hr;have Hb0:=hIh hb0;have Hbg:=hIh hbg;have Hnew:=hIh hnew;have HB:=hIh hB;have hpl:=dig_pow_len hf (by omega:i ≤ 18);have hfl:=dig_pow_len hf (by omega:1 ≤ 18);rw [Nat.pow_one] at hfl
  by_cases hlt:i < n
  ·clear hr hb0 hbg hnew hB
   go_wp2
   go_region_with (first
    | ((go_at_call 158);(refine (long_calls _ f (by omega)).mono ?_);(rintro e w2 ⟨lf,rfl,hrf,hnf,hw2⟩);(obtain ⟨Af,kf,rfl⟩:=hrf.slice);(have Hrf:=hIh hrf);(have HD:=hIh ((drewB (Below.refl wr.heap.size wr) 1).trans hw2));(have eg:=cells1 (blk_below Hbg.out HD.out));(obtain ⟨eg1,eg2⟩:=eg);(clear hrf hnf hw2))
    | ((go_at_call 160);(refine (times_calls _ _ _ (f ^ i) f (Hr.out.below HD.out) Hrf.out (by omega) (by omega)).mono ?_);(rintro e w3 ⟨lt,rfl,hrt,hnt,hw3⟩);(obtain ⟨At,kt,rfl⟩:=hrt.slice);(have eh:=cells1 (blk_below (blk_below Hbg.out HD.out) hw3));(obtain ⟨eh1,eh2⟩:=eh)))
   all_goals
    have Hn:=hIh (WLoop.next hgs hlt Hb0.out Hbg.out HB.out HD.out hw3 hrt hnt);clear hrt hnt hw3;go_wp2;go_roundw
    case rel=>exact Hn.out
    case measure=>simp [intOf];omega
  ·obtain rfl:i = n:=by omega
   have hns:∀ k,(Value.slice A (dig (f ^ i)).length c).ownBlock = some k → ¬ Only w.heap.size k:=fun k hk e=>by
    have:=hnew k hk;have e:k = w.heap.size:=e;omega
   have Hf:=hIh (hB.setCell (p:=⟨w.heap.size,0,none⟩) (Nat.le_refl _) (.slice A (dig (f ^ i)).length c));have Hr2:=hIh (hr.fr ((Fr.refl (Only w.heap.size) wr).setCell (p:=⟨w.heap.size,0,none⟩) (.inl rfl) (.slice A (dig (f ^ i)).length c)) hns);have Hc:=hIh (cells1 (blk_setCell hb0 0 (.slice A (dig (f ^ i)).length c))).1;clear hr hb0 hbg hnew hB hns;go_wp2;have HC:=Hc.out;refine bodyPost_ret (v:=.agg #[.slice A (dig (f ^ i)).length c]) (by simp [results,Tryz.results159,go_sem,HC]) rfl ⟨_,rfl,Hr2.out,fun k hk=>Nat.le_of_lt (Hnew.out k hk).1,Hf.out⟩
structure Ent where
 name:ByteArray
 lv:Value
 val:Nat
def Ent.cells (e:Ent):List Value := [.string e.name,e.lv]
def Ent.tab (e:Ent):List UInt8 × Nat:=(e.name.data.toList,e.val)
def entCells (l:List Ent):List Value:=l.flatMap Ent.cells
theorem entCells_app (a b:List Ent):entCells (a ++ b) = entCells a ++ entCells b:=by simp [entCells]
def SRow (w:World) (v:Value) (ents:List Ent):Prop:=w.ownsRow 0 203 2 v ents.length (entCells ents) ∧ ∀ e ∈ ents,0 < e.val ∧ RdI w e.lv (dig e.val) ∧ (∀ k,e.lv.ownBlock = some k → v.ownBlock ≠ some k)
theorem SRow.below {w w1:World} {v:Value} {ents:List Ent} (h:SRow w v ents) (hb:Below w.heap.size w w1):SRow w1 v ents:=
 ⟨own_below h.1 hb,fun e he=>⟨(h.2 e he).1,(h.2 e he).2.1.below hb,(h.2 e he).2.2⟩⟩
theorem infoSfx:(Tryz.prog.info? 203).map (fun i=>(i.zero,i.size,i.bytes)) = some (some (.agg #[.string ⟨#[]⟩,.slice none 0 0]),2,40):=by kernel_rfl
def kch (j:Nat):UInt8 := [107,77,71,84,80].getD j 0
def kCh (j:Nat):UInt8 := [75,77,71,84,80].getD j 0
def tab0:List (List UInt8 × Nat) := [([109],1),([],1000)]
def tabK (i:Nat):List (List UInt8 × Nat):=tab0 ++ (List.range i).map fun j=>([kch j],1000 ^ (j + 2))
def tabB (i:Nat):List (List UInt8 × Nat):=tabK 5 ++ (List.range i).map fun j=>([kCh j,105],1024 ^ (j + 1) * 1000)
def SLoop (w:World) (tab:Nat → List (List UInt8 × Nat)) (v1 v2:Value) (w1:World):Prop := ∃ (i:Nat) (ents:List Ent),i ≤ 5 ∧ v2 = .int .i64 ((i + 1:Nat):Int) ∧ ents.map Ent.tab = tab i ∧ SRow w1 v1 ents ∧ (∀ k,v1.ownBlock = some k → w.heap.size ≤ k) ∧ Below w.heap.size w w1
theorem rd_ent (w:World) (t:TypeId) (e:Ent):Rd (w.alloc (.cells #[.string e.name,e.lv] t)) 2 (.slice (some ⟨w.heap.size,0,none⟩) 1 1) 1 (entCells [e]):=by
 refine ⟨rfl,_,_,rfl,Nat.le_refl _,(fun h=>by cases h),fun ad hA j u hu=>?_⟩
 cases hA
 match j,hu with
 | 0,hu=>cases hu;rw [show (⟨w.heap.size,0,none⟩ : Addr).add 0 = ⟨w.heap.size,0,none⟩ from rfl];simp only [World.cell?,blk_new];rfl
 | 1,hu=>cases hu;rw [show (⟨w.heap.size,0,none⟩ : Addr).add 1 = ⟨w.heap.size,1,none⟩ from rfl];simp only [World.cell?,blk_new];rfl
theorem ent_one (s:ByteArray) (A:Option Addr) (n c v:Nat):∀ u ∈ entCells [⟨s,.slice A n c,v⟩],u.oneCell' = true:=by
 intro u hu;rcases List.mem_cons.1 (show u ∈ [Value.string s,Value.slice A n c] from hu) with rfl | hu
 ·rfl
 ·rw [List.mem_singleton.1 hu];rfl
theorem own_fresh (w:World) (t:TypeId) (size n:Nat) (xs:List Value) (hl:xs.length = n * size) (hm:n ≤ maxLen):(w.alloc (.cells xs.toArray t)).ownsRow 0 t size (.slice (some ⟨w.heap.size,0,none⟩) n n) n xs:=by
 refine ⟨hl,.inr ⟨w.heap.size,n,xs.toArray,rfl,Nat.zero_le _,blk_new _ _,Nat.le_refl _,hm,by simpa using hl,by simp [← hl]⟩⟩
theorem ownBlk_lt {w:World} {v:Value} {n:Nat} (h:RdI w v (dig n)) (hn:0 < n):∀ k,v.ownBlock = some k → k < w.heap.size:=by
 obtain ⟨b,off,c,rfl,hc,hb,hcell⟩:=h.some (by rw [dig_pos hn];simp);intro k hk
 have:b = k:=by simpa [Value.ownBlock] using hk
 omega
theorem ksl (i:Nat) (h:i < 5):((ByteArray.mk #[107,77,71,84,80]).extract i (i + 1)).data.toList = [kch i]:=by
 rcases i with _ | _ | _ | _ | _ | d
 all_goals first | omega | decide
theorem Ksl (i:Nat) (h:i < 5):((ByteArray.mk #[75,77,71,84,80]).extract i (i + 1)).data.toList = [kCh i]:=by
 rcases i with _ | _ | _ | _ | _ | d
 all_goals first | omega | decide
theorem SRow.next {w wr wp w4:World} {v v1:Value} {ents:List Ent} {e:Ent} {o:Obj} (hrow:SRow wr v ents) (hB:Below w.heap.size w wr) (hnew:∀ k,v.ownBlock = some k → w.heap.size ≤ k) (hwp:Below wr.heap.size wr wp) (he0:0 < e.val) (hrp:RdI wp e.lv (dig e.val)) (hnp:∀ k,e.lv.ownBlock = some k → wr.heap.size ≤ k)
  (ho4:w4.ownsRow 0 203 2 v1 (ents.length + 1) (entCells ents ++ entCells [e])) (hg4:(wp.alloc o).grownBy w4 v.ownBlock) (hn4:∀ k,v1.ownBlock = some k → v.ownBlock = some k ∨ wp.heap.size + 1 ≤ k) :
  SRow w4 v1 (ents ++ [e]) ∧ (∀ k,v1.ownBlock = some k → w.heap.size ≤ k) ∧ Below w.heap.size w w4:=by
 have hs:=hwp.size;have hs2:=hB.size;have hvl:∀ k,v.ownBlock = some k → k < wr.heap.size:=fun k hk=>(hrow.1.lt k hk).2
 have hF:∀ {l:Value} {n:Nat},RdI wp l (dig n) → (∀ k,l.ownBlock = some k → v.ownBlock ≠ some k) → RdI w4 l (dig n):=by
  intro l n hr hne;have h1:RdI (wp.alloc o) l (dig n):=hr.below ((Below.refl _ _).alloc (Nat.le_refl _) _);exact h1.fr ((Fr.refl (fun k=>v.ownBlock = some k) (wp.alloc o)).grown hg4 (fun k hk=>.inl hk)) (fun k hk e=>hne k hk e)
 refine ⟨⟨by rw [entCells_app,List.length_append];exact ho4,fun x hx=>?_⟩,fun k hk=>?_,?_⟩
 ·rcases List.mem_append.1 hx with hx | hx
  ·obtain ⟨h0,h1,h2⟩:=hrow.2 x hx
   refine ⟨h0,hF (h1.below hwp) h2,fun k hk h=>?_⟩;rcases hn4 k h with h3 | h3
   ·exact h2 k hk h3
   ·have:=ownBlk_lt h1 h0 k hk;omega
  ·rw [List.mem_singleton.1 hx]
   refine ⟨he0,hF hrp (fun k hk h=>?_),fun k hk h=>?_⟩
   ·have:=hnp k hk;have:=hvl k h;omega
   ·rcases hn4 k h with h3 | h3
    ·have:=hnp k hk;have:=hvl k h3;omega
    ·have:=ownBlk_lt hrp he0 k hk;omega
 ·rcases hn4 k hk with h3 | h3
  ·exact hnew k h3
  ·omega
 ·have h1:Below w.heap.size w (wp.alloc o):=(hB.trans (hwp.mono hs2)).alloc (by omega) _
  exact h1.grown hg4 h1.size (fun k hk=>hnew k hk)
theorem suffixes_calls (w:World):Calls Tryz.prog 135 #[] w fun e w' => ∃ v ents,e = .returned v ∧ ents.map Ent.tab = tabB 5 ∧ SRow w' v ents ∧ Below w.heap.size w w':=by
 go_enter Tryz.func135,Tryz.ntmps135;go_wp2_with fail;refine (long_calls _ 1 (by decide)).mono ?_;rintro e w1 ⟨l1,rfl,hr1,hn1,hw1⟩;have Hr1:=hIh hr1;have Hw1:=hIh hw1;obtain ⟨A1,c1,rfl⟩:=hr1.slice;clear hr1 hw1;go_wp2_with fail;refine (long_calls _ 1000 (by decide)).mono ?_;rintro e w2 ⟨l2,rfl,hr2,hn2,hw2⟩;have Hr2:=hIh hr2;have Hw2:=hIh hw2;obtain ⟨A2,c2,rfl⟩:=hr2.slice;clear hr2 hw2;go_wp2
 have Hst:Hid (SLoop w tabK (.slice (some ⟨w2.heap.size,0,none⟩) 2 2) (.int .i64 1) (w2.alloc (.cells #[.string ⟨#[109]⟩,.slice A1 (dig 1).length c1,.string ⟨#[]⟩,.slice A2 (dig 1000).length c2] 203))):=by
  have hb1:=Hw1.out;have hb2:=Hw2.out;have hs1:=hb1.size;have hs2:=hb2.size;have hbl:∀ o,Below w2.heap.size w2 (w2.alloc o):=fun o=>(Below.refl _ _).alloc (Nat.le_refl _) o;refine ⟨0, [⟨⟨#[109]⟩,.slice A1 (dig 1).length c1,1⟩,⟨⟨#[]⟩,.slice A2 (dig 1000).length c2,1000⟩],by omega,rfl,rfl,⟨?_,?_⟩,?_,?_⟩
  ·exact own_fresh w2 _ 2 2 [.string ⟨#[109]⟩,.slice A1 (dig 1).length c1,.string ⟨#[]⟩,.slice A2 (dig 1000).length c2] rfl (by unfold maxLen;omega)
  ·intro e he
   rcases List.mem_cons.1 he with rfl | he
   ·refine ⟨Nat.zero_lt_one,(Hr1.out.below hb2).below (hbl _),fun k hk h=>?_⟩
    have h1:=ownBlk_lt Hr1.out (by decide) k hk;have:w2.heap.size = k:=(by simpa [Value.ownBlock] using h);omega
   ·rw [List.mem_singleton.1 he]
    refine ⟨(by decide:0 < 1000),Hr2.out.below (hbl _),fun k hk h=>?_⟩;have h1:=ownBlk_lt Hr2.out (by decide) k hk;have:w2.heap.size = k:=(by simpa [Value.ownBlock] using h);omega
  ·intro k hk
   have:w2.heap.size = k:=(by simpa [Value.ownBlock] using hk);omega
  ·exact (hb1.trans (hb2.mono hs1)).alloc (by omega) _
 clear hn1 hn2 Hr1 Hr2 Hw1 Hw2
 go_loopw [1,2] (fun v1 v2 w1=>SLoop w tabK v1 v2 w1) (fun _ i _=>6 - (intOf i).toNat)
 case atStart=>exact Hst.out
 case round=>
  clear Hst;obtain ⟨i,ents,hi,rfl,htab,hrow,hnew,hB⟩:=hrel;have Htab:=hIh htab;have Hnew:=hIh hnew;have HB:=hIh hB;have Hrow:=hIh hrow
  have hlen:ents.length = i + 2:=by
   have:=congrArg List.length htab;simp [tabK,tab0] at this;omega
  obtain ⟨A,c,rfl⟩:=own_slice hrow.1;clear htab hnew hB hrow
  by_cases hlt:i < 5
  ·have hle:((i + 1:Nat):Int) ≤ 5:=by omega
   have hsl:=ksl i hlt
   have hrun:∀ W,(Instr.slice 9 (.string (ByteArray.mk #[107,77,71,84,80])) (some (.int .i64 (((i + 1:Nat):Int) - 1))) (some (.int .i64 ((i + 1:Nat):Int))) none).run Tryz.prog W = .ok (.string ((ByteArray.mk #[107,77,71,84,80]).extract i (i + 1))) W:=fun W=>by
    have h1:=run_slice_string (P:=Tryz.prog) W 9 (ByteArray.mk #[107,77,71,84,80]) .i64 .i64 (((i + 1:Nat):Int) - 1) ((i + 1:Nat):Int) Tryz.underlying9 (by omega) (by omega) (by have:(ByteArray.mk #[107,77,71,84,80]).size = 5:=rfl;omega);rw [h1,show (((i + 1:Nat):Int) - 1).toNat = i from by omega,show (((i + 1:Nat):Int)).toNat = i + 1 from by omega]
   generalize (ByteArray.mk #[107,77,71,84,80]).extract i (i + 1) = ds at hrun hsl;have Hsl:=hIh hsl;obtain ⟨m,hm⟩ : ∃ m,m = i + 1:=⟨_,rfl⟩;rw [← hm] at hle hrun;rw [← hm];have hm1:(m:Int) + 1 = ((m + 1:Nat):Int):=(by omega);have Hm1:=hIh hm1;clear hm1;have Hm:=hIh hm;have hmm:m ≤ 5:=(by omega);have hw1:IntKind.i64.wrap ((m:Int) - 1) = (m:Int) - 1:=(by rw [IntKind.wrap_i64];omega);have hw2:IntKind.i64.wrap ((m:Int) + 1) = (m:Int) + 1:=(by rw [IntKind.wrap_i64];omega);have Hi:=hIh hi;have Hlt:=hIh hlt;clear hsl hm hi hlt;have hlen2:=hIh hlen;clear hlen;go_wp2
   go_region_held3 (fun w' : World=>True) (exact True.intro)
    (first
    | ((go_at_call 159);(rw [Hm1.out]);(refine (power_calls _ 1000 (m + 1) (by omega) (by omega)).mono ?_);(rintro e wp ⟨lp,rfl,hrp,hnp,hwp⟩);(obtain ⟨Ap,kp,rfl⟩:=hrp.slice);(have Hrp:=hIh hrp);(have Hnp:=hIh hnp);(have Hwp:=hIh ((drewB (Below.refl wr.heap.size wr) 1).trans hwp));(clear hrp hnp hwp))
    | ((refine step_append2 _ rfl (.tmp 13) (.tmp 22) 198 rfl 203 (.agg #[.string ⟨#[]⟩,.slice none 0 0]) 2 40 Tryz.underlying198 infoSfx rfl (by decide) (.slice A ents.length c) ents.length (entCells ents) rfl ((own_below Hrow.out.1 Hwp.out).alloc _) _ 1 (entCells [⟨ds,.slice Ap (dig (1000 ^ (m + 1))).length kp,1000 ^ (m + 1)⟩]) rfl (rd_ent _ _ ⟨ds,.slice Ap (dig (1000 ^ (m + 1))).length kp,1000 ^ (m + 1)⟩) (ent_one _ _ _ _ _) (by unfold maxLen;have:=hlen2.out;have:=Hlt.out;omega) (by have:=hlen2.out;have:=Hlt.out;omega) ?_);(intro v1 w4 ho4 hg4 hn4)))
   have hp0:0 < 1000 ^ (m + 1):=Nat.pow_pos (by decide);obtain ⟨g1,g2,g3⟩:=SRow.next (e:=⟨ds,.slice Ap (dig (1000 ^ (m + 1))).length kp,1000 ^ (m + 1)⟩) Hrow.out HB.out Hnew.out Hwp.out hp0 Hrp.out Hnp.out ho4 hg4 (fun k hk=>by have:=hn4 k hk;simpa using this);obtain ⟨A3,c3,rfl⟩:=own_slice g1.1
   have Hn:Hid (SLoop w tabK (.slice A3 (ents ++ ([⟨ds,.slice Ap (dig (1000 ^ (m + 1))).length kp,1000 ^ (m + 1)⟩] : List Ent)).length c3) (.int .i64 ((m:Int) + 1)) w4):=by
    refine ⟨i + 1,_,by have:=Hlt.out;omega,by rw [Hm.out];rfl,?_,g1,g2,g3⟩;rw [List.map_append,Htab.out,tabK,tabK,List.range_succ,List.map_append,List.append_assoc];simp [Ent.tab,Hsl.out,Hm.out]
   clear g1 g2 g3 ho4 hg4 hn4;go_wp2;go_roundw
   case rel=>exact Hn.out
   case measure=>simp [intOf];omega
  ·have hle:¬ ((i + 1:Nat):Int) ≤ 5:=by omega
   have hi5:i = 5:=(by omega);subst hi5;have Hst2:Hid (SLoop w tabB (.slice A ents.length c) (.int .i64 1) wr):=⟨0,ents,by omega,rfl,by rw [Htab.out];simp [tabB],Hrow.out,Hnew.out,HB.out⟩;clear Htab Hnew HB Hrow hlen;go_wp2
   go_loopw [1,3] (fun v1 v3 w1=>SLoop w tabB v1 v3 w1) (fun _ i _=>6 - (intOf i).toNat)
   case atStart=>exact Hst2.out
   case round=>
    clear Hst2;obtain ⟨i,ents,hi,rfl,htab,hrow,hnew,hB⟩:=hrel;have Htab:=hIh htab;have Hnew:=hIh hnew;have HB:=hIh hB;have Hrow:=hIh hrow
    have hlen:ents.length = i + 7:=by
     have:=congrArg List.length htab;simp [tabB,tabK,tab0] at this;omega
    obtain ⟨A,c,rfl⟩:=own_slice hrow.1;clear htab hnew hB hrow
    by_cases hlt:i < 5
    ·have hle:((i + 1:Nat):Int) ≤ 5:=by omega
     have hsl:=Ksl i hlt
     have hrun:∀ W,(Instr.slice 9 (.string (ByteArray.mk #[75,77,71,84,80])) (some (.int .i64 (((i + 1:Nat):Int) - 1))) (some (.int .i64 ((i + 1:Nat):Int))) none).run Tryz.prog W = .ok (.string ((ByteArray.mk #[75,77,71,84,80]).extract i (i + 1))) W:=fun W=>by
      have h1:=run_slice_string (P:=Tryz.prog) W 9 (ByteArray.mk #[75,77,71,84,80]) .i64 .i64 (((i + 1:Nat):Int) - 1) ((i + 1:Nat):Int) Tryz.underlying9 (by omega) (by omega) (by have:(ByteArray.mk #[75,77,71,84,80]).size = 5:=rfl;omega);rw [h1,show (((i + 1:Nat):Int) - 1).toNat = i from by omega,show (((i + 1:Nat):Int)).toNat = i + 1 from by omega]
     generalize (ByteArray.mk #[75,77,71,84,80]).extract i (i + 1) = ds at hrun hsl;have Hsl:=hIh hsl;obtain ⟨m,hm⟩ : ∃ m,m = i + 1:=⟨_,rfl⟩;rw [← hm] at hle hrun;rw [← hm];have hm1:(m:Int) + 1 = ((m + 1:Nat):Int):=(by omega);have hds:ds.size = 1:=(by rw [size_toList,hsl];rfl)
     have Hpl:Hid ((dig (1024 ^ m)).length ≤ 1048576):=by
      show _ ≤ _;have:=dig_pow_len (Nat.le_refl 1024) (by omega:m ≤ 18);omega
     have Hfl:Hid ((dig 1000).length ≤ 1048576):=by
      show _ ≤ _;have:=dig_pow_len (by decide:1000 ≤ 1024) (by decide:1 ≤ 18);rw [Nat.pow_one] at this;omega
     clear hm1;have Hm:=hIh hm;have hmm:m ≤ 5:=(by omega);have hw1:IntKind.i64.wrap ((m:Int) - 1) = (m:Int) - 1:=(by rw [IntKind.wrap_i64];omega);have hw2:IntKind.i64.wrap ((m:Int) + 1) = (m:Int) + 1:=(by rw [IntKind.wrap_i64];omega);have Hi:=hIh hi;have Hlt:=hIh hlt;clear hsl hm hi hlt;have hlen2:=hIh hlen;clear hlen;go_wp2
     go_region_held3 (fun w' : World=>True) (exact True.intro)
      (first
      | ((go_at_call 159);(refine (power_calls _ 1024 m (by omega) (by omega)).mono ?_);(rintro e wp ⟨lp,rfl,hrp,hnp,hwp⟩);(obtain ⟨Ap,kp,rfl⟩:=hrp.slice);(have Hrp:=hIh hrp);(have Hwp:=hIh ((drewB (Below.refl wr.heap.size wr) 1).trans hwp));(clear hrp hnp hwp))
      | ((go_at_call 158);(refine (long_calls _ 1000 (by decide)).mono ?_);(rintro e wl ⟨ll,rfl,hrl,hnl,hwl⟩);(obtain ⟨Al,kl,rfl⟩:=hrl.slice);(have Hrl:=hIh hrl);(have Hwl:=hIh hwl);(clear hrl hnl hwl))
      | ((go_at_call 160);(refine (times_calls _ _ _ (1024 ^ m) 1000 (Hrp.out.below Hwl.out) Hrl.out Hpl.out Hfl.out).mono ?_);(rintro e wt ⟨lt,rfl,hrt,hnt,hwt⟩);(obtain ⟨At,kt,rfl⟩:=hrt.slice);(have Hrt:=hIh hrt);(have Hnt:=hIh hnt);(have Hwt:=hIh ((Hwp.out.trans (Hwl.out.mono Hwp.out.size)).trans (hwt.mono (Nat.le_trans Hwp.out.size Hwl.out.size))));(clear hrt hnt hwt))
      | ((refine step_append2 _ rfl (.tmp 28) (.tmp 39) 198 rfl 203 (.agg #[.string ⟨#[]⟩,.slice none 0 0]) 2 40 Tryz.underlying198 infoSfx rfl (by decide) (.slice A ents.length c) ents.length (entCells ents) rfl ((own_below Hrow.out.1 Hwt.out).alloc _) _ 1 (entCells [⟨ds ++ ⟨#[105]⟩,.slice At (dig (1024 ^ m * 1000)).length kt,1024 ^ m * 1000⟩]) rfl (rd_ent _ _ ⟨ds ++ ⟨#[105]⟩,.slice At (dig (1024 ^ m * 1000)).length kt,1024 ^ m * 1000⟩) (ent_one _ _ _ _ _) (by unfold maxLen;have:=hlen2.out;have:=Hlt.out;omega) (by have:=hlen2.out;have:=Hlt.out;omega) ?_);(intro v1 w4 ho4 hg4 hn4)))
     have hp0:0 < 1024 ^ m * 1000:=Nat.mul_pos (Nat.pow_pos (by decide)) (by decide);obtain ⟨g1,g2,g3⟩:=SRow.next (e:=⟨ds ++ ⟨#[105]⟩,.slice At (dig (1024 ^ m * 1000)).length kt,1024 ^ m * 1000⟩) Hrow.out HB.out Hnew.out Hwt.out hp0 Hrt.out (fun k hk=>Nat.le_trans (Nat.le_trans Hwp.out.size Hwl.out.size) (Hnt.out k hk)) ho4 hg4 (fun k hk=>by have:=hn4 k hk;simpa using this);obtain ⟨A3,c3,rfl⟩:=own_slice g1.1
     have Hn:Hid (SLoop w tabB (.slice A3 (ents ++ ([⟨ds ++ ⟨#[105]⟩,.slice At (dig (1024 ^ m * 1000)).length kt,1024 ^ m * 1000⟩] : List Ent)).length c3) (.int .i64 ((m:Int) + 1)) w4):=by
      refine ⟨i + 1,_,by have:=Hlt.out;omega,by rw [Hm.out];rfl,?_,g1,g2,g3⟩;rw [List.map_append,Htab.out,tabB,tabB,List.range_succ,List.map_append,List.append_assoc];simp [Ent.tab,Hsl.out,Hm.out]
     clear g1 g2 g3 ho4 hg4 hn4;go_wp2;go_roundw
     case rel=>exact Hn.out
     case measure=>simp [intOf];omega
    ·have hle:¬ ((i + 1:Nat):Int) ≤ 5:=by omega
     have hi5:i = 5:=(by omega);subst hi5;clear hlen;go_wp2;go_ret;exact ⟨_,rfl,ents,Htab.out,Hrow.out,HB.out⟩
def isDg (b:UInt8):Bool:=48 ≤ b && b ≤ 57
def qunits:List (List UInt8 × Nat) := [([75,105],1024000),([77,105],1048576000),([71,105],1073741824000),([84,105],1099511627776000),([80,105],1125899906842624000),([107],1000000),([77],1000000000),([71],1000000000000),([84],1000000000000000),([80],1000000000000000000),([109],1),([],1000)]
def numv (l:List UInt8):Nat:=l.foldl (fun n b=>n * 10 + (b.toNat - 48)) 0
def qval (w p:List UInt8) (f:Nat):Option Nat:=
 if w.length + p.length ≤ 19 ∧ (numv (w ++ p) * f + 10 ^ p.length - 1) / 10 ^ p.length ≤ 9223372036854775807 then some ((numv (w ++ p) * f + 10 ^ p.length - 1) / 10 ^ p.length) else none
def qlook (s:List UInt8):Option Nat:=(qunits.find? (fun e=>e.1 == s)).map (·.2)
def qparse (t:List UInt8):Option Nat:=
 if t.takeWhile isDg = [] then none else
 match t.dropWhile isDg with
 | []=>(qlook []).bind (qval (t.takeWhile isDg) [])
 | c :: r=>if c = 46 then (if r.takeWhile isDg = [] then none else (qlook (r.dropWhile isDg)).bind (qval (t.takeWhile isDg) (r.takeWhile isDg)))
  else (qlook (c :: r)).bind (qval (t.takeWhile isDg) [])
def qall (s:List UInt8):Bool:=s ≠ [] && s.all isDg
def qnum (n:List UInt8) (f:Nat):Option Nat:=
 if (46:UInt8) ∈ n then
  (
   let w:=n.takeWhile (· != 46);let p:=(n.dropWhile (· != 46)).drop 1
   if qall w && qall p then qval w p f else none)
 else if qall n then qval n [] f else none
def qprog (t:List UInt8):Option Nat:=
 match qunits.find? (fun e=>e.1.isSuffixOf t) with
 | some e=>qnum (t.take (t.length - e.1.length)) e.2
 | none=>none
theorem dg_not {c:UInt8} (h:isDg c = true):c ≠ 105 ∧ c ≠ 107 ∧ c ≠ 77 ∧ c ≠ 71 ∧ c ≠ 84 ∧ c ≠ 80 ∧ c ≠ 109 ∧ c ≠ 75 ∧ c ≠ 46:=by
 refine ⟨?_,?_,?_,?_,?_,?_,?_,?_,?_⟩ <;> (rintro rfl;revert h;decide)
theorem beqF {a c:UInt8} (h:c ≠ a):(a == c) = false:=by simpa using fun e=>h e.symm
theorem find_unit {m s:List UInt8} {c:UInt8} {f:Nat} (hc:isDg c = true) (hm:(s,f) ∈ qunits):qunits.find? (fun e=>e.1.isSuffixOf (m ++ [c] ++ s)) = some (s,f):=by
 obtain ⟨h1,h2,h3,h4,h5,h6,h7,h8,h9⟩:=dg_not hc;simp only [qunits,List.mem_cons,List.not_mem_nil,or_false,Prod.mk.injEq] at hm;rcases hm with ⟨rfl,rfl⟩ | ⟨rfl,rfl⟩ | ⟨rfl,rfl⟩ | ⟨rfl,rfl⟩ | ⟨rfl,rfl⟩ | ⟨rfl,rfl⟩ | ⟨rfl,rfl⟩ | ⟨rfl,rfl⟩ | ⟨rfl,rfl⟩ | ⟨rfl,rfl⟩ | ⟨rfl,rfl⟩ | ⟨rfl,rfl⟩
 all_goals simp [qunits,List.find?,List.isSuffixOf,List.isPrefixOf,beqF h1,beqF h2,beqF h3,beqF h4,beqF h5,beqF h6,beqF h7,beqF h8]
theorem last_split {n:List UInt8} (hn:n ≠ []):∃ m c,n = m ++ [c]:=by
 induction n with
 | nil=>exact absurd rfl hn
 | cons a r ih=>
  by_cases hr:r = []
  ·exact ⟨[],a,by rw [hr];rfl⟩
  ·obtain ⟨m,c,h⟩:=ih hr
   exact ⟨a :: m,c,by rw [h];rfl⟩
theorem suf_head {s:List UInt8} {f:Nat} (hm:(s,f) ∈ qunits):s = [] ∨ ∃ c r,s = c :: r ∧ isDg c = false ∧ c ≠ 46:=by
 simp only [qunits,List.mem_cons,List.not_mem_nil,or_false,Prod.mk.injEq] at hm;rcases hm with ⟨rfl,rfl⟩ | ⟨rfl,rfl⟩ | ⟨rfl,rfl⟩ | ⟨rfl,rfl⟩ | ⟨rfl,rfl⟩ | ⟨rfl,rfl⟩ | ⟨rfl,rfl⟩ | ⟨rfl,rfl⟩ | ⟨rfl,rfl⟩ | ⟨rfl,rfl⟩ | ⟨rfl,rfl⟩ | ⟨rfl,rfl⟩
 all_goals first | exact .inl rfl | exact .inr ⟨_,_,rfl,by decide,by decide⟩
theorem look_mem {s:List UInt8} {f:Nat} (hm:(s,f) ∈ qunits):qlook s = some f:=by
 simp only [qunits,List.mem_cons,List.not_mem_nil,or_false,Prod.mk.injEq] at hm;rcases hm with ⟨rfl,rfl⟩ | ⟨rfl,rfl⟩ | ⟨rfl,rfl⟩ | ⟨rfl,rfl⟩ | ⟨rfl,rfl⟩ | ⟨rfl,rfl⟩ | ⟨rfl,rfl⟩ | ⟨rfl,rfl⟩ | ⟨rfl,rfl⟩ | ⟨rfl,rfl⟩ | ⟨rfl,rfl⟩ | ⟨rfl,rfl⟩
 all_goals rfl
theorem mem_look {s:List UInt8} {f:Nat} (h:qlook s = some f):(s,f) ∈ qunits:=by
 unfold qlook at h;obtain ⟨e,he,rfl⟩:=Option.map_eq_some_iff.1 h;have h1:=List.find?_some he;have h2:=List.mem_of_find?_eq_some he
 have:e.1 = s:=by simpa using h1
 subst this;exact h2
inductive QForm:List UInt8 → List UInt8 → List UInt8 → Nat → Prop
 | whole (w s:List UInt8) (f:Nat) (hw:w ≠ []) (ha:∀ b ∈ w,isDg b = true) (hm:(s,f) ∈ qunits):QForm (w ++ s) w [] f
 | dot (w p s:List UInt8) (f:Nat) (hw:w ≠ []) (ha:∀ b ∈ w,isDg b = true) (hp:p ≠ []) (hb:∀ b ∈ p,isDg b = true) (hm:(s,f) ∈ qunits):QForm (w ++ 46 :: (p ++ s)) w p f
theorem tw_all {w r:List UInt8} (ha:∀ b ∈ w,isDg b = true) (hr:r = [] ∨ ∃ c q,r = c :: q ∧ isDg c = false):(w ++ r).takeWhile isDg = w ∧ (w ++ r).dropWhile isDg = r:=by
 induction w with
 | nil=>
  rcases hr with rfl | ⟨c,q,rfl,hc⟩
  ·exact ⟨rfl,rfl⟩
  ·simp [hc]
 | cons a w ih=>
  have h1:=ih (fun b hb=>ha b (List.mem_cons_of_mem _ hb));have h2:=ha a List.mem_cons_self;simp [h2,h1]
theorem form_parse {t w p:List UInt8} {f:Nat} (h:QForm t w p f):qparse t = qval w p f:=by
 cases h with
 | whole w s f hw ha hm=>
  have hs:=suf_head hm;obtain ⟨h1,h2⟩:=tw_all (r:=s) ha (by rcases hs with h | ⟨c,r,h,hc, -⟩;exact .inl h;exact .inr ⟨c,r,h,hc⟩);unfold qparse;rw [h1,h2,if_neg hw];rcases hs with rfl | ⟨c,r,rfl,hc,hd⟩
  ·simp [look_mem hm]
  ·simp [hd,look_mem hm]
 | dot w p s f hw ha hp hb hm=>
  have hs:=suf_head hm;obtain ⟨h1,h2⟩:=tw_all (r:=46 :: (p ++ s)) ha (.inr ⟨46,_,rfl,by decide⟩);obtain ⟨h3,h4⟩:=tw_all (r:=s) hb (by rcases hs with h | ⟨c,r,h,hc, -⟩;exact .inl h;exact .inr ⟨c,r,h,hc⟩);unfold qparse;rw [h1,h2,if_neg hw];simp [h3,h4,hp,look_mem hm]
theorem all_dg {w:List UInt8} (hw:w ≠ []) (ha:∀ b ∈ w,isDg b = true):qall w = true:=by simp [qall,hw];exact ha
theorem no_dot {w:List UInt8} (ha:∀ b ∈ w,isDg b = true):(46:UInt8) ∉ w:=fun h=>absurd (ha _ h) (by decide)
theorem tw_dot {w r:List UInt8} (h:(46:UInt8) ∉ w):(w ++ 46 :: r).takeWhile (· != 46) = w ∧ (w ++ 46 :: r).dropWhile (· != 46) = 46 :: r:=by
 induction w with
 | nil=>simp
 | cons a w ih=>
  have h1:=ih (fun e=>h (List.mem_cons_of_mem _ e));have h2:a ≠ 46:=fun e=>h (by rw [e];exact List.mem_cons_self);simp [h2,h1]
theorem form_prog {t w p:List UInt8} {f:Nat} (h:QForm t w p f):qprog t = qval w p f:=by
 cases h with
 | whole w s f hw ha hm=>
  obtain ⟨m,c,rfl⟩:=last_split hw;have hc:=ha c (by simp);unfold qprog;rw [find_unit hc hm];simp only [List.length_append,List.length_singleton,Nat.add_sub_cancel];rw [show m.length + 1 = (m ++ [c]).length by simp,List.take_left];unfold qnum;rw [if_neg (no_dot ha),if_pos (all_dg hw ha)]
 | dot w p s f hw ha hp hb hm=>
  obtain ⟨m,c,rfl⟩:=last_split hp;have hc:=hb c (by simp);unfold qprog
  have e:w ++ 46 :: (m ++ [c] ++ s) = (w ++ 46 :: m) ++ [c] ++ s:=by simp
  rw [e,find_unit hc hm];simp only
  have e2:((w ++ 46 :: m) ++ [c] ++ s).length - s.length = ((w ++ 46 :: m) ++ [c]).length:=by simp only [List.length_append];omega
  rw [e2,List.take_left];unfold qnum
  have e3:(w ++ 46 :: m) ++ [c] = w ++ 46 :: (m ++ [c]):=by simp
  rw [if_pos (by simp),e3];obtain ⟨h1,h2⟩:=tw_dot (r:=m ++ [c]) (no_dot ha);simp only [h1,h2,List.drop_succ_cons,List.drop_zero,all_dg hw ha,all_dg hp hb,Bool.and_self,if_true]
theorem tw_mem {l:List UInt8}:∀ b ∈ l.takeWhile isDg,isDg b = true:=by
 induction l with
 | nil=>simp
 | cons a r ih=>
  intro b hb
  by_cases h:isDg a = true
  ·simp only [List.takeWhile_cons,h,if_true,List.mem_cons] at hb
   rcases hb with rfl | hb
   ·exact h
   ·exact ih b hb
  ·simp [List.takeWhile_cons,h] at hb
theorem parse_form {t:List UInt8} {v:Nat} (h:qparse t = some v):∃ w p f,QForm t w p f:=by
 unfold qparse at h;have ht:t = t.takeWhile isDg ++ t.dropWhile isDg:=(List.takeWhile_append_dropWhile).symm
 split at h
 ·cases h
 ·rename_i hw
  split at h
  ·rename_i hd
   obtain ⟨f,hf, -⟩:=Option.bind_eq_some_iff.1 h;rw [hd] at ht;have:=QForm.whole (t.takeWhile isDg) [] f hw tw_mem (mem_look hf);rw [← ht] at this;exact ⟨_,_,f,this⟩
  ·rename_i c r hd
   rw [hd] at ht
   split at h
   ·rename_i hc
    split at h
    ·cases h
    ·rename_i hp
     obtain ⟨f,hf, -⟩:=Option.bind_eq_some_iff.1 h;have hr:r = r.takeWhile isDg ++ r.dropWhile isDg:=(List.takeWhile_append_dropWhile).symm;have:=QForm.dot (t.takeWhile isDg) (r.takeWhile isDg) (r.dropWhile isDg) f hw tw_mem hp tw_mem (mem_look hf);rw [← hr,← hc,← ht] at this;exact ⟨_,_,f,this⟩
   ·obtain ⟨f,hf, -⟩:=Option.bind_eq_some_iff.1 h
    have:=QForm.whole (t.takeWhile isDg) (c :: r) f hw tw_mem (mem_look hf);rw [← ht] at this;exact ⟨_,_,f,this⟩
theorem all_of {w:List UInt8} (h:qall w = true):w ≠ [] ∧ ∀ b ∈ w,isDg b = true:=by
 simp [qall] at h;exact h
theorem prog_form {t:List UInt8} {v:Nat} (h:qprog t = some v):∃ w p f,QForm t w p f:=by
 unfold qprog at h
 split at h
 ·rename_i e he
  have h1:=List.find?_some he;have h2:=List.mem_of_find?_eq_some he;obtain ⟨s,f⟩:=e;simp only at h h1;obtain ⟨n,rfl⟩:=List.isSuffixOf_iff_suffix.1 h1
  have e2:(n ++ s).length - s.length = n.length:=by simp
  rw [e2,List.take_left] at h;unfold qnum at h
  split at h
  ·rename_i hdot
   simp only at h
   split at h
   ·rename_i ha
    rw [Bool.and_eq_true] at ha;obtain ⟨hw,hwa⟩:=all_of ha.1;obtain ⟨hp,hpa⟩:=all_of ha.2
    have hn:n = n.takeWhile (· != 46) ++ n.dropWhile (· != 46):=(List.takeWhile_append_dropWhile).symm
    cases hd:n.dropWhile (· != 46) with
    | nil=>rw [hd] at hp;simp at hp
    | cons c r=>
     have hc:c = 46:=by
      have:=List.head?_dropWhile_not (· != 46) n
      rw [hd] at this
      simpa using this
     rw [hd] at hn hp hpa;simp only [List.drop_succ_cons,List.drop_zero] at hp hpa;have:=QForm.dot _ _ s f hw hwa hp hpa h2;rw [hc] at hn
     have e3:n ++ s = n.takeWhile (· != 46) ++ 46 :: (r ++ s):=by
      have:=congrArg (· ++ s) hn
      simpa using this
     rw [← e3] at this;exact ⟨_,_,f,this⟩
   ·cases h
  ·split at h
   ·rename_i ha
    obtain ⟨hw,hwa⟩:=all_of ha;exact ⟨_,_,f,QForm.whole _ s f hw hwa h2⟩
   ·cases h
 ·cases h
theorem qprog_eq (t:List UInt8):qprog t = qparse t:=by
 cases h:qparse t with
 | some v=>
  obtain ⟨w,p,f,hF⟩:=parse_form h;rw [form_prog hF,← form_parse hF,h]
 | none=>
  cases h2:qprog t with
  | none=>rfl
  | some v=>
   obtain ⟨w,p,f,hF⟩:=prog_form h2;rw [form_prog hF,← form_parse hF,h] at h2
   cases h2
abbrev Str:=List UInt8
structure Tm where
 key:Str
 how:Nat
 vals:List Str
deriving DecidableEq
def isNc (b:UInt8):Bool:=(97 ≤ b && b ≤ 122) || (48 ≤ b && b ≤ 57) || b == 45
def isNm (s:Str):Bool:=s ≠ [] && s.length ≤ 32 && s.head? ≠ some 45 && s.getLast? ≠ some 45 && s.all isNc
def valsOk (l:List Str):Bool:=1 ≤ l.length && l.length ≤ 8 && (List.range l.length).all fun i=>(isNm (l.getD i []) || (l.getD i [] == [] && l.length == 1)) && !(l.take i).contains (l.getD i [])
def tmOk (t:Tm):Bool:=isNm t.key && t.how ≤ 3 && (if 2 ≤ t.how then t.vals == [] else valsOk t.vals)
def joinS (sep:Str):List Str → Str
 | [] => []
 | [a]=>a
 | a :: b :: r=>a ++ sep ++ joinS sep (b :: r)
def tmTxt (t:Tm):Str:=
 if t.how = 2 then t.key else if t.how = 3 then 33 :: t.key
 else if t.vals.length = 1 then (if t.how = 0 then t.key ++ 61 :: t.vals.headD [] else t.key ++ 33 :: 61 :: t.vals.headD [])
 else t.key ++ (if t.how = 1 then [32,110,111,116,105,110,32,40] else [32,105,110,32,40]) ++ joinS [32] t.vals ++ [41]
def selTxt (l:List Tm):Str:=joinS [44] (l.map tmTxt)
def pieces (c:UInt8):Str → List Str
 | [] => [[]]
 | a :: r=>if a = c then [] :: pieces c r else
  match pieces c r with
  | [] => [[a]]
  | p :: q=>(a :: p) :: q
def selParse (rd:Str → Tm) (t:Str):Option (List Tm):=
 if t = [] then some [] else
 let l:=(pieces 44 t).map rd
 if l.length ≤ 8 ∧ l.all tmOk ∧ selTxt l = t then some l else none
theorem pieces_ne (c:UInt8) (s:Str):pieces c s ≠ []:=by
 cases s with
 | nil=>simp [pieces]
 | cons a r=>unfold pieces;split <;> (try split) <;> simp
theorem pieces_free {c:UInt8} {s:Str} (h:c ∉ s):pieces c s = [s]:=by
 induction s with
 | nil=>rfl
 | cons a r ih=>
  have h1:a ≠ c:=fun e=>h (by rw [e];exact List.mem_cons_self);have h2:=ih (fun e=>h (List.mem_cons_of_mem _ e));simp [pieces,h1,h2]
theorem pieces_app {c:UInt8} {s r:Str} (h:c ∉ s):pieces c (s ++ c :: r) = s :: pieces c r:=by
 induction s with
 | nil=>simp [pieces]
 | cons a q ih=>
  have h1:a ≠ c:=fun e=>h (by rw [e];exact List.mem_cons_self);have h2:=ih (fun e=>h (List.mem_cons_of_mem _ e));simp [pieces,h1,h2]
theorem pieces_join {c:UInt8}:∀ {l:List Str},l ≠ [] → (∀ s ∈ l,c ∉ s) → pieces c (joinS [c] l) = l
 | [],h,_=>absurd rfl h
 | [a],_,h=>by simpa [joinS] using pieces_free (h a (by simp))
 | a :: b :: r,_,h=>by
  have h1:=pieces_join (l:=b :: r) (by simp) (fun s hs=>h s (List.mem_cons_of_mem _ hs))
  have h2:a ++ [c] ++ joinS [c] (b :: r) = a ++ c :: joinS [c] (b :: r):=by simp
  rw [joinS,h2,pieces_app (h a (by simp)),h1]
theorem nm_not {s:Str} (h:isNm s = true) {c:UInt8} (hc:isNc c = false):c ∉ s:=by
 simp only [isNm,Bool.and_eq_true] at h;intro hm;have:=List.all_eq_true.1 h.2 c hm;rw [hc] at this;cases this
theorem nm_ne {s:Str} (h:isNm s = true):s ≠ []:=by
 simp only [isNm,Bool.and_eq_true] at h
 simpa using h.1.1.1.1
theorem val_not {l:List Str} (h:valsOk l = true) {c:UInt8} (hc:isNc c = false):∀ s ∈ l,c ∉ s:=by
 intro s hs;obtain ⟨i,hi,rfl⟩:=List.getElem_of_mem hs;simp only [valsOk,Bool.and_eq_true] at h;have:=List.all_eq_true.1 h.2 i (List.mem_range.2 hi);simp only [Bool.and_eq_true,Bool.or_eq_true] at this
 have hg:l.getD i [] = l[i]:=by simp [List.getD,hi]
 rw [hg] at this;rcases this.1 with h1 | ⟨h1, -⟩
 ·exact nm_not h1 hc
 ·have:l[i] = []:=by simpa using h1
  rw [this];simp
theorem joinS_not {c d:UInt8} (hd:c ≠ d):∀ {l:List Str},(∀ s ∈ l,c ∉ s) → c ∉ joinS [d] l
 | [],_=>by simp [joinS]
 | [a],h=>by simpa [joinS] using h a (by simp)
 | a :: b :: r,h=>by
  have h1:=joinS_not hd (l:=b :: r) (fun s hs=>h s (List.mem_cons_of_mem _ hs));have h2:=h a (by simp);simp only [joinS,List.mem_append,List.mem_singleton];rintro ((h3 | h3) | h3)
  ·exact h2 h3
  ·exact hd h3
  ·exact h1 h3
theorem tm_comma {t:Tm} (h:tmOk t = true):(44:UInt8) ∉ tmTxt t:=by
 simp only [tmOk,Bool.and_eq_true] at h;have hk:=nm_not h.1.1 (c:=44) (by decide);unfold tmTxt
 split
 ·exact hk
 ·split
  ·simp [hk]
  ·rename_i h2 h3
   have hlt:¬ 2 ≤ t.how:=(by have:=h.1.2;simp at this;omega);have hv:valsOk t.vals = true:=(by have:=h.2;rw [if_neg hlt] at this;exact this);have hvn:=val_not hv (c:=44) (by decide)
   split
   ·rename_i h1
    have hh:(44:UInt8) ∉ t.vals.headD []:=by
     cases hl:t.vals with
     | nil=>simp
     | cons a r=>simpa using hvn a (by rw [hl];simp)
    split <;> simp only [List.mem_append,List.mem_cons,hk,hh] <;> decide
   ·have hj:=joinS_not (c:=44) (d:=32) (by decide) hvn
    split <;> simp [hk,hj]
theorem sel_same {ra rb:Str → Tm} (ha:∀ t,tmOk t = true → ra (tmTxt t) = t) (hb:∀ t,tmOk t = true → rb (tmTxt t) = t) (s:Str):selParse ra s = selParse rb s:=by
 have key:∀ {r1 r2:Str → Tm},(∀ t,tmOk t = true → r2 (tmTxt t) = t) → ∀ l,selParse r1 s = some l → selParse r2 s = some l:=by
  intro r1 r2 h2 l h;unfold selParse at h ⊢
  split at h
  ·rename_i he;rw [if_pos he];exact h
  ·rename_i he
   rw [if_neg he];simp only at h ⊢
   split at h
   ·rename_i hc
    have hl:=Option.some.inj h;rw [hl] at hc;have hall:∀ t ∈ l,tmOk t = true:=List.all_eq_true.1 hc.2.1;have hne:l ≠ []:=(by rw [← hl];simp [pieces_ne])
    have hp:pieces 44 s = l.map tmTxt:=by
     rw [← hc.2.2]
     exact pieces_join (by simpa using hne) (by
      intro x hx;obtain ⟨t,ht,rfl⟩:=List.mem_map.1 hx
      exact tm_comma (hall t ht))
    have hm:(pieces 44 s).map r2 = l:=by
     rw [hp,List.map_map]
     conv=>rhs;rw [← List.map_id l]
     exact List.map_congr_left (fun t ht=>h2 t (hall t ht))
    rw [hm,if_pos hc]
   ·cases h
 cases h:selParse rb s with
 | some l=>exact key ha l h
 | none=>
  cases h2:selParse ra s with
  | none=>rfl
  | some l=>rw [key hb l h2] at h;cases h
def cutAt (sep:Str):Str → Option (Str × Str)
 | []=>if sep = [] then some ([], []) else none
 | a :: r=>if sep.isPrefixOf (a :: r) then some ([],(a :: r).drop sep.length) else (cutAt sep r).map fun x=>(a :: x.1,x.2)
def cutPre (p s:Str):Option Str:=if p.isPrefixOf s then some (s.drop p.length) else none
def cutSuf (p s:Str):Option Str:=if p.isSuffixOf s then some (s.take (s.length - p.length)) else none
def noTm:Tm:=⟨[],0, []⟩
def termB (s:Str):Tm:=
 match cutPre [33] s with
 | some k=>⟨k,3, []⟩
 | none=>
  match cutAt [32] s with
  | some (k,rest)=>
   (match cutPre [105,110,32,40] rest with
   | some l=>(match cutSuf [41] l with
    | some l'=>⟨k,0,pieces 32 l'⟩
    | none=>noTm)
   | none=>match cutPre [110,111,116,105,110,32,40] rest with
    | some l=>(match cutSuf [41] l with
     | some l'=>⟨k,1,pieces 32 l'⟩
     | none=>noTm)
    | none=>noTm)
  | none=>match cutAt [33,61] s with
   | some (k,v)=>⟨k,1, [v]⟩
   | none=>match cutAt [61] s with
    | some (k,v)=>⟨k,0, [v]⟩
    | none=>⟨s,2, []⟩
theorem cutAt_one {c:UInt8} {a r:Str} (h:c ∉ a):cutAt [c] (a ++ c :: r) = some (a,r):=by
 induction a with
 | nil=>simp [cutAt,List.isPrefixOf]
 | cons x a ih=>
  have h1:c ≠ x:=fun e=>h (by rw [e];exact List.mem_cons_self);have h2:=ih (fun e=>h (List.mem_cons_of_mem _ e));simp [cutAt,List.isPrefixOf,h1,h2]
theorem cutAt_none {c:UInt8} {q a:Str} (h:c ∉ a):cutAt (c :: q) a = none:=by
 induction a with
 | nil=>simp [cutAt]
 | cons x a ih=>
  have h1:c ≠ x:=fun e=>h (by rw [e];exact List.mem_cons_self);have h2:=ih (fun e=>h (List.mem_cons_of_mem _ e));simp [cutAt,List.isPrefixOf,h1,h2]
theorem cutAt_two {c d:UInt8} {a r:Str} (h:c ∉ a):cutAt [c,d] (a ++ c :: d :: r) = some (a,r):=by
 induction a with
 | nil=>simp [cutAt,List.isPrefixOf]
 | cons x a ih=>
  have h1:c ≠ x:=fun e=>h (by rw [e];exact List.mem_cons_self);have h2:=ih (fun e=>h (List.mem_cons_of_mem _ e));simp [cutAt,List.isPrefixOf,h1,h2]
theorem cutSuf_app (l:Str) (c:UInt8):cutSuf [c] (l ++ [c]) = some l:=by
 have:([c] : Str).isSuffixOf (l ++ [c]) = true:=by simp [List.isSuffixOf,List.isPrefixOf]
 simp [cutSuf,this]
theorem pre_none {c:UInt8} {k r:Str} (hk:c ∉ k) (hne:k ≠ []):cutPre [c] (k ++ r) = none:=by
 cases k with
 | nil=>exact absurd rfl hne
 | cons a k=>
  have h1:c ≠ a:=fun e=>hk (by rw [e];exact List.mem_cons_self);simp [cutPre,List.isPrefixOf,h1]
theorem valsOk_len {l:List Str} (h:valsOk l = true):1 ≤ l.length ∧ l.length ≤ 8:=by
 simp only [valsOk,Bool.and_eq_true,decide_eq_true_eq] at h;exact ⟨h.1.1,h.1.2⟩
theorem tm_cases {t:Tm} (h:tmOk t = true):isNm t.key = true ∧ ((t.how = 2 ∧ t.vals = []) ∨ (t.how = 3 ∧ t.vals = []) ∨ ((t.how = 0 ∨ t.how = 1) ∧ valsOk t.vals = true)):=by
 simp only [tmOk,Bool.and_eq_true,decide_eq_true_eq] at h;refine ⟨h.1.1,?_⟩;have h3:=h.1.2;have h2:=h.2
 by_cases hb:2 ≤ t.how
 ·rw [if_pos hb] at h2
  have hv:t.vals = []:=by simpa using h2
  rcases (by omega:t.how = 2 ∨ t.how = 3) with e | e
  ·exact .inl ⟨e,hv⟩
  ·exact .inr (.inl ⟨e,hv⟩)
 ·rw [if_neg hb] at h2
  exact .inr (.inr ⟨by omega,h2⟩)
theorem termB_back {t:Tm} (h:tmOk t = true):termB (tmTxt t) = t:=by
 obtain ⟨hk,hc⟩:=tm_cases h;obtain ⟨key,how,vals⟩:=t;simp only at hk hc;have k33:=nm_not hk (c:=33) (by decide);have k32:=nm_not hk (c:=32) (by decide);have k61:=nm_not hk (c:=61) (by decide);have hne:=nm_ne hk
 have hp:cutPre [33] key = none:=by simpa using pre_none (r := []) k33 hne
 rcases hc with ⟨rfl,rfl⟩ | ⟨rfl,rfl⟩ | ⟨hh,hv⟩
 ·simp [tmTxt,termB,hp,cutAt_none k32,cutAt_none k33,cutAt_none k61]
 ·simp [tmTxt,termB,cutPre,List.isPrefixOf]
 ·have hl:=valsOk_len hv
  have v32:=val_not hv (c:=32) (by decide);have v33:=val_not hv (c:=33) (by decide)
  by_cases h1:vals.length = 1
  ·obtain ⟨v,rfl⟩ : ∃ v,vals = [v]:=by
    cases vals with
    | nil=>simp at h1
    | cons a r=>cases r with
     | nil=>exact ⟨a,rfl⟩
     | cons b q=>simp at h1
   have w32:=v32 v (by simp);have w33:=v33 v (by simp);rcases hh with rfl | rfl
   ·have e:tmTxt ⟨key,0, [v]⟩ = key ++ 61 :: v:=by simp [tmTxt]
    rw [e];have n32:(32:UInt8) ∉ key ++ 61 :: v:=(by simp [k32,w32]);have n33:(33:UInt8) ∉ key ++ 61 :: v:=(by simp [k33,w33]);simp [termB,pre_none k33 hne,cutAt_none n32,cutAt_none n33,cutAt_one k61]
   ·have e:tmTxt ⟨key,1, [v]⟩ = key ++ 33 :: 61 :: v:=by simp [tmTxt]
    rw [e];have n32:(32:UInt8) ∉ key ++ 33 :: 61 :: v:=(by simp [k32,w32]);simp [termB,pre_none k33 hne,cutAt_none n32,cutAt_two k33]
  ·have hpj:pieces 32 (joinS [32] vals) = vals:=pieces_join (by intro e;rw [e] at hl;simp at hl) v32
   rcases hh with rfl | rfl
   ·have e:tmTxt ⟨key,0,vals⟩ = key ++ 32 :: ([105,110,32,40] ++ (joinS [32] vals ++ [41])):=by simp [tmTxt,h1]
    rw [e];have hq:cutPre [105,110,32,40] ([105,110,32,40] ++ (joinS [32] vals ++ [41])) = some (joinS [32] vals ++ [41]):=(by simp [cutPre,List.isPrefixOf]);simp only [termB,pre_none k33 hne,cutAt_one k32,hq,cutSuf_app,hpj]
   ·have e:tmTxt ⟨key,1,vals⟩ = key ++ 32 :: ([110,111,116,105,110,32,40] ++ (joinS [32] vals ++ [41])):=by simp [tmTxt,h1]
    rw [e];have hq:cutPre [105,110,32,40] ([110,111,116,105,110,32,40] ++ (joinS [32] vals ++ [41])) = none:=(by simp [cutPre,List.isPrefixOf]);have hq2:cutPre [110,111,116,105,110,32,40] ([110,111,116,105,110,32,40] ++ (joinS [32] vals ++ [41])) = some (joinS [32] vals ++ [41]):=(by simp [cutPre,List.isPrefixOf]);simp only [termB,pre_none k33 hne,cutAt_one k32,hq,hq2,cutSuf_app,hpj]
def tailOne (n j:Nat) (v:Str):Str:=
 let v1:=if j = 1 ∧ v ≠ [] then v.drop 1 else v
 if j = n - 1 ∧ v1 ≠ [] then v1.take (v1.length - 1) else v1
def tailR (w:List Str):List Str:=(List.range (w.length - 1)).map fun j=>tailOne w.length (j + 1) (w.getD (j + 1) [])
def scanR (pre:Str):Str → Tm
 | []=>⟨pre,2, []⟩
 | a :: r=>if a = 61 then ⟨pre,0, [r]⟩ else if a = 33 ∧ r.head? = some 61 then ⟨pre,1, [r.drop 1]⟩
  else if a = 32 then ⟨pre,if (pieces 32 r).headD [] = [110,111,116,105,110] then 1 else 0,tailR (pieces 32 r)⟩
  else scanR (pre ++ [a]) r
def termR (s:Str):Tm:=if s.head? = some 33 then ⟨s.drop 1,3, []⟩ else scanR [] s
theorem scanR_key {k:Str} (h1:(61:UInt8) ∉ k) (h2:(33:UInt8) ∉ k) (h3:(32:UInt8) ∉ k):∀ (pre r:Str),scanR pre (k ++ r) = scanR (pre ++ k) r:=by
 induction k with
 | nil=>intro pre r;simp
 | cons a k ih=>
  intro pre r;have e1:a ≠ 61:=fun e=>h1 (by rw [e];exact List.mem_cons_self);have e2:a ≠ 33:=fun e=>h2 (by rw [e];exact List.mem_cons_self);have e3:a ≠ 32:=fun e=>h3 (by rw [e];exact List.mem_cons_self);rw [List.cons_append,scanR,if_neg e1,if_neg (fun h=>e2 h.1),if_neg e3,ih (fun e=>h1 (List.mem_cons_of_mem _ e)) (fun e=>h2 (List.mem_cons_of_mem _ e)) (fun e=>h3 (List.mem_cons_of_mem _ e))];simp
theorem joinS_head (sep p a:Str) (r:List Str):joinS sep ((p ++ a) :: r) = p ++ joinS sep (a :: r):=by
 cases r <;> simp [joinS]
theorem joinS_last (sep q z:Str):∀ l:List Str,joinS sep (l ++ [z ++ q]) = joinS sep (l ++ [z]) ++ q
 | []=>by simp [joinS]
 | [a]=>by simp [joinS]
 | a :: b :: r=>by
  have:=joinS_last sep q z (b :: r);simp only [List.cons_append,joinS] at this ⊢;rw [this];simp
theorem tailR_back (x a z:Str) (mid:List Str):tailR (x :: (40 :: a) :: (mid ++ [z ++ [41]])) = a :: (mid ++ [z]):=by
 apply List.ext_getElem
 ·simp [tailR]
 ·intro i h1 h2
  have hlen:(x :: (40 :: a) :: (mid ++ [z ++ [41]])).length = mid.length + 3:=by simp
  simp only [tailR,List.getElem_map,List.getElem_range,hlen];rcases i with _ | i
  ·simp [tailOne]
  ·have hi:i < mid.length + 1:=by simpa using h2
   by_cases hm:i < mid.length
   ·have e1:(x :: (40 :: a) :: (mid ++ [z ++ [41]])).getD (i + 1 + 1) [] = mid[i]:=by
     simp [List.getD,List.getElem?_append_left hm,hm]
    have e2:(a :: (mid ++ [z]))[i + 1] = mid[i]:=by
     simp [List.getElem_append_left hm]
    rw [e1,e2];have n1:¬ (i + 1 + 1 = 1):=(by omega);have n2:¬ (i + 1 + 1 = mid.length + 3 - 1):=(by omega);simp [tailOne,n2];omega
   ·have hi2:i = mid.length:=by omega
    subst hi2
    have e1:(x :: (40 :: a) :: (mid ++ [z ++ [41]])).getD (mid.length + 1 + 1) [] = z ++ [41]:=by
     simp [List.getD]
    have e2:(a :: (mid ++ [z]))[mid.length + 1] = z:=(by simp);rw [e1,e2];simp [tailOne]
theorem two_ends {l:List Str} (h:2 ≤ l.length):∃ a mid z,l = a :: (mid ++ [z]):=by
 cases l with
 | nil=>simp at h
 | cons a r=>
  cases hr:r with
  | nil=>rw [hr] at h;simp at h
  | cons b q=>
   refine ⟨a,(b :: q).dropLast,(b :: q).getLast (by simp),?_⟩;rw [List.dropLast_concat_getLast]
theorem termR_back {t:Tm} (h:tmOk t = true):termR (tmTxt t) = t:=by
 obtain ⟨hk,hc⟩:=tm_cases h;obtain ⟨key,how,vals⟩:=t;simp only at hk hc;have k33:=nm_not hk (c:=33) (by decide);have k32:=nm_not hk (c:=32) (by decide);have k61:=nm_not hk (c:=61) (by decide);have hne:=nm_ne hk
 have hh:∀ r:Str,(key ++ r).head? ≠ some 33:=by
  intro r e
  cases key with
  | nil=>exact hne rfl
  | cons a k=>
   have:a = 33:=(by simpa using e);exact k33 (by rw [this];exact List.mem_cons_self)
 have hs:=scanR_key k61 k33 k32 [];rcases hc with ⟨rfl,rfl⟩ | ⟨rfl,rfl⟩ | ⟨hw,hv⟩
 ·have e:=hs []
  have h0:=hh [];rw [List.append_nil] at e h0;simp only [tmTxt,if_pos,termR,if_neg h0,e];simp [scanR]
 ·simp [tmTxt,termR]
 ·have hl:=valsOk_len hv
  have v32:=val_not hv (c:=32) (by decide)
  by_cases h1:vals.length = 1
  ·obtain ⟨v,rfl⟩ : ∃ v,vals = [v]:=by
    cases vals with
    | nil=>simp at h1
    | cons a r=>cases r with
     | nil=>exact ⟨a,rfl⟩
     | cons b q=>simp at h1
   rcases hw with rfl | rfl
   ·have e:tmTxt ⟨key,0, [v]⟩ = key ++ 61 :: v:=by simp [tmTxt]
    rw [e,termR,if_neg (hh _),hs];simp [scanR]
   ·have e:tmTxt ⟨key,1, [v]⟩ = key ++ 33 :: 61 :: v:=by simp [tmTxt]
    rw [e,termR,if_neg (hh _),hs];simp [scanR]
  ·obtain ⟨a,mid,z,rfl⟩:=two_ends (l:=vals) (by omega)
   have hj:(40:UInt8) :: (joinS [32] (a :: (mid ++ [z])) ++ [41]) = joinS [32] ((40 :: a) :: (mid ++ [z ++ [41]])):=by
    have q1:=joinS_head [32] [40] a (mid ++ [z ++ [41]]);have q2:=joinS_last [32] [41] z (a :: mid);simp only [List.cons_append,List.nil_append] at q1 q2;rw [q1,q2]
   have hfree:∀ s ∈ (40 :: a) :: (mid ++ [z ++ [41]]),(32:UInt8) ∉ s:=by
    intro s hs2;simp only [List.mem_cons,List.mem_append,List.not_mem_nil,or_false] at hs2;rcases hs2 with rfl | hs2 | rfl
    ·have:=v32 a (by simp);simp [this]
    ·exact v32 s (by simp [hs2])
    ·have:=v32 z (by simp);simp [this]
   have hp:∀ x:Str,(32:UInt8) ∉ x → pieces 32 (x ++ 32 :: 40 :: (joinS [32] (a :: (mid ++ [z])) ++ [41])) = x :: (40 :: a) :: (mid ++ [z ++ [41]]):=by
    intro x hx;rw [pieces_app hx,hj,pieces_join (by simp) hfree]
   rcases hw with rfl | rfl
   ·have e:tmTxt ⟨key,0,a :: (mid ++ [z])⟩ = key ++ 32 :: ([105,110] ++ 32 :: 40 :: (joinS [32] (a :: (mid ++ [z])) ++ [41])):=by simp [tmTxt]
    rw [e,termR,if_neg (hh _),hs,List.nil_append,scanR,hp [105,110] (by decide),tailR_back];simp
   ·have e:tmTxt ⟨key,1,a :: (mid ++ [z])⟩ = key ++ 32 :: ([110,111,116,105,110] ++ 32 :: 40 :: (joinS [32] (a :: (mid ++ [z])) ++ [41])):=by simp [tmTxt]
    rw [e,termR,if_neg (hh _),hs,List.nil_append,scanR,hp [110,111,116,105,110] (by decide),tailR_back];simp
theorem sel_eq (s:Str):selParse termB s = selParse termR s:=sel_same (fun _ h=>termB_back h) (fun _ h=>termR_back h) s
end Go.Proofs.YtpfkkagkbneilaaGreatDoor
