/- Texts F10, G0, F11, F12 of the proof of BursarChecks, joined. -/
import Derived.Test.YtpfkkagkbneilaaGreatDoorV1
import Derived.Test.YtpfkkagkbneilaaGreatDoorV3
import Derived.Deep.DeepCutAuto
import Derived.Deep.RegionHeld3
import Derived.Lib.Strings
namespace Go.Proofs.YtpfkkagkbneilaaGreatDoor
open Go.RowKit
set_option linter.unusedVariables false
set_option linter.unusedSimpArgs false
set_option maxRecDepth 100000
set_option maxHeartbeats 25600000
theorem numd_rev (d:List Nat):numd d = vald d.reverse:=by
 have key:∀ (l:List Nat) (n:Nat),l.foldl (fun n x=>n * 10 + x) n = n * 10 ^ l.length + vald l.reverse:=by
  intro l
  induction l with
  | nil=>intro n;simp [vald]
  | cons a r ih=>
   intro n;rw [List.foldl_cons,ih,List.reverse_cons,vald_app,List.length_cons,List.length_reverse,Nat.pow_succ,Nat.add_mul,Nat.mul_assoc,Nat.mul_comm 10,vald,vald,Nat.mul_zero,Nat.add_zero,Nat.mul_comm a];omega
 have:=key d 0
 simpa [numd] using this
theorem ceil_div (a p:Nat) (hp:0 < p):(a + p - 1) / p = a / p + if a % p = 0 then 0 else 1:=by
 have h1:=Nat.div_add_mod a p;have h2:=Nat.mod_lt a hp;generalize a % p = r at h1 h2 ⊢;generalize a / p = q at h1 ⊢
 by_cases h:r = 0
 ·rw [if_pos h]
  subst h
  have e:a + p - 1 = (p - 1) + p * q:=by omega
  rw [e,Nat.add_mul_div_left _ _ hp,Nat.div_eq_of_lt (by omega)];omega
 ·rw [if_neg h]
  have e:a + p - 1 = (r - 1) + p * (q + 1):=by rw [Nat.mul_add];omega
  rw [e,Nat.add_mul_div_left _ _ hp,Nat.div_eq_of_lt (by omega)];omega
def QRes (o:Option Nat) (v ec:Int):Prop:=(∃ x:Nat,o = some x ∧ v = x ∧ ec = 0) ∨ (o = none ∧ ec ≠ 0)
def RvLoop (w:World) (d:List Nat) (vf v8 v9:Value) (w1:World):Prop := ∃ n:Nat,n ≤ d.length ∧ v9 = .int .i64 ((n:Int) - 1) ∧ w1.ownsRow 0 3 1 v8 (d.drop n).reverse.length (ints (d.drop n).reverse) ∧ (∀ k,v8.ownBlock = some k → w.heap.size ≤ k) ∧
 w1.heap[w.heap.size]? = some (.cells #[vf] 201 (0,0)) ∧ Below w.heap.size w w1
def QCut (wr:World) (x y:Nat) (v10 v11:Value) (wx:World):Prop := ∃ (p10 p11:Nat) (sq sr:Value),v10 = .pointer (some ⟨p10,0,none⟩) ∧ v11 = .pointer (some ⟨p11,0,none⟩) ∧ wx.heap[p10]? = some (.cells #[sq] 201 (0,0)) ∧ wx.heap[p11]? = some (.cells #[sr] 201 (0,0)) ∧
 RdI wx sq (dig x) ∧ RdI wx sr (dig y) ∧ wr.heap.size ≤ p10 ∧ Below wr.heap.size wr wx
theorem qCut_mk {wr:World} {x y p10 p11:Nat} {sq sr:Value} {wx:World} (h7:wx.heap[p10]? = some (.cells #[sq] 201 (0,0))) (h8:wx.heap[p11]? = some (.cells #[sr] 201 (0,0)))
  (hq:RdI wx sq (dig x)) (hr:RdI wx sr (dig y)) (hp:wr.heap.size ≤ p10) (hb:Below wr.heap.size wr wx):QCut wr x y (.pointer (some ⟨p10,0,none⟩)) (.pointer (some ⟨p11,0,none⟩)) wx:=⟨p10,p11,sq,sr,rfl,rfl,h7,h8,hq,hr,hp,hb⟩
theorem by_first {T G:Prop} (h:T) (k:T → G):G:=k h
theorem blk_drew {w:World} {g:Nat} {o:Obj} (h:w.heap[g]? = some o):w.drew.heap[g]? = some o:=h
theorem drewB' {B:Nat} {w w1:World} (h:Below B w w1):Below B w w1.drew:=drewB h 1
theorem blk_newE {w:World} {k:Nat} (o:Obj) (h:k = w.heap.size):(w.alloc o).heap[k]? = some o:=by rw [h];exact blk_new w o
theorem blk_set1 {w:World} {g:Nat} {t:TypeId} {a u:Value} (h:w.heap[g]? = some (.cells #[a] t (0,0))):(w.setCell ⟨g,0,none⟩ u).heap[g]? = some (.cells #[u] t (0,0)):=blk_setCell h 0 u
theorem rdI_keep {w w1:World} {v:Value} {l:List Nat} {N:Nat} (h:RdI w v l) (hN:∀ k,v.ownBlock = some k → N ≤ k) (hf:Fr (fun k=>k < N) w w1):RdI w1 v l:=
 Rd.fr h hf (fun k hk e=>by have:=hN k hk;omega)
theorem dig_succ_len {a y:Nat} (h:(dig a).length ≤ y):(dig (a + 1)).length ≤ y + 1:=by
 refine dig_len_le ?_;have h1:=Nat.lt_of_lt_of_le (dig_lt_pow a) (Nat.pow_le_pow_right (by decide) h);have h2:10 ^ y < 10 ^ (y + 1):=Nat.pow_lt_pow_right (by decide) (by omega);omega
theorem dig_mul_len {a f x y:Nat} (ha:a < 10 ^ x) (hf:(dig f).length ≤ y):(dig (a * f)).length ≤ x + y:=
 dig_len_le (by rw [Nat.pow_add];exact Nat.mul_lt_mul'' ha (Nat.lt_of_lt_of_le (dig_lt_pow f) (Nat.pow_le_pow_right (by decide) hf)))
theorem parsed_calls (w:World) (vd vf:Value) (d:List Nat) (b f:Nat) (hd:RdI w vd d) (hdl:DLt d) (hdn:d.length ≤ 19) (hb:b ≤ 18) (hf:RdI w vf (dig f)) (hfl:(dig f).length ≤ 1000) :
  Calls Tryz.prog 136 #[vd,.int .i64 b,.agg #[vf]] w fun e w' => ∃ v ec:Int,e = .returned (.tuple #[.int .i64 v,.int .i64 ec]) ∧ QRes (qfin d b f) v ec ∧ Below w.heap.size w w':=by
 obtain ⟨A,c,rfl⟩:=hd.slice;obtain ⟨Af,kf,rfl⟩:=hf.slice;have Hd:=hIh hd;have Hrf:=hIh hf
 have Htr:Hid (trim d.reverse = dig (numd d)):=by
  show _ = _;rw [trim_eq (fun x hx=>hdl x (List.mem_reverse.1 hx)),numd_rev]
 have Hll:Hid (d.reverse.length ≤ 4194304):=by show _ ≤ _;rw [List.length_reverse];omega
 have hN:numd d < 10 ^ 19:=by
  have h1:=vald_lt (l:=d.reverse) (fun x hx=>hdl x (List.mem_reverse.1 hx));rw [← numd_rev,List.length_reverse] at h1;exact Nat.lt_of_lt_of_le h1 (Nat.pow_le_pow_right (by decide) hdn)
 have Hlo:Hid ((dig (numd d)).length ≤ 1048576):=by show _ ≤ _;have:=dig_len_le hN;omega
 have Hlf:Hid ((dig f).length ≤ 1048576):=by show _ ≤ _;omega
 have hnf:(dig (numd d * f)).length ≤ 1019:=dig_mul_len hN hfl
 have Hlnf:Hid ((dig (numd d * f)).length ≤ 1048000):=by show _ ≤ _;omega
 have hpl:(dig (10 ^ b)).length ≤ 56:=dig_pow_len (by decide:10 ≤ 1024) hb
 have Hlp:Hid ((dig (10 ^ b)).length ≤ 1048000):=by show _ ≤ _;omega
 have Hp0:Hid (0 < 10 ^ b):=Nat.pow_pos (by decide);have hql:(dig (numd d * f / 10 ^ b)).length ≤ 1019:=Nat.le_trans (dig_len_mono (Nat.div_le_self _ _)) hnf;have hql2:(dig (numd d * f / 10 ^ b + 1)).length ≤ 1020:=dig_succ_len hql
 have Hspec:Hid (qfin d b f = if numd d * f / 10 ^ b + (if numd d * f % 10 ^ b = 0 then 0 else 1) ≤ 9223372036854775807 then some (numd d * f / 10 ^ b + (if numd d * f % 10 ^ b = 0 then 0 else 1)) else none):=by
  show _ = _;unfold qfin;rw [ceil_div _ _ Hp0.out]
 have Hst:Hid (RvLoop w d (.slice Af (dig f).length kf) (.slice none 0 0) (.int .i64 ((d.length:Int) - 1)) (w.alloc (.cells #[.slice Af (dig f).length kf] 201))):=
  ⟨d.length,Nat.le_refl _,rfl,by rw [List.drop_length];exact World.ownsRow_nil _ _ _ _,(fun k hk=>by cases hk),blk_new _ _,(Below.refl _ _).alloc (Nat.le_refl _) _⟩
 clear hd hf hN hnf hpl;have Hql:=hIh hql;have Hql2:=hIh hql2;clear hql hql2;go_enter Tryz.func136,Tryz.ntmps136;go_wp2
 go_loopw [8,9] (fun v8 v9 w1=>RvLoop w d (.slice Af (dig f).length kf) v8 v9 w1) (fun _ i _=>(intOf i + 1).toNat)
 case atStart=>exact Hst.out
 case round=>
  clear Hst;obtain ⟨n,hn,rfl,hown,hnew,hb0,hB⟩:=hrel;obtain ⟨A0,c0,rfl⟩:=own_slice hown;have Hnew:=hIh hnew;have Hb0:=hIh hb0;have HB:=hIh hB;have Hown:=hIh hown;clear hnew hown
  by_cases hn0:0 < n
  ·obtain ⟨m,rfl⟩ : ∃ m,n = m + 1:=⟨n - 1,by omega⟩
   rw [show ((m + 1:Nat):Int) - 1 = (m:Int) from by omega];obtain ⟨bx,ox,kx,hk,hkx,hbbx,hcx⟩:=Hd.out.some (by intro e;rw [e] at hn;simp at hn)
   cases hk
   have hm:m < d.length:=(by omega);have q1:=(hB.cell (p:=⟨bx,ox + m,none⟩) hbbx).trans (hcx m hm);have hm0:decide ((0:Int) ≤ m) = true:=decide_eq_true (by omega);have hml:(m:Int) < d.length:=(by omega)
   have Hcons:Hid ((d.drop m).reverse = (d.drop (m + 1)).reverse ++ [d[m]]):=by
    show _ = _;rw [List.drop_eq_getElem_cons hm,List.reverse_cons]
   generalize d[m] = p at q1 Hcons;have hlen:(d.drop (m + 1)).reverse.length ≤ 19:=(by rw [List.length_reverse,List.length_drop];omega);generalize (d.drop (m + 1)).reverse = out at Hcons hlen Hown Hnew;have Hlen:=hIh hlen;clear hcx hn0 hb0 hB hlen hdl hfl hb;go_wp2_with (at_builtin;refine wpList_append2 _ rfl (.tmp 21) (.tmp 26) 65 rfl 3 (.int .i64 0) 1 8 Tryz.underlying65 infoInt rfl (by decide) _ out.length (ints out) rfl (Hown.out.alloc _) _ 1 (ints [p]) rfl ?c1 (ints_one _) ?c2 ?c3 ?_)
   case c1=>exact RdI.one _ _ _
   case c2=>have:=Hlen.out;unfold maxLen;omega
   case c3=>have:=Hlen.out;omega
   intro v' w2 ho2 hg2 hn2 _
   have Hk:Hid (RvLoop w d (.slice Af (dig f).length kf) v' (.int .i64 ((m:Int) - 1)) w2):=by
    have hs:=HB.out.size;refine ⟨m,by omega,rfl,?_,?_,?_,?_⟩
    ·rw [Hcons.out,ints_app,List.length_append];exact ho2
    ·intro k hk
     rcases hn2 k hk with h1 | h1
     ·exact Hnew.out k h1
     ·have h2:wr.heap.size + 1 ≤ k:=by simpa using h1
      omega
    ·exact blk_grown (blk_alloc Hb0.out _) hg2 (own_ne_blk Hown.out Hb0.out (by decide))
    ·exact (HB.out.alloc hs _).grown hg2 (by simp;omega) (fun k hk=>Hnew.out k hk)
   clear ho2 hg2 hn2;go_wp2;go_roundw
   case rel=>exact Hk.out
   case measure=>simp [intOf]
  ·obtain rfl:n = 0:=by omega
   rw [List.drop_zero] at Hown;simp only [List.drop_zero];generalize d.reverse = rv at Hown Htr Hll;have Hlow:=hIh (show RdI wr (.slice A0 rv.length c0) rv from RdI.of_own Hown.out);have HR:Hid (Below wr.heap.size wr wr):=Below.refl _ _;have HBw:Hid (∀ W,Below wr.heap.size wr W → Below w.heap.size w W):=fun W h=>HB.out.trans (h.mono HB.out.size);have HS:Hid (∀ W,Below wr.heap.size wr W → W.cell? ⟨w.heap.size,0,none⟩ = some (.slice Af (dig f).length kf) ∧ Below wr.heap.size wr W):=fun W hW=>⟨(cells1 (blk_below Hb0.out hW)).1,hW⟩;clear hb0 hB;go_wp2
   go_cut [10,11] from 14 to 51 (fun v10 v11 wx=>QCut wr (numd d * f / 10 ^ b) (numd d * f % 10 ^ b) v10 v11 wx)
   case first=>
    have HA:Hid (∀ W o,Below wr.heap.size wr W → Below wr.heap.size wr (World.alloc W o)):=fun W o h=>h.alloc h.size o;have HDr:Hid (∀ W,Below wr.heap.size wr W → Below wr.heap.size wr (World.drew W)):=fun W h=>drewB h 1;have HSt:Hid (∀ W p v,wr.heap.size ≤ p → Below wr.heap.size wr W → Below wr.heap.size wr (World.setCell W ⟨p,0,none⟩ v)):=fun W p v hp h=>h.setCell (p:=⟨p,0,none⟩) hp v;have HT:Hid (∀ W W',Below wr.heap.size wr W → Below W.heap.size W W' → Below wr.heap.size wr W'):=fun W W' h1 h2=>h1.trans (h2.mono h1.size)
    go_region_held3 (fun w' : World=>w'.cell? ⟨w.heap.size,0,none⟩ = some (.slice Af (dig f).length kf) ∧ Below wr.heap.size wr w')
     ((refine HS.out _ ?_;(repeat' (first | (with_reducible exact HR.out) | (with_reducible exact HW1.out) | (with_reducible exact HW2.out) | (with_reducible exact HW3.out) | (with_reducible exact HW4.out) | (with_reducible refine HDr.out _ ?_) | (with_reducible refine HA.out _ _ ?_) | (with_reducible refine HSt.out _ _ _ ?_ ?_;first | omega | skip)))))
     (first
       | ((go_at_call 161);(refine (cut_calls _ _ rv (Hlow.out.below (by repeat' (first | (with_reducible exact HR.out) | (with_reducible exact HW1.out) | (with_reducible exact HW2.out) | (with_reducible exact HW3.out) | (with_reducible exact HW4.out) | (with_reducible refine HDr.out _ ?_) | (with_reducible refine HA.out _ _ ?_)))) Hll.out).mono ?_);(rintro e w1 ⟨s1,rfl,hr,hn,hw⟩);(rw [Htr.out] at hr);(obtain ⟨A1,c1,rfl⟩:=hr.slice);(have Hr1:=hIh hr);(have HW1:=hIh (HT.out _ _ (by repeat' (first | (with_reducible exact HR.out) | (with_reducible exact HW1.out) | (with_reducible exact HW2.out) | (with_reducible exact HW3.out) | (with_reducible exact HW4.out) | (with_reducible refine HDr.out _ ?_) | (with_reducible refine HA.out _ _ ?_))) hw));(have m1:wr.heap.size ≤ w1.heap.size:=HW1.out.size);(try ((refine by_first (T:=w1.heap[wr.heap.size]? = some (.cells #[.slice none 0 0] 201 (0,0))) ?_ (fun z00=>?_));(focus ((refine blk_below ?_ hw);(repeat' (first | (with_reducible refine blk_newE _ ?_;first | (with_reducible rfl) | (simp;done)) | (with_reducible refine blk_alloc ?_ _) | (with_reducible refine blk_drew ?_)));done));(have s001:=blk_lt z00)));(try ((refine by_first (T:=w1.heap[wr.heap.size + 1]? = some (.cells #[.slice none 0 0] 201 (0,0))) ?_ (fun z01=>?_));(focus ((refine blk_below ?_ hw);(repeat' (first | (with_reducible refine blk_newE _ ?_;first | (with_reducible rfl) | (simp;done)) | (with_reducible refine blk_alloc ?_ _) | (with_reducible refine blk_drew ?_)));done));(have s011:=blk_lt z01)));(clear hr hn hw))
       | ((go_at_call 160);(refine (times_calls _ _ _ (numd d) f (Rd.below Hr1.out (by repeat' (first | (with_reducible exact Below.refl _ _) | (with_reducible refine drewB' ?_) | (with_reducible refine Below.alloc ?_ (by simp) _)))) (Hrf.out.below (HBw.out _ (by repeat' (first | (with_reducible exact HR.out) | (with_reducible exact HW1.out) | (with_reducible exact HW2.out) | (with_reducible exact HW3.out) | (with_reducible exact HW4.out) | (with_reducible refine HDr.out _ ?_) | (with_reducible refine HA.out _ _ ?_))))) Hlo.out Hlf.out).mono ?_);(rintro e w2 ⟨s2,rfl,hr,hn,hw⟩);(obtain ⟨A2,c2,rfl⟩:=hr.slice);(have Hr2:=hIh hr);(have HW2:=hIh (HT.out _ _ (by repeat' (first | (with_reducible exact HR.out) | (with_reducible exact HW1.out) | (with_reducible exact HW2.out) | (with_reducible exact HW3.out) | (with_reducible exact HW4.out) | (with_reducible refine HDr.out _ ?_) | (with_reducible refine HA.out _ _ ?_))) hw));(have m2:w1.heap.size ≤ w2.heap.size:=Nat.le_trans (by simp <;> omega) hw.size);(try ((refine by_first (T:=w2.heap[wr.heap.size]? = some (.cells #[.slice none 0 0] 201 (0,0))) ?_ (fun z00=>?_));(focus ((refine blk_below ?_ hw);(repeat' (first | (with_reducible exact z00) | (with_reducible exact z01) | (with_reducible refine blk_newE _ ?_;first | (with_reducible rfl) | (simp;done)) | (with_reducible refine blk_alloc ?_ _) | (with_reducible refine blk_drew ?_)));done));(have s002:=blk_lt z00)));(try ((refine by_first (T:=w2.heap[wr.heap.size + 1]? = some (.cells #[.slice none 0 0] 201 (0,0))) ?_ (fun z01=>?_));(focus ((refine blk_below ?_ hw);(repeat' (first | (with_reducible exact z00) | (with_reducible exact z01) | (with_reducible refine blk_newE _ ?_;first | (with_reducible rfl) | (simp;done)) | (with_reducible refine blk_alloc ?_ _) | (with_reducible refine blk_drew ?_)));done));(have s012:=blk_lt z01)));(try ((refine by_first (T:=w2.heap[w1.heap.size]? = some (.cells #[.slice none 0 0] 201 (0,0))) ?_ (fun z10=>?_));(focus ((refine blk_below ?_ hw);(repeat' (first | (with_reducible exact z00) | (with_reducible exact z01) | (with_reducible refine blk_newE _ ?_;first | (with_reducible rfl) | (simp;done)) | (with_reducible refine blk_alloc ?_ _) | (with_reducible refine blk_drew ?_)));done));(have s102:=blk_lt z10)));(try ((refine by_first (T:=w2.heap[w1.heap.size + 1]? = some (.cells #[.slice none 0 0] 201 (0,0))) ?_ (fun z11=>?_));(focus ((refine blk_below ?_ hw);(repeat' (first | (with_reducible exact z00) | (with_reducible exact z01) | (with_reducible refine blk_newE _ ?_;first | (with_reducible rfl) | (simp;done)) | (with_reducible refine blk_alloc ?_ _) | (with_reducible refine blk_drew ?_)));done));(have s112:=blk_lt z11)));(clear hr hn hw))
       | ((go_at_call 159);(refine (power_calls _ 10 b (by omega) hb).mono ?_);(rintro e w3 ⟨s3,rfl,hr,hn,hw⟩);(obtain ⟨A3,c3,rfl⟩:=hr.slice);(have Hr3:=hIh hr);(have HW3:=hIh (HT.out _ _ (by repeat' (first | (with_reducible exact HR.out) | (with_reducible exact HW1.out) | (with_reducible exact HW2.out) | (with_reducible exact HW3.out) | (with_reducible exact HW4.out) | (with_reducible refine HDr.out _ ?_) | (with_reducible refine HA.out _ _ ?_))) hw));(have Hr2':=hIh (Rd.below (Rd.below Hr2.out (by repeat' (first | (with_reducible exact Below.refl _ _) | (with_reducible refine drewB' ?_) | (with_reducible refine Below.alloc ?_ (by simp) _)))) hw));(have m3:w2.heap.size ≤ w3.heap.size:=Nat.le_trans (by simp <;> omega) hw.size);(try ((refine by_first (T:=w3.heap[wr.heap.size]? = some (.cells #[.slice none 0 0] 201 (0,0))) ?_ (fun z00=>?_));(focus ((refine blk_below ?_ hw);(repeat' (first | (with_reducible exact z00) | (with_reducible exact z01) | (with_reducible exact z10) | (with_reducible exact z11) | (with_reducible refine blk_newE _ ?_;first | (with_reducible rfl) | (simp;done)) | (with_reducible refine blk_alloc ?_ _) | (with_reducible refine blk_drew ?_)));done));(have s003:=blk_lt z00)));(try ((refine by_first (T:=w3.heap[wr.heap.size + 1]? = some (.cells #[.slice none 0 0] 201 (0,0))) ?_ (fun z01=>?_));(focus ((refine blk_below ?_ hw);(repeat' (first | (with_reducible exact z00) | (with_reducible exact z01) | (with_reducible exact z10) | (with_reducible exact z11) | (with_reducible refine blk_newE _ ?_;first | (with_reducible rfl) | (simp;done)) | (with_reducible refine blk_alloc ?_ _) | (with_reducible refine blk_drew ?_)));done));(have s013:=blk_lt z01)));(try ((refine by_first (T:=w3.heap[w1.heap.size]? = some (.cells #[.slice none 0 0] 201 (0,0))) ?_ (fun z10=>?_));(focus ((refine blk_below ?_ hw);(repeat' (first | (with_reducible exact z00) | (with_reducible exact z01) | (with_reducible exact z10) | (with_reducible exact z11) | (with_reducible refine blk_newE _ ?_;first | (with_reducible rfl) | (simp;done)) | (with_reducible refine blk_alloc ?_ _) | (with_reducible refine blk_drew ?_)));done));(have s103:=blk_lt z10)));(try ((refine by_first (T:=w3.heap[w1.heap.size + 1]? = some (.cells #[.slice none 0 0] 201 (0,0))) ?_ (fun z11=>?_));(focus ((refine blk_below ?_ hw);(repeat' (first | (with_reducible exact z00) | (with_reducible exact z01) | (with_reducible exact z10) | (with_reducible exact z11) | (with_reducible refine blk_newE _ ?_;first | (with_reducible rfl) | (simp;done)) | (with_reducible refine blk_alloc ?_ _) | (with_reducible refine blk_drew ?_)));done));(have s113:=blk_lt z11)));(try ((refine by_first (T:=w3.heap[w2.heap.size]? = some (.cells #[.slice none 0 0] 201 (0,0))) ?_ (fun z20=>?_));(focus ((refine blk_below ?_ hw);(repeat' (first | (with_reducible exact z00) | (with_reducible exact z01) | (with_reducible exact z10) | (with_reducible exact z11) | (with_reducible refine blk_newE _ ?_;first | (with_reducible rfl) | (simp;done)) | (with_reducible refine blk_alloc ?_ _) | (with_reducible refine blk_drew ?_)));done));(have s203:=blk_lt z20)));(try ((refine by_first (T:=w3.heap[w2.heap.size + 1]? = some (.cells #[.slice none 0 0] 201 (0,0))) ?_ (fun z21=>?_));(focus ((refine blk_below ?_ hw);(repeat' (first | (with_reducible exact z00) | (with_reducible exact z01) | (with_reducible exact z10) | (with_reducible exact z11) | (with_reducible refine blk_newE _ ?_;first | (with_reducible rfl) | (simp;done)) | (with_reducible refine blk_alloc ?_ _) | (with_reducible refine blk_drew ?_)));done));(have s213:=blk_lt z21)));(clear hr hn hw))
       | ((go_at_call 162);(refine (by_calls _ _ _ (numd d * f) (10 ^ b) Hp0.out (Rd.below Hr2'.out (by repeat' (first | (with_reducible exact Below.refl _ _) | (with_reducible refine drewB' ?_) | (with_reducible refine Below.alloc ?_ (by simp) _)))) (Rd.below Hr3.out (by repeat' (first | (with_reducible exact Below.refl _ _) | (with_reducible refine drewB' ?_) | (with_reducible refine Below.alloc ?_ (by simp) _)))) Hlnf.out Hlp.out).mono ?_);(rintro e w4 ⟨sq,sr,rfl,hrq,hrr,hnq,hnr,hw⟩);(obtain ⟨Aq,kq,rfl⟩:=hrq.slice);(obtain ⟨Ar,kr,rfl⟩:=hrr.slice);(have Hrq:=hIh hrq);(have Hrr:=hIh hrr);(have Hnq:=hIh hnq);(have Hnr:=hIh hnr);(have HW4:=hIh (HT.out _ _ (by repeat' (first | (with_reducible exact HR.out) | (with_reducible exact HW1.out) | (with_reducible exact HW2.out) | (with_reducible exact HW3.out) | (with_reducible exact HW4.out) | (with_reducible refine HDr.out _ ?_) | (with_reducible refine HA.out _ _ ?_))) hw));(have m4:w3.heap.size ≤ w4.heap.size:=Nat.le_trans (by simp <;> omega) hw.size);(try ((refine by_first (T:=w4.heap[wr.heap.size]? = some (.cells #[.slice none 0 0] 201 (0,0))) ?_ (fun z00=>?_));(focus ((refine blk_below ?_ hw);(repeat' (first | (with_reducible exact z00) | (with_reducible exact z01) | (with_reducible exact z10) | (with_reducible exact z11) | (with_reducible exact z20) | (with_reducible exact z21) | (with_reducible refine blk_newE _ ?_;first | (with_reducible rfl) | (simp;done)) | (with_reducible refine blk_alloc ?_ _) | (with_reducible refine blk_drew ?_)));done));(have s004:=blk_lt z00)));(try ((refine by_first (T:=w4.heap[wr.heap.size + 1]? = some (.cells #[.slice none 0 0] 201 (0,0))) ?_ (fun z01=>?_));(focus ((refine blk_below ?_ hw);(repeat' (first | (with_reducible exact z00) | (with_reducible exact z01) | (with_reducible exact z10) | (with_reducible exact z11) | (with_reducible exact z20) | (with_reducible exact z21) | (with_reducible refine blk_newE _ ?_;first | (with_reducible rfl) | (simp;done)) | (with_reducible refine blk_alloc ?_ _) | (with_reducible refine blk_drew ?_)));done));(have s014:=blk_lt z01)));(try ((refine by_first (T:=w4.heap[w1.heap.size]? = some (.cells #[.slice none 0 0] 201 (0,0))) ?_ (fun z10=>?_));(focus ((refine blk_below ?_ hw);(repeat' (first | (with_reducible exact z00) | (with_reducible exact z01) | (with_reducible exact z10) | (with_reducible exact z11) | (with_reducible exact z20) | (with_reducible exact z21) | (with_reducible refine blk_newE _ ?_;first | (with_reducible rfl) | (simp;done)) | (with_reducible refine blk_alloc ?_ _) | (with_reducible refine blk_drew ?_)));done));(have s104:=blk_lt z10)));(try ((refine by_first (T:=w4.heap[w1.heap.size + 1]? = some (.cells #[.slice none 0 0] 201 (0,0))) ?_ (fun z11=>?_));(focus ((refine blk_below ?_ hw);(repeat' (first | (with_reducible exact z00) | (with_reducible exact z01) | (with_reducible exact z10) | (with_reducible exact z11) | (with_reducible exact z20) | (with_reducible exact z21) | (with_reducible refine blk_newE _ ?_;first | (with_reducible rfl) | (simp;done)) | (with_reducible refine blk_alloc ?_ _) | (with_reducible refine blk_drew ?_)));done));(have s114:=blk_lt z11)));(try ((refine by_first (T:=w4.heap[w2.heap.size]? = some (.cells #[.slice none 0 0] 201 (0,0))) ?_ (fun z20=>?_));(focus ((refine blk_below ?_ hw);(repeat' (first | (with_reducible exact z00) | (with_reducible exact z01) | (with_reducible exact z10) | (with_reducible exact z11) | (with_reducible exact z20) | (with_reducible exact z21) | (with_reducible refine blk_newE _ ?_;first | (with_reducible rfl) | (simp;done)) | (with_reducible refine blk_alloc ?_ _) | (with_reducible refine blk_drew ?_)));done));(have s204:=blk_lt z20)));(try ((refine by_first (T:=w4.heap[w2.heap.size + 1]? = some (.cells #[.slice none 0 0] 201 (0,0))) ?_ (fun z21=>?_));(focus ((refine blk_below ?_ hw);(repeat' (first | (with_reducible exact z00) | (with_reducible exact z01) | (with_reducible exact z10) | (with_reducible exact z11) | (with_reducible exact z20) | (with_reducible exact z21) | (with_reducible refine blk_newE _ ?_;first | (with_reducible rfl) | (simp;done)) | (with_reducible refine blk_alloc ?_ _) | (with_reducible refine blk_drew ?_)));done));(have s214:=blk_lt z21)));(try ((refine by_first (T:=w4.heap[w3.heap.size]? = some (.cells #[.slice none 0 0] 201 (0,0))) ?_ (fun z30=>?_));(focus ((refine blk_below ?_ hw);(repeat' (first | (with_reducible exact z00) | (with_reducible exact z01) | (with_reducible exact z10) | (with_reducible exact z11) | (with_reducible exact z20) | (with_reducible exact z21) | (with_reducible refine blk_newE _ ?_;first | (with_reducible rfl) | (simp;done)) | (with_reducible refine blk_alloc ?_ _) | (with_reducible refine blk_drew ?_)));done));(have s304:=blk_lt z30)));(try ((refine by_first (T:=w4.heap[w3.heap.size + 1]? = some (.cells #[.slice none 0 0] 201 (0,0))) ?_ (fun z31=>?_));(focus ((refine blk_below ?_ hw);(repeat' (first | (with_reducible exact z00) | (with_reducible exact z01) | (with_reducible exact z10) | (with_reducible exact z11) | (with_reducible exact z20) | (with_reducible exact z21) | (with_reducible refine blk_newE _ ?_;first | (with_reducible rfl) | (simp;done)) | (with_reducible refine blk_alloc ?_ _) | (with_reducible refine blk_drew ?_)));done));(have s314:=blk_lt z31)));(try ((have z00l:=blk_lt z00);(have z00ab:=cells1 z00);(obtain ⟨z00a,z00b⟩:=z00ab);(have z00c:∀ o,(w4.alloc o).cell? ⟨wr.heap.size,0,none⟩ = some (.slice none 0 0):=fun o=>(cells1 (blk_alloc z00 o)).1);(have z00d:∀ o,(w4.alloc o).frozen? ⟨wr.heap.size,0,none⟩ = false:=fun o=>(cells1 (blk_alloc z00 o)).2);(have z00e:∀ q v, ¬ wr.heap.size = q → (w4.setCell ⟨q,0,none⟩ v).cell? ⟨wr.heap.size,0,none⟩ = some (.slice none 0 0):=fun q v hq=>(cells1 (blk_far (p:=⟨q,0,none⟩) z00 hq v)).1);(have z00f:∀ q v, ¬ wr.heap.size = q → (w4.setCell ⟨q,0,none⟩ v).frozen? ⟨wr.heap.size,0,none⟩ = false:=fun q v hq=>(cells1 (blk_far (p:=⟨q,0,none⟩) z00 hq v)).2);(have z00g:¬ w4.heap.size = wr.heap.size:=Nat.ne_of_gt z00l);(have z00h:¬ wr.heap.size = w4.heap.size:=Nat.ne_of_lt z00l)));(try ((have z01l:=blk_lt z01);(have z01ab:=cells1 z01);(obtain ⟨z01a,z01b⟩:=z01ab);(have z01c:∀ o,(w4.alloc o).cell? ⟨wr.heap.size + 1,0,none⟩ = some (.slice none 0 0):=fun o=>(cells1 (blk_alloc z01 o)).1);(have z01d:∀ o,(w4.alloc o).frozen? ⟨wr.heap.size + 1,0,none⟩ = false:=fun o=>(cells1 (blk_alloc z01 o)).2);(have z01e:∀ q v, ¬ wr.heap.size + 1 = q → (w4.setCell ⟨q,0,none⟩ v).cell? ⟨wr.heap.size + 1,0,none⟩ = some (.slice none 0 0):=fun q v hq=>(cells1 (blk_far (p:=⟨q,0,none⟩) z01 hq v)).1);(have z01f:∀ q v, ¬ wr.heap.size + 1 = q → (w4.setCell ⟨q,0,none⟩ v).frozen? ⟨wr.heap.size + 1,0,none⟩ = false:=fun q v hq=>(cells1 (blk_far (p:=⟨q,0,none⟩) z01 hq v)).2);(have z01g:¬ w4.heap.size = wr.heap.size + 1:=Nat.ne_of_gt z01l);(have z01h:¬ wr.heap.size + 1 = w4.heap.size:=Nat.ne_of_lt z01l)));(try ((have z10l:=blk_lt z10);(have z10ab:=cells1 z10);(obtain ⟨z10a,z10b⟩:=z10ab);(have z10c:∀ o,(w4.alloc o).cell? ⟨w1.heap.size,0,none⟩ = some (.slice none 0 0):=fun o=>(cells1 (blk_alloc z10 o)).1);(have z10d:∀ o,(w4.alloc o).frozen? ⟨w1.heap.size,0,none⟩ = false:=fun o=>(cells1 (blk_alloc z10 o)).2);(have z10e:∀ q v, ¬ w1.heap.size = q → (w4.setCell ⟨q,0,none⟩ v).cell? ⟨w1.heap.size,0,none⟩ = some (.slice none 0 0):=fun q v hq=>(cells1 (blk_far (p:=⟨q,0,none⟩) z10 hq v)).1);(have z10f:∀ q v, ¬ w1.heap.size = q → (w4.setCell ⟨q,0,none⟩ v).frozen? ⟨w1.heap.size,0,none⟩ = false:=fun q v hq=>(cells1 (blk_far (p:=⟨q,0,none⟩) z10 hq v)).2);(have z10g:¬ w4.heap.size = w1.heap.size:=Nat.ne_of_gt z10l);(have z10h:¬ w1.heap.size = w4.heap.size:=Nat.ne_of_lt z10l)));(try ((have z11l:=blk_lt z11);(have z11ab:=cells1 z11);(obtain ⟨z11a,z11b⟩:=z11ab);(have z11c:∀ o,(w4.alloc o).cell? ⟨w1.heap.size + 1,0,none⟩ = some (.slice none 0 0):=fun o=>(cells1 (blk_alloc z11 o)).1);(have z11d:∀ o,(w4.alloc o).frozen? ⟨w1.heap.size + 1,0,none⟩ = false:=fun o=>(cells1 (blk_alloc z11 o)).2);(have z11e:∀ q v, ¬ w1.heap.size + 1 = q → (w4.setCell ⟨q,0,none⟩ v).cell? ⟨w1.heap.size + 1,0,none⟩ = some (.slice none 0 0):=fun q v hq=>(cells1 (blk_far (p:=⟨q,0,none⟩) z11 hq v)).1);(have z11f:∀ q v, ¬ w1.heap.size + 1 = q → (w4.setCell ⟨q,0,none⟩ v).frozen? ⟨w1.heap.size + 1,0,none⟩ = false:=fun q v hq=>(cells1 (blk_far (p:=⟨q,0,none⟩) z11 hq v)).2);(have z11g:¬ w4.heap.size = w1.heap.size + 1:=Nat.ne_of_gt z11l);(have z11h:¬ w1.heap.size + 1 = w4.heap.size:=Nat.ne_of_lt z11l)));(try ((have z20l:=blk_lt z20);(have z20ab:=cells1 z20);(obtain ⟨z20a,z20b⟩:=z20ab);(have z20c:∀ o,(w4.alloc o).cell? ⟨w2.heap.size,0,none⟩ = some (.slice none 0 0):=fun o=>(cells1 (blk_alloc z20 o)).1);(have z20d:∀ o,(w4.alloc o).frozen? ⟨w2.heap.size,0,none⟩ = false:=fun o=>(cells1 (blk_alloc z20 o)).2);(have z20e:∀ q v, ¬ w2.heap.size = q → (w4.setCell ⟨q,0,none⟩ v).cell? ⟨w2.heap.size,0,none⟩ = some (.slice none 0 0):=fun q v hq=>(cells1 (blk_far (p:=⟨q,0,none⟩) z20 hq v)).1);(have z20f:∀ q v, ¬ w2.heap.size = q → (w4.setCell ⟨q,0,none⟩ v).frozen? ⟨w2.heap.size,0,none⟩ = false:=fun q v hq=>(cells1 (blk_far (p:=⟨q,0,none⟩) z20 hq v)).2);(have z20g:¬ w4.heap.size = w2.heap.size:=Nat.ne_of_gt z20l);(have z20h:¬ w2.heap.size = w4.heap.size:=Nat.ne_of_lt z20l)));(try ((have z21l:=blk_lt z21);(have z21ab:=cells1 z21);(obtain ⟨z21a,z21b⟩:=z21ab);(have z21c:∀ o,(w4.alloc o).cell? ⟨w2.heap.size + 1,0,none⟩ = some (.slice none 0 0):=fun o=>(cells1 (blk_alloc z21 o)).1);(have z21d:∀ o,(w4.alloc o).frozen? ⟨w2.heap.size + 1,0,none⟩ = false:=fun o=>(cells1 (blk_alloc z21 o)).2);(have z21e:∀ q v, ¬ w2.heap.size + 1 = q → (w4.setCell ⟨q,0,none⟩ v).cell? ⟨w2.heap.size + 1,0,none⟩ = some (.slice none 0 0):=fun q v hq=>(cells1 (blk_far (p:=⟨q,0,none⟩) z21 hq v)).1);(have z21f:∀ q v, ¬ w2.heap.size + 1 = q → (w4.setCell ⟨q,0,none⟩ v).frozen? ⟨w2.heap.size + 1,0,none⟩ = false:=fun q v hq=>(cells1 (blk_far (p:=⟨q,0,none⟩) z21 hq v)).2);(have z21g:¬ w4.heap.size = w2.heap.size + 1:=Nat.ne_of_gt z21l);(have z21h:¬ w2.heap.size + 1 = w4.heap.size:=Nat.ne_of_lt z21l)));(try ((have z30l:=blk_lt z30);(have z30ab:=cells1 z30);(obtain ⟨z30a,z30b⟩:=z30ab);(have z30c:∀ o,(w4.alloc o).cell? ⟨w3.heap.size,0,none⟩ = some (.slice none 0 0):=fun o=>(cells1 (blk_alloc z30 o)).1);(have z30d:∀ o,(w4.alloc o).frozen? ⟨w3.heap.size,0,none⟩ = false:=fun o=>(cells1 (blk_alloc z30 o)).2);(have z30e:∀ q v, ¬ w3.heap.size = q → (w4.setCell ⟨q,0,none⟩ v).cell? ⟨w3.heap.size,0,none⟩ = some (.slice none 0 0):=fun q v hq=>(cells1 (blk_far (p:=⟨q,0,none⟩) z30 hq v)).1);(have z30f:∀ q v, ¬ w3.heap.size = q → (w4.setCell ⟨q,0,none⟩ v).frozen? ⟨w3.heap.size,0,none⟩ = false:=fun q v hq=>(cells1 (blk_far (p:=⟨q,0,none⟩) z30 hq v)).2);(have z30g:¬ w4.heap.size = w3.heap.size:=Nat.ne_of_gt z30l);(have z30h:¬ w3.heap.size = w4.heap.size:=Nat.ne_of_lt z30l)));(try ((have z31l:=blk_lt z31);(have z31ab:=cells1 z31);(obtain ⟨z31a,z31b⟩:=z31ab);(have z31c:∀ o,(w4.alloc o).cell? ⟨w3.heap.size + 1,0,none⟩ = some (.slice none 0 0):=fun o=>(cells1 (blk_alloc z31 o)).1);(have z31d:∀ o,(w4.alloc o).frozen? ⟨w3.heap.size + 1,0,none⟩ = false:=fun o=>(cells1 (blk_alloc z31 o)).2);(have z31e:∀ q v, ¬ w3.heap.size + 1 = q → (w4.setCell ⟨q,0,none⟩ v).cell? ⟨w3.heap.size + 1,0,none⟩ = some (.slice none 0 0):=fun q v hq=>(cells1 (blk_far (p:=⟨q,0,none⟩) z31 hq v)).1);(have z31f:∀ q v, ¬ w3.heap.size + 1 = q → (w4.setCell ⟨q,0,none⟩ v).frozen? ⟨w3.heap.size + 1,0,none⟩ = false:=fun q v hq=>(cells1 (blk_far (p:=⟨q,0,none⟩) z31 hq v)).2);(have z31g:¬ w4.heap.size = w3.heap.size + 1:=Nat.ne_of_gt z31l);(have z31h:¬ w3.heap.size + 1 = w4.heap.size:=Nat.ne_of_lt z31l)));(try ((have n0010:¬ wr.heap.size = w1.heap.size:=Nat.ne_of_lt (s001));(have n1000:¬ w1.heap.size = wr.heap.size:=Nat.ne_of_gt (s001))));(try ((have n0011:¬ wr.heap.size = w1.heap.size + 1:=Nat.ne_of_lt (Nat.lt_of_lt_of_le s001 (Nat.le_add_right _ _)));(have n1100:¬ w1.heap.size + 1 = wr.heap.size:=Nat.ne_of_gt (Nat.lt_of_lt_of_le s001 (Nat.le_add_right _ _)))));(try ((have n0020:¬ wr.heap.size = w2.heap.size:=Nat.ne_of_lt (s002));(have n2000:¬ w2.heap.size = wr.heap.size:=Nat.ne_of_gt (s002))));(try ((have n0021:¬ wr.heap.size = w2.heap.size + 1:=Nat.ne_of_lt (Nat.lt_of_lt_of_le s002 (Nat.le_add_right _ _)));(have n2100:¬ w2.heap.size + 1 = wr.heap.size:=Nat.ne_of_gt (Nat.lt_of_lt_of_le s002 (Nat.le_add_right _ _)))));(try ((have n0030:¬ wr.heap.size = w3.heap.size:=Nat.ne_of_lt (s003));(have n3000:¬ w3.heap.size = wr.heap.size:=Nat.ne_of_gt (s003))));(try ((have n0031:¬ wr.heap.size = w3.heap.size + 1:=Nat.ne_of_lt (Nat.lt_of_lt_of_le s003 (Nat.le_add_right _ _)));(have n3100:¬ w3.heap.size + 1 = wr.heap.size:=Nat.ne_of_gt (Nat.lt_of_lt_of_le s003 (Nat.le_add_right _ _)))));(try ((have n0110:¬ wr.heap.size + 1 = w1.heap.size:=Nat.ne_of_lt (s011));(have n1001:¬ w1.heap.size = wr.heap.size + 1:=Nat.ne_of_gt (s011))));(try ((have n0111:¬ wr.heap.size + 1 = w1.heap.size + 1:=Nat.ne_of_lt (Nat.lt_of_lt_of_le s011 (Nat.le_add_right _ _)));(have n1101:¬ w1.heap.size + 1 = wr.heap.size + 1:=Nat.ne_of_gt (Nat.lt_of_lt_of_le s011 (Nat.le_add_right _ _)))));(try ((have n0120:¬ wr.heap.size + 1 = w2.heap.size:=Nat.ne_of_lt (s012));(have n2001:¬ w2.heap.size = wr.heap.size + 1:=Nat.ne_of_gt (s012))));(try ((have n0121:¬ wr.heap.size + 1 = w2.heap.size + 1:=Nat.ne_of_lt (Nat.lt_of_lt_of_le s012 (Nat.le_add_right _ _)));(have n2101:¬ w2.heap.size + 1 = wr.heap.size + 1:=Nat.ne_of_gt (Nat.lt_of_lt_of_le s012 (Nat.le_add_right _ _)))));(try ((have n0130:¬ wr.heap.size + 1 = w3.heap.size:=Nat.ne_of_lt (s013));(have n3001:¬ w3.heap.size = wr.heap.size + 1:=Nat.ne_of_gt (s013))));(try ((have n0131:¬ wr.heap.size + 1 = w3.heap.size + 1:=Nat.ne_of_lt (Nat.lt_of_lt_of_le s013 (Nat.le_add_right _ _)));(have n3101:¬ w3.heap.size + 1 = wr.heap.size + 1:=Nat.ne_of_gt (Nat.lt_of_lt_of_le s013 (Nat.le_add_right _ _)))));(try ((have n1020:¬ w1.heap.size = w2.heap.size:=Nat.ne_of_lt (s102));(have n2010:¬ w2.heap.size = w1.heap.size:=Nat.ne_of_gt (s102))));(try ((have n1021:¬ w1.heap.size = w2.heap.size + 1:=Nat.ne_of_lt (Nat.lt_of_lt_of_le s102 (Nat.le_add_right _ _)));(have n2110:¬ w2.heap.size + 1 = w1.heap.size:=Nat.ne_of_gt (Nat.lt_of_lt_of_le s102 (Nat.le_add_right _ _)))));(try ((have n1030:¬ w1.heap.size = w3.heap.size:=Nat.ne_of_lt (s103));(have n3010:¬ w3.heap.size = w1.heap.size:=Nat.ne_of_gt (s103))));(try ((have n1031:¬ w1.heap.size = w3.heap.size + 1:=Nat.ne_of_lt (Nat.lt_of_lt_of_le s103 (Nat.le_add_right _ _)));(have n3110:¬ w3.heap.size + 1 = w1.heap.size:=Nat.ne_of_gt (Nat.lt_of_lt_of_le s103 (Nat.le_add_right _ _)))));(try ((have n1120:¬ w1.heap.size + 1 = w2.heap.size:=Nat.ne_of_lt (s112));(have n2011:¬ w2.heap.size = w1.heap.size + 1:=Nat.ne_of_gt (s112))));(try ((have n1121:¬ w1.heap.size + 1 = w2.heap.size + 1:=Nat.ne_of_lt (Nat.lt_of_lt_of_le s112 (Nat.le_add_right _ _)));(have n2111:¬ w2.heap.size + 1 = w1.heap.size + 1:=Nat.ne_of_gt (Nat.lt_of_lt_of_le s112 (Nat.le_add_right _ _)))));(try ((have n1130:¬ w1.heap.size + 1 = w3.heap.size:=Nat.ne_of_lt (s113));(have n3011:¬ w3.heap.size = w1.heap.size + 1:=Nat.ne_of_gt (s113))));(try ((have n1131:¬ w1.heap.size + 1 = w3.heap.size + 1:=Nat.ne_of_lt (Nat.lt_of_lt_of_le s113 (Nat.le_add_right _ _)));(have n3111:¬ w3.heap.size + 1 = w1.heap.size + 1:=Nat.ne_of_gt (Nat.lt_of_lt_of_le s113 (Nat.le_add_right _ _)))));(try ((have n2030:¬ w2.heap.size = w3.heap.size:=Nat.ne_of_lt (s203));(have n3020:¬ w3.heap.size = w2.heap.size:=Nat.ne_of_gt (s203))));(try ((have n2031:¬ w2.heap.size = w3.heap.size + 1:=Nat.ne_of_lt (Nat.lt_of_lt_of_le s203 (Nat.le_add_right _ _)));(have n3120:¬ w3.heap.size + 1 = w2.heap.size:=Nat.ne_of_gt (Nat.lt_of_lt_of_le s203 (Nat.le_add_right _ _)))));(try ((have n2130:¬ w2.heap.size + 1 = w3.heap.size:=Nat.ne_of_lt (s213));(have n3021:¬ w3.heap.size = w2.heap.size + 1:=Nat.ne_of_gt (s213))));(try ((have n2131:¬ w2.heap.size + 1 = w3.heap.size + 1:=Nat.ne_of_lt (Nat.lt_of_lt_of_le s213 (Nat.le_add_right _ _)));(have n3121:¬ w3.heap.size + 1 = w2.heap.size + 1:=Nat.ne_of_gt (Nat.lt_of_lt_of_le s213 (Nat.le_add_right _ _)))));(clear hrq hrr hnq hnr hw)))
    all_goals
     rename_i hHeld;have Hfin:=hIh hHeld.2;clear hHeld;go_wp2_with fail;go_meet
     case rel=>
      refine qCut_mk (sq:=.slice Aq (dig (numd d * f / 10 ^ b)).length kq) (sr:=.slice Ar (dig (numd d * f % 10 ^ b)).length kr) ?_ ?_ ?_ ?_ ?_ Hfin.out
      ·repeat' (first | (with_reducible exact z00) | (with_reducible exact z01) | (with_reducible exact z10) | (with_reducible exact z11) | (with_reducible exact z20) | (with_reducible exact z21) | (with_reducible exact z30) | (with_reducible exact z31) | (with_reducible refine blk_newE _ ?_;first | (with_reducible rfl) | (simp;done)) | (with_reducible refine blk_set1 (a:=.slice none 0 0) ?_) | (with_reducible refine blk_far ?_ (by first | assumption | (simp;done) | (simp;omega)) _) | (with_reducible refine blk_alloc ?_ _))
      ·repeat' (first | (with_reducible exact z00) | (with_reducible exact z01) | (with_reducible exact z10) | (with_reducible exact z11) | (with_reducible exact z20) | (with_reducible exact z21) | (with_reducible exact z30) | (with_reducible exact z31) | (with_reducible refine blk_newE _ ?_;first | (with_reducible rfl) | (simp;done)) | (with_reducible refine blk_set1 (a:=.slice none 0 0) ?_) | (with_reducible refine blk_far ?_ (by first | assumption | (simp;done) | (simp;omega)) _) | (with_reducible refine blk_alloc ?_ _))
      ·refine rdI_keep Hrq.out Hnq.out ?_
       repeat' (first | exact Fr.refl _ _ | refine Fr.alloc ?_ _ | (refine Fr.setCell ?_ ?_ _))
       all_goals (try simp);(try omega)
      ·refine rdI_keep Hrr.out Hnr.out ?_
       repeat' (first | exact Fr.refl _ _ | refine Fr.alloc ?_ _ | (refine Fr.setCell ?_ ?_ _))
       all_goals (try simp);(try omega)
      ·first | omega | (simp;omega)
   case rest=>
    obtain ⟨p10,p11,sq,sr,rfl,rfl,h10,h11,hq,hr,hp,hW⟩:=hcut;obtain ⟨Aq,kq,rfl⟩:=hq.slice;obtain ⟨Ar,kr,rfl⟩:=hr.slice;obtain ⟨c10,f10⟩:=cells1 h10;obtain ⟨c11,f11⟩:=cells1 h11;have HB2:=hIh (HBw.out _ hW);have hls:=hW.size;have HP:Hid (w.heap.size ≤ p10):=Nat.le_trans HB.out.size hp;have Hq:=hIh hq;have H10:=hIh h10;generalize numd d * f / 10 ^ b = q at Hq Hql Hql2 Hspec c10 H10;generalize numd d * f % 10 ^ b = r at c11 Hspec;clear hq hr hp hW h10 h11 HBw HS HR Hlow Hb0 HB Hrf Htr Hll Hlo Hlf Hlnf Hlp Hp0 Hd Hown Hnew hdl hdn hfl hb hn
    by_cases hr0:r = 0
    ·have hl0:(dig r).length = 0:=by rw [hr0,dig_zero];rfl
     rw [if_pos hr0,Nat.add_zero] at Hspec;have Hr0:=hIh hr0;clear hr0;go_wp2_with fail;refine (value_calls _ _ q Hq.out (by have:=Hql.out;omega)).mono ?_;rintro e w5 ⟨he,hw5⟩;have H5:=hIh (HB2.out.trans (hw5.mono HB2.out.size))
     by_cases hM:q ≤ 9223372036854775807
     ·rw [if_pos hM,decide_eq_true hM] at he
      subst he;rw [if_pos hM] at Hspec;clear hM hw5;go_wp2;go_ret2;exact ⟨_,_,rfl,by rw [Hspec.out];exact .inl ⟨_,rfl,rfl,rfl⟩,H5.out⟩
     ·rw [if_neg hM,decide_eq_false hM] at he
      subst he;rw [if_neg hM] at Hspec;clear hM hw5;go_wp2;go_ret2;exact ⟨_,_,rfl,by rw [Hspec.out];exact .inr ⟨rfl,by decide⟩,H5.out⟩
    ·have hl0:0 < (dig r).length:=by rw [dig_pos (by omega)];simp
     rw [if_neg hr0] at Hspec;have Hr0:=hIh hr0;clear hr0;have h1len:(dig 1).length ≤ 524288:=(by have:=dig_len_le (n:=1) (k:=1) (by decide);omega);have H1len:=hIh h1len;clear h1len;go_wp2
     go_region_with (first
      | ((go_at_call 158);(refine (long_calls _ 1 (by omega)).mono ?_);(rintro e w6 ⟨l6,rfl,hr6,hn6,hw6⟩);(obtain ⟨A6,k6,rfl⟩:=hr6.slice);(have Hr6:=hIh hr6);(have HD:=hIh ((drewB (Below.refl wc.heap.size wc) 1).trans hw6));(have eg:=cells1 (blk_below H10.out HD.out));(obtain ⟨eg1,eg2⟩:=eg);(clear hr6 hn6 hw6))
      | ((go_at_call 163);(refine (plus_calls _ _ _ q 1 (Hq.out.below HD.out) Hr6.out (by have:=Hql.out;omega) H1len.out).mono ?_);(rintro e w7 ⟨l7,rfl,hr7,hn7,hw7⟩);(obtain ⟨A7,k7,rfl⟩:=hr7.slice);(have Hh:=hIh (blk_below (blk_below H10.out HD.out) hw7));(have eh:=cells1 Hh.out);(obtain ⟨eh1,eh2⟩:=eh)))
     all_goals
      have hpw:p10 < wc.heap.size:=blk_lt H10.out;have HD2:=HD.out.size;have H7:=hIh (((HB2.out.trans (HD.out.mono HB2.out.size)).trans (hw7.mono (Nat.le_trans HB2.out.size HD2))).setCell (p:=⟨p10,0,none⟩) HP.out (.slice A7 (dig (q + 1)).length k7));have Hr7:=hIh (hr7.fr ((Fr.refl (Only p10) w7).setCell (p:=⟨p10,0,none⟩) (.inl rfl) (.slice A7 (dig (q + 1)).length k7)) (fun k hk e=>by have h1:=hn7 k hk;have h2:k = p10:=e;omega));have Hc7:=(cells1 (blk_setCell Hh.out 0 (.slice A7 (dig (q + 1)).length k7))).1;clear hr7 hn7 hw7 eh1 eh2 eg1 eg2 hpw HD2;go_wp2_with fail;refine (value_calls _ _ (q + 1) Hr7.out (by have:=Hql2.out;omega)).mono ?_;rintro e w5 ⟨he,hw5⟩;have H5:=hIh (H7.out.trans (hw5.mono H7.out.size))
      by_cases hM:q + 1 ≤ 9223372036854775807
      ·rw [if_pos hM,decide_eq_true hM] at he
       subst he;rw [if_pos hM] at Hspec;clear hM hw5;go_wp2;go_ret2;exact ⟨_,_,rfl,by rw [Hspec.out];exact .inl ⟨_,rfl,rfl,rfl⟩,H5.out⟩
      ·rw [if_neg hM,decide_eq_false hM] at he
       subst he;rw [if_neg hM] at Hspec;clear hM hw5;go_wp2;go_ret2;exact ⟨_,_,rfl,by rw [Hspec.out];exact .inr ⟨rfl,by decide⟩,H5.out⟩
def sb (l:Str):ByteArray:=⟨l.toArray⟩
theorem sb_toList (l:Str):(sb l).data.toList = l:=rfl
theorem sb_size (l:Str):(sb l).size = l.length:=by show l.toArray.size = _;simp
theorem of_sb (s:ByteArray):s = sb s.data.toList:=rfl
theorem sb_inj {a b:Str}:sb a = sb b ↔ a = b:=⟨fun h=>by have:=congrArg (fun x=>x.data.toList) h;exact this,fun h=>by rw [h]⟩
theorem sb_extract (l:Str) (i j:Nat):(sb l).extract i j = sb ((l.drop i).take (j - i)):=by
 have h:((sb l).extract i j).data.toList = (l.drop i).take (j - i):=by
  rw [ByteArray.data_extract,Array.toList_extract];rfl
 rw [of_sb ((sb l).extract i j),h]
theorem sb_append (a b:Str):sb a ++ sb b = sb (a ++ b):=by
 have h:(sb a ++ sb b).data.toList = a ++ b:=by simp [sb]
 rw [of_sb (sb a ++ sb b),h]
theorem run_ix (W:World) (l:Str) (n:Nat) (c:UInt8) (h:l[n]? = some c):(Instr.index 9 (.string (sb l)) (.int .i64 (n:Int))).run Tryz.prog W = .ok (.int .u8 (c.toNat:Int)) W:=by
 obtain ⟨hlt,rfl⟩:=List.getElem?_eq_some_iff.1 h
 have hs:n < (sb l).size:=by rw [sb_size];exact hlt
 have he:(sb l)[n]'hs = l[n]:=rfl
 have e:(sb l)[n]? = some l[n]:=by rw [getElem?_pos (sb l) n hs,he]
 simp [Instr.index,run_underlying Tryz.underlying9,asIntOf,e,go_sem]
 rfl
theorem run_sl (W:World) (l:Str) (i j:Nat) (h1:i ≤ j) (h2:j ≤ l.length):(Instr.slice 9 (.string (sb l)) (some (.int .i64 (i:Int))) (some (.int .i64 (j:Int))) none).run Tryz.prog W = .ok (.string (sb ((l.drop i).take (j - i)))) W:=by
 have h:=run_slice_string (P:=Tryz.prog) W 9 (sb l) .i64 .i64 (i:Int) (j:Int) Tryz.underlying9 (by omega) (by omega) (by rw [sb_size];omega);rw [h,Int.toNat_natCast,Int.toNat_natCast,sb_extract]
theorem run_slF (W:World) (l:Str) (i:Nat) (h:i ≤ l.length):(Instr.slice 9 (.string (sb l)) (some (.int .i64 (i:Int))) none none).run Tryz.prog W = .ok (.string (sb (l.drop i))) W:=by
 have h:=run_slice_string_l (P:=Tryz.prog) (w:=W) (t:=9) (s:=sb l) Tryz.underlying9 .i64 (i:Int) (by omega) (by rw [sb_size];omega);rw [h,Int.toNat_natCast,sb_extract,sb_size,List.take_of_length_le (by rw [List.length_drop];omega)]
theorem run_slT (W:World) (l:Str) (j:Nat) (h:j ≤ l.length):(Instr.slice 9 (.string (sb l)) none (some (.int .i64 (j:Int))) none).run Tryz.prog W = .ok (.string (sb (l.take j))) W:=by
 have h:=run_slice_string_h (P:=Tryz.prog) (w:=W) (t:=9) (s:=sb l) Tryz.underlying9 .i64 (j:Int) (by omega) (by rw [sb_size];omega);rw [h,Int.toNat_natCast,sb_extract,List.drop_zero,Nat.sub_zero]
theorem flat_len {α : Type} {f : α → List Value} {size:Nat} (hf:∀ x,(f x).length = size) (l:List α):(l.flatMap f).length = l.length * size:=by
 induction l with
 | nil=>simp
 | cons x r ih=>rw [List.flatMap_cons,List.length_append,ih,hf,List.length_cons,Nat.add_mul];omega
theorem flat_at {α : Type} {f : α → List Value} {size:Nat} (hf:∀ x,(f x).length = size) (l:List α) (i:Nat) (h:i < l.length) (j:Nat) (hj:j < size):(l.flatMap f)[i * size + j]? = (f l[i])[j]?:=by
 induction l generalizing i with
 | nil=>simp at h
 | cons x r ih=>
  rw [List.flatMap_cons]
  cases i with
  | zero=>rw [List.getElem?_append_left (by rw [hf];omega)];simp
  | succ i=>
   rw [List.getElem?_append_right (by rw [hf,Nat.add_mul];omega),hf,show (i + 1) * size + j - size = i * size + j from by rw [Nat.add_mul];omega];exact ih i (by simpa using h)
def RdS {α : Type} (f : α → List Value) (size:Nat) (w:World) (v:Value) (l:List α):Prop:=Rd w size v l.length (l.flatMap f)
section
variable {α : Type} {f : α → List Value} {size:Nat} {w w1:World} {v:Value} {l:List α}
theorem RdS.below (h:RdS f size w v l) (hb:Below w.heap.size w w1):RdS f size w1 v l:=Rd.below h hb
theorem RdS.fr {S:Nat → Prop} (h:RdS f size w v l) (hf:Fr S w w1) (hn:∀ k,v.ownBlock = some k → ¬ S k):RdS f size w1 v l:=Rd.fr h hf hn
theorem RdS.slice (h:RdS f size w v l):∃ A c,v = .slice A l.length c:=by
 obtain ⟨-,A,c,h, -⟩:=h;exact ⟨A,c,h⟩
theorem RdS.nil (f : α → List Value) (size:Nat) (w:World):RdS f size w (.slice none 0 0) []:=⟨by simp,none,0,rfl,Nat.le_refl _,fun _=>rfl,fun ad h=>by cases h⟩
theorem RdS.of_own {base:Nat} {e:TypeId} (h:w.ownsRow base e size v l.length (l.flatMap f)):RdS f size w v l:=Rd.of_own h
theorem RdS.cells (hf:∀ x,(f x).length = size) (hs:0 < size) (h:RdS f size w v l) (i:Nat) (hi:i < l.length) :
  ∃ b off c,v = .slice (some ⟨b,off,none⟩) l.length c ∧ l.length ≤ c ∧ b < w.heap.size ∧ ∀ j u,j < size → (f l[i])[j]? = some u → w.cell? ⟨b,off + (i * size + j),none⟩ = some u:=by
 have hne:l.flatMap f ≠ []:=by
  intro e;have h1:=flat_len hf l;rw [e] at h1;have:0 < l.length * size:=Nat.mul_pos (by omega) hs;simp at h1;omega
 obtain ⟨b,off,c,hv,hc,hb,hcell⟩:=Rd.some h hne;exact ⟨b,off,c,hv,hc,hb,fun j u hj hu=>hcell _ _ ((flat_at hf l i hi j hj).trans hu)⟩
end
def strC (s:Str):List Value := [.string (sb s)]
theorem strC_len (s:Str):(strC s).length = 1:=rfl
abbrev RdT (w:World) (v:Value) (l:List Str):Prop:=RdS strC 1 w v l
theorem RdT.some {w:World} {v:Value} {l:List Str} (h:RdT w v l) (hn:l ≠ []):∃ b off c,v = .slice (some ⟨b,off,none⟩) l.length c ∧ l.length ≤ c ∧ b < w.heap.size ∧ ∀ i (hi:i < l.length),w.cell? ⟨b,off + i,none⟩ = some (.string (sb l[i])):=by
 have hne:l.flatMap strC ≠ []:=by
  intro e;have h1:=flat_len strC_len l;rw [e] at h1;have:0 < l.length:=List.length_pos_iff.2 hn;simp at h1;omega
 obtain ⟨b,off,c,hv,hc,hb,hcell⟩:=Rd.some h hne;refine ⟨b,off,c,hv,hc,hb,fun i hi=>?_⟩;have:=flat_at strC_len l i hi 0 (by omega);rw [Nat.mul_one,Nat.add_zero] at this;exact hcell _ _ (this.trans rfl)
theorem rd_tail {w:World} {size n c b off:Nat} {xs:List Value} (h:Rd w size (.slice (some ⟨b,off,none⟩) n c) n xs) (i:Nat) (hi:i ≤ n):Rd w size (.slice (some ⟨b,off + i * size,none⟩) (n - i) (c - i)) (n - i) (xs.drop (i * size)):=by
 obtain ⟨h1,A,c',hv,h2,h3,h4⟩:=h
 cases hv
 refine ⟨by rw [List.length_drop,h1,Nat.sub_mul],_,_,rfl,by omega,(fun h=>by cases h),fun ad hA j u hu=>?_⟩
 cases hA
 have h5:=h4 _ rfl (i * size + j) u (by rw [List.getElem?_drop] at hu;exact hu)
 have e1:(Addr.mk b off none).add (i * size + j) = Addr.mk b (off + (i * size + j)) none:=by unfold Addr.add;split <;> simp_all
 have e2:(Addr.mk b (off + i * size) none).add j = Addr.mk b (off + i * size + j) none:=by unfold Addr.add;split <;> simp_all
 rw [e1] at h5;rw [e2,Nat.add_assoc];exact h5
theorem infoStr:(Tryz.prog.info? 9).map (fun i=>(i.zero,i.size,i.bytes)) = some (some (.string ⟨#[]⟩),1,16):=by kernel_rfl
theorem rd_oneS (w:World) (t:TypeId) (s:Str):RdT (w.alloc (.cells #[.string (sb s)] t)) (.slice (some ⟨w.heap.size,0,none⟩) 1 1) [s]:=by
 refine ⟨rfl,_,_,rfl,Nat.le_refl _,(fun h=>by cases h),fun ad hA j u hu=>?_⟩
 cases hA
 match j,hu with
 | 0,hu=>cases hu;rw [show (⟨w.heap.size,0,none⟩ : Addr).add 0 = ⟨w.heap.size,0,none⟩ from rfl];simp only [World.cell?,blk_new];rfl
theorem flat_app {α : Type} (f : α → List Value) (a b:List α):(a ++ b).flatMap f = a.flatMap f ++ b.flatMap f:=by simp
theorem flat_one (f:Str → List Value) (hf:∀ s, ∀ u ∈ f s,u.oneCell' = true) (l:List Str):∀ u ∈ l.flatMap f,u.oneCell' = true:=by
 intro u hu;obtain ⟨s, -,hs⟩:=List.mem_flatMap.1 hu;exact hf s u hs
theorem strC_one (s:Str):∀ u ∈ strC s,u.oneCell' = true:=by intro u hu;simp only [strC,List.mem_singleton] at hu;subst hu;rfl
theorem toL (s:ByteArray):s.toList = s.data.toList:=Lib.toList_data s
theorem beqF' {a b:ByteArray} (h:a ≠ b):(a.toList == b.toList) = false:=by
 rw [beq_eq_false_iff_ne];intro e;rw [toL,toL] at e
 apply h
 rw [of_sb a,of_sb b,e]
theorem beqT' (a:ByteArray):(a.toList == a.toList) = true:=by simp
theorem sb_toL (l:Str):(sb l).toList = l:=toL _
theorem u8_lt (c:UInt8):c.toNat < 256:=c.toNat_lt
theorem dg_iff (c:UInt8):isDg c = true ↔ 48 ≤ c.toNat ∧ c.toNat ≤ 57:=by
 simp only [isDg,Bool.and_eq_true,decide_eq_true_eq,UInt8.le_iff_toNat_le];exact Iff.rfl
theorem digit_calls (w:World) (c:UInt8):Calls Tryz.prog 134 #[.int .u8 (c.toNat:Int)] w fun e w'=>e = .returned (.bool (isDg c)) ∧ w' = w:=by
 by_cases h1:48 ≤ c.toNat
 ·by_cases h2:c.toNat ≤ 57
  ·have hd:isDg c = true:=(dg_iff c).2 ⟨h1,h2⟩
   rw [hd];clear hd;generalize c.toNat = n at h1 h2;have g1:decide ((48:Int) ≤ n) = true:=decide_eq_true (by omega);have g2:decide ((n:Int) ≤ 57) = true:=decide_eq_true (by omega);go_enter Tryz.func134,Tryz.ntmps134;go_wp2;go_ret;exact ⟨rfl,rfl⟩
  ·have hd:isDg c = false:=by
    cases h:isDg c with
    | false=>rfl
    | true=>exact absurd ((dg_iff c).1 h).2 h2
   rw [hd];clear hd;generalize c.toNat = n at h1 h2;have g1:decide ((48:Int) ≤ n) = true:=decide_eq_true (by omega);have g2:decide ((n:Int) ≤ 57) = false:=decide_eq_false (by omega);go_enter Tryz.func134,Tryz.ntmps134;go_wp2;go_ret;exact ⟨rfl,rfl⟩
 ·have hd:isDg c = false:=by
   cases h:isDg c with
   | false=>rfl
   | true=>exact absurd ((dg_iff c).1 h).1 h1
  rw [hd];clear hd;generalize c.toNat = n at h1;have g1:decide ((48:Int) ≤ n) = false:=decide_eq_false (by omega);go_enter Tryz.func134,Tryz.ntmps134;go_wp2;go_ret;exact ⟨rfl,rfl⟩
theorem tab_units:∀ e ∈ tabB 5,e ∈ qunits:=by decide
theorem units_tab:∀ e ∈ qunits,e ∈ tabB 5:=by decide
theorem tab_len5:(tabB 5).length = 12:=by decide
theorem tab_vals:∀ e ∈ tabB 5,e.2 < 10 ^ 19:=by decide
theorem tab_look {s:Str} {f:Nat} (h:(s,f) ∈ tabB 5):qlook s = some f:=look_mem (tab_units _ h)
theorem tab_none {s:Str} (h:∀ e ∈ tabB 5,e.1 ≠ s):qlook s = none:=by
 cases h2:qlook s with
 | none=>rfl
 | some f=>exact absurd rfl (h _ (units_tab _ (mem_look h2)))
structure PSt (l:Str) (n dots:Nat) (d:List Nat) (b:Nat):Prop where
 hn:n ≤ l.length
 hdots:dots ≤ 1
 hdl:d.length ≤ n
 hb0:dots = 0 → b = 0
 hb1:dots = 1 → b < d.length
 hbd:b ≤ d.length
 hD:DLt d
 scan:scanP n dots d b (l.drop n) = scanP 0 0 [] 0 l
 first:n = 0 ∨ 1 ≤ d.length
def PPLoop (w:World) (l:Str) (v4 v5 v6 v7:Value) (w1:World):Prop := ∃ (n dots:Nat) (d:List Nat) (b:Nat),v4 = .int .i64 n ∧ v5 = .int .i64 dots ∧ v7 = .int .i64 b ∧ PSt l n dots d b ∧
 w1.ownsRow 0 3 1 v6 d.length (ints d) ∧ (∀ k,v6.ownBlock = some k → w.heap.size ≤ k) ∧ Below w.heap.size w w1
theorem PSt.dg {l:Str} {n dots:Nat} {d:List Nat} {b:Nat} {c:UInt8} (h:PSt l n dots d b) (hc:l[n]? = some c) (hd:isDg c = true):PSt l (n + 1) dots (d ++ [dval c]) (b + dots):=by
 obtain ⟨hlt,rfl⟩:=List.getElem?_eq_some_iff.1 hc;refine ⟨hlt,h.hdots,by simp;exact h.hdl,fun e=>by have:=h.hb0 e;omega,fun e=>?_,?_,?_,?_,.inr (by simp)⟩
 ·have:=h.hb1 e;simp;omega
 ·have:=h.hbd;have:=h.hdots;simp;omega
 ·intro x hx
  rcases List.mem_append.1 hx with h1 | h1
  ·exact h.hD x h1
  ·rw [List.mem_singleton.1 h1]
   have:=(dg_iff _).1 hd;unfold dval;omega
 ·rw [← h.scan,List.drop_eq_getElem_cons hlt,scanP,if_pos hd]
theorem PSt.dot {l:Str} {n:Nat} {d:List Nat} {b:Nat} {c' : UInt8} (h:PSt l n 0 d b) (hc:l[n]? = some 46) (hn:n ≠ 0) (h2:l[n + 1]? = some c') (hd:isDg c' = true):PSt l (n + 1) 1 d b:=by
 obtain ⟨hlt,hc⟩:=List.getElem?_eq_some_iff.1 hc;have h1:1 ≤ d.length:=h.first.resolve_left hn;refine ⟨hlt,by omega,by have:=h.hdl;omega,fun e=>by omega,fun _=>by have:=h.hb0 rfl;omega,h.hbd,h.hD,?_,.inr h1⟩
 have e:scanP n 0 d b (46 :: l.drop (n + 1)) = scanP (n + 1) 1 d b (l.drop (n + 1)):=by
  rw [scanP,if_neg (by decide),if_pos rfl,if_neg];rintro (e | e | e)
  ·exact hn e
  ·omega
  ·rw [List.head?_drop,h2] at e;simp [hd] at e
 rw [← h.scan,List.drop_eq_getElem_cons hlt,hc,e]
theorem PSt.bad {l:Str} {n dots:Nat} {d:List Nat} {b:Nat} (h:PSt l n dots d b) (hc:l[n]? = some 46) (hx:n = 0 ∨ 1 ≤ dots ∨ l.length ≤ n + 1 ∨ ∃ c',l[n + 1]? = some c' ∧ isDg c' = false):rscan l = none:=by
 obtain ⟨hlt,hc⟩:=List.getElem?_eq_some_iff.1 hc
 have:scanP 0 0 [] 0 l = none:=by
  rw [← h.scan,List.drop_eq_getElem_cons hlt,hc,scanP,if_neg (by decide),if_pos rfl,if_pos];rcases hx with e | e | e | ⟨c',e,he⟩
  ·exact .inl e
  ·exact .inr (.inl e)
  ·right;right;rw [List.drop_eq_nil_of_le e];rfl
  ·right;right;rw [List.head?_drop,e];simpa using he
 unfold rscan;rw [this];rfl
theorem PSt.fin {l:Str} {n dots:Nat} {d:List Nat} {b:Nat} (h:PSt l n dots d b) (hx:∀ c,l[n]? = some c → isDg c = false ∧ c ≠ 46):rscan l = if d.length < 1 ∨ 19 < d.length then none else (qlook (l.drop n)).bind fun f=>qfin d b f:=by
 have:scanP 0 0 [] 0 l = some (d,b,l.drop n):=by
  rw [← h.scan];rcases Nat.lt_or_ge n l.length with hlt | hge
  ·obtain ⟨h1,h2⟩:=hx l[n] (by simp [hlt])
   rw [List.drop_eq_getElem_cons hlt,scanP,if_neg (by rw [h1];decide),if_neg h2]
  ·rw [List.drop_eq_nil_of_le hge,scanP]
 unfold rscan;rw [this];rfl
theorem u8_sub (c:UInt8) (h:isDg c = true):IntKind.u8.wrap ((c.toNat:Int) - 48) = ((dval c:Nat):Int):=by
 have:=(dg_iff c).1 h;have e:IntKind.u8.wrap ((c.toNat:Int) - 48) = ((c.toNat:Int) - 48) % 256:=rfl;unfold dval;rw [e];omega
def SLk (w:World) (l:Str) (n:Nat) (v9:Value) (w1:World):Prop := ∃ i:Nat,i ≤ 12 ∧ v9 = .int .i64 i ∧ (∀ j (h:j < (tabB 5).length),j < i → (tabB 5)[j].1 ≠ l.drop n) ∧ Below w.heap.size w w1
theorem SRow.some {w:World} {v:Value} {ents:List Ent} (h:SRow w v ents) (h0:0 < ents.length) :
  ∃ g c,v = .slice (some ⟨g,0,none⟩) ents.length c ∧ g < w.heap.size ∧ ∀ i (hi:i < ents.length),w.cell? ⟨g,i * 2,none⟩ = some (.string ents[i].name) ∧ w.cell? ⟨g,i * 2 + 1,none⟩ = some ents[i].lv:=by
 rcases h.1.2 with ⟨rfl,h2⟩ | ⟨g,cap,cur,rfl,hb,hg, -⟩
 ·omega
 ·refine ⟨g,cap,rfl,blk_lt hg,fun i hi=>?_⟩
  have hcell:=h.1.cells (g:=g) rfl;have hf:∀ e:Ent,e.cells.length = 2:=fun _=>rfl
  have e:∀ j,(⟨g,0,none⟩ : Addr).add j = Addr.mk g j none:=by intro j;unfold Addr.add;split <;> simp_all
  have h1:=hcell (i * 2 + 0) (.string ents[i].name) (flat_at (f:=Ent.cells) hf ents i hi 0 (by omega));have h2:=hcell (i * 2 + 1) ents[i].lv (flat_at (f:=Ent.cells) hf ents i hi 1 (by omega));rw [e] at h1 h2;exact ⟨h1,h2⟩
theorem rparse_calls (w:World) (l:Str) (hl:l.length ≤ 1048576) :
  Calls Tryz.prog 106 #[.string (sb l)] w fun e w' => ∃ v ec:Int,e = .returned (.tuple #[.int .i64 v,.int .i64 ec]) ∧ QRes (qparse l) v ec ∧ Below w.heap.size w w':=by
 rw [← rscan_eq];have hsz:(sb l).size = l.length:=sb_size l;have Hsz:=hIh hsz
 have Hst:Hid (PPLoop w l (.int .i64 0) (.int .i64 0) (.slice none 0 0) (.int .i64 0) w):=
  ⟨0,0, [],0,rfl,rfl,rfl,⟨by omega,by omega,by simp,fun _=>rfl,fun h=>by omega,by simp,(fun x hx=>by cases hx),rfl,.inl rfl⟩,World.ownsRow_nil _ _ _ _,(fun k hk=>by cases hk),Below.refl _ _⟩
 generalize hS:sb l = S at hsz Hsz;have HS:=hIh hS;clear hS;go_enter Tryz.func106,Tryz.ntmps106;go_wp2
 go_loopw [4,5,6,7] (fun v4 v5 v6 v7 w1=>PPLoop w l v4 v5 v6 v7 w1) (fun i _ _ _ _=>l.length - (intOf i).toNat)
 case atStart=>exact Hst.out
 case round=>
  clear Hst;obtain ⟨n,dots,d,b,rfl,rfl,rfl,hP,hown,hnew,hB⟩:=hrel;obtain ⟨A0,c0,rfl⟩:=own_slice hown;have hn:=hP.hn;have hdl:=hP.hdl;have hbd:=hP.hbd;have hdots:=hP.hdots;have HP:=hIh hP;have Hnew:=hIh hnew;have HB:=hIh hB;have Hown:=hIh hown;clear hP hnew hB hown
  by_cases hgo:∃ c,l[n]? = some c ∧ (isDg c = true ∨ c = 46)
  ·obtain ⟨c,hc,hcd⟩:=hgo
   have hlt:n < l.length:=(List.getElem?_eq_some_iff.1 hc).1;have hltd:decide ((n:Int) < l.length) = true:=decide_eq_true (by omega);have hix:∀ W,(Instr.index 9 (.string S) (.int .i64 (n:Int))).run Tryz.prog W = .ok (.int .u8 (c.toNat:Int)) W:=fun W=>(by rw [← HS.out];exact run_ix W l n c hc);have hdig:=fun W=>digit_calls W c;have Hdig:=hIh hdig;have Hc:=hIh hc;clear hdig hc
   by_cases hd:isDg c = true
   ·have hne:¬ c.toNat = 46:=by have:=(dg_iff c).1 hd;omega
    have hneb:((c.toNat:Int) == 46) = false:=(by simp;omega);have Hd:=hIh hd;have Hs:Hid (((c.toNat:Int) - 48) % 256 = ((dval c:Nat):Int)):=u8_sub c hd;rw [hd] at Hdig;clear hcd hd;go_wp2_with (first | ((go_at_call 134);(refine (Hdig.out _).mono ?_);(rintro e w' ⟨rfl,hw'⟩);(obtain rfl:=hw')) | (at_builtin;refine wpList_append2 _ rfl (.tmp 53) (.tmp 59) 65 rfl 3 (.int .i64 0) 1 8 Tryz.underlying65 infoInt rfl (by decide) _ d.length (ints d) rfl (Hown.out.alloc _) _ 1 (ints [dval c]) rfl ?c1 (ints_one _) ?c2 ?c3 ?_))
    case c1=>rw [Hs.out];exact RdI.one _ _ _
    case c2=>unfold maxLen;omega
    case c3=>omega
    intro v' w2 ho2 hg2 hn2 _
    have Hk:Hid (PPLoop w l (.int .i64 ((n:Int) + 1)) (.int .i64 dots) v' (.int .i64 ((b:Int) + dots)) w2):=by
     have hs:=HB.out.size;refine ⟨n + 1,dots,d ++ [dval c],b + dots,rfl,rfl,rfl,HP.out.dg Hc.out Hd.out,?_,?_,?_⟩
     ·rw [ints_app,List.length_append];exact ho2
     ·intro k hk
      rcases hn2 k hk with h1 | h1
      ·exact Hnew.out k h1
      ·have h2:w'.heap.size + 1 ≤ k:=by simpa using h1
       omega
     ·exact (HB.out.alloc hs _).grown hg2 (by simp;omega) (fun k hk=>Hnew.out k hk)
    clear ho2 hg2 hn2;go_wp2;go_roundw
    case rel=>exact Hk.out
    case measure=>simp [intOf];omega
   ·have h46:c = 46:=hcd.resolve_left hd
    subst h46;have e46:(((46:UInt8).toNat:Nat):Int) = 46:=rfl;rw [show isDg 46 = false from rfl] at Hdig;rw [e46] at Hdig;simp only [e46] at hix;have h46b:((46:Int) == 46) = true:=rfl;clear hcd hd e46;have Hbad:=hIh (fun hx=>HP.out.bad Hc.out hx)
    by_cases hn0:n = 0
    ·have Hnone:=hIh (Hbad.out (.inl hn0))
     have hnb:((n:Int) == 0) = true:=(by simp [hn0]);clear Hbad hn0;go_wp2_with (first | ((go_at_call 134);(refine (Hdig.out _).mono ?_);(rintro e w' ⟨rfl,hw'⟩);(obtain rfl:=hw')));go_ret2;exact ⟨0,30,rfl,.inr ⟨Hnone.out,by decide⟩,HB.out⟩
    ·have hnb:((n:Int) == 0) = false:=by simp;omega
     by_cases hd1:1 ≤ dots
     ·have Hnone:=hIh (Hbad.out (.inr (.inl hd1)))
      have hg:decide (1 < (dots:Int) + 1) = true:=decide_eq_true (by omega);have hg2:(1:Int) < (dots:Int) + 1:=(by omega);clear Hbad;go_wp2_with (first | ((go_at_call 134);(refine (Hdig.out _).mono ?_);(rintro e w' ⟨rfl,hw'⟩);(obtain rfl:=hw')));go_ret2;exact ⟨0,30,rfl,.inr ⟨Hnone.out,by decide⟩,HB.out⟩
     ·obtain rfl:dots = 0:=by omega
      by_cases hlen:l.length ≤ n + 1
      ·have Hnone:=hIh (Hbad.out (.inr (.inr (.inl hlen))))
       have hg:(l.length:Int) ≤ (n:Int) + 1:=(by omega);clear Hbad;go_wp2_with (first | ((go_at_call 134);(refine (Hdig.out _).mono ?_);(rintro e w' ⟨rfl,hw'⟩);(obtain rfl:=hw')));go_ret2;exact ⟨0,30,rfl,.inr ⟨Hnone.out,by decide⟩,HB.out⟩
      ·obtain ⟨c2,hc2⟩ : ∃ c2,l[n + 1]? = some c2:=⟨l[n + 1]'(by omega),by simp [show n + 1 < l.length from by omega]⟩
       have hix2:∀ W,(Instr.index 9 (.string S) (.int .i64 ((n:Int) + 1))).run Tryz.prog W = .ok (.int .u8 (c2.toNat:Int)) W:=fun W=>by
        rw [← HS.out];exact run_ix W l (n + 1) c2 hc2
       have Hdig2:=hIh (fun W=>digit_calls W c2);have hg:¬ (l.length:Int) ≤ (n:Int) + 1:=(by omega)
       by_cases hd2:isDg c2 = true
       ·have Hk:Hid (PPLoop w l (.int .i64 ((n:Int) + 1)) (.int .i64 1) (.slice A0 d.length c0) (.int .i64 b) wr):=
         ⟨n + 1,1,d,b,rfl,rfl,rfl,HP.out.dot Hc.out hn0 hc2 hd2,Hown.out,Hnew.out,HB.out⟩
        rw [hd2] at Hdig2;clear Hbad hc2 hd2 HP Hown Hnew HB Hc;go_wp2_with (first | ((go_at_call 134);(first | (refine (Hdig.out _).mono ?_) | (refine (Hdig2.out _).mono ?_));(rintro e w' ⟨rfl,hw'⟩);(obtain rfl:=hw')));go_roundw
        case rel=>exact Hk.out
        case measure=>simp [intOf];omega
       ·have hd3:isDg c2 = false:=by simpa using hd2
        have Hnone:=hIh (Hbad.out (.inr (.inr (.inr ⟨c2,hc2,hd3⟩))));rw [hd3] at Hdig2;clear Hbad hc2 hd2 hd3;go_wp2_with (first | ((go_at_call 134);(first | (refine (Hdig.out _).mono ?_) | (refine (Hdig2.out _).mono ?_));(rintro e w' ⟨rfl,hw'⟩);(obtain rfl:=hw')));go_ret2;exact ⟨0,30,rfl,.inr ⟨Hnone.out,by decide⟩,HB.out⟩
  ·have Hfin:=hIh (HP.out.fin (fun c hc=>⟨by cases h:isDg c with
    | false=>rfl
    | true=>exact absurd ⟨c,hc,.inl h⟩ hgo,fun e=>hgo ⟨c,hc,.inr e⟩⟩))
   go_upto_region 5 with fail
   go_cut [25] from 10 to 26 (fun v25 wx=>v25 = .bool false ∧ wx = wr)
   case first=>
    by_cases hlt:n < l.length
    ·have hltd:decide ((n:Int) < l.length) = true:=decide_eq_true (by omega)
     obtain ⟨c,hc⟩ : ∃ c,l[n]? = some c:=⟨l[n],by simp [hlt]⟩;have hix:∀ W,(Instr.index 9 (.string S) (.int .i64 (n:Int))).run Tryz.prog W = .ok (.int .u8 (c.toNat:Int)) W:=fun W=>(by rw [← HS.out];exact run_ix W l n c hc)
     have hd:isDg c = false:=by
      cases h:isDg c with
      | false=>rfl
      | true=>exact absurd ⟨c,hc,.inl h⟩ hgo
     have h46:¬ c.toNat = 46:=fun h=>hgo ⟨c,hc,.inr (UInt8.toNat_inj.1 h)⟩;have h46b:((c.toNat:Int) == 46) = false:=(by simp;omega);have Hdig:=hIh (fun W=>digit_calls W c);rw [hd] at Hdig;clear hgo hc hd Hfin;go_wp2_with (first | ((go_at_call 134);(refine (Hdig.out _).mono ?_);(rintro e w' ⟨rfl,hw'⟩);(obtain rfl:=hw')));go_meet
     case rel=>exact ⟨rfl,rfl⟩
    ·have hltd:decide ((n:Int) < l.length) = false:=decide_eq_false (by omega)
     clear hgo Hfin;go_wp2_with fail;go_meet
     case rel=>exact ⟨rfl,rfl⟩
   case rest=>
    obtain ⟨rfl,rfl⟩:=hcut;clear hgo
    by_cases hbadl:d.length < 1 ∨ 19 < d.length
    ·rw [if_pos hbadl] at Hfin
     have hcs:d.length < 1 ∨ (¬ d.length < 1 ∧ 19 < d.length):=(by omega);clear hbadl;rcases hcs with h1 | ⟨h1,h2⟩
     all_goals
      go_wp2;go_ret2;exact ⟨0,30,rfl,.inr ⟨Hfin.out,by decide⟩,HB.out⟩
    ·rw [if_neg hbadl] at Hfin
     have h1:¬ d.length < 1:=fun h=>hbadl (.inl h);have h2:¬ 19 < d.length:=fun h=>hbadl (.inr h)
     have hbound:b ≤ 18:=by
      have hPo:=HP.out;rcases (by omega:dots = 0 ∨ dots = 1) with e | e
      ·have:=hPo.hb0 e;omega
      ·have:=hPo.hb1 e;omega
     clear hbadl;go_wp2_with fail;refine (suffixes_calls _).mono ?_;rintro e w1 ⟨v,ents,rfl,htab,hrow,hw1⟩
     have hlen:ents.length = 12:=by
      have:=congrArg List.length htab;rw [tab_len5,List.length_map] at this;exact this
     obtain ⟨g,cg,rfl,hgl,hcells⟩:=hrow.some (by omega)
     have hent:∀ i (h:i < ents.length) (h' : i < (tabB 5).length),(tabB 5)[i] = (ents[i].name.data.toList,ents[i].val):=by
      intro i h h';have h3:(ents.map Ent.tab)[i]'(by simpa using h) = Ent.tab ents[i]:=(by simp);rw [← show Ent.tab ents[i] = (ents[i].name.data.toList,ents[i].val) from rfl,← h3]
      congr 1
      exact htab.symm
     rw [hlen];have Hlen:=hIh hlen;have Hcells:=hIh hcells;have Hent:=hIh hent;have Hrow:=hIh hrow;have H1:=hIh (HB.out.trans (hw1.mono HB.out.size));have Hst2:Hid (SLk w l n (.int .i64 0) w1):=⟨0,by omega,rfl,fun j h hj=>by omega,H1.out⟩;have Hrd:=hIh ((RdI.of_own Hown.out).below hw1);have HW1:=hIh hw1;clear hlen hcells hent hrow hw1 htab;go_wp2
     go_loopw [9] (fun v9 wx=>SLk w1 l n v9 wx ∧ Below w1.heap.size w1 wx) (fun i _=>12 - (intOf i).toNat)
     case atStart=>exact ⟨⟨0,by omega,rfl,fun j h hj=>by omega,Below.refl _ _⟩,Below.refl _ _⟩
     case round=>
      clear Hst2;obtain ⟨⟨i,hi,rfl,hno,hB⟩, -⟩:=hrel;have Hno:=hIh hno;have HBx:=hIh hB;clear hno
      by_cases hlt:i < 12
      ·have hie:i < ents.length:=by have:=Hlen.out;omega
       have hit:i < (tabB 5).length:=(by rw [tab_len5];exact hlt);obtain ⟨q1,q2⟩:=Hcells.out i hie;have he:=Hent.out i hie hit;obtain ⟨hv0,hrv, -⟩:=Hrow.out.2 ents[i] (List.getElem_mem hie);have r1:=(hB.cell (p:=⟨g,i * 2,none⟩) hgl).trans q1;have r2:=(hB.cell (p:=⟨g,i * 2 + 1,none⟩) hgl).trans q2;have hmem:(tabB 5)[i] ∈ tabB 5:=List.getElem_mem hit;generalize hnm:ents[i].name = nm at q1 r1 he;generalize hlv:ents[i].lv = lv at q2 r2 hrv;generalize hvl:ents[i].val = fv at hv0 hrv he;obtain ⟨Al,kl,rfl⟩:=hrv.slice
       have hfl:(dig fv).length ≤ 1000:=by
        have h3:=tab_vals _ hmem;rw [he] at h3;have h4:(dig fv).length ≤ 19:=dig_len_le h3;omega
       have hsl:∀ W,(Instr.slice 9 (.string S) (some (.int .i64 (n:Int))) none none).run Tryz.prog W = .ok (.string (sb (l.drop n))) W:=fun W=>(by rw [← HS.out];exact run_slF W l n hn);have hltd:decide ((i:Int) < 12) = true:=decide_eq_true (by omega);have hi12:(i:Int) < 12:=(by omega);have hi0:(0:Int) ≤ i:=(by omega);have Hrv:=hIh hrv;have Hmem:=hIh hmem;have He:=hIh he;clear hrv hmem he hnm hlv hvl hB q1 q2;generalize hsn:sb (l.drop n) = sn at hsl;have Hsn:=hIh hsn;clear hsn
       by_cases hq:nm = sn
       ·subst hq
        have hqb:=beqT' nm;go_wp2;go_quiet (fail);go_wp2_with fail;have HP2:=hIh (H1.out.trans ((drewB HBx.out nq).mono H1.out.size));refine (parsed_calls _ _ _ d b fv (Rd.below (Rd.below Hrd.out HBx.out) (drewB (Below.refl _ _) nq)) HP.out.hD (by omega) hbound (Rd.below (Rd.below Hrv.out HBx.out) (drewB (Below.refl _ _) nq)) hfl).mono ?_;rintro e w5 ⟨v5,ec5,rfl,hres,hw5⟩
        have Hres:Hid (QRes (rscan l) v5 ec5):=by
         have hk:((tabB 5)[i].1,fv) ∈ tabB 5:=by
          have:=Hmem.out;rw [He.out] at this ⊢;exact this
         have hname:(tabB 5)[i].1 = l.drop n:=by
          rw [He.out];show nm.data.toList = _;rw [← Hsn.out];rfl
         rw [hname] at hk;have h3:=Hfin.out;rw [tab_look hk] at h3;show QRes _ _ _;rw [h3];exact hres
        have H5:=hIh (HP2.out.trans (hw5.mono HP2.out.size));clear hres hw5;go_wp2;go_ret2;exact ⟨_,_,rfl,Hres.out,H5.out⟩
       ·have hqb:=beqF' hq
        have Hk:Hid (∀ m,SLk w1 l n (.int .i64 ((i:Int) + 1)) (wr.drewN m) ∧ Below w1.heap.size w1 (wr.drewN m)):=fun m=>by
         refine ⟨⟨i + 1,by omega,rfl,fun j h hj=>?_,drewB HBx.out m⟩,drewB HBx.out m⟩
         by_cases e:j = i
         ·subst e
          intro e2
          apply hq
          rw [← Hsn.out,← e2,He.out];rfl
         ·exact Hno.out j h (by omega)
        go_wp2;go_quiet (fail);go_wp2;go_roundw
        case rel=>exact Hk.out _
        case measure=>simp [intOf];omega
      ·have hltd:decide ((i:Int) < 12) = false:=decide_eq_false (by omega)
       have Hnone:Hid (rscan l = none):=by
        show _ = _;rw [Hfin.out,tab_none]
        ·rfl
        ·intro e he
         obtain ⟨j,hj,rfl⟩:=List.getElem_of_mem he;exact Hno.out j hj (by rw [tab_len5] at hj;omega)
       have H5:=hIh (H1.out.trans (hB.mono H1.out.size));clear hB;go_wp2;go_ret2;exact ⟨0,30,rfl,.inr ⟨Hnone.out,by decide⟩,H5.out⟩
end Go.Proofs.YtpfkkagkbneilaaGreatDoor
