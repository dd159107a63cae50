/- Texts H2, H3, H4 of the proof of BursarChecks, joined. -/
import Derived.Test.YtpfkkagkbneilaaGreatDoorV7
namespace Go.Proofs.YtpfkkagkbneilaaGreatDoor
open Go.RowKit
set_option linter.unusedVariables false
set_option linter.unusedSimpArgs false
set_option maxRecDepth 100000
set_option maxHeartbeats 25600000
structure CSt (l:Str) (c:UInt8) (i from_:Nat) (done:List Str):Prop where
 hi:i ≤ l.length + 1
 hf:from_ ≤ i
 hd:done.length ≤ i
 mid:i ≤ l.length → c ∉ (l.drop from_).take (i - from_) ∧ pieces c l = done ++ pieces c (l.drop from_)
 fin:i = l.length + 1 → done = pieces c l
theorem CSt.hit {l:Str} {c:UInt8} {i f:Nat} {done:List Str} (h:CSt l c i f done) (hc:l[i]? = some c):CSt l c (i + 1) (i + 1) (done ++ [(l.drop f).take (i - f)]):=by
 obtain ⟨hlt,hc⟩:=List.getElem?_eq_some_iff.1 hc;obtain ⟨h1,h2⟩:=h.mid (by omega);have hf:=h.hf;refine ⟨by omega,Nat.le_refl _,by have:=h.hd;simp;omega,fun _=>⟨by simp,?_⟩,fun e=>by omega⟩
 have e:l.drop f = (l.drop f).take (i - f) ++ c :: l.drop (i + 1):=by
  have e1:l.drop f = (l.drop f).take (i - f) ++ (l.drop f).drop (i - f):=(List.take_append_drop _ _).symm;rw [List.drop_drop,show f + (i - f) = i by omega,List.drop_eq_getElem_cons hlt,hc] at e1;exact e1
 rw [h2]
 conv=>lhs;rw [e,pieces_app h1]
 simp
theorem CSt.last {l:Str} {c:UInt8} {f:Nat} {done:List Str} (h:CSt l c l.length f done):CSt l c (l.length + 1) (l.length + 1) (done ++ [(l.drop f).take (l.length - f)]):=by
 obtain ⟨h1,h2⟩:=h.mid (Nat.le_refl _);have hf:=h.hf;refine ⟨Nat.le_refl _,Nat.le_refl _,by have:=h.hd;simp;omega,fun e=>by omega,fun _=>?_⟩;have e:(l.drop f).take (l.length - f) = l.drop f:=List.take_of_length_le (by rw [List.length_drop];omega);rw [e] at h1 ⊢;rw [h2,pieces_free h1]
theorem CSt.skip {l:Str} {c d:UInt8} {i f:Nat} {done:List Str} (h:CSt l c i f done) (hd:l[i]? = some d) (hne:d ≠ c):CSt l c (i + 1) f done:=by
 obtain ⟨hlt,hd⟩:=List.getElem?_eq_some_iff.1 hd;obtain ⟨h1,h2⟩:=h.mid (by omega);have hf:=h.hf;refine ⟨by omega,by omega,by have:=h.hd;omega,fun _=>⟨?_,h2⟩,fun e=>by omega⟩
 have e:(l.drop f).take (i + 1 - f) = (l.drop f).take (i - f) ++ [d]:=by
  rw [show i + 1 - f = i - f + 1 by omega,List.take_add_one,List.getElem?_drop,show f + (i - f) = i by omega,List.getElem?_eq_getElem hlt,hd]
  rfl
 rw [e,List.mem_append];rintro (h3 | h3)
 ·exact h1 h3
 ·exact hne (List.mem_singleton.1 h3).symm
def PcLoop (w:World) (l:Str) (c:UInt8) (v5 v6 v7:Value) (w1:World):Prop := ∃ (i f:Nat) (done:List Str),v6 = .int .i64 f ∧ v7 = .int .i64 i ∧ CSt l c i f done ∧
 w1.ownsRow 0 9 1 v5 done.length (done.flatMap strC) ∧ (∀ k,v5.ownBlock = some k → w.heap.size ≤ k) ∧ Below w.heap.size w w1
theorem pieces_calls (w:World) (l:Str) (c:UInt8) (hl:l.length ≤ 1048576) :
  Calls Tryz.prog 107 #[.string (sb l),.int .u8 (c.toNat:Int)] w fun e w' => ∃ v,e = .returned v ∧ RdT w' v (pieces c l) ∧ (∀ k,v.ownBlock = some k → w.heap.size ≤ k) ∧ Below w.heap.size w w':=by
 have hsz:(sb l).size = l.length:=sb_size l
 have Hst:Hid (PcLoop w l c (.slice none 0 0) (.int .i64 0) (.int .i64 0) w):=
  ⟨0,0, [],rfl,rfl,⟨by omega,by omega,by simp,fun _=>by simp,fun h=>by omega⟩,World.ownsRow_nil _ _ _ _,(fun k hk=>by cases hk),Below.refl _ _⟩
 have Hsl:Hid (∀ i j,i ≤ j → j ≤ l.length → ∀ W,(Instr.slice 9 (.string (sb l)) (some (.int .i64 (i:Int))) (some (.int .i64 (j:Int))) none).run Tryz.prog W = .ok (.string (sb ((l.drop i).take (j - i)))) W):=fun i j h1 h2 W=>run_sl W l i j h1 h2;have Hix:Hid (∀ (i:Nat) (c:UInt8) W,l[i]? = some c → (Instr.index 9 (.string (sb l)) (.int .i64 (i:Int))).run Tryz.prog W = .ok (.int .u8 (c.toNat:Int)) W):=fun i c W h=>run_ix W l i c h;generalize hS:sb l = S at hsz Hix Hsl;clear hS;go_enter Tryz.func107,Tryz.ntmps107;go_wp2
 go_loopw [5,6,7] (fun v5 v6 v7 w1=>PcLoop w l c v5 v6 v7 w1) (fun _ _ i _=>l.length + 1 - (intOf i).toNat)
 case atStart=>exact Hst.out
 case round=>
  clear Hst;obtain ⟨i,f,done,rfl,rfl,hP,hown,hnew,hB⟩:=hrel;obtain ⟨A0,c0,rfl⟩:=own_slice hown;have hi:=hP.hi;have hf:=hP.hf;have hdn:=hP.hd;have HP:=hIh hP;have Hnew:=hIh hnew;have HB:=hIh hB;have Hown:=hIh hown
  have Hgo:Hid (∀ (n' f' : Nat) (W w2:World) (x:Str) (o:Obj) (v' : Value),W = wr.alloc o → CSt l c n' f' (done ++ [x]) → w2.ownsRow 0 9 1 v' (done.length + 1) (done.flatMap strC ++ [x].flatMap strC) → W.grownBy w2 (Value.slice A0 done.length c0).ownBlock → (∀ k,v'.ownBlock = some k → (Value.slice A0 done.length c0).ownBlock = some k ∨ wr.heap.size + 1 ≤ k) → PcLoop w l c v' (.int .i64 f') (.int .i64 n') w2):=fun n' f' W w2 x o v' hW hC ho hg hn=>by
   subst hW;have hs:=hB.size;refine ⟨n',f',done ++ [x],rfl,rfl,hC,?_,?_,?_⟩
   ·rw [List.length_append,flat_app];exact ho
   ·intro k hk
    rcases hn k hk with h1 | h1
    ·exact hnew k h1
    ·have h2:wr.heap.size + 1 ≤ k:=by simpa using h1
     omega
   ·exact (hB.alloc hs _).grown hg (by simp;omega) (fun k hk=>hnew k hk)
  clear hP hnew hB hown
  by_cases hend:i = l.length + 1
  ·have Hfin:=hIh (HP.out.fin hend)
   have hg:¬ (i:Int) ≤ l.length:=(by omega);clear hend Hgo;go_wp2;go_ret;refine ⟨_,rfl,?_,Hnew.out,HB.out⟩;rw [← Hfin.out];exact RdS.of_own Hown.out
  ·have hg:(i:Int) ≤ l.length:=by omega
   by_cases hlast:i = l.length
   ·subst hlast
    have Hk:=hIh HP.out.last;have hsl:=Hsl.out f l.length hf (Nat.le_refl _);have hb:((l.length:Int) == l.length) = true:=(by simp);generalize (l.drop f).take (l.length - f) = X at hsl Hk;clear hend;go_wp2_with (at_builtin;refine wpList_append2 _ rfl (.tmp 25) (.tmp 30) 59 rfl 9 (.string ⟨#[]⟩) 1 16 Tryz.underlying59 infoStr rfl (by decide) _ done.length (done.flatMap strC) rfl (Hown.out.alloc _) _ 1 ([X].flatMap strC) rfl ?c1 ?c4 ?c2 ?c3 ?_)
    case c1=>exact rd_oneS _ _ _
    case c4=>exact flat_one strC strC_one [X]
    case c2=>unfold maxLen;omega
    case c3=>omega
    intro v' w2 ho2 hg2 hn2 _;have Hk2:Hid (PcLoop w l c v' (.int .i64 ((l.length:Int) + 1)) (.int .i64 ((l.length:Int) + 1)) w2):=Hgo.out (l.length + 1) (l.length + 1) _ w2 X _ v' rfl Hk.out ho2 hg2 hn2;clear ho2 hg2 hn2 Hk Hgo;go_wp2;go_roundw
    case rel=>exact Hk2.out
    case measure=>simp [intOf]
   ·obtain ⟨d,hd⟩ : ∃ d,l[i]? = some d:=⟨l[i]'(by omega),by simp [show i < l.length by omega]⟩
    have hix:=fun W=>Hix.out i d W hd;have hb:((i:Int) == l.length) = false:=(by simp;omega)
    by_cases hdc:d = c
    ·subst hdc
     have Hk:=hIh (HP.out.hit hd);have hsl:=Hsl.out f i hf (by omega);have hb2:((d.toNat:Int) == d.toNat) = true:=(by simp);generalize (l.drop f).take (i - f) = X at hsl Hk;clear hd hend hlast;go_wp2_with (at_builtin;refine wpList_append2 _ rfl (.tmp 25) (.tmp 30) 59 rfl 9 (.string ⟨#[]⟩) 1 16 Tryz.underlying59 infoStr rfl (by decide) _ done.length (done.flatMap strC) rfl (Hown.out.alloc _) _ 1 ([X].flatMap strC) rfl ?c1 ?c4 ?c2 ?c3 ?_)
     case c1=>exact rd_oneS _ _ _
     case c4=>exact flat_one strC strC_one [X]
     case c2=>unfold maxLen;omega
     case c3=>omega
     intro v' w2 ho2 hg2 hn2 _;have Hk2:Hid (PcLoop w l d v' (.int .i64 ((i:Int) + 1)) (.int .i64 ((i:Int) + 1)) w2):=Hgo.out (i + 1) (i + 1) _ w2 X _ v' rfl Hk.out ho2 hg2 hn2;clear ho2 hg2 hn2 Hk Hgo;go_wp2;go_roundw
     case rel=>exact Hk2.out
     case measure=>simp [intOf];omega
    ·have hb2:((d.toNat:Int) == c.toNat) = false:=by
      rw [beq_eq_false_iff_ne];intro e;exact hdc (UInt8.toNat_inj.1 (by omega))
     have Hk2:Hid (PcLoop w l c (.slice A0 done.length c0) (.int .i64 f) (.int .i64 ((i:Int) + 1)) wr):=⟨i + 1,f,done,rfl,rfl,HP.out.skip hd hdc,Hown.out,Hnew.out,HB.out⟩;clear hd hend hlast Hgo hdc;go_wp2;go_roundw
     case rel=>exact Hk2.out
     case measure=>simp [intOf];omega
def okVal (l:List Str) (i:Nat):Bool:=(isNm (l.getD i []) || (l.getD i [] == [] && l.length == 1)) && !(l.take i).contains (l.getD i [])
theorem bel_alloc (w:World) (o:Obj):Below w.heap.size w (w.alloc o):=(Below.refl _ _).alloc (Nat.le_refl _) o
def RvvLoop (l:List Str) (i:Nat) (v6:Value):Prop := ∃ j:Nat,j ≤ i ∧ v6 = .int .i64 j ∧ ∀ k,k < j → l.getD k [] ≠ l.getD i []
theorem mem_take_getD {l:List Str} {i:Nat} (hi:i ≤ l.length) {x:Str}:x ∈ l.take i ↔ ∃ k,k < i ∧ l.getD k [] = x:=by
 rw [List.mem_iff_getElem?]
 constructor
 ·rintro ⟨k,hk⟩
  rw [List.getElem?_take] at hk
  split at hk
  ·rename_i h
   exact ⟨k,h,by simp [List.getD,hk]⟩
  ·cases hk
 ·rintro ⟨k,h1,h2⟩
  refine ⟨k,?_⟩;rw [List.getElem?_take,if_pos h1,List.getElem?_eq_getElem (by omega)];simp [List.getD,List.getElem?_eq_getElem (show k < l.length by omega)] at h2;rw [h2]
theorem rvalue_calls (w:World) (key:ByteArray) (how:Int) (vv:Value) (l:List Str) (hv:RdT w vv l) (i:Nat) (hi:i < l.length) (hl:l.length ≤ 8) :
  Calls Tryz.prog 188 #[.agg #[.string key,.int .i64 how,vv],.int .i64 i] w fun e w'=>e = .returned (.bool (okVal l i)) ∧ Below w.heap.size w w':=by
 obtain ⟨b,off,c,rfl,hlc,hb,hcell⟩:=hv.some (by intro e;rw [e] at hi;simp at hi);have HB0:=hIh (bel_alloc w (.cells #[.string key,.int .i64 how,.slice (some ⟨b,off,none⟩) l.length c] 98));have Hbx:=hIh (blk_new w (.cells #[.string key,.int .i64 how,.slice (some ⟨b,off,none⟩) l.length c] 98))
 have Hcell:Hid (∀ j,j < l.length → (w.alloc (.cells #[.string key,.int .i64 how,.slice (some ⟨b,off,none⟩) l.length c] 98)).cell? ⟨b,off + j,none⟩ = some (.string (sb (l.getD j [])))):=fun j hj=>by
  rw [HB0.out.cell (p:=⟨b,off + j,none⟩) hb,hcell j hj];simp [List.getD,hj]
 obtain ⟨c0,c1,c2, -⟩:=cells3 Hbx.out;have hci:=Hcell.out i hi;have Hnm:=hIh (fun W=>rname_calls W (l.getD i []));have Hst:Hid (RvvLoop l i (.int .i64 0)):=⟨0,by omega,rfl,fun k h=>by omega⟩
 have hil:(i:Int) < l.length:=by omega
 have hi0:(0:Int) ≤ i:=by omega
 generalize hV:l.getD i [] = V at hci Hnm;have HV:=hIh hV;clear hV hv hcell;generalize hSV:sb V = SV at hci Hnm;have HSV:=hIh hSV;clear hSV;go_enter Tryz.func188,Tryz.ntmps188;go_wp2
 go_loop [6] (fun v6=>RvvLoop l i v6) (fun j=>i - (intOf j).toNat)
 case atStart=>exact Hst.out
 case round=>
  clear Hst;obtain ⟨j,hj,rfl,hno⟩:=hrel;have Hno:=hIh hno;clear hno
  by_cases hlt:j < i
  ·have hlti:(j:Int) < i:=by omega
   have hj0:(0:Int) ≤ j:=(by omega);have hjl:(j:Int) < l.length:=(by omega);have hcj:=Hcell.out j (by omega)
   by_cases he:l.getD j [] = V
   ·have Hres:Hid (okVal l i = false):=by
     show _ = _;unfold okVal;rw [HV.out];have:V ∈ l.take i:=(mem_take_getD (by omega)).2 ⟨j,hlt,he⟩;simp [this]
    rw [he,HSV.out] at hcj;have hbe:=beqT' SV;clear he;go_wp2;go_ret;exact ⟨by rw [Hres.out];rfl,HB0.out⟩
   ·have Hk:Hid (RvvLoop l i (.int .i64 ((j:Int) + 1))):=⟨j + 1,by omega,rfl,fun k hk=>by
     by_cases e:k = j
     ·subst e;rw [HV.out];exact he
     ·exact Hno.out k (by omega)⟩
    have hbe:((sb (l.getD j [])).toList == SV.toList) = false:=beqF' (by rw [← HSV.out];intro e;exact he (sb_inj.1 e));generalize sb (l.getD j []) = SJ at hcj hbe;clear he;go_wp2;go_round
    case rel=>exact Hk.out
    case measure=>simp [intOf];omega
  ·have hlti:¬ (j:Int) < i:=by omega
   have Hnot:Hid (V ∉ l.take i):=fun hm=>by
    obtain ⟨k,h1,h2⟩:=(mem_take_getD (by omega)).1 hm;exact Hno.out k (by omega) (by rw [HV.out];exact h2)
   have Hok:Hid (okVal l i = (isNm V || (V == [] && l.length == 1))):=by
    show _ = _;unfold okVal;rw [HV.out];simp [Hnot.out]
   clear hj hlt
   by_cases hn:isNm V = true
   ·rw [hn] at Hnm Hok
    go_wp2_with (go_at_call 187;with_reducible refine (Hnm.out _).mono ?_;rintro e w1 ⟨rfl,hw1⟩;obtain rfl:=hw1);go_ret;exact ⟨by rw [Hok.out];rfl,HB0.out⟩
   ·have hn2:isNm V = false:=(Bool.not_eq_true _).mp hn
    rw [hn2] at Hnm Hok
    by_cases he:V = []
    ·have h1:SV.toList.isEmpty = true:=by rw [← HSV.out,sb_toL,he];rfl
     have h2:SV.toList = []:=(by rw [← HSV.out,sb_toL,he]);have h3:(V == []) = true:=(by rw [he];rfl);have h4:(SV.toList == []) = true:=(by rw [h2];rfl);rw [h3] at Hok
     by_cases hle:l.length = 1
     ·have hb1:((l.length:Int) == 1) = true:=by simp [hle]
      have h5:(l.length == 1) = true:=(by simp [hle]);rw [h5] at Hok;clear hn hn2 he h3 h5 hle;go_wp2_with (go_at_call 187;with_reducible refine (Hnm.out _).mono ?_;rintro e w1 ⟨rfl,hw1⟩;obtain rfl:=hw1);go_ret;exact ⟨by rw [Hok.out];rfl,HB0.out⟩
     ·have hb1:((l.length:Int) == 1) = false:=by simp;omega
      have h5:(l.length == 1) = false:=(by simp [hle]);rw [h5] at Hok;clear hn hn2 he h3 h5 hle;go_wp2_with (go_at_call 187;with_reducible refine (Hnm.out _).mono ?_;rintro e w1 ⟨rfl,hw1⟩;obtain rfl:=hw1);go_ret;exact ⟨by rw [Hok.out];rfl,HB0.out⟩
    ·have h2:¬ SV.toList = []:=by rw [← HSV.out,sb_toL];exact he
     have h1:SV.toList.isEmpty = false:=by
      cases hx:SV.toList with
      | nil=>exact absurd hx h2
      | cons a r=>rfl
     have h3:(V == []) = false:=(by simpa using he);have h4:(SV.toList == []) = false:=(by simpa using h2);rw [h3] at Hok;clear hn hn2 he h3;go_wp2_with (go_at_call 187;with_reducible refine (Hnm.out _).mono ?_;rintro e w1 ⟨rfl,hw1⟩;obtain rfl:=hw1);go_ret;exact ⟨by rw [Hok.out];rfl,HB0.out⟩
theorem valsOk_eq (l:List Str):valsOk l = (decide (1 ≤ l.length) && decide (l.length ≤ 8) && (List.range l.length).all fun i=>okVal l i):=rfl
def TLoop (w:World) (l:List Str) (v4:Value) (w1:World):Prop := ∃ i:Nat,i ≤ l.length ∧ v4 = .int .i64 i ∧ (∀ k,k < i → okVal l k = true) ∧ Below w.heap.size w w1
theorem rterm_calls (w:World) (t:Tm) (vv:Value) (hv:RdT w vv t.vals) :
  Calls Tryz.prog 165 #[.agg #[.string (sb t.key),.int .i64 (t.how:Int),vv]] w fun e w'=>e = .returned (.bool (tmOk t)) ∧ Below w.heap.size w w':=by
 obtain ⟨key,how,vals⟩:=t;simp only at hv ⊢;obtain ⟨A,c,rfl⟩:=hv.slice;have HB0:=hIh (bel_alloc w (.cells #[.string (sb key),.int .i64 (how:Int),.slice A vals.length c] 98));have Hbx:=hIh (blk_new w (.cells #[.string (sb key),.int .i64 (how:Int),.slice A vals.length c] 98));obtain ⟨c0,c1,c2, -⟩:=cells3 Hbx.out;have Hnm:=hIh (fun W=>rname_calls W key);have Hrd:=hIh hv;generalize hSK:sb key = SK at HB0 Hbx c0 c1 c2 Hnm;have HSK:=hIh hSK;have Hspec:Hid (tmOk ⟨key,how,vals⟩ = (isNm key && decide (how ≤ 3) && (if 2 ≤ how then vals == [] else valsOk vals))):=rfl;clear hSK hv
 by_cases hk:isNm key = true
 case neg=>
  have hk2:isNm key = false:=(Bool.not_eq_true _).mp hk;rw [hk2] at Hnm Hspec
  have Hres:Hid (tmOk ⟨key,how,vals⟩ = false):=by show _ = _;rw [Hspec.out];rfl
  clear hk hk2 Hspec;go_enter Tryz.func165,Tryz.ntmps165;go_wp2_with (go_at_call 187;with_reducible refine (Hnm.out _).mono ?_;rintro e w1 ⟨rfl,hw1⟩;obtain rfl:=hw1);go_ret;exact ⟨by rw [Hres.out];rfl,HB0.out⟩
 rw [hk] at Hnm Hspec
 have h0:¬ (how:Int) < 0:=by omega
 have h0b:decide ((how:Int) < 0) = false:=decide_eq_false h0
 by_cases h3:how ≤ 3
 case neg=>
  have Hres:Hid (tmOk ⟨key,how,vals⟩ = false):=by show _ = _;rw [Hspec.out];simp [h3]
  have g:3 < (how:Int):=by omega
  have gb:decide (3 < (how:Int)) = true:=decide_eq_true g;clear hk Hspec;go_enter Tryz.func165,Tryz.ntmps165;go_wp2_with (go_at_call 187;with_reducible refine (Hnm.out _).mono ?_;rintro e w1 ⟨rfl,hw1⟩;obtain rfl:=hw1);go_ret;exact ⟨by rw [Hres.out];rfl,HB0.out⟩
 have g3:¬ 3 < (how:Int):=by omega
 have g3b:decide (3 < (how:Int)) = false:=decide_eq_false g3
 by_cases h2:2 ≤ how
 ·have Hres:Hid (tmOk ⟨key,how,vals⟩ = (vals == [])):=by show _ = _;rw [Hspec.out];simp [h3,h2]
  have g:1 < (how:Int):=by omega
  clear hk Hspec
  by_cases hvn:vals.length = 0
  ·have hb:((vals.length:Int) == 0) = true:=by simp [List.length_eq_zero_iff.1 hvn]
   have hb2:(vals == []) = true:=(by rw [List.length_eq_zero_iff.1 hvn];rfl);rw [hb2] at Hres;clear hb2 hvn;go_enter Tryz.func165,Tryz.ntmps165;go_wp2_with (go_at_call 187;with_reducible refine (Hnm.out _).mono ?_;rintro e w1 ⟨rfl,hw1⟩;obtain rfl:=hw1);go_ret;exact ⟨by rw [Hres.out];rfl,HB0.out⟩
  ·have hb:((vals.length:Int) == 0) = false:=by simp;intro e;exact hvn (by rw [e];rfl)
   have hb2:(vals == []) = false:=(by simp;intro e;exact hvn (by rw [e];rfl));rw [hb2] at Hres;clear hb2 hvn;go_enter Tryz.func165,Tryz.ntmps165;go_wp2_with (go_at_call 187;with_reducible refine (Hnm.out _).mono ?_;rintro e w1 ⟨rfl,hw1⟩;obtain rfl:=hw1);go_ret;exact ⟨by rw [Hres.out];rfl,HB0.out⟩
 have Hspec2:Hid (tmOk ⟨key,how,vals⟩ = valsOk vals):=by show _ = _;rw [Hspec.out];simp [h3,h2]
 have g2:¬ 1 < (how:Int):=by omega
 clear hk Hspec
 by_cases hl1:vals.length < 1
 ·have g:(vals.length:Int) < 1:=by omega
  have gb:decide ((vals.length:Int) < 1) = true:=decide_eq_true g
  have Hres:Hid (tmOk ⟨key,how,vals⟩ = false):=by
   show _ = _;rw [Hspec2.out,valsOk_eq,decide_eq_false (by omega:¬ 1 ≤ vals.length)];rfl
  go_enter Tryz.func165,Tryz.ntmps165;go_wp2_with (go_at_call 187;with_reducible refine (Hnm.out _).mono ?_;rintro e w1 ⟨rfl,hw1⟩;obtain rfl:=hw1);go_ret;exact ⟨by rw [Hres.out];rfl,HB0.out⟩
 have q1:¬ (vals.length:Int) < 1:=by omega
 have q1b:decide ((vals.length:Int) < 1) = false:=decide_eq_false q1
 by_cases hl8:8 < vals.length
 ·have g:8 < (vals.length:Int):=by omega
  have gb:decide (8 < (vals.length:Int)) = true:=decide_eq_true g
  have Hres:Hid (tmOk ⟨key,how,vals⟩ = false):=by
   show _ = _;rw [Hspec2.out,valsOk_eq,decide_eq_false (by omega:¬ vals.length ≤ 8),Bool.and_false];rfl
  go_enter Tryz.func165,Tryz.ntmps165;go_wp2_with (go_at_call 187;with_reducible refine (Hnm.out _).mono ?_;rintro e w1 ⟨rfl,hw1⟩;obtain rfl:=hw1);go_ret;exact ⟨by rw [Hres.out];rfl,HB0.out⟩
 have q8:¬ 8 < (vals.length:Int):=by omega
 have q8b:decide (8 < (vals.length:Int)) = false:=decide_eq_false q8
 have Hspec3:Hid (tmOk ⟨key,how,vals⟩ = (List.range vals.length).all fun i=>okVal vals i):=by
  show _ = _;rw [Hspec2.out,valsOk_eq,decide_eq_true (by omega:1 ≤ vals.length),decide_eq_true (by omega:vals.length ≤ 8)];rfl
 clear Hspec2;have Hst:Hid (TLoop (w.alloc (.cells #[.string SK,.int .i64 (how:Int),.slice A vals.length c] 98)) vals (.int .i64 0) (w.alloc (.cells #[.string SK,.int .i64 (how:Int),.slice A vals.length c] 98))):=⟨0,by omega,rfl,fun k h=>by omega,Below.refl _ _⟩;go_enter Tryz.func165,Tryz.ntmps165;go_wp2_with (go_at_call 187;with_reducible refine (Hnm.out _).mono ?_;rintro e w1 ⟨rfl,hw1⟩;obtain rfl:=hw1)
 go_loopw [3,4] (fun v3 v4 w1=>TLoop (w.alloc (.cells #[.string SK,.int .i64 (how:Int),.slice A vals.length c] 98)) vals v4 w1) (fun _ i _=>vals.length - (intOf i).toNat)
 case atStart=>exact Hst.out
 case round=>
  clear Hst;obtain ⟨i,hi,rfl,hno,hB⟩:=hrel;have Hno:=hIh hno;have HB:=hIh hB;obtain ⟨d0,d1,d2, -⟩:=cells3 (blk_below Hbx.out hB);have HW:Hid (Below w.heap.size w wr):=HB0.out.trans (hB.mono HB0.out.size);clear hno c0 c1 c2
  by_cases hlt:i < vals.length
  ·have hli:(i:Int) < vals.length:=by omega
   have Hval:=hIh (rvalue_calls wr SK how (.slice A vals.length c) vals (Hrd.out.below HW.out) i hlt (by omega))
   by_cases ho:okVal vals i = true
   ·rw [ho] at Hval
    have Hk:Hid (∀ W,Below wr.heap.size wr W → TLoop (w.alloc (.cells #[.string SK,.int .i64 (how:Int),.slice A vals.length c] 98)) vals (.int .i64 ((i:Int) + 1)) W):=fun W hW=>⟨i + 1,hlt,rfl,fun k hk=>by
     by_cases e:k = i
     ·subst e;exact ho
     ·exact Hno.out k (by omega),HB.out.trans (hW.mono HB.out.size)⟩
    clear ho;go_wp2_with (go_at_call 188;with_reducible refine Hval.out.mono ?_;rintro e w1 ⟨rfl,hw1⟩);go_roundw
    case rel=>exact Hk.out _ hw1
    case measure=>simp [intOf];omega
   ·have ho2:okVal vals i = false:=(Bool.not_eq_true _).mp ho
    rw [ho2] at Hval
    have Hres:Hid (tmOk ⟨key,how,vals⟩ = false):=by
     show _ = _;rw [Hspec3.out,List.all_eq_false];exact ⟨i,List.mem_range.2 hlt,by simp [ho2]⟩
    clear ho ho2;go_wp2_with (go_at_call 188;with_reducible refine Hval.out.mono ?_;rintro e w1 ⟨rfl,hw1⟩);go_ret;exact ⟨by rw [Hres.out];rfl,HW.out.trans (hw1.mono HW.out.size)⟩
  ·have hli:¬ (i:Int) < vals.length:=by omega
   have Hres:Hid (tmOk ⟨key,how,vals⟩ = true):=by
    show _ = _;rw [Hspec3.out,List.all_eq_true];intro k hk;exact Hno.out k (by have:=List.mem_range.1 hk;omega)
   clear hi;go_wp2;go_ret;exact ⟨by rw [Hres.out];rfl,HW.out⟩
def tmC (e:Tm × Value):List Value := [.string (sb e.1.key),.int .i64 (e.1.how:Int),e.2]
theorem tmC_len (e:Tm × Value):(tmC e).length = 3:=rfl
def TRow (w:World) (v:Value) (l:List (Tm × Value)):Prop:=RdS tmC 3 w v l ∧ ∀ e ∈ l,RdT w e.2 e.1.vals
theorem TRow.below {w w1:World} {v:Value} {l:List (Tm × Value)} (h:TRow w v l) (hb:Below w.heap.size w w1):TRow w1 v l:=⟨RdS.below h.1 hb,fun e he=>RdS.below (h.2 e he) hb⟩
def tmsOk (l:List (Tm × Value)):Bool:=(l.map Prod.fst).all tmOk && decide (l.length ≤ 8)
theorem TRow.at {w:World} {v:Value} {l:List (Tm × Value)} (h:TRow w v l) (i:Nat) (hi:i < l.length) :
  ∃ b off c,v = .slice (some ⟨b,off,none⟩) l.length c ∧ b < w.heap.size ∧ w.cell? ⟨b,off + i * 3,none⟩ = some (.string (sb l[i].1.key)) ∧ w.cell? ⟨b,off + i * 3 + 1,none⟩ = some (.int .i64 (l[i].1.how:Int)) ∧ w.cell? ⟨b,off + i * 3 + 2,none⟩ = some l[i].2:=by
 obtain ⟨b,off,c,h1,h2,h3,h4⟩:=h.1.cells tmC_len (by decide) i hi;exact ⟨b,off,c,h1,h3,h4 0 _ (by decide) rfl,h4 1 _ (by decide) rfl,h4 2 _ (by decide) rfl⟩
def TsLoop (w:World) (l:List (Tm × Value)) (v3:Value) (w1:World):Prop := ∃ i:Nat,i ≤ l.length ∧ v3 = .int .i64 i ∧ (∀ k (h:k < l.length),k < i → tmOk l[k].1 = true) ∧ Below w.heap.size w w1
theorem rterms_calls (w:World) (v:Value) (l:List (Tm × Value)) (hv:TRow w v l) (hl:l.length ≤ 4194304) :
  Calls Tryz.prog 137 #[v] w fun e w'=>e = .returned (.bool (tmsOk l)) ∧ Below w.heap.size w w':=by
 obtain ⟨A,c,rfl⟩:=hv.1.slice;have Hv:=hIh hv;have Hst:Hid (TsLoop w l (.int .i64 0) w):=⟨0,by omega,rfl,fun k h hk=>by omega,Below.refl _ _⟩;clear hv;go_enter Tryz.func137,Tryz.ntmps137;go_wp2
 go_loopw [3,4] (fun v3 v4 w1=>TsLoop w l v3 w1) (fun i _ _=>l.length - (intOf i).toNat)
 case atStart=>exact Hst.out
 case round=>
  clear Hst;obtain ⟨i,hi,rfl,hno,hB⟩:=hrel;have Hno:=hIh hno;have HB:=hIh hB;clear hno
  by_cases hlt:i < l.length
  ·have hli:(i:Int) < l.length:=by omega
   have hi0:(0:Int) ≤ i:=(by omega);have hvr:=Hv.out.below hB;obtain ⟨b,off,c',hA,hbl,d0,d1,d2⟩:=hvr.at i hlt
   cases hA
   have Htm:=hIh (fun W (hW:Below wr.heap.size wr W)=>rterm_calls W l[i].1 l[i].2 (RdS.below (hvr.2 l[i] (List.getElem_mem hlt)) hW))
   have Hk:Hid (tmOk l[i].1 = true → ∀ W,Below wr.heap.size wr W → TsLoop w l (.int .i64 ((i:Int) + 1)) W):=fun ho W hW=>⟨i + 1,hlt,rfl,fun k h hk=>by
    by_cases e:k = i
    ·subst e;exact ho
    ·exact Hno.out k h (by omega),HB.out.trans (hW.mono HB.out.size)⟩
   have Hf:Hid (tmOk l[i].1 = false → tmsOk l = false):=fun ho=>by
    have:(l.map Prod.fst).all tmOk = false:=by
     rw [List.all_eq_false];exact ⟨l[i].1,List.mem_map.2 ⟨l[i],List.getElem_mem hlt,rfl⟩,by simp [ho]⟩
    unfold tmsOk;rw [this];rfl
   generalize l[i] = x at d0 d1 d2 Htm Hk Hf;obtain ⟨⟨key,how,vals⟩,xv⟩:=x;simp only at d0 d1 d2;have Htm2:Hid (∀ W,Below wr.heap.size wr W → Calls Tryz.prog 165 #[.agg #[.string (sb key),.int .i64 (how:Int),xv]] W fun e w'=>e = .returned (.bool (tmOk ⟨key,how,vals⟩)) ∧ Below W.heap.size W w'):=Htm.out;have hp3:=i * 3;generalize sb key = SK at d0 Htm2;clear hvr hB Htm
   by_cases ho:tmOk ⟨key,how,vals⟩ = true
   ·have Hk2:=hIh (Hk.out ho)
    rw [ho] at Htm2;clear ho Hk Hf;go_wp2_with (go_at_call 165;with_reducible refine (Htm2.out _ (Below.refl _ _)).mono ?_;rintro e w1 ⟨rfl,hw1⟩);go_roundw
    case rel=>exact Hk2.out _ hw1
    case measure=>simp [intOf];omega
   ·have ho2:=(Bool.not_eq_true _).mp ho
    have Hk2:=hIh (Hf.out ho2);rw [ho2] at Htm2;clear ho ho2 Hk Hf;go_wp2_with (go_at_call 165;with_reducible refine (Htm2.out _ (Below.refl _ _)).mono ?_;rintro e w1 ⟨rfl,hw1⟩);go_ret;exact ⟨by rw [Hk2.out];rfl,HB.out.trans (hw1.mono HB.out.size)⟩
  ·have hli:¬ (i:Int) < l.length:=by omega
   have Hall:Hid ((l.map Prod.fst).all tmOk = true):=by
    show _ = _;rw [List.all_eq_true];intro t ht;obtain ⟨e,he,rfl⟩:=List.mem_map.1 ht;obtain ⟨k,hk,rfl⟩:=List.getElem_of_mem he;exact Hno.out k hk (by omega)
   have Hres:Hid (tmsOk l = decide (l.length ≤ 8)):=(by show _ = _;unfold tmsOk;rw [Hall.out];rfl);clear hi
   by_cases h8:l.length ≤ 8
   ·have g:decide ((l.length:Int) ≤ 8) = true:=decide_eq_true (by omega)
    have g2:(l.length:Int) ≤ 8:=(by omega);rw [decide_eq_true h8] at Hres;clear h8;go_wp2;go_ret;exact ⟨by rw [Hres.out];rfl,HB.out⟩
   ·have g:decide ((l.length:Int) ≤ 8) = false:=decide_eq_false (by omega)
    have g2:¬ (l.length:Int) ≤ 8:=(by omega);rw [decide_eq_false h8] at Hres;clear h8;go_wp2;go_ret;exact ⟨by rw [Hres.out];rfl,HB.out⟩
theorem joinS_snoc (sep x:Str):∀ l:List Str,l ≠ [] → joinS sep (l ++ [x]) = joinS sep l ++ sep ++ x
 | [],h=>absurd rfl h
 | [a],_=>by simp [joinS]
 | a :: b :: r,_=>by
  have:=joinS_snoc sep x (b :: r) (by simp);simp only [List.cons_append,joinS] at this ⊢;rw [this];simp
theorem joinS_take (sep:Str) (l:List Str) (i:Nat) (h:i < l.length) (h0:0 < i):joinS sep (l.take (i + 1)) = joinS sep (l.take i) ++ sep ++ l[i]:=by
 rw [List.take_add_one,List.getElem?_eq_getElem h];exact joinS_snoc sep l[i] (l.take i) (by intro e;have:=congrArg List.length e;rw [List.length_take,List.length_nil] at this;omega)
theorem joinS_take1 (sep:Str) (l:List Str) (h:0 < l.length):joinS sep (l.take 1) = l[0]:=by
 cases l with
 | nil=>simp at h
 | cons a r=>simp [joinS]
def WrLoop (pre:Str) (vals:List Str) (v3 v4:Value):Prop := ∃ i:Nat,i ≤ vals.length ∧ v4 = .int .i64 i ∧ v3 = .string (sb (pre ++ joinS [32] (vals.take i)))
theorem u33:(ByteArray.mk #[33]) = sb [33]:=rfl
theorem u61:(ByteArray.mk #[61]) = sb [61]:=rfl
theorem u3361:(ByteArray.mk #[33,61]) = sb [33,61]:=rfl
theorem u41:(ByteArray.mk #[41]) = sb [41]:=rfl
theorem u32:(ByteArray.mk #[32]) = sb [32]:=rfl
theorem u44:(ByteArray.mk #[44]) = sb [44]:=rfl
theorem uin:(ByteArray.mk #[32,105,110,32,40]) = sb [32,105,110,32,40]:=rfl
theorem unotin:(ByteArray.mk #[32,110,111,116,105,110,32,40]) = sb [32,110,111,116,105,110,32,40]:=rfl
theorem tmTxt_2 (key:Str) (vals:List Str):tmTxt ⟨key,2,vals⟩ = key:=rfl
theorem tmTxt_3 (key:Str) (vals:List Str):tmTxt ⟨key,3,vals⟩ = 33 :: key:=rfl
theorem tmTxt_01 (key v:Str):tmTxt ⟨key,0, [v]⟩ = key ++ 61 :: v:=by simp [tmTxt]
theorem tmTxt_11 (key v:Str):tmTxt ⟨key,1, [v]⟩ = key ++ 33 :: 61 :: v:=by simp [tmTxt]
theorem tmTxt_0n (key:Str) (vals:List Str) (h:vals.length ≠ 1):tmTxt ⟨key,0,vals⟩ = key ++ [32,105,110,32,40] ++ joinS [32] vals ++ [41]:=by simp [tmTxt,h]
theorem tmTxt_1n (key:Str) (vals:List Str) (h:vals.length ≠ 1):tmTxt ⟨key,1,vals⟩ = key ++ [32,110,111,116,105,110,32,40] ++ joinS [32] vals ++ [41]:=by simp [tmTxt,h]
theorem one_of {l:List Str} (h:l.length = 1):∃ v,l = [v]:=by
 cases l with
 | nil=>simp at h
 | cons a r=>cases r with
  | nil=>exact ⟨a,rfl⟩
  | cons b q=>simp at h
theorem nm_size {x:Str} (h:isNm x = true):x.length ≤ 32:=by
 rcases Nat.lt_or_ge 32 x.length with h2 | h2
 ·rw [nm_long h2] at h;cases h
 ·exact h2
theorem val_size {l:List Str} (h:valsOk l = true):∀ x ∈ l,x.length ≤ 32:=by
 intro x hx;obtain ⟨i,hi,rfl⟩:=List.getElem_of_mem hx;simp only [valsOk,Bool.and_eq_true] at h;have:=List.all_eq_true.1 h.2 i (List.mem_range.2 hi);simp only [Bool.and_eq_true,Bool.or_eq_true] at this
 have hg:l.getD i [] = l[i]:=by simp [List.getD,hi]
 rw [hg] at this;rcases this.1 with h1 | ⟨h1, -⟩
 ·exact nm_size h1
 ·have:l[i] = []:=by simpa using h1
  rw [this];simp
theorem joinS_size (c:UInt8) (b:Nat):∀ l:List Str,(∀ x ∈ l,x.length ≤ b) → (joinS [c] l).length ≤ l.length * (b + 1)
 | [],_=>by simp [joinS]
 | [a],h=>by have:=h a (by simp);simp [joinS];omega
 | a :: d :: r,h=>by
  have h1:=joinS_size c b (d :: r) (fun x hx=>h x (List.mem_cons_of_mem _ hx));have h2:=h a (by simp)
  have e:(a :: d :: r).length * (b + 1) = (d :: r).length * (b + 1) + (b + 1):=by rw [List.length_cons,Nat.add_mul];simp
  rw [e];simp only [joinS,List.length_append,List.length_singleton];omega
theorem joinS_take_size (c:UInt8) (b:Nat) (l:List Str) (i:Nat) (hl:l.length ≤ 8) (h:∀ x ∈ l,x.length ≤ b):(joinS [c] (l.take i)).length ≤ 8 * (b + 1):=by
 have h1:=joinS_size c b (l.take i) (fun x hx=>h x (List.mem_of_mem_take hx))
 have h2:(l.take i).length ≤ 8:=by rw [List.length_take];omega
 exact Nat.le_trans h1 (Nat.mul_le_mul_right _ h2)
theorem tm_size {t:Tm} (h:tmOk t = true):(tmTxt t).length ≤ 500:=by
 obtain ⟨hk,hcs⟩:=tm_cases h;obtain ⟨key,how,vals⟩:=t;simp only at hk hcs;have h1:=nm_size hk;rcases hcs with ⟨rfl,hvn⟩ | ⟨rfl,hvn⟩ | ⟨hh,hvo⟩
 ·rw [tmTxt_2];omega
 ·rw [tmTxt_3];simp;omega
 ·have hs:=val_size hvo
  by_cases h2:vals.length = 1
  ·obtain ⟨v,rfl⟩:=one_of h2
   have:=hs v (by simp);rcases hh with rfl | rfl
   ·rw [tmTxt_01];simp;omega
   ·rw [tmTxt_11];simp;omega
  ·have h3:=joinS_take_size 32 32 vals vals.length (valsOk_len hvo).2 hs
   rw [List.take_length] at h3;rcases hh with rfl | rfl
   ·rw [tmTxt_0n _ _ h2];simp;omega
   ·rw [tmTxt_1n _ _ h2];simp;omega
theorem written_calls (w:World) (t:Tm) (vv:Value) (hv:RdT w vv t.vals) (hok:tmOk t = true) :
  Calls Tryz.prog 138 #[.agg #[.string (sb t.key),.int .i64 (t.how:Int),vv]] w fun e w'=>e = .returned (.string (sb (tmTxt t))) ∧ Below w.heap.size w w':=by
 obtain ⟨hk,hcs⟩:=tm_cases hok;obtain ⟨key,how,vals⟩:=t;simp only at hv hcs hk ⊢;have hsl:=hv.slice;obtain ⟨A,c,rfl⟩:=hsl;have HB0:=hIh (bel_alloc w (.cells #[.string (sb key),.int .i64 (how:Int),.slice A vals.length c] 98));have Hbx:=hIh (blk_new w (.cells #[.string (sb key),.int .i64 (how:Int),.slice A vals.length c] 98));obtain ⟨c0,c1,c2, -⟩:=cells3 Hbx.out;have Hrd:=hIh hv;have hkn:=nm_size hk
 have hks:(sb key).size ≤ 32:=by rw [sb_size];exact hkn
 generalize hSK:sb key = SK at c0 HB0 Hbx c1 c2 hks;have HSK:=hIh hSK;clear hk hok hv hSK;rcases hcs with ⟨rfl,hvn⟩ | ⟨rfl,hvn⟩ | ⟨hh,hvo⟩
 ·have Hres:Hid (sb (tmTxt ⟨key,2,vals⟩) = SK):=by show _ = _;rw [tmTxt_2];exact HSK.out
  obtain ⟨k,hk⟩ : ∃ k:Int,k = ((2:Nat):Int):=⟨_,rfl⟩;rw [← hk] at c0 c1 c2 HB0 Hbx;rw [← hk]
  have hb0:(k == 0) = false:=by rw [hk];rfl
  have hb1:(k == 1) = false:=by rw [hk];rfl
  have hb2:(k == 2) = true:=by rw [hk];rfl
  have hb3:(k == 3) = false:=by rw [hk];rfl
  rw [Hres.out];clear hvn hk;go_enter Tryz.func138,Tryz.ntmps138;go_wp2;go_ret;exact ⟨rfl,HB0.out⟩
 ·have z1:¬ 9223372036854775807 < 1 + SK.size:=by omega
  have Hres:Hid (sb (tmTxt ⟨key,3,vals⟩) = (ByteArray.mk #[33]) ++ SK):=by show _ = _;rw [tmTxt_3,u33,← HSK.out,sb_append];rfl
  obtain ⟨k,hk⟩ : ∃ k:Int,k = ((3:Nat):Int):=⟨_,rfl⟩;rw [← hk] at c0 c1 c2 HB0 Hbx;rw [← hk]
  have hb0:(k == 0) = false:=by rw [hk];rfl
  have hb1:(k == 1) = false:=by rw [hk];rfl
  have hb2:(k == 2) = false:=by rw [hk];rfl
  have hb3:(k == 3) = true:=by rw [hk];rfl
  rw [Hres.out];clear hvn hk;go_enter Tryz.func138,Tryz.ntmps138;go_wp2;go_ret;exact ⟨rfl,HB0.out⟩
 ·by_cases h1:vals.length = 1
  ·rcases hh with rfl | rfl
   ·obtain ⟨v,rfl⟩:=one_of h1
    have Hres:Hid (sb (tmTxt ⟨key,0, [v]⟩) = sb key ++ (ByteArray.mk #[61]) ++ sb v):=(by show _ = _;rw [tmTxt_01,u61,sb_append,sb_append];simp);obtain ⟨bb,off,c',hA, -,hbl,hcell⟩:=Hrd.out.some (by simp)
    cases hA
    have hcv:=(HB0.out.cell (p:=⟨bb,off + 0,none⟩) hbl).trans (hcell 0 (by simp));have hcv2:=hcv;rw [Nat.add_zero] at hcv2;change _ = some (Value.string (sb v)) at hcv;change _ = some (Value.string (sb v)) at hcv2;rw [HSK.out] at Hres;simp only [List.length_singleton] at c0 c1 c2 HB0 Hbx hcv hcv2 ⊢;have hvs:(sb v).size ≤ 32:=(by rw [sb_size];exact val_size hvo v (by simp));have hq:=fun (n:Nat)=>(show ((w.alloc (.cells #[.string SK,.int .i64 (0:Nat),.slice (some ⟨bb,off,none⟩) 1 c] 98)).drewN n).cell? ⟨bb,off,none⟩ = some (.string (sb v)) from hcv2);generalize sb v = SV at Hres hcv hcv2 hvs hq;have z1:¬ 9223372036854775807 < SK.size + 1:=(by omega);have z2:¬ 9223372036854775807 < SK.size + 1 + SV.size:=(by omega);obtain ⟨k,hk⟩ : ∃ k:Int,k = ((0:Nat):Int):=⟨_,rfl⟩;rw [← hk] at c0 c1 c2 HB0 Hbx hcv hcv2 hq;rw [← hk];have hb0:(k == 0) = true:=(by rw [hk];rfl);have hb1:(k == 1) = false:=(by rw [hk];rfl)
    have hb2:(k == 2) = false:=(by rw [hk];rfl);have hb3:(k == 3) = false:=(by rw [hk];rfl);rw [Hres.out];clear hk hcell Hres;go_enter Tryz.func138,Tryz.ntmps138;go_wp2;go_quiet (fail);go_wp2;go_ret;exact ⟨rfl,drewB HB0.out _⟩
   ·obtain ⟨v,rfl⟩:=one_of h1
    have Hres:Hid (sb (tmTxt ⟨key,1, [v]⟩) = sb key ++ (ByteArray.mk #[33,61]) ++ sb v):=(by show _ = _;rw [tmTxt_11,u3361,sb_append,sb_append];simp);obtain ⟨bb,off,c',hA, -,hbl,hcell⟩:=Hrd.out.some (by simp)
    cases hA
    have hcv:=(HB0.out.cell (p:=⟨bb,off + 0,none⟩) hbl).trans (hcell 0 (by simp));have hcv2:=hcv;rw [Nat.add_zero] at hcv2;change _ = some (Value.string (sb v)) at hcv;change _ = some (Value.string (sb v)) at hcv2;rw [HSK.out] at Hres;simp only [List.length_singleton] at c0 c1 c2 HB0 Hbx hcv hcv2 ⊢;have hvs:(sb v).size ≤ 32:=(by rw [sb_size];exact val_size hvo v (by simp));have hq:=fun (n:Nat)=>(show ((w.alloc (.cells #[.string SK,.int .i64 (1:Nat),.slice (some ⟨bb,off,none⟩) 1 c] 98)).drewN n).cell? ⟨bb,off,none⟩ = some (.string (sb v)) from hcv2);generalize sb v = SV at Hres hcv hcv2 hvs hq;have z1:¬ 9223372036854775807 < SK.size + 2:=(by omega);have z2:¬ 9223372036854775807 < SK.size + 2 + SV.size:=(by omega);obtain ⟨k,hk⟩ : ∃ k:Int,k = ((1:Nat):Int):=⟨_,rfl⟩;rw [← hk] at c0 c1 c2 HB0 Hbx hcv hcv2 hq;rw [← hk];have hb0:(k == 0) = false:=(by rw [hk];rfl);have hb1:(k == 1) = true:=(by rw [hk];rfl)
    have hb2:(k == 2) = false:=(by rw [hk];rfl);have hb3:(k == 3) = false:=(by rw [hk];rfl);rw [Hres.out];clear hk hcell Hres;go_enter Tryz.func138,Tryz.ntmps138;go_wp2;go_quiet (fail);go_wp2;go_ret;exact ⟨rfl,drewB HB0.out _⟩
  ·rcases hh with rfl | rfl
   ·have Hres:Hid (sb (tmTxt ⟨key,0,vals⟩) = sb (key ++ [32,105,110,32,40] ++ joinS [32] vals) ++ sb [41]):=by show _ = _;rw [tmTxt_0n _ _ h1,sb_append]
    have Hpre:Hid (SK ++ (ByteArray.mk #[32,105,110,32,40]) = sb (key ++ [32,105,110,32,40])):=(by show _ = _;rw [uin,← HSK.out,sb_append]);have hl:=valsOk_len hvo;have hvs:=val_size hvo
    have hps:∀ i,(sb (key ++ [32,105,110,32,40] ++ joinS [32] (vals.take i))).size ≤ 400:=fun i=>by
     have:=joinS_take_size 32 32 vals i hl.2 hvs;rw [sb_size];simp;omega
    have Hps:=hIh hps;have z0:¬ 9223372036854775807 < SK.size + 5:=(by omega);clear hps;have hn1:((vals.length:Int) == 1) = false:=(by simp;omega);have Hst:Hid (WrLoop (key ++ [32,105,110,32,40]) vals (.string (sb (key ++ [32,105,110,32,40]))) (.int .i64 0)):=⟨0,by omega,rfl,by simp [joinS]⟩;obtain ⟨k,hk⟩ : ∃ k:Int,k = ((0:Nat):Int):=⟨_,rfl⟩;rw [← hk] at c0 c1 c2 HB0 Hbx;rw [← hk];have hb0:(k == 0) = true:=(by rw [hk];rfl);have hb1:(k == 1) = false:=(by rw [hk];rfl);have hb2:(k == 2) = false:=(by rw [hk];rfl);have hb3:(k == 3) = false:=(by rw [hk];rfl);rw [Hres.out];obtain ⟨R,hR⟩ : ∃ R,R = sb (key ++ [32,105,110,32,40] ++ joinS [32] vals) ++ sb [41]:=⟨_,rfl⟩;rw [← hR];have HR:=hIh hR;clear hk hvo hR Hres;go_enter Tryz.func138,Tryz.ntmps138;go_wp2
    go_loop [3,4] (fun v3 v4=>WrLoop (key ++ [32,105,110,32,40]) vals v3 v4) (fun _ i=>vals.length - (intOf i).toNat)
    case atStart=>rw [Hpre.out];exact Hst.out
    case round=>
     clear Hst;obtain ⟨i,hi,rfl,rfl⟩:=hrel;have hpi:=Hps.out i
     by_cases hlt:i < vals.length
     ·have hvi:(sb vals[i]).size ≤ 32:=by rw [sb_size];exact hvs _ (List.getElem_mem hlt)
      have hlti:(i:Int) < vals.length:=(by omega);have hi0:(0:Int) ≤ i:=(by omega);obtain ⟨bb,off,c',hA, -,hbl,hcell⟩:=Hrd.out.some (by intro e;rw [e] at hlt;simp at hlt)
      cases hA
      have hci:=(HB0.out.cell (p:=⟨bb,off + i,none⟩) hbl).trans (hcell i hlt)
      by_cases h0:i = 0
      ·subst h0
       have hci2:=hci;rw [Nat.add_zero] at hci2;have Hk:Hid (∀ X,X = sb (key ++ [32,105,110,32,40] ++ joinS [32] (vals.take 0)) ++ sb vals[0] → WrLoop (key ++ [32,105,110,32,40]) vals (.string X) (.int .i64 (0 + 1))):=fun X hX=>⟨1,by omega,rfl,by rw [hX,sb_append,joinS_take1 _ _ hlt];simp [joinS]⟩;generalize sb vals[0] = SV at Hk hci hci2 hvi;generalize sb (key ++ [32,105,110,32,40] ++ joinS [32] (vals.take 0)) = P at Hk hpi;have z1:¬ 9223372036854775807 < P.size + SV.size:=(by omega);go_wp2;go_round
       case rel=>exact Hk.out _ rfl
       case measure=>simp [intOf];omega
      ·have hg:(0:Int) < (i:Int):=by omega
       have Hk:Hid (∀ X,X = sb (key ++ [32,105,110,32,40] ++ joinS [32] (vals.take i)) ++ (ByteArray.mk #[32]) ++ sb vals[i] → WrLoop (key ++ [32,105,110,32,40]) vals (.string X) (.int .i64 ((i:Int) + 1))):=fun X hX=>⟨i + 1,by omega,rfl,by rw [hX,u32,sb_append,sb_append,joinS_take _ _ _ hlt (by omega)];simp⟩;generalize sb vals[i] = SV at Hk hci hvi;generalize sb (key ++ [32,105,110,32,40] ++ joinS [32] (vals.take i)) = P at Hk hpi;have z1:¬ 9223372036854775807 < P.size + 1:=(by omega);have z2:¬ 9223372036854775807 < P.size + 1 + SV.size:=(by omega);go_wp2;go_round
       case rel=>exact Hk.out _ rfl
       case measure=>simp [intOf];omega
     ·have hlti:¬ (i:Int) < vals.length:=by omega
      have Hfin:Hid (sb (key ++ [32,105,110,32,40] ++ joinS [32] (vals.take i)) = sb (key ++ [32,105,110,32,40] ++ joinS [32] vals)):=(by show _ = _;rw [List.take_of_length_le (by omega)]);clear hi hlt;generalize sb (key ++ [32,105,110,32,40] ++ joinS [32] (vals.take i)) = P at Hfin hpi;have z1:¬ 9223372036854775807 < P.size + 1:=(by omega);go_wp2;go_ret;refine ⟨?_,HB0.out⟩;rw [HR.out,← Hfin.out,← u41];rfl
   ·have Hres:Hid (sb (tmTxt ⟨key,1,vals⟩) = sb (key ++ [32,110,111,116,105,110,32,40] ++ joinS [32] vals) ++ sb [41]):=by show _ = _;rw [tmTxt_1n _ _ h1,sb_append]
    have Hpre:Hid (SK ++ (ByteArray.mk #[32,110,111,116,105,110,32,40]) = sb (key ++ [32,110,111,116,105,110,32,40])):=(by show _ = _;rw [unotin,← HSK.out,sb_append]);have hl:=valsOk_len hvo;have hvs:=val_size hvo
    have hps:∀ i,(sb (key ++ [32,110,111,116,105,110,32,40] ++ joinS [32] (vals.take i))).size ≤ 400:=fun i=>by
     have:=joinS_take_size 32 32 vals i hl.2 hvs;rw [sb_size];simp;omega
    have Hps:=hIh hps;have z0:¬ 9223372036854775807 < SK.size + 8:=(by omega);clear hps;have hn1:((vals.length:Int) == 1) = false:=(by simp;omega);have Hst:Hid (WrLoop (key ++ [32,110,111,116,105,110,32,40]) vals (.string (sb (key ++ [32,110,111,116,105,110,32,40]))) (.int .i64 0)):=⟨0,by omega,rfl,by simp [joinS]⟩;obtain ⟨k,hk⟩ : ∃ k:Int,k = ((1:Nat):Int):=⟨_,rfl⟩;rw [← hk] at c0 c1 c2 HB0 Hbx;rw [← hk];have hb0:(k == 0) = false:=(by rw [hk];rfl);have hb1:(k == 1) = true:=(by rw [hk];rfl);have hb2:(k == 2) = false:=(by rw [hk];rfl);have hb3:(k == 3) = false:=(by rw [hk];rfl);rw [Hres.out];obtain ⟨R,hR⟩ : ∃ R,R = sb (key ++ [32,110,111,116,105,110,32,40] ++ joinS [32] vals) ++ sb [41]:=⟨_,rfl⟩;rw [← hR];have HR:=hIh hR;clear hk hvo hR Hres;go_enter Tryz.func138,Tryz.ntmps138;go_wp2
    go_loop [3,4] (fun v3 v4=>WrLoop (key ++ [32,110,111,116,105,110,32,40]) vals v3 v4) (fun _ i=>vals.length - (intOf i).toNat)
    case atStart=>rw [Hpre.out];exact Hst.out
    case round=>
     clear Hst;obtain ⟨i,hi,rfl,rfl⟩:=hrel;have hpi:=Hps.out i
     by_cases hlt:i < vals.length
     ·have hvi:(sb vals[i]).size ≤ 32:=by rw [sb_size];exact hvs _ (List.getElem_mem hlt)
      have hlti:(i:Int) < vals.length:=(by omega);have hi0:(0:Int) ≤ i:=(by omega);obtain ⟨bb,off,c',hA, -,hbl,hcell⟩:=Hrd.out.some (by intro e;rw [e] at hlt;simp at hlt)
      cases hA
      have hci:=(HB0.out.cell (p:=⟨bb,off + i,none⟩) hbl).trans (hcell i hlt)
      by_cases h0:i = 0
      ·subst h0
       have hci2:=hci;rw [Nat.add_zero] at hci2;have Hk:Hid (∀ X,X = sb (key ++ [32,110,111,116,105,110,32,40] ++ joinS [32] (vals.take 0)) ++ sb vals[0] → WrLoop (key ++ [32,110,111,116,105,110,32,40]) vals (.string X) (.int .i64 (0 + 1))):=fun X hX=>⟨1,by omega,rfl,by rw [hX,sb_append,joinS_take1 _ _ hlt];simp [joinS]⟩;generalize sb vals[0] = SV at Hk hci hci2 hvi;generalize sb (key ++ [32,110,111,116,105,110,32,40] ++ joinS [32] (vals.take 0)) = P at Hk hpi;have z1:¬ 9223372036854775807 < P.size + SV.size:=(by omega);go_wp2;go_round
       case rel=>exact Hk.out _ rfl
       case measure=>simp [intOf];omega
      ·have hg:(0:Int) < (i:Int):=by omega
       have Hk:Hid (∀ X,X = sb (key ++ [32,110,111,116,105,110,32,40] ++ joinS [32] (vals.take i)) ++ (ByteArray.mk #[32]) ++ sb vals[i] → WrLoop (key ++ [32,110,111,116,105,110,32,40]) vals (.string X) (.int .i64 ((i:Int) + 1))):=fun X hX=>⟨i + 1,by omega,rfl,by rw [hX,u32,sb_append,sb_append,joinS_take _ _ _ hlt (by omega)];simp⟩;generalize sb vals[i] = SV at Hk hci hvi;generalize sb (key ++ [32,110,111,116,105,110,32,40] ++ joinS [32] (vals.take i)) = P at Hk hpi;have z1:¬ 9223372036854775807 < P.size + 1:=(by omega);have z2:¬ 9223372036854775807 < P.size + 1 + SV.size:=(by omega);go_wp2;go_round
       case rel=>exact Hk.out _ rfl
       case measure=>simp [intOf];omega
     ·have hlti:¬ (i:Int) < vals.length:=by omega
      have Hfin:Hid (sb (key ++ [32,110,111,116,105,110,32,40] ++ joinS [32] (vals.take i)) = sb (key ++ [32,110,111,116,105,110,32,40] ++ joinS [32] vals)):=(by show _ = _;rw [List.take_of_length_le (by omega)]);clear hi hlt;generalize sb (key ++ [32,110,111,116,105,110,32,40] ++ joinS [32] (vals.take i)) = P at Hfin hpi;have z1:¬ 9223372036854775807 < P.size + 1:=(by omega);go_wp2;go_ret;refine ⟨?_,HB0.out⟩;rw [HR.out,← Hfin.out,← u41];rfl
def PrLoop (w:World) (l:List (Tm × Value)) (v5 v6:Value) (w1:World):Prop := ∃ i:Nat,i ≤ l.length ∧ v6 = .int .i64 i ∧ v5 = .string (sb (joinS [44] ((l.take i).map fun e=>tmTxt e.1))) ∧ Below w.heap.size w w1
def PrRes (l:List (Tm × Value)) (s:ByteArray) (ec:Int):Prop:=(tmsOk l = true → s = sb (selTxt (l.map Prod.fst)) ∧ ec = 0) ∧ (tmsOk l = false → ec ≠ 0)
theorem rprintsel_calls (w:World) (v:Value) (l:List (Tm × Value)) (hv:TRow w v l) (hl:l.length ≤ 4194304) :
  Calls Tryz.prog 109 #[v] w fun e w' => ∃ s ec,e = .returned (.tuple #[.string s,.int .i64 ec]) ∧ PrRes l s ec ∧ Below w.heap.size w w':=by
 have Htms:=hIh (rterms_calls w v l hv hl);obtain ⟨A,c,rfl⟩:=hv.1.slice;have Hv:=hIh hv;clear hv
 by_cases hok:tmsOk l = true
 case neg=>
  have ho2:=(Bool.not_eq_true _).mp hok;rw [ho2] at Htms;have Hres:Hid (PrRes l (ByteArray.mk #[]) 43):=⟨fun h=>absurd h hok,fun _=>by decide⟩;clear hok ho2;go_enter Tryz.func109,Tryz.ntmps109;go_wp2_with (go_at_call 137;with_reducible refine Htms.out.mono ?_;rintro e w1 ⟨rfl,hw1⟩);go_ret2;exact ⟨_,_,rfl,Hres.out,hw1⟩
 rw [hok] at Htms
 have Hall:Hid (∀ k (h:k < l.length),tmOk l[k].1 = true):=fun k h=>by
  unfold tmsOk at hok;rw [Bool.and_eq_true] at hok;exact List.all_eq_true.1 hok.1 _ (List.mem_map.2 ⟨l[k],List.getElem_mem h,rfl⟩)
 have h8:l.length ≤ 8:=by
  unfold tmsOk at hok;rw [Bool.and_eq_true] at hok;exact of_decide_eq_true hok.2
 have Hps:Hid (∀ i,(sb (joinS [44] ((l.take i).map fun e=>tmTxt e.1))).size ≤ 8000):=fun i=>by
  have hm:(l.take i).map (fun e=>tmTxt e.1) = (l.map fun e=>tmTxt e.1).take i:=List.map_take;rw [sb_size,hm]
  have:=joinS_take_size 44 500 (l.map fun e=>tmTxt e.1) i (by simpa using h8) (fun x hx=>by
   obtain ⟨e,he,rfl⟩:=List.mem_map.1 hx;obtain ⟨k,hk,rfl⟩:=List.getElem_of_mem he
   exact tm_size (Hall.out k hk))
  omega
 have Hres:Hid (PrRes l (sb (selTxt (l.map Prod.fst))) 0):=⟨fun _=>⟨rfl,rfl⟩,fun h=>by rw [hok] at h;cases h⟩;have Hst:Hid (∀ W,Below w.heap.size w W → PrLoop w l (.string (ByteArray.mk #[])) (.int .i64 0) W):=fun W hW=>⟨0,by omega,rfl,rfl,hW⟩;clear hok;go_enter Tryz.func109,Tryz.ntmps109;go_wp2_with (go_at_call 137;with_reducible refine Htms.out.mono ?_;rintro e w1 ⟨rfl,hw1⟩)
 go_loopw [5,6] (fun v5 v6 w1=>PrLoop w l v5 v6 w1) (fun _ i _=>l.length - (intOf i).toNat)
 case atStart=>exact Hst.out _ hw1
 case round=>
  clear Hst;obtain ⟨i,hi,rfl,rfl,hB⟩:=hrel;have HB:=hIh hB
  by_cases hlt:i < l.length
  ·have hli:(i:Int) < l.length:=by omega
   have hi0:(0:Int) ≤ i:=(by omega);have hvr:=Hv.out.below hB;obtain ⟨b,off,c',hA,hbl,d0,d1,d2⟩:=hvr.at i hlt
   cases hA
   have Hw:=hIh (fun W (hW:Below wr.heap.size wr W)=>written_calls W l[i].1 l[i].2 (RdS.below (hvr.2 l[i] (List.getElem_mem hlt)) hW) (Hall.out i hlt));have htk:(l.take (i + 1)).map (fun e=>tmTxt e.1) = (l.map fun e=>tmTxt e.1).take (i + 1):=List.map_take;have htk0:(l.take i).map (fun e=>tmTxt e.1) = (l.map fun e=>tmTxt e.1).take i:=List.map_take
   have Hk:Hid (0 < i → ∀ X W,X = sb (joinS [44] ((l.take i).map fun e=>tmTxt e.1)) ++ (ByteArray.mk #[44]) ++ sb (tmTxt l[i].1) → Below wr.heap.size wr W → PrLoop w l (.string X) (.int .i64 ((i:Int) + 1)) W):=fun h0 X W hX hW=>
    ⟨i + 1,hlt,rfl,by rw [hX,htk,htk0,u44,sb_append,sb_append,joinS_take _ _ _ (by simpa using hlt) h0];simp,HB.out.trans (hW.mono HB.out.size)⟩
   have Hk0:Hid (i = 0 → ∀ X W,X = sb (joinS [44] ((l.take i).map fun e=>tmTxt e.1)) ++ sb (tmTxt l[i].1) → Below wr.heap.size wr W → PrLoop w l (.string X) (.int .i64 ((i:Int) + 1)) W):=fun h0 X W hX hW=>by
    subst h0;exact ⟨0 + 1,hlt,rfl,by rw [hX,htk,htk0,sb_append,joinS_take1 _ _ (by simpa using hlt)];simp [joinS],HB.out.trans (hW.mono HB.out.size)⟩
   have hts:=tm_size (Hall.out i hlt);have hpi:=Hps.out i;generalize l[i] = x at d0 d1 d2 Hw Hk Hk0 hts;obtain ⟨⟨key,how,vals⟩,xv⟩:=x;simp only at d0 d1 d2;have Hw2:Hid (∀ W,Below wr.heap.size wr W → Calls Tryz.prog 138 #[.agg #[.string (sb key),.int .i64 (how:Int),xv]] W fun e w'=>e = .returned (.string (sb (tmTxt ⟨key,how,vals⟩))) ∧ Below W.heap.size W w'):=Hw.out;have Hk' : Hid (0 < i → ∀ X W,X = sb (joinS [44] ((l.take i).map fun e=>tmTxt e.1)) ++ (ByteArray.mk #[44]) ++ sb (tmTxt ⟨key,how,vals⟩) → Below wr.heap.size wr W → PrLoop w l (.string X) (.int .i64 ((i:Int) + 1)) W):=Hk.out;have Hk0' : Hid (i = 0 → ∀ X W,X = sb (joinS [44] ((l.take i).map fun e=>tmTxt e.1)) ++ sb (tmTxt ⟨key,how,vals⟩) → Below wr.heap.size wr W → PrLoop w l (.string X) (.int .i64 ((i:Int) + 1)) W):=Hk0.out;generalize sb key = SK at d0 Hw2;rw [← sb_size] at hts;change (sb (tmTxt ⟨key,how,vals⟩)).size ≤ 500 at hts
   generalize sb (tmTxt ⟨key,how,vals⟩) = TX at Hw2 Hk' Hk0' hts;generalize sb (joinS [44] ((l.take i).map fun e=>tmTxt e.1)) = PX at Hk' Hk0' hpi;have z1:¬ 9223372036854775807 < PX.size + 1:=(by omega);have z2:¬ 9223372036854775807 < PX.size + 1 + TX.size:=(by omega);have z3:¬ 9223372036854775807 < PX.size + TX.size:=(by omega);clear hvr hB Hw Hk Hk0 htk htk0
   by_cases h0:0 < i
   ·have hg:(0:Int) < (i:Int):=by omega
    have Hkk:=hIh (Hk'.out h0);clear Hk' Hk0' h0;go_wp2_with (go_at_call 138;with_reducible refine (Hw2.out _ (Below.refl _ _)).mono ?_;rintro e w1 ⟨rfl,hw1⟩);go_roundw
    case rel=>exact Hkk.out _ _ rfl hw1
    case measure=>simp [intOf];omega
   ·have hg:¬ (0:Int) < (i:Int):=by omega
    have Hkk:=hIh (Hk0'.out (by omega));clear Hk' Hk0' h0;go_wp2_with (go_at_call 138;with_reducible refine (Hw2.out _ (Below.refl _ _)).mono ?_;rintro e w1 ⟨rfl,hw1⟩);go_roundw
    case rel=>exact Hkk.out _ _ rfl hw1
    case measure=>simp [intOf];omega
  ·have hli:¬ (i:Int) < l.length:=by omega
   have Hfin:Hid (sb (joinS [44] ((l.take i).map fun e=>tmTxt e.1)) = sb (selTxt (l.map Prod.fst))):=by
    show _ = _;rw [List.take_of_length_le (by omega)];unfold selTxt;rw [List.map_map];rfl
   generalize sb (joinS [44] ((l.take i).map fun e=>tmTxt e.1)) = PX at Hfin;rw [← Hfin.out] at Hres;clear hi hlt Hfin;go_wp2;go_ret2;exact ⟨_,_,rfl,Hres.out,HB.out⟩
end Go.Proofs.YtpfkkagkbneilaaGreatDoor
