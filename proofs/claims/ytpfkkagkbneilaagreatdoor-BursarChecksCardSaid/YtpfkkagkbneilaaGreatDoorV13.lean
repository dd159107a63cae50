/- Texts K3, K4, K5, K6, K7, K8, K9 of the proof of BursarChecks, joined. -/
import Derived.Test.YtpfkkagkbneilaaGreatDoorV12
import Derived.Test.YtpfkkagkbneilaaGreatDoorV7
import Derived.RegionDies
namespace Go.Proofs.YtpfkkagkbneilaaGreatDoor
open Go.RowKit
set_option linter.unusedVariables false
set_option linter.unusedSimpArgs false
set_option maxRecDepth 100000
set_option maxHeartbeats 25600000
def amtC (a:Amt):List Value := [.string (sb a.name),.int .i64 (a.val:Int)]
theorem amtC_len (a:Amt):(amtC a).length = 2:=rfl
theorem infoAmt:(Tryz.prog.info? 93).map (fun i=>(i.zero,i.size,i.bytes)) = some (some (.agg #[.string ⟨#[]⟩,.int .i64 0]),2,24):=by kernel_rfl
def slLen:Value → Nat
 | .slice _ n _=>n
 | _=>0
def rdLen (g:Nat) (w:World):Nat:=slLen ((w.cell? ⟨g,0,none⟩).getD .nilIface)
theorem IsR.len {g:Nat} {q:Nat → Prop} {line:Str} {w:World} {l:List Str} (h:IsR g q line w l):rdLen g w = l.length:=by
 obtain ⟨v,h1,h2, -⟩:=h;obtain ⟨A,c,rfl⟩:=h2.slice;unfold rdLen;rw [(cells2 h1).1];rfl
def AmP (g:Nat) (q:Nat → Prop) (line:Str) (w:World) (o:Option (List Amt × List Str)) (e:Ending) (w' : World):Prop:=
 (∃ x v,o = some x ∧ e = .returned v ∧ RdS amtC 2 w' v x.1 ∧ (∀ k,v.ownBlock = some k → w.heap.size ≤ k) ∧ IsR g q line w' x.2 ∧ Fr (fun k=>k = g) w w') ∨ (o = none ∧ e = (.panicked [{ v:=.iface 74 (.agg #[]),recovered:=false }]) ∧ Fr (fun k=>k = g) w w')
structure AmW (g:Nat) (q:Nat → Prop) (line:Str) (w:World) (o:Option (List Amt × List Str)) (v:Value) (wr:World) (done:List Amt) (l:List Str):Prop where
 eq:o = (amountsS l).map fun x=>(done ++ x.1,x.2)
 rd:IsR g (fun k=>q k ∨ w.heap.size ≤ k) line wr l
 own:wr.ownsRow 0 93 2 v done.length (done.flatMap amtC)
 new:∀ k,v.ownBlock = some k → w.heap.size ≤ k
 fr:Fr (fun k=>k = g) w wr
 small:∀ t ∈ l,t.length ≤ 1048576
 num:done.length + l.length ≤ 1048577
def AmLoop (g:Nat) (q:Nat → Prop) (line:Str) (w:World) (o:Option (List Amt × List Str)) (v:Value) (wr:World):Prop := ∃ done l,AmW g q line w o v wr done l
theorem amountsS_stop {t:Str} {r:List Str} (h:cutAt [61] t = none):amountsS (t :: r) = some ([],t :: r):=by simp only [amountsS,h]
theorem amountsS_bad {t n v:Str} {r:List Str} (h:cutAt [61] t = some (n,v)) (hq:qparse v = none):amountsS (t :: r) = none:=by simp only [amountsS,h,hq]
theorem amountsS_go {t n v:Str} {r:List Str} {x:Nat} (h:cutAt [61] t = some (n,v)) (hq:qparse v = some x):amountsS (t :: r) = (amountsS r).map fun y=>(⟨n,x⟩ :: y.1,y.2):=by simp only [amountsS,h,hq]
theorem rd_amt (w:World) (t:TypeId) (a:Amt):Rd (w.alloc (.cells #[.string (sb a.name),.int .i64 (a.val:Int)] t)) 2 (.slice (some ⟨w.heap.size,0,none⟩) 1 1) 1 ([a].flatMap amtC):=by
 refine ⟨rfl,_,_,rfl,Nat.le_refl _,(fun h=>by cases h),fun ad hA j u hu=>?_⟩
 cases hA
 match j,hu with
 | 0,hu=>cases hu;rw [show (⟨w.heap.size,0,none⟩ : Addr).add 0 = ⟨w.heap.size,0,none⟩ from rfl];simp only [World.cell?,blk_new];rfl
 | 1,hu=>cases hu;rw [show (⟨w.heap.size,0,none⟩ : Addr).add 1 = ⟨w.heap.size,1,none⟩ from rfl];simp only [World.cell?,blk_new];rfl
theorem amt_one (a:Amt):∀ u ∈ [a].flatMap amtC,u.oneCell' = true:=by
 intro u hu
 have hu2:u ∈ [Value.string (sb a.name),Value.int .i64 (a.val:Int)]:=by simpa [amtC] using hu
 rcases List.mem_cons.1 hu2 with rfl | hu2
 ·rfl
 ·rw [List.mem_singleton.1 hu2];rfl
theorem AmW.next {g:Nat} {q:Nat → Prop} {line:Str} {w wr w2 w3 w4 w5:World} {o:Option (List Amt × List Str)} {v v' : Value} {done:List Amt} {t n u:Str} {r:List Str} {x:Nat} {ob:Obj} (h:AmW g q line w o v wr done (t :: r)) (hg:g < w.heap.size)
  (hc:cutAt [61] t = some (n,u)) (hq:qparse u = some x) (h2:Below wr.heap.size wr w2) (h3:IsR g (fun k=>q k ∨ w.heap.size ≤ k) line w3 r) (h3f:Fr (fun k=>k = g) w2 w3) (h4:Below w3.heap.size w3 w4)
  (ho:w5.ownsRow 0 93 2 v' (done.length + 1) (done.flatMap amtC ++ [(⟨n,x⟩ : Amt)].flatMap amtC)) (hgr:(w4.alloc ob).grownBy w5 v.ownBlock) (hn:∀ k,v'.ownBlock = some k → v.ownBlock = some k ∨ w4.heap.size + 1 ≤ k):AmW g q line w o v' w5 (done ++ [⟨n,x⟩]) r:=by
 have f1:Fr (fun k=>k = g) w w4:=((h.fr.below h2).trans h3f (fun k hk=>.inl hk)).below h4;have hs:=f1.size;have f2:Fr (fun k=>k = g) w w5:=(f1.alloc ob).grown hgr (fun k hk=>.inr (h.new k hk));have f3:Fr (fun k=>w.heap.size ≤ k) w3 w5:=((Fr.of_below h4 (fun k=>w.heap.size ≤ k)).alloc ob).grown hgr (fun k hk=>.inl (h.new k hk));refine ⟨?_,?_,by rw [List.length_append,flat_app];exact ho,fun k hk=>?_,f2,fun y hy=>h.small y (List.mem_cons_of_mem _ hy),by have:=h.num;simp only [List.length_append,List.length_cons,List.length_nil] at this ⊢;omega⟩
 ·rw [h.eq,amountsS_go hc hq,Option.map_map]
  congr 1
  funext y
  simp
 ·obtain ⟨vv,a1,a2,a3⟩:=h3
  exact ⟨vv,f3.blk a1 (by omega),RdS.keep strC_len (by decide) a2 f3 (fun hl k hk e=>(a3 hl k hk).2 (.inr e)),a3⟩
 ·rcases hn k hk with h5 | h5
  ·exact h.new k h5
  ·omega
theorem amounts_calls {g:Nat} {q:Nat → Prop} {line:Str} (w:World) (G:Glob w) (l:List Str) (h:IsR g q line w l) (hg:4 ≤ g) (hsm:∀ t ∈ l,t.length ≤ 1048576) (hln:l.length ≤ 1048577):Calls Tryz.prog 98 #[.pointer (some ⟨g,0,none⟩)] w (AmP g q line w (amountsS l)):=by
 by_cases hl:l = []
 ·subst hl
  have Hpost:Hid (AmP g q line w (amountsS []) (.returned (.slice none 0 0)) w):=.inl ⟨([], []),_,rfl,rfl,RdS.nil _ _ _,(fun k hk=>by cases hk),h,Fr.refl _ _⟩;generalize amountsS [] = o at Hpost;obtain ⟨A,c,hb⟩:=h.nil;obtain ⟨c0,c1,f0,f1⟩:=cells2 hb;clear hb h;go_enter Tryz.func98,Tryz.ntmps98;go_wp2
  go_loop [3] (fun v3=>v3 = .slice none 0 0) (fun _=>0)
  case atStart=>rfl
  case round=>
   subst hrel;go_wp2;go_ret;exact Hpost.out
 have Hgw:=hIh h.lt;have HG:Hid (∀ W,Fr (fun k=>k = g) w W → Glob W):=fun W hW=>G.keep hW (fun k hk=>by omega);have Hst:Hid (AmLoop g q line w (amountsS l) (.slice none 0 0) w):=⟨[],l,⟨by simp,h.more,World.ownsRow_nil _ _ _ _,(fun k hk=>by cases hk),Fr.refl _ _,hsm,by simpa using hln⟩⟩;clear h hl G hsm hln;go_enter Tryz.func98,Tryz.ntmps98;go_wp2
 go_loopw [3] (fun v3 wr=>AmLoop g q line w (amountsS l) v3 wr) (fun _ wr=>rdLen g wr)
 case atStart=>exact Hst.out
 case round=>
  clear Hst;obtain ⟨done,l',hA⟩:=hrel;have HA:=hIh hA;obtain ⟨m,hm⟩ : ∃ m,m = done.length:=⟨_,rfl⟩;obtain ⟨T,hT⟩ : ∃ T,T = done.flatMap amtC:=⟨_,rfl⟩;obtain ⟨A0,cp,hv⟩:=own_slice hA.own;rw [← hm] at hv;subst hv;have Hm:=hIh hm;have HT:=hIh hT
  have Hmb:Hid (m ≤ 1048577):=by show _ ≤ _;have:=hA.num;omega
  clear hA hm hT
  cases l' with
  | nil=>
   obtain ⟨A,c,hb⟩:=HA.out.rd.nil;obtain ⟨c0,c1,f0,f1⟩:=cells2 hb;have Hres:Hid (amountsS l = some (done, [])):=(by show _ = _;rw [HA.out.eq];simp [amountsS]);clear hb;go_wp2;go_ret;refine .inl ⟨_,_,Hres.out,rfl,?_,HA.out.new,HA.out.rd.mono (fun k hk=>.inl hk),HA.out.fr⟩;have:=RdS.of_own (f:=amtC) (l:=done) HA.out.own;exact this
  | cons t r=>
   obtain ⟨b,off,c,hb,hcap,hc0,hrd,hne⟩:=HA.out.rd.cons;obtain ⟨n,hn⟩ : ∃ n,n = r.length:=⟨_,rfl⟩;have htl:=HA.out.small t (by simp);obtain ⟨c0,c1,f0,f1⟩:=cells2 hb;have hlen:(t :: r).length = n + 1:=(by simp [hn]);rw [hlen] at c0;have hcap2:=hcap;rw [hlen] at hcap2;have hn0:(0:Int) < (n:Int) + 1:=(by omega);have hn0b:decide ((0:Int) < (n:Int) + 1) = true:=decide_eq_true hn0;have h1n:(1:Int) ≤ (n:Int) + 1:=(by omega);have hcapi:(n:Int) + 1 ≤ c:=(by omega);have Hgl:=hIh (HG.out wr HA.out.fr)
   cases hcut:cutAt [61] t with
   | none=>
    have Hcut:Hid (Calls Tryz.prog 11 #[.string (sb t),.string (ByteArray.mk #[61])] wr fun e w'=>e = .returned (.tuple #[.string (sb t),.string (sb []),.bool false]) ∧ Below wr.heap.size wr w'):=lcutN_calls wr Hgl.out t [61] (by omega) (by decide) hcut;have Hres:Hid (amountsS l = some (done,t :: r)):=(by show _ = _;rw [HA.out.eq,amountsS_stop hcut];simp);generalize sb t = TS at hc0 Hcut;generalize sb [] = E0 at Hcut;clear hb hrd hne hcap hn hlen hcut;go_wp2_with (go_at_call 11;with_reducible refine Hcut.out.mono ?_;rintro e w2 ⟨rfl,hw2⟩;have H2:=hIh hw2;clear hw2);go_ret;refine .inl ⟨_,_,Hres.out,rfl,?_,HA.out.new,(HA.out.rd.mono (fun k hk=>.inl hk)).below H2.out,HA.out.fr.below H2.out⟩;have:=RdS.of_own (f:=amtC) (l:=done) (own_below HA.out.own H2.out);exact this
   | some y=>
    obtain ⟨nm,u⟩:=y;have hul:u.length ≤ 1048576:=(by have:=cutAt_len hcut;simp only at this;omega);have HcutC:Hid (Calls Tryz.prog 11 #[.string (sb t),.string (ByteArray.mk #[61])] wr fun e w'=>e = .returned (.tuple #[.string (sb nm),.string (sb u),.bool true]) ∧ Below wr.heap.size wr w'):=lcutS_calls wr Hgl.out t [61] nm u (by omega) (by decide) hcut;have Hcut:=hIh hcut;generalize sb t = TS at hc0 HcutC;clear hcut;go_wp2_with fail;(with_reducible refine HcutC.out.mono ?_);rintro e w2 ⟨rfl,hw2⟩;have H2:=hIh hw2;have hadv:=adv (q:=fun k=>q k ∨ w.heap.size ≤ k) (blk_below hb hw2) hcap (RdS.below hrd hw2) hne hn;obtain ⟨e0,e1,g0,g1⟩:=cells2 (blk_below hb hw2);rw [hlen] at e0;clear hb hrd hcap hn hlen hw2 HcutC c0 c1 f0 f1 hc0;rcases hadv with ⟨rfl,rfl,hR,hF⟩ | ⟨hc1,hR,hF⟩
    ·have HR3:=hIh hR
     have HF3:=hIh hF;clear hR hF;generalize hW3:w2.setCell ⟨g,0,none⟩ (.slice (some ⟨b,off,none⟩) 0 0) = W3 at HR3 HF3;have HW3:=hIh hW3;have Hq:=hIh (quantity_calls W3 (HG.out _ ((HA.out.fr.below H2.out).trans HF3.out (fun k hk=>.inl hk))) (.pointer (some ⟨g,0,none⟩)) u hul);clear hW3;go_wp2_with fail;rw [HW3.out];(with_reducible refine Hq.out.mono ?_);rintro e w4 ⟨hcase,hw4⟩;have H4:=hIh hw4;clear hw4 Hq;rcases hcase with ⟨x,hqx,rfl⟩ | ⟨hqx,rfl⟩
     ·have Hqx:=hIh hqx
      obtain ⟨XC,hXC⟩ : ∃ XC,XC = [(⟨nm,x⟩ : Amt)].flatMap amtC:=⟨_,rfl⟩;have HXC:=hIh hXC;obtain ⟨NS,hNS⟩ : ∃ NS,NS = sb nm:=⟨_,rfl⟩;have HNS:=hIh hNS;have hf4:Fr (fun k=>k = g) wr w4:=((Fr.of_below H2.out (fun k=>k = g)).trans HF3.out (fun k hk=>.inl hk)).below H4.out
      have Hown:Hid (w4.ownsRow 0 93 2 (.slice A0 m cp) m T):=by
       have:=hf4.owns HA.out.own (fun k hk e=>by have:=HA.out.new k hk;have:=Hgw.out;omega);rw [← Hm.out,← HT.out] at this;exact this
      have Hc1:Hid (Rd (w4.alloc (.cells #[.string NS,.int .i64 (x:Int)] 93)) 2 (.slice (some ⟨w4.heap.size,0,none⟩) 1 1) 1 XC):=by
       show Rd _ _ _ _ _;rw [hXC,hNS];exact rd_amt w4 93 ⟨nm,x⟩
      have Hc4:Hid (∀ u ∈ XC,u.oneCell' = true):=(by rw [hXC];exact amt_one ⟨nm,x⟩);rw [← hNS];clear hXC hNS hf4 hqx;go_wp2_with (at_builtin;refine wpList_append2 _ rfl (.tmp 34) (.tmp 40) 28 rfl 93 (.agg #[.string ⟨#[]⟩,.int .i64 0]) 2 24 Tryz.underlying28 infoAmt rfl (by decide) _ m T rfl (Hown.out.alloc _) _ 1 XC rfl ?c1 ?c4 ?c2 ?c3 ?_)
      case c1=>exact Hc1.out
      case c4=>exact Hc4.out
      case c2=>have:=Hmb.out;unfold maxLen;omega
      case c3=>have:=Hmb.out;omega
      intro v' w5 ho5 hg5 hn5 _;obtain ⟨A',c',rfl⟩:=own_slice ho5;have h9:=AmW.next HA.out Hgw.out Hcut.out Hqx.out H2.out HR3.out HF3.out H4.out (by rw [← Hm.out,← HT.out,← HXC.out];exact ho5) hg5 hn5;have Hk:Hid (AmLoop g q line w (amountsS l) (.slice A' (m + 1) c') w5 ∧ rdLen g w5 < rdLen g wr):=⟨⟨_,_,h9⟩,by rw [h9.rd.len,HA.out.rd.len];simp⟩;clear ho5 hg5 hn5 h9;go_wp2;go_roundw
      case rel=>exact Hk.out.1
      case measure=>exact Hk.out.2
     ·have Hn:Hid (amountsS l = none):=by show _ = _;rw [HA.out.eq,amountsS_bad Hcut.out hqx];rfl
      refine ⟨rfl,?_⟩;exact .inr ⟨Hn.out,rfl,((HA.out.fr.below H2.out).trans HF3.out (fun k hk=>.inl hk)).below H4.out⟩
    ·have HR3:=hIh hR
     have HF3:=hIh hF;clear hR hF;generalize hW3:w2.setCell ⟨g,0,none⟩ (.slice (some ⟨b,off + 1,none⟩) n (c - 1)) = W3 at HR3 HF3;have HW3:=hIh hW3;have Hq:=hIh (quantity_calls W3 (HG.out _ ((HA.out.fr.below H2.out).trans HF3.out (fun k hk=>.inl hk))) (.pointer (some ⟨g,0,none⟩)) u hul);clear hW3;go_wp2_with fail;rw [HW3.out];(with_reducible refine Hq.out.mono ?_);rintro e w4 ⟨hcase,hw4⟩;have H4:=hIh hw4;clear hw4 Hq;rcases hcase with ⟨x,hqx,rfl⟩ | ⟨hqx,rfl⟩
     ·have Hqx:=hIh hqx
      obtain ⟨XC,hXC⟩ : ∃ XC,XC = [(⟨nm,x⟩ : Amt)].flatMap amtC:=⟨_,rfl⟩;have HXC:=hIh hXC;obtain ⟨NS,hNS⟩ : ∃ NS,NS = sb nm:=⟨_,rfl⟩;have HNS:=hIh hNS;have hf4:Fr (fun k=>k = g) wr w4:=((Fr.of_below H2.out (fun k=>k = g)).trans HF3.out (fun k hk=>.inl hk)).below H4.out
      have Hown:Hid (w4.ownsRow 0 93 2 (.slice A0 m cp) m T):=by
       have:=hf4.owns HA.out.own (fun k hk e=>by have:=HA.out.new k hk;have:=Hgw.out;omega);rw [← Hm.out,← HT.out] at this;exact this
      have Hc1:Hid (Rd (w4.alloc (.cells #[.string NS,.int .i64 (x:Int)] 93)) 2 (.slice (some ⟨w4.heap.size,0,none⟩) 1 1) 1 XC):=by
       show Rd _ _ _ _ _;rw [hXC,hNS];exact rd_amt w4 93 ⟨nm,x⟩
      have Hc4:Hid (∀ u ∈ XC,u.oneCell' = true):=(by rw [hXC];exact amt_one ⟨nm,x⟩);rw [← hNS];clear hXC hNS hf4 hqx;go_wp2_with (at_builtin;refine wpList_append2 _ rfl (.tmp 34) (.tmp 40) 28 rfl 93 (.agg #[.string ⟨#[]⟩,.int .i64 0]) 2 24 Tryz.underlying28 infoAmt rfl (by decide) _ m T rfl (Hown.out.alloc _) _ 1 XC rfl ?c1 ?c4 ?c2 ?c3 ?_)
      case c1=>exact Hc1.out
      case c4=>exact Hc4.out
      case c2=>have:=Hmb.out;unfold maxLen;omega
      case c3=>have:=Hmb.out;omega
      intro v' w5 ho5 hg5 hn5 _;obtain ⟨A',c',rfl⟩:=own_slice ho5;have h9:=AmW.next HA.out Hgw.out Hcut.out Hqx.out H2.out HR3.out HF3.out H4.out (by rw [← Hm.out,← HT.out,← HXC.out];exact ho5) hg5 hn5;have Hk:Hid (AmLoop g q line w (amountsS l) (.slice A' (m + 1) c') w5 ∧ rdLen g w5 < rdLen g wr):=⟨⟨_,_,h9⟩,by rw [h9.rd.len,HA.out.rd.len];simp⟩;clear ho5 hg5 hn5 h9;go_wp2;go_roundw
      case rel=>exact Hk.out.1
      case measure=>exact Hk.out.2
     ·have Hn:Hid (amountsS l = none):=by show _ = _;rw [HA.out.eq,amountsS_bad Hcut.out hqx];rfl
      refine ⟨rfl,?_⟩;exact .inr ⟨Hn.out,rfl,((HA.out.fr.below H2.out).trans HF3.out (fun k hk=>.inl hk)).below H4.out⟩
theorem cellsN {w:World} {g:Nat} {cs:Array Value} {t:TypeId} {i:Nat} (h:w.heap[g]? = some (.cells cs t (0,0))) (hi:i < cs.size):w.cell? ⟨g,i,none⟩ = some cs[i] ∧ w.frozen? ⟨g,i,none⟩ = false:=by
 simp [World.cell?,World.frozen?,h,hi]
structure FQ (g gq:Nat) (w0 w:World):Prop where
 toFr:Fr (fun k=>k = g ∨ k = gq) w0 w
 blk:∃ cs,w.heap[gq]? = some (.cells cs 38 (0,0)) ∧ cs.size = 29
 ne:g ≠ gq
 lt:gq < w0.heap.size
section
variable {g gq:Nat} {w0 w1 w2:World}
theorem FQ.refl {cs:Array Value} (h:w0.heap[gq]? = some (.cells cs 38 (0,0))) (hs:cs.size = 29) (hne:g ≠ gq):FQ g gq w0 w0:=⟨Fr.refl _ _,⟨cs,h,hs⟩,hne,blk_lt h⟩
theorem FQ.size (h:FQ g gq w0 w1):w0.heap.size ≤ w1.heap.size:=h.toFr.size
theorem FQ.trans (h:FQ g gq w0 w1) {T:Nat → Prop} (k:Fr T w1 w2) (hs:∀ k,T k → (k = g ∨ k = gq) ∨ w0.heap.size ≤ k) (hq:g ≠ gq → gq < w0.heap.size → ¬ T gq:=by intro a b c;first | exact a c.symm | omega):FQ g gq w0 w2:=by
 obtain ⟨cs,h1,h2⟩:=h.blk;exact ⟨h.toFr.trans k hs,⟨cs,k.blk h1 (hq h.ne h.lt),h2⟩,h.ne,h.lt⟩
theorem FQ.then (h:FQ g gq w0 w1) (k:FQ g gq w1 w2):FQ g gq w0 w2:=⟨h.toFr.trans k.toFr (fun k hk=>.inl hk),k.blk,h.ne,h.lt⟩
theorem FQ.below (h:FQ g gq w0 w1) (k:Below w1.heap.size w1 w2):FQ g gq w0 w2:=by
 obtain ⟨cs,h1,h2⟩:=h.blk;exact ⟨h.toFr.below k,⟨cs,(k.block gq (blk_lt h1)).trans h1,h2⟩,h.ne,h.lt⟩
theorem FQ.drew (h:FQ g gq w0 w1):FQ g gq w0 w1.drew:=⟨h.toFr.drew,h.blk,h.ne,h.lt⟩
theorem FQ.setQ (h:FQ g gq w0 w1) (i:Nat) (v:Value):FQ g gq w0 (w1.setCell ⟨gq,i,none⟩ v):=by
 obtain ⟨cs,h1,h2⟩:=h.blk;exact ⟨h.toFr.setCell (p:=⟨gq,i,none⟩) (.inl (.inr rfl)) v,⟨_,blk_setCell h1 i v,by simpa using h2⟩,h.ne,h.lt⟩
end
def MtP (g gq:Nat) (q:Nat → Prop) (line:Str) (w:World) (o:Option (Array Value × List Str)) (e:Ending) (w' : World):Prop:=
 (∃ x,o = some x ∧ e = .returned (.tuple #[]) ∧ IsR g q line w' x.2 ∧ w'.heap[gq]? = some (.cells x.1 38 (0,0)) ∧ Fr (fun k=>k = g ∨ k = gq) w w') ∨ (o = none ∧ e = (.panicked [{ v:=.iface 74 (.agg #[]),recovered:=false }]) ∧ FQ g gq w w')
def namedM (cs:Array Value):List Str → Option (Array Value × List Str)
 | p :: n :: r=>some ((cs.setIfInBounds 2 (.string (sb p))).setIfInBounds 3 (.string (sb n)),r)
 | _=>none
theorem named_calls {g gq:Nat} {q:Nat → Prop} {line:Str} (w:World) (l:List Str) (cs:Array Value) (h:IsR g q line w l) (hq:w.heap[gq]? = some (.cells cs 38 (0,0))) (hs:cs.size = 29) (hne:g ≠ gq) (hqq:q gq) (hqg:¬ q g) :
  Calls Tryz.prog 55 #[.pointer (some ⟨g,0,none⟩),.pointer (some ⟨gq,0,none⟩)] w (MtP g gq q line w (namedM cs l)):=by
 cases l with
 | nil=>
  have Hw:=hIh (wordN_calls w h);have Hpost:Hid (MtP g gq q line w (namedM cs []) (.panicked [{ v:=.iface 74 (.agg #[]),recovered:=false }]) w):=.inr ⟨rfl,rfl,FQ.refl hq hs hne⟩;generalize namedM cs [] = o at Hpost;clear h hq;go_enter Tryz.func55,Tryz.ntmps55;go_wp2_with (go_at_call 31;with_reducible refine Hw.out.mono ?_;rintro e w1 ⟨rfl,hw1⟩;obtain rfl:=hw1.symm);exact ⟨rfl,Hpost.out⟩
 | cons p r=>
  have Hw:=hIh (wordC_calls w p r h);have Hq:=hIh hq
  have Hset:Hid (∀ w1,IsR g q line w1 r → Fr (fun k=>k = g) w w1 → IsR g q line (w1.setCell ⟨gq,2,none⟩ (.string (sb p))) r ∧ (w1.setCell ⟨gq,2,none⟩ (.string (sb p))).heap[gq]? = some (.cells (cs.setIfInBounds 2 (.string (sb p))) 38 (0,0)) ∧ Fr (fun k=>k = g ∨ k = gq) w (w1.setCell ⟨gq,2,none⟩ (.string (sb p)))):=fun w1 h1 h2=>
   ⟨h1.fr ((Fr.refl q w1).setCell (p:=⟨gq,2,none⟩) (.inl hqq) _) hqg,blk_setCell (h2.blk hq (fun e=>hne e.symm)) 2 _,(h2.mono (fun k hk=>.inl hk)).setCell (p:=⟨gq,2,none⟩) (.inl (.inr rfl)) _⟩
  clear h hq;generalize hPS:sb p = PS at Hw Hset;have HPS:=hIh hPS;clear hPS;go_enter Tryz.func55,Tryz.ntmps55;go_wp2_with fail
  with_reducible refine Hw.out.mono ?_
  rintro e w1 ⟨rfl,hR,hF⟩;obtain ⟨d2,e2⟩:=cellsN (hF.blk Hq.out (fun e=>hne e.symm)) (i:=2) (by omega);obtain ⟨hR2,hq2,hF2⟩:=Hset.out w1 hR hF;generalize hW:w1.setCell ⟨gq,2,none⟩ (.string PS) = W2 at hR2 hq2 hF2;have HW:=hIh hW;have HF2:=hIh hF2;have HQ2:=hIh hq2
  cases r with
  | nil=>
   have Hw2:=hIh (wordN_calls W2 hR2);have Hpost:Hid (MtP g gq q line w (namedM cs [p]) (.panicked [{ v:=.iface 74 (.agg #[]),recovered:=false }]) W2):=.inr ⟨rfl,rfl,HF2.out,⟨_,HQ2.out,by simpa using hs⟩,hne,blk_lt Hq.out⟩;clear hR hF hR2 hq2 hF2 hW;go_wp2_with fail;rw [HW.out];(with_reducible refine Hw2.out.mono ?_);rintro e w3 ⟨rfl,hw3⟩;obtain rfl:=hw3.symm;go_wp2;exact ⟨rfl,Hpost.out⟩
  | cons n r=>
   have Hw2:=hIh (wordC_calls W2 n r hR2)
   have Hpost:Hid (∀ w3,IsR g q line w3 r → Fr (fun k=>k = g) W2 w3 → MtP g gq q line w (namedM cs (p :: n :: r)) (.returned (.tuple #[])) (w3.setCell ⟨gq,3,none⟩ (.string (sb n)))):=fun w3 h1 h2=>by
    refine .inl ⟨_,rfl,rfl,h1.fr ((Fr.refl q w3).setCell (p:=⟨gq,3,none⟩) (.inl hqq) _) hqg,?_,((HF2.out.trans h2 (fun k hk=>.inl (.inl hk)))).setCell (p:=⟨gq,3,none⟩) (.inl (.inr rfl)) _⟩;rw [HPS.out];exact blk_setCell (h2.blk HQ2.out (fun e=>hne e.symm)) 3 _
   generalize sb n = NS at Hw2 Hpost;clear hR hF hR2 hq2 hF2 hW;go_wp2_with fail;rw [HW.out];(with_reducible refine Hw2.out.mono ?_);rintro e w3 ⟨rfl,hR3,hF3⟩;have HP:=hIh (Hpost.out w3 hR3 hF3);obtain ⟨d3,e3⟩:=cellsN (hF3.blk HQ2.out (fun e=>hne e.symm)) (i:=3) (by simp;omega);clear hR3 hF3;go_wp2;go_end0;exact HP.out
structure Sd (g gq:Nat) (q:Nat → Prop):Prop where
 ne:g ≠ gq
 hq:q gq
 hg:¬ q g
structure RS (g gq:Nat) (q:Nat → Prop) (line:Str) (w0 w:World) (l:List Str) (cs:Array Value):Prop where
 rd:IsR g q line w l
 rq:w.heap[gq]? = some (.cells cs 38 (0,0))
 sz:cs.size = 29
 fr:FQ g gq w0 w
section
variable {g gq:Nat} {q:Nat → Prop} {line:Str} {w0 w w1:World} {l r:List Str} {cs:Array Value} {t:Str}
theorem RS.set (h:RS g gq q line w0 w l cs) (sd:Sd g gq q) (i:Nat) (v:Value):RS g gq q line w0 (w.setCell ⟨gq,i,none⟩ v) l (cs.setIfInBounds i v):=
 ⟨h.rd.fr ((Fr.refl q w).setCell (p:=⟨gq,i,none⟩) (.inl sd.hq) _) sd.hg,blk_setCell h.rq i v,by simpa using h.sz,h.fr.setQ i v⟩
theorem RS.cell (h:RS g gq q line w0 w l cs) (i:Nat) (hi:i < 29):∃ v,w.cell? ⟨gq,i,none⟩ = some v ∧ cs[i]? = some v ∧ w.frozen? ⟨gq,i,none⟩ = false:=by
 have hs:i < cs.size:=by rw [h.sz];exact hi
 obtain ⟨h1,h2⟩:=cellsN h.rq hs;exact ⟨_,h1,by simp [hs],h2⟩
theorem RS.go (h:RS g gq q line w0 w l cs) (sd:Sd g gq q) (hR:IsR g q line w1 r) (hF:Fr (fun k=>k = g) w w1):RS g gq q line w0 w1 r cs:=
 ⟨hR,hF.blk h.rq (fun e=>sd.ne e.symm),h.sz,h.fr.trans hF (fun k hk=>.inl (.inl hk))⟩
theorem RS.below (h:RS g gq q line w0 w l cs) (hb:Below w.heap.size w w1):RS g gq q line w0 w1 l cs:=⟨h.rd.below hb,blk_below h.rq hb,h.sz,h.fr.below hb⟩
theorem RS.word (h:RS g gq q line w0 w (t :: r) cs) (sd:Sd g gq q):Calls Tryz.prog 31 #[.pointer (some ⟨g,0,none⟩)] w fun e w'=>e = .returned (.string (sb t)) ∧ RS g gq q line w0 w' r cs:=by
 refine (wordC_calls w t r h.rd).mono ?_;rintro e w' ⟨h1,h2,h3⟩;exact ⟨h1,h.go sd h2 h3⟩
theorem RS.wordN (h:RS g gq q line w0 w [] cs):Calls Tryz.prog 31 #[.pointer (some ⟨g,0,none⟩)] w fun e w'=>e = (.panicked [{ v:=.iface 74 (.agg #[]),recovered:=false }]) ∧ w' = w:=wordN_calls w h.rd
theorem RS.isT (h:RS g gq q line w0 w (t :: r) cs) (sd:Sd g gq q):Calls Tryz.prog 96 #[.pointer (some ⟨g,0,none⟩),.string (sb t)] w fun e w'=>e = .returned (.bool true) ∧ RS g gq q line w0 w' r cs:=by
 refine (isT_calls w t r h.rd).mono ?_;rintro e w' ⟨h1,h2,h3⟩;exact ⟨h1,h.go sd h2 h3⟩
theorem RS.isNo (h:RS g gq q line w0 w l cs) (s:Str) (hs:l.head? ≠ some s):Calls Tryz.prog 96 #[.pointer (some ⟨g,0,none⟩),.string (sb s)] w fun e w'=>e = .returned (.bool false) ∧ w' = w:=by
 cases l with
 | nil=>exact isN_calls w (sb s) h.rd
 | cons t r=>exact isF_calls w t s r h.rd (fun e=>hs (by rw [e];rfl))
def NumQ (g gq:Nat) (q:Nat → Prop) (line:Str) (w0:World) (cs:Array Value) (o:Option (Int × List Str)) (e:Ending) (w' : World):Prop:=
 (∃ x,o = some x ∧ e = .returned (.int .i64 x.1) ∧ RS g gq q line w0 w' x.2 cs) ∨ (o = none ∧ e = (.panicked [{ v:=.iface 74 (.agg #[]),recovered:=false }]) ∧ FQ g gq w0 w')
theorem NumP.toQ (h:RS g gq q line w0 w l cs) (sd:Sd g gq q) {o:Option (Int × List Str)} {e:Ending} (hp:NumP g q line w o e w1):NumQ g gq q line w0 cs o e w1:=by
 rcases hp with ⟨x,h1,h2,h3,h4⟩ | ⟨h1,h2,h3⟩
 ·exact .inl ⟨x,h1,h2,h.go sd h3 h4⟩
 ·exact .inr ⟨h1,h2,h.fr.trans h3 (fun k hk=>.inl (.inl hk))⟩
theorem RS.must (h:RS g gq q line w0 w l cs) (sd:Sd g gq q):Calls Tryz.prog 102 #[.pointer (some ⟨g,0,none⟩)] w (NumQ g gq q line w0 cs ((mustS l).map fun x=>((x.1:Int),x.2))):=
 (must_calls w l h.rd).mono fun e w' hp=>NumP.toQ h sd hp
theorem RS.small (h:RS g gq q line w0 w l cs) (sd:Sd g gq q) (name:Str) (other:Int) (hn:name.length ≤ 100):Calls Tryz.prog 101 #[.pointer (some ⟨g,0,none⟩),.string (sb name),.int .i64 other] w (NumQ g gq q line w0 cs (smallS name other l)):=
 (small_calls w name other l h.rd hn).mono fun e w' hp=>NumP.toQ h sd hp
def MtQ (g gq:Nat) (q:Nat → Prop) (line:Str) (w0:World) (o:Option (Array Value × List Str)) (e:Ending) (w' : World):Prop:=
 (∃ x,o = some x ∧ e = .returned (.tuple #[]) ∧ RS g gq q line w0 w' x.2 x.1) ∨ (o = none ∧ e = (.panicked [{ v:=.iface 74 (.agg #[]),recovered:=false }]) ∧ FQ g gq w0 w')
theorem RS.named (h:RS g gq q line w0 w l cs) (sd:Sd g gq q):Calls Tryz.prog 55 #[.pointer (some ⟨g,0,none⟩),.pointer (some ⟨gq,0,none⟩)] w (MtQ g gq q line w0 (namedM cs l)):=by
 refine (named_calls w l cs h.rd h.rq h.sz sd.ne sd.hq sd.hg).mono ?_;rintro e w' (⟨x,h1,h2,h3,h4,h5⟩ | ⟨h1,h2,h3⟩)
 ·have hsz:x.1.size = 29:=by
   cases l with
   | nil=>cases h1
   | cons p l=>cases l with
    | nil=>cases h1
    | cons n r=>cases h1;simpa using h.sz
  exact .inl ⟨x,h1,h2,h3,h4,hsz,h.fr.toFr.trans h5 (fun k hk=>.inl hk),⟨_,h4,hsz⟩,h.fr.ne,h.fr.lt⟩
 ·exact .inr ⟨h1,h2,h.fr.then h3⟩
end
def dropM (cs:Array Value) (l:List Str):Option (Array Value × List Str):=(namedM (cs.setIfInBounds 0 (.int .i64 9)) l).bind fun x=>(mustS x.2).map fun m=>(x.1.setIfInBounds 24 (.int .i64 (m.1:Int)),m.2)
theorem drop_calls {g gq:Nat} {q:Nat → Prop} {line:Str} {w0:World} (w:World) (l:List Str) (cs:Array Value) (h:RS g gq q line w0 w l cs) (sd:Sd g gq q) :
  Calls Tryz.prog 53 #[.pointer (some ⟨g,0,none⟩),.pointer (some ⟨gq,0,none⟩)] w (MtQ g gq q line w0 (dropM cs l)):=by
 have Hs:Hid (dropM cs l = (namedM (cs.setIfInBounds 0 (.int .i64 9)) l).bind fun x=>(mustS x.2).map fun m=>(x.1.setIfInBounds 24 (.int .i64 (m.1:Int)),m.2)):=rfl;obtain ⟨v0,c0, -,f0⟩:=h.cell 0 (by omega);have h1:=h.set sd 0 (.int .i64 9);have Hnm:=hIh (h1.named sd);generalize hW:w.setCell ⟨gq,0,none⟩ (.int .i64 9) = W1 at h1 Hnm;have HW:=hIh hW;have Hsd:=hIh sd;generalize dropM cs l = o at Hs;clear h h1 hW sd;go_enter Tryz.func53,Tryz.ntmps53;go_wp2_with fail;rw [HW.out]
 with_reducible refine Hnm.out.mono ?_
 rintro e w2 (⟨x,hx,rfl,hR⟩ | ⟨hx,rfl,hF⟩)
 ·have Hx:=hIh hx
  have Hms:=hIh (hR.must Hsd.out);have HR:=hIh hR;clear hx hR;go_wp2_with fail
  with_reducible refine Hms.out.mono ?_
  rintro e w3 (⟨y,hy,rfl,hR3⟩ | ⟨hy,rfl,hF⟩)
  ·obtain ⟨m,hm,rfl⟩:=Option.map_eq_some_iff.1 hy
   have Hp:Hid (MtQ g gq q line w0 o (.returned (.tuple #[])) (w3.setCell ⟨gq,24,none⟩ (.int .i64 (m.1:Int)))):=.inl ⟨_,by rw [Hs.out,Hx.out];simp only [Option.bind_some,hm];rfl,rfl,hR3.set Hsd.out 24 _⟩;obtain ⟨v24,c24, -,f24⟩:=hR3.cell 24 (by omega);clear hy hm hR3;go_wp2;go_end0;exact Hp.out
  ·have Hp:Hid (MtQ g gq q line w0 o (.panicked [{ v:=.iface 74 (.agg #[]),recovered:=false }]) w3):=.inr ⟨by rw [Hs.out,Hx.out];simpa using hy,rfl,hF⟩
   clear hy hF;go_wp2;exact ⟨rfl,Hp.out⟩
 ·have Hp:Hid (MtQ g gq q line w0 o (.panicked [{ v:=.iface 74 (.agg #[]),recovered:=false }]) w2):=.inr ⟨by rw [Hs.out,hx];rfl,rfl,hF⟩
  clear hx hF;go_wp2;exact ⟨rfl,Hp.out⟩
def wAdd:Str := [97,100,100]
def pathM (cs:Array Value) (op:Int):List Str → Option (Array Value × List Str)
 | p :: r=>some ((cs.setIfInBounds 0 (.int .i64 op)).setIfInBounds 2 (.string (sb p)),r)
 | []=>none
def nodeM (cs:Array Value):List Str → Option (Array Value × List Str)
 | t :: r=>if t = wAdd then pathM cs 1 r else if t = wDrop then pathM cs 2 r else none
 | []=>none
theorem MtQ.bad {g gq:Nat} {q:Nat → Prop} {line:Str} {w0 w' : World} {o:Option (Array Value × List Str)} (ho:o = none) (hf:FQ g gq w0 w'):MtQ g gq q line w0 o (.panicked [{ v:=.iface 74 (.agg #[]),recovered:=false }]) w':=.inr ⟨ho,rfl,hf⟩
theorem node_calls {g gq:Nat} {q:Nat → Prop} {line:Str} {w0:World} (w:World) (l:List Str) (cs:Array Value) (h:RS g gq q line w0 w l cs) (sd:Sd g gq q) :
  Calls Tryz.prog 46 #[.pointer (some ⟨g,0,none⟩),.pointer (some ⟨gq,0,none⟩)] w (MtQ g gq q line w0 (nodeM cs l)):=by
 have Hs:Hid (nodeM cs l = nodeM cs l):=rfl;have Hsd:=hIh sd;have HH:=hIh h
 by_cases ha:l.head? = some wAdd
 ·obtain ⟨r,rfl⟩ : ∃ r,l = wAdd :: r:=by cases l with
   | nil=>cases ha
   | cons t r=>exact ⟨r,by cases ha;rfl⟩
  have Hs:Hid (nodeM cs (wAdd :: r) = pathM cs 1 r):=rfl;generalize nodeM cs (wAdd :: r) = o at Hs;have His:Hid (Calls Tryz.prog 96 #[.pointer (some ⟨g,0,none⟩),.string (ByteArray.mk #[97,100,100])] w fun e w'=>e = .returned (.bool true) ∧ RS g gq q line w0 w' r cs):=h.isT sd;clear h sd ha HH;go_enter Tryz.func46,Tryz.ntmps46;go_wp2_with fail
  with_reducible refine His.out.mono ?_
  rintro e w2 ⟨rfl,hR⟩;have h1:=hR.set Hsd.out 0 (.int .i64 1);obtain ⟨v0,c0, -,f0⟩:=hR.cell 0 (by omega);generalize hW:w2.setCell ⟨gq,0,none⟩ (.int .i64 1) = W1 at h1;have HW:=hIh hW
  cases r with
  | nil=>
   have Hw:=hIh h1.wordN;have Hp:=hIh (MtQ.bad (line:=line) (q:=q) (o:=o) (by rw [Hs.out];exact rfl) h1.fr);clear h1 hW hR;go_wp2_with fail;rw [HW.out];(with_reducible refine Hw.out.mono ?_);rintro e w3 ⟨rfl,hw3⟩;obtain rfl:=hw3.symm;go_wp2;exact ⟨rfl,Hp.out⟩
  | cons p r=>
   have Hw:=hIh (h1.word Hsd.out);clear h1 hW hR;go_wp2_with fail;rw [HW.out];(with_reducible refine Hw.out.mono ?_);rintro e w3 ⟨rfl,hR3⟩;obtain ⟨v2,c2, -,f2⟩:=hR3.cell 2 (by omega);have Hp:Hid (MtQ g gq q line w0 o (.returned (.tuple #[])) (w3.setCell ⟨gq,2,none⟩ (.string (sb p)))):=.inl ⟨_,by rw [Hs.out];exact rfl,rfl,hR3.set Hsd.out 2 _⟩;generalize sb p = PS at Hp;clear hR3;go_wp2;go_end0;exact Hp.out
 have Hna:Hid (Calls Tryz.prog 96 #[.pointer (some ⟨g,0,none⟩),.string (ByteArray.mk #[97,100,100])] w fun e w'=>e = .returned (.bool false) ∧ w' = w):=h.isNo wAdd ha
 by_cases hd:l.head? = some wDrop
 ·obtain ⟨r,rfl⟩ : ∃ r,l = wDrop :: r:=by cases l with
   | nil=>cases hd
   | cons t r=>exact ⟨r,by cases hd;rfl⟩
  have Hs:Hid (nodeM cs (wDrop :: r) = pathM cs 2 r):=rfl;generalize nodeM cs (wDrop :: r) = o at Hs;have His:Hid (Calls Tryz.prog 96 #[.pointer (some ⟨g,0,none⟩),.string (ByteArray.mk #[100,114,111,112])] w fun e w'=>e = .returned (.bool true) ∧ RS g gq q line w0 w' r cs):=h.isT sd;clear h sd ha hd HH;go_enter Tryz.func46,Tryz.ntmps46;go_wp2_with fail
  with_reducible refine Hna.out.mono ?_
  rintro e wx ⟨rfl,hwx⟩;obtain rfl:=hwx.symm;go_wp2_with fail
  with_reducible refine His.out.mono ?_
  rintro e w2 ⟨rfl,hR⟩;have h1:=hR.set Hsd.out 0 (.int .i64 2);obtain ⟨v0,c0, -,f0⟩:=hR.cell 0 (by omega);generalize hW:w2.setCell ⟨gq,0,none⟩ (.int .i64 2) = W1 at h1;have HW:=hIh hW
  cases r with
  | nil=>
   have Hw:=hIh h1.wordN;have Hp:=hIh (MtQ.bad (line:=line) (q:=q) (o:=o) (by rw [Hs.out];exact rfl) h1.fr);clear h1 hW hR;go_wp2_with fail;rw [HW.out];(with_reducible refine Hw.out.mono ?_);rintro e w3 ⟨rfl,hw3⟩;obtain rfl:=hw3.symm;go_wp2;exact ⟨rfl,Hp.out⟩
  | cons p r=>
   have Hw:=hIh (h1.word Hsd.out);clear h1 hW hR;go_wp2_with fail;rw [HW.out];(with_reducible refine Hw.out.mono ?_);rintro e w3 ⟨rfl,hR3⟩;obtain ⟨v2,c2, -,f2⟩:=hR3.cell 2 (by omega);have Hp:Hid (MtQ g gq q line w0 o (.returned (.tuple #[])) (w3.setCell ⟨gq,2,none⟩ (.string (sb p)))):=.inl ⟨_,by rw [Hs.out];exact rfl,rfl,hR3.set Hsd.out 2 _⟩;generalize sb p = PS at Hp;clear hR3;go_wp2;go_end0;exact Hp.out
 have Hnd:Hid (Calls Tryz.prog 96 #[.pointer (some ⟨g,0,none⟩),.string (ByteArray.mk #[100,114,111,112])] w fun e w'=>e = .returned (.bool false) ∧ w' = w):=h.isNo wDrop hd
 have Hp:Hid (MtQ g gq q line w0 (nodeM cs l) (.panicked [{ v:=.iface 74 (.agg #[]),recovered:=false }]) w):=MtQ.bad (by
  cases l with
  | nil=>rfl
  | cons t r=>
   show (if t = wAdd then pathM cs 1 r else if t = wDrop then pathM cs 2 r else none) = none
   rw [if_neg (fun e=>ha (by rw [e];rfl)),if_neg (fun e=>hd (by rw [e];rfl))]) h.fr
 clear h sd ha hd HH;go_enter Tryz.func46,Tryz.ntmps46;go_wp2_with fail
 with_reducible refine Hna.out.mono ?_
 rintro e wx ⟨rfl,hwx⟩;obtain rfl:=hwx.symm;go_wp2_with fail
 with_reducible refine Hnd.out.mono ?_
 rintro e wy ⟨rfl,hwy⟩;obtain rfl:=hwy.symm;go_wp2_with (go_at_call 29;with_reducible refine (needF_calls _ _).mono ?_;rintro e wz ⟨rfl,hwz⟩;obtain rfl:=hwz.symm);exact ⟨rfl,Hp.out⟩
def wMost:Str := [109,111,115,116]
def watchM (cs:Array Value):List Str → Option (Array Value × List Str)
 | p :: v :: r=>(digitsS v 19).bind fun n=>(smallS wMost 100 r).map fun m=>((((cs.setIfInBounds 0 (.int .i64 13)).setIfInBounds 2 (.string (sb p))).setIfInBounds 24 (.int .i64 (n:Int))).setIfInBounds 25 (.int .i64 m.1),m.2)
 | _=>none
theorem watch_calls {g gq:Nat} {q:Nat → Prop} {line:Str} {w0:World} (w:World) (l:List Str) (cs:Array Value) (h:RS g gq q line w0 w l cs) (sd:Sd g gq q) :
  Calls Tryz.prog 59 #[.pointer (some ⟨g,0,none⟩),.pointer (some ⟨gq,0,none⟩)] w (MtQ g gq q line w0 (watchM cs l)):=by
 obtain ⟨v0,c0, -,f0⟩:=h.cell 0 (by omega);have h1:=h.set sd 0 (.int .i64 13);generalize hW:w.setCell ⟨gq,0,none⟩ (.int .i64 13) = W1 at h1;have HW:=hIh hW;have Hsd:=hIh sd;clear h hW sd
 cases l with
 | nil=>
  have Hw:=hIh h1.wordN;have Hp:=hIh (MtQ.bad (line:=line) (q:=q) (o:=watchM cs []) rfl h1.fr);clear h1;go_enter Tryz.func59,Tryz.ntmps59;go_wp2_with fail;rw [HW.out]
  with_reducible refine Hw.out.mono ?_
  rintro e w2 ⟨rfl,hw2⟩;obtain rfl:=hw2.symm;go_wp2;exact ⟨rfl,Hp.out⟩
 | cons p l=>
  have Hw:=hIh (h1.word Hsd.out);clear h1;go_enter Tryz.func59,Tryz.ntmps59;go_wp2_with fail;rw [HW.out]
  with_reducible refine Hw.out.mono ?_
  rintro e w2 ⟨rfl,hR2⟩;obtain ⟨v2,c2, -,f2⟩:=hR2.cell 2 (by omega);have h3:=hR2.set Hsd.out 2 (.string (sb p));generalize hW3:w2.setCell ⟨gq,2,none⟩ (.string (sb p)) = W3 at h3;have HW3:=hIh hW3;clear hR2 hW3
  cases l with
  | nil=>
   have Hw:=hIh h3.wordN;have Hp:=hIh (MtQ.bad (line:=line) (q:=q) (o:=watchM cs [p]) rfl h3.fr);clear h3;go_wp2_with fail;rw [HW3.out];(with_reducible refine Hw.out.mono ?_);rintro e w4 ⟨rfl,hw4⟩;obtain rfl:=hw4.symm;go_wp2;exact ⟨rfl,Hp.out⟩
  | cons v r=>
   have Hw:=hIh (h3.word Hsd.out);have Hs:Hid (watchM cs (p :: v :: r) = (digitsS v 19).bind fun n=>(smallS wMost 100 r).map fun m=>((((cs.setIfInBounds 0 (.int .i64 13)).setIfInBounds 2 (.string (sb p))).setIfInBounds 24 (.int .i64 (n:Int))).setIfInBounds 25 (.int .i64 m.1),m.2)):=rfl;generalize hCS:(cs.setIfInBounds 0 (.int .i64 13)).setIfInBounds 2 (.string (sb p)) = CS at h3 Hw Hs;have Hd:=hIh (fun W=>(show Calls Tryz.prog 105 #[.string (sb v),.int .i64 19] W (NuPost W (dgI v 19)) from digits_calls W v 19 (by omega)));clear h3 hCS;go_wp2_with fail;rw [HW3.out];(with_reducible refine Hw.out.mono ?_);rintro e w4 ⟨rfl,hR4⟩;have HR4:=hIh hR4;clear hR4;go_wp2_with fail;(with_reducible refine (Hd.out _).mono ?_);rintro e w5 ⟨n,ok,rfl,hn,hw5⟩;have hR5:=HR4.out.below hw5;rcases hn with ⟨m,hm,rfl,rfl⟩ | ⟨hm,rfl⟩
   ·cases hd:digitsS v 19 with
    | none=>rw [dgI_none hd] at hm;cases hm
    | some d=>
     rw [dgI_some hd] at hm
     cases hm
     obtain ⟨v24,c24, -,f24⟩:=hR5.cell 24 (by omega);have h6:=hR5.set Hsd.out 24 (.int .i64 (d:Int));generalize hW6:w5.setCell ⟨gq,24,none⟩ (.int .i64 (d:Int)) = W6 at h6;have HW6:=hIh hW6;have Hsm:Hid (Calls Tryz.prog 101 #[.pointer (some ⟨g,0,none⟩),.string (ByteArray.mk #[109,111,115,116]),.int .i64 100] W6 (NumQ g gq q line w0 (CS.setIfInBounds 24 (.int .i64 (d:Int))) (smallS wMost 100 r))):=h6.small Hsd.out wMost 100 (by decide);have Hd2:=hIh hd;clear hw5 hR5 h6 hW6 hd;go_wp2_with (go_at_call 29;with_reducible refine (needT_calls _ _).mono ?_;rintro e wz ⟨rfl,hwz⟩;obtain rfl:=hwz.symm);rw [HW6.out];(with_reducible refine Hsm.out.mono ?_);rintro e w7 (⟨y,hy,rfl,hR7⟩ | ⟨hy,rfl,hF⟩)
     ·obtain ⟨v25,c25, -,f25⟩:=hR7.cell 25 (by omega)
      have Hp:Hid (MtQ g gq q line w0 (watchM cs (p :: v :: r)) (.returned (.tuple #[])) (w7.setCell ⟨gq,25,none⟩ (.int .i64 y.1))):=.inl ⟨_,by rw [Hs.out,Hd2.out,hy];rfl,rfl,hR7.set Hsd.out 25 _⟩;clear hy hR7;go_wp2;go_end0;exact Hp.out
     ·have Hp:Hid (MtQ g gq q line w0 (watchM cs (p :: v :: r)) (.panicked [{ v:=.iface 74 (.agg #[]),recovered:=false }]) w7):=MtQ.bad (by rw [Hs.out,Hd2.out,hy];rfl) hF
      clear hy hF;go_wp2;exact ⟨rfl,Hp.out⟩
   ·cases hd:digitsS v 19 with
    | some d=>rw [dgI_some hd] at hm;cases hm
    | none=>
     have Hp:Hid (MtQ g gq q line w0 (watchM cs (p :: v :: r)) (.panicked [{ v:=.iface 74 (.agg #[]),recovered:=false }]) w5):=MtQ.bad (by rw [Hs.out,hd];rfl) hR5.fr;clear hm hw5 hR5 hd;go_wp2_with (go_at_call 29;with_reducible refine (needF_calls _ _).mono ?_;rintro e wz ⟨rfl,hwz⟩;obtain rfl:=hwz.symm);exact ⟨rfl,Hp.out⟩
def opNamedM (op:Int) (cs:Array Value) (l:List Str):Option (Array Value × List Str):=namedM (cs.setIfInBounds 0 (.int .i64 op)) l
def opM (op:Int) (cs:Array Value) (l:List Str):Option (Array Value × List Str):=some (cs.setIfInBounds 0 (.int .i64 op),l)
theorem form4_calls {g gq:Nat} {q:Nat → Prop} {line:Str} {w0:World} (w:World) (l:List Str) (cs:Array Value) (h:RS g gq q line w0 w l cs) (sd:Sd g gq q) :
  Calls Tryz.prog 54 #[.pointer (some ⟨g,0,none⟩),.pointer (some ⟨gq,0,none⟩)] w (MtQ g gq q line w0 (opNamedM 10 cs l)):=by
 obtain ⟨v0,c0, -,f0⟩:=h.cell 0 (by omega);have h1:=h.set sd 0 (.int .i64 10)
 have Hn:Hid (∀ W,W = w.setCell ⟨gq,0,none⟩ (.int .i64 10) → Calls Tryz.prog 55 #[.pointer (some ⟨g,0,none⟩),.pointer (some ⟨gq,0,none⟩)] W (MtQ g gq q line w0 (opNamedM 10 cs l))):=fun W hW=>by rw [hW];exact h1.named sd
 generalize opNamedM 10 cs l = o at Hn;clear h h1 sd;go_enter Tryz.func54,Tryz.ntmps54;go_wp2_with fail
 with_reducible refine (Hn.out _ rfl).mono ?_
 rintro e w2 (⟨x,hx,rfl,hR⟩ | ⟨hx,rfl,hF⟩)
 ·have Hp:Hid (MtQ g gq q line w0 o (.returned (.tuple #[])) w2):=.inl ⟨x,hx,rfl,hR⟩
  clear hx hR;go_wp2;go_end0;exact Hp.out
 ·have Hp:Hid (MtQ g gq q line w0 o (.panicked [{ v:=.iface 74 (.agg #[]),recovered:=false }]) w2):=.inr ⟨hx,rfl,hF⟩
  clear hx hF;go_wp2;exact ⟨rfl,Hp.out⟩
theorem form6_calls {g gq:Nat} {q:Nat → Prop} {line:Str} {w0:World} (w:World) (l:List Str) (cs:Array Value) (h:RS g gq q line w0 w l cs) (sd:Sd g gq q) :
  Calls Tryz.prog 58 #[.pointer (some ⟨g,0,none⟩),.pointer (some ⟨gq,0,none⟩)] w (MtQ g gq q line w0 (opNamedM 12 cs l)):=by
 obtain ⟨v0,c0, -,f0⟩:=h.cell 0 (by omega);have h1:=h.set sd 0 (.int .i64 12)
 have Hn:Hid (∀ W,W = w.setCell ⟨gq,0,none⟩ (.int .i64 12) → Calls Tryz.prog 55 #[.pointer (some ⟨g,0,none⟩),.pointer (some ⟨gq,0,none⟩)] W (MtQ g gq q line w0 (opNamedM 12 cs l))):=fun W hW=>by rw [hW];exact h1.named sd
 generalize opNamedM 12 cs l = o at Hn;clear h h1 sd;go_enter Tryz.func58,Tryz.ntmps58;go_wp2_with fail
 with_reducible refine (Hn.out _ rfl).mono ?_
 rintro e w2 (⟨x,hx,rfl,hR⟩ | ⟨hx,rfl,hF⟩)
 ·have Hp:Hid (MtQ g gq q line w0 o (.returned (.tuple #[])) w2):=.inl ⟨x,hx,rfl,hR⟩
  clear hx hR;go_wp2;go_end0;exact Hp.out
 ·have Hp:Hid (MtQ g gq q line w0 o (.panicked [{ v:=.iface 74 (.agg #[]),recovered:=false }]) w2):=.inr ⟨hx,rfl,hF⟩
  clear hx hF;go_wp2;exact ⟨rfl,Hp.out⟩
theorem form7_calls {g gq:Nat} {q:Nat → Prop} {line:Str} {w0:World} (w:World) (l:List Str) (cs:Array Value) (h:RS g gq q line w0 w l cs) (sd:Sd g gq q) :
  Calls Tryz.prog 61 #[.pointer (some ⟨g,0,none⟩),.pointer (some ⟨gq,0,none⟩)] w (MtQ g gq q line w0 (opNamedM 15 cs l)):=by
 obtain ⟨v0,c0, -,f0⟩:=h.cell 0 (by omega);have h1:=h.set sd 0 (.int .i64 15)
 have Hn:Hid (∀ W,W = w.setCell ⟨gq,0,none⟩ (.int .i64 15) → Calls Tryz.prog 55 #[.pointer (some ⟨g,0,none⟩),.pointer (some ⟨gq,0,none⟩)] W (MtQ g gq q line w0 (opNamedM 15 cs l))):=fun W hW=>by rw [hW];exact h1.named sd
 generalize opNamedM 15 cs l = o at Hn;clear h h1 sd;go_enter Tryz.func61,Tryz.ntmps61;go_wp2_with fail
 with_reducible refine (Hn.out _ rfl).mono ?_
 rintro e w2 (⟨x,hx,rfl,hR⟩ | ⟨hx,rfl,hF⟩)
 ·have Hp:Hid (MtQ g gq q line w0 o (.returned (.tuple #[])) w2):=.inl ⟨x,hx,rfl,hR⟩
  clear hx hR;go_wp2;go_end0;exact Hp.out
 ·have Hp:Hid (MtQ g gq q line w0 o (.panicked [{ v:=.iface 74 (.agg #[]),recovered:=false }]) w2):=.inr ⟨hx,rfl,hF⟩
  clear hx hF;go_wp2;exact ⟨rfl,Hp.out⟩
theorem form8_calls {g gq:Nat} {q:Nat → Prop} {line:Str} {w0:World} (w:World) (l:List Str) (cs:Array Value) (h:RS g gq q line w0 w l cs) (sd:Sd g gq q) :
  Calls Tryz.prog 62 #[.pointer (some ⟨g,0,none⟩),.pointer (some ⟨gq,0,none⟩)] w (MtQ g gq q line w0 (opM 17 cs l)):=by
 obtain ⟨v0,c0, -,f0⟩:=h.cell 0 (by omega);have h1:=h.set sd 0 (.int .i64 17);have Hp:Hid (MtQ g gq q line w0 (opM 17 cs l) (.returned (.tuple #[])) (w.setCell ⟨gq,0,none⟩ (.int .i64 17))):=.inl ⟨_,rfl,rfl,h1⟩;generalize opM 17 cs l = o at Hp;clear h h1 sd;go_enter Tryz.func62,Tryz.ntmps62;go_wp2;go_end0;exact Hp.out
theorem form9_calls {g gq:Nat} {q:Nat → Prop} {line:Str} {w0:World} (w:World) (l:List Str) (cs:Array Value) (h:RS g gq q line w0 w l cs) (sd:Sd g gq q) :
  Calls Tryz.prog 63 #[.pointer (some ⟨g,0,none⟩),.pointer (some ⟨gq,0,none⟩)] w (MtQ g gq q line w0 (opM 18 cs l)):=by
 obtain ⟨v0,c0, -,f0⟩:=h.cell 0 (by omega);have h1:=h.set sd 0 (.int .i64 18);have Hp:Hid (MtQ g gq q line w0 (opM 18 cs l) (.returned (.tuple #[])) (w.setCell ⟨gq,0,none⟩ (.int .i64 18))):=.inl ⟨_,rfl,rfl,h1⟩;generalize opM 18 cs l = o at Hp;clear h h1 sd;go_enter Tryz.func63,Tryz.ntmps63;go_wp2;go_end0;exact Hp.out
theorem form10_calls {g gq:Nat} {q:Nat → Prop} {line:Str} {w0:World} (w:World) (l:List Str) (cs:Array Value) (h:RS g gq q line w0 w l cs) (sd:Sd g gq q) :
  Calls Tryz.prog 64 #[.pointer (some ⟨g,0,none⟩),.pointer (some ⟨gq,0,none⟩)] w (MtQ g gq q line w0 (opM 19 cs l)):=by
 obtain ⟨v0,c0, -,f0⟩:=h.cell 0 (by omega);have h1:=h.set sd 0 (.int .i64 19);have Hp:Hid (MtQ g gq q line w0 (opM 19 cs l) (.returned (.tuple #[])) (w.setCell ⟨gq,0,none⟩ (.int .i64 19))):=.inl ⟨_,rfl,rfl,h1⟩;generalize opM 19 cs l = o at Hp;clear h h1 sd;go_enter Tryz.func64,Tryz.ntmps64;go_wp2;go_end0;exact Hp.out
theorem form5_calls {g gq:Nat} {q:Nat → Prop} {line:Str} {w0:World} (w:World) (l:List Str) (cs:Array Value) (h:RS g gq q line w0 w l cs) (sd:Sd g gq q) :
  Calls Tryz.prog 56 #[.pointer (some ⟨g,0,none⟩),.pointer (some ⟨gq,0,none⟩)] w (MtQ g gq q line w0 (pathM cs 10 l)):=by
 obtain ⟨v0,c0, -,f0⟩:=h.cell 0 (by omega);have h1:=h.set sd 0 (.int .i64 10);generalize hW:w.setCell ⟨gq,0,none⟩ (.int .i64 10) = W1 at h1;have HW:=hIh hW;have Hsd:=hIh sd
 cases l with
 | nil=>
  have Hw:=hIh h1.wordN;have Hp:=hIh (MtQ.bad (line:=line) (q:=q) (o:=pathM cs 10 []) rfl h1.fr);clear h1 h hW sd;go_enter Tryz.func56,Tryz.ntmps56;go_wp2_with fail;rw [HW.out]
  with_reducible refine Hw.out.mono ?_
  rintro e w3 ⟨rfl,hw3⟩;obtain rfl:=hw3.symm;go_wp2;exact ⟨rfl,Hp.out⟩
 | cons p r=>
  have Hw:=hIh (h1.word sd);clear h1 h hW sd;go_enter Tryz.func56,Tryz.ntmps56;go_wp2_with fail;rw [HW.out]
  with_reducible refine Hw.out.mono ?_
  rintro e w3 ⟨rfl,hR3⟩;obtain ⟨v2,c2, -,f2⟩:=hR3.cell 2 (by omega);have Hp:Hid (MtQ g gq q line w0 (pathM cs 10 (p :: r)) (.returned (.tuple #[])) (w3.setCell ⟨gq,2,none⟩ (.string (sb p)))):=.inl ⟨_,rfl,rfl,hR3.set Hsd.out 2 _⟩;generalize sb p = PS at Hp;clear hR3;go_wp2;go_end0;exact Hp.out
theorem pan_end {P:Program} {f:Func} {R:Ending → World → Prop} {ps:List PanicEntry} {t:Array Value} {w:World} (h:R (.panicked ps) w):bodyPost P f R (Exit.panic ps) { tmps:=t,defers := [] } w:=⟨rfl,h⟩
def quCells (cs:Array Value) (p n:Str) (sc:Nat × Nat) (hv:Value):Array Value:=
 ((((((((cs.setIfInBounds 0 (.int .i64 3)).setIfInBounds 2 (.string (sb p))).setIfInBounds 3 (.string (sb n))).setIfInBounds 11 (.string (sb p))).setIfInBounds 12 (.string (sb n))).setIfInBounds 13 (.int .i64 (sc.1:Int))).setIfInBounds 14 (.int .i64 (sc.2:Int))).setIfInBounds 15 hv)
def QuP (g gq:Nat) (q:Nat → Prop) (line:Str) (w0:World) (cs:Array Value) (l:List Str) (e:Ending) (w' : World):Prop:=
 (∃ p n s r sc x hv,l = wSet :: p :: n :: s :: r ∧ scopeS s = some sc ∧ amountsS r = some x ∧ e = .returned (.tuple #[]) ∧ RS g gq q line w0 w' x.2 (quCells cs p n sc hv) ∧ RdS amtC 2 w' hv x.1 ∧ (∀ k,hv.ownBlock = some k → w0.heap.size ≤ k)) ∨
 (l.head? = some wDrop ∧ ∃ x,namedM (cs.setIfInBounds 0 (.int .i64 4)) l.tail = some x ∧ e = .returned (.tuple #[]) ∧ RS g gq q line w0 w' x.2 x.1) ∨
 (quotaD l = none ∧ e = (.panicked [{ v:=.iface 74 (.agg #[]),recovered:=false }]) ∧ FQ g gq w0 w')
def quSet:List Str → Option ReqD
 | p :: n :: s :: r=>(scopeS s).bind fun sc=>(amountsS r).bind fun x=>ended { ReqD.zero with op:=3,path:=p,name:=n,quo:=⟨p,n,sc.1,sc.2,x.1⟩ } x.2
 | _=>none
theorem quotaD_set (r:List Str):quotaD (wSet :: r) = quSet r:=by
 have h:¬ wSet = wDrop:=by decide
 cases r with
 | nil=>simp [quotaD,quSet,h]
 | cons p r=>cases r with
  | nil=>simp [quotaD,quSet,h]
  | cons n r=>cases r with
   | nil=>simp [quotaD,quSet,h]
   | cons s r=>simp [quotaD,quSet,h]
def AmQ (g gq:Nat) (q:Nat → Prop) (line:Str) (w0 w:World) (cs:Array Value) (x:List Amt × List Str) (e:Ending) (w' : World):Prop:=
 ∃ A c,e = .returned (.slice A x.1.length c) ∧ RdS amtC 2 w' (.slice A x.1.length c) x.1 ∧ (∀ k,(Value.slice A x.1.length c).ownBlock = some k → w.heap.size ≤ k) ∧ RS g gq q line w0 w' x.2 cs ∧ Fr (fun k=>k = g) w w'
theorem AmQ.open {g gq:Nat} {q:Nat → Prop} {line:Str} {w0 w w' : World} {cs:Array Value} {x:List Amt × List Str} {e:Ending} (h:AmQ g gq q line w0 w cs x e w'):∃ A c,e = .returned (.slice A x.1.length c) ∧ RdS amtC 2 w' (.slice A x.1.length c) x.1 ∧ (∀ k,(Value.slice A x.1.length c).ownBlock = some k → w.heap.size ≤ k) ∧ RS g gq q line w0 w' x.2 cs ∧ Fr (fun k=>k = g) w w':=h
theorem RS.amounts {g gq:Nat} {q:Nat → Prop} {line:Str} {w0 w:World} {l:List Str} {cs:Array Value} (h:RS g gq q line w0 w l cs) (sd:Sd g gq q) (G:Glob w) (hg:4 ≤ g) (hsm:∀ t ∈ l,t.length ≤ 1048576) (hln:l.length ≤ 1048577) {x:List Amt × List Str} (hx:amountsS l = some x) :
  Calls Tryz.prog 98 #[.pointer (some ⟨g,0,none⟩)] w (AmQ g gq q line w0 w cs x):=by
 refine (amounts_calls w G l h.rd hg hsm hln).mono ?_;rintro e w' (⟨y,v,h1,h2,h3,h4,h5,h6⟩ | ⟨h1, -⟩)
 ·rw [hx] at h1
  cases h1
  obtain ⟨A,c,rfl⟩:=h3.slice;exact ⟨A,c,h2,h3,h4,h.go sd h5 h6,h6⟩
 ·rw [hx] at h1;cases h1
theorem RS.amountsN {g gq:Nat} {q:Nat → Prop} {line:Str} {w0 w:World} {l:List Str} {cs:Array Value} (h:RS g gq q line w0 w l cs) (G:Glob w) (hg:4 ≤ g) (hsm:∀ t ∈ l,t.length ≤ 1048576) (hln:l.length ≤ 1048577) (hx:amountsS l = none) :
  Calls Tryz.prog 98 #[.pointer (some ⟨g,0,none⟩)] w fun e w'=>e = (.panicked [{ v:=.iface 74 (.agg #[]),recovered:=false }]) ∧ FQ g gq w0 w':=by
 refine (amounts_calls w G l h.rd hg hsm hln).mono ?_;rintro e w' (⟨y,v,h1, -⟩ | ⟨h1,h2,h3⟩)
 ·rw [hx] at h1;cases h1
 ·exact ⟨h2,h.fr.trans h3 (fun k hk=>.inl (.inl hk))⟩
theorem RS.drew {g gq:Nat} {q:Nat → Prop} {line:Str} {w0 w:World} {l:List Str} {cs:Array Value} (h:RS g gq q line w0 w l cs):RS g gq q line w0 w.drew l cs:=⟨h.rd,h.rq,h.sz,h.fr.drew⟩
theorem quota_calls {g gq:Nat} {q:Nat → Prop} {line:Str} {w0:World} (w:World) (G:∀ W,FQ g gq w0 W → Glob W) (l:List Str) (cs:Array Value) (h:RS g gq q line w0 w l cs) (sd:Sd g gq q) (hg:4 ≤ g) (hsm:∀ t ∈ l,t.length ≤ 1048576) (hln:l.length ≤ 1048577) :
  Calls Tryz.prog 47 #[.pointer (some ⟨g,0,none⟩),.pointer (some ⟨gq,0,none⟩)] w (QuP g gq q line w0 cs l):=by
 have Hsd:=hIh sd;have HG:=hIh G
 by_cases hd:l.head? = some wDrop
 ·obtain ⟨r,rfl⟩ : ∃ r,l = wDrop :: r:=by cases l with
   | nil=>cases hd
   | cons t r=>exact ⟨r,by cases hd;rfl⟩
  have His:Hid (Calls Tryz.prog 96 #[.pointer (some ⟨g,0,none⟩),.string (ByteArray.mk #[100,114,111,112])] w fun e w'=>e = .returned (.bool true) ∧ RS g gq q line w0 w' r cs):=h.isT sd
  have Hpost:Hid (∀ e W,MtQ g gq q line w0 (namedM (cs.setIfInBounds 0 (.int .i64 4)) r) e W → QuP g gq q line w0 cs (wDrop :: r) e W):=fun e W hm=>by
   rcases hm with ⟨x,h1,h2,h3⟩ | ⟨h1,h2,h3⟩
   ·exact .inr (.inl ⟨rfl,x,h1,h2,h3⟩)
   ·refine .inr (.inr ⟨?_,h2,h3⟩)
    have e2:quotaD (wDrop :: r) = namedD 4 r:=(by simp [quotaD]);rw [e2]
    cases r with
    | nil=>rfl
    | cons p r=>cases r with
     | nil=>rfl
     | cons n r=>cases h1
  clear h sd G hd hsm hln;go_enter Tryz.func47,Tryz.ntmps47;go_wp2_with fail
  with_reducible refine His.out.mono ?_
  rintro e w2 ⟨rfl,hR⟩;obtain ⟨v0,c0, -,f0⟩:=hR.cell 0 (by omega);have h1:=hR.set Hsd.out 0 (.int .i64 4)
  have Hn:Hid (∀ W,W = w2.setCell ⟨gq,0,none⟩ (.int .i64 4) → Calls Tryz.prog 55 #[.pointer (some ⟨g,0,none⟩),.pointer (some ⟨gq,0,none⟩)] W (MtQ g gq q line w0 (namedM (cs.setIfInBounds 0 (.int .i64 4)) r))):=fun W hW=>by rw [hW];exact h1.named Hsd.out
  clear hR h1;go_wp2_with fail
  with_reducible refine (Hn.out _ rfl).mono ?_
  rintro e w3 hm;have Hp:=hIh (Hpost.out e w3 hm);rcases hm with ⟨x,hx,rfl,hR⟩ | ⟨hx,rfl,hF⟩
  ·clear hx hR
   go_wp2;refine bodyPost_ret (v:=.tuple #[]) (by simp [results,go_sem]) rfl ?_;exact Hp.out
  ·clear hx hF
   go_wp2;exact ⟨rfl,Hp.out⟩
 have Hnd:Hid (Calls Tryz.prog 96 #[.pointer (some ⟨g,0,none⟩),.string (ByteArray.mk #[100,114,111,112])] w fun e w'=>e = .returned (.bool false) ∧ w' = w):=h.isNo wDrop hd
 by_cases ha:l.head? = some wSet
 case neg=>
  have Hns:Hid (Calls Tryz.prog 96 #[.pointer (some ⟨g,0,none⟩),.string (ByteArray.mk #[115,101,116])] w fun e w'=>e = .returned (.bool false) ∧ w' = w):=h.isNo wSet ha
  have Hp:Hid (QuP g gq q line w0 cs l (.panicked [{ v:=.iface 74 (.agg #[]),recovered:=false }]) w):=.inr (.inr ⟨by
   cases l with
   | nil=>rfl
   | cons t r=>
    unfold quotaD;simp only
    rw [if_neg (fun e=>hd (by rw [e];rfl)),if_neg (fun e=>ha (by rw [e];rfl))],rfl,h.fr⟩)
  clear h sd G hd ha hsm hln;go_enter Tryz.func47,Tryz.ntmps47;go_wp2_with fail
  with_reducible refine Hnd.out.mono ?_
  rintro e wx ⟨rfl,hwx⟩;obtain rfl:=hwx.symm;go_wp2_with fail
  with_reducible refine Hns.out.mono ?_
  rintro e wy ⟨rfl,hwy⟩;obtain rfl:=hwy.symm;go_wp2_with (go_at_call 29;with_reducible refine (needF_calls _ _).mono ?_;rintro e wz ⟨rfl,hwz⟩;obtain rfl:=hwz.symm);exact ⟨rfl,Hp.out⟩
 obtain ⟨r,rfl⟩ : ∃ r,l = wSet :: r:=by cases l with
  | nil=>cases ha
  | cons t r=>exact ⟨r,by cases ha;rfl⟩
 have hqd:=quotaD_set r;have Hqd:=hIh hqd;have His:Hid (Calls Tryz.prog 96 #[.pointer (some ⟨g,0,none⟩),.string (ByteArray.mk #[115,101,116])] w fun e w'=>e = .returned (.bool true) ∧ RS g gq q line w0 w' r cs):=h.isT sd;have Hsm:Hid (∀ t ∈ r,t.length ≤ 1048576):=fun t ht=>hsm t (List.mem_cons_of_mem _ ht)
 have Hln:Hid (r.length ≤ 1048577):=by show _ ≤ _;simp only [List.length_cons] at hln;omega
 clear h sd G hd ha hqd hsm hln;go_enter Tryz.func47,Tryz.ntmps47;go_wp2_with fail
 with_reducible refine Hnd.out.mono ?_
 rintro e wx ⟨rfl,hwx⟩;obtain rfl:=hwx.symm;go_wp2_with fail
 with_reducible refine His.out.mono ?_
 rintro e w2 ⟨rfl,hR⟩;obtain ⟨v0,c0, -,f0⟩:=hR.cell 0 (by omega);have h1:=hR.set Hsd.out 0 (.int .i64 3)
 have Hn:Hid (∀ W,W = w2.setCell ⟨gq,0,none⟩ (.int .i64 3) → Calls Tryz.prog 55 #[.pointer (some ⟨g,0,none⟩),.pointer (some ⟨gq,0,none⟩)] W (MtQ g gq q line w0 (namedM (cs.setIfInBounds 0 (.int .i64 3)) r))):=fun W hW=>by rw [hW];exact h1.named Hsd.out
 clear hR h1;go_wp2_with (go_at_call 29;with_reducible refine (needT_calls _ _).mono ?_;rintro e wz ⟨rfl,hwz⟩;obtain rfl:=hwz.symm)
 with_reducible refine (Hn.out _ rfl).mono ?_
 rintro e w3 (⟨x,hx,rfl,hR⟩ | ⟨hx,rfl,hF⟩)
 case inr=>
  have e5:quotaD (wSet :: r) = none:=by
   rw [Hqd.out]
   cases r with
   | nil=>rfl
   | cons p r=>cases r with
    | nil=>rfl
    | cons n r=>cases hx
  have Hp:Hid (QuP g gq q line w0 cs (wSet :: r) (.panicked [{ v:=.iface 74 (.agg #[]),recovered:=false }]) w3):=.inr (.inr ⟨e5,rfl,hF⟩);clear hx hF;go_wp2;exact ⟨rfl,Hp.out⟩
 match r,hx with
 | p :: n :: r,hx=>
 cases hx
 have HR:=hIh hR;clear hR
 cases r with
 | nil=>
  have Hw:=hIh HR.out.wordN;have Hp:Hid (QuP g gq q line w0 cs [wSet,p,n] (.panicked [{ v:=.iface 74 (.agg #[]),recovered:=false }]) w3):=.inr (.inr ⟨by rw [Hqd.out];rfl,rfl,HR.out.fr⟩);go_wp2_with fail
  with_reducible refine Hw.out.mono ?_
  rintro e w4 ⟨rfl,hw4⟩;obtain rfl:=hw4.symm;go_wp2;exact ⟨rfl,Hp.out⟩
 | cons s r=>
  have Hw:=hIh (HR.out.word Hsd.out);go_wp2_with fail
  with_reducible refine Hw.out.mono ?_
  rintro e w4 ⟨rfl,hR4⟩;have Hsc:=hIh (bscparse_calls w4 (HG.out _ hR4.fr) s);have HR4:=hIh hR4;clear hR4;go_wp2_with fail
  with_reducible refine Hsc.out.mono ?_
  rintro e w5 ⟨k,a,ec,rfl,hs,hw5⟩;have HR5:=hIh (HR4.out.below hw5);clear hw5;rcases hs with ⟨sc,hsc,rfl,rfl,rfl⟩ | ⟨hsc,hec⟩
  ·have Hsc2:=hIh hsc
   obtain ⟨W7,hW7⟩ : ∃ W7,W7 = w5.alloc (.cells #[.int .i64 (sc.1:Int),.int .i64 (sc.2:Int)] 27):=⟨_,rfl⟩;have HW7:=hIh hW7;have HR7:Hid (RS g gq q line w0 W7 r ((((cs.setIfInBounds 0 (.int .i64 3)).setIfInBounds 2 (.string (sb p))).setIfInBounds 3 (.string (sb n))))):=(by rw [hW7];exact HR5.out.below (bel_alloc _ _));have Hb7:Hid (W7.heap[w5.heap.size]? = some (.cells #[.int .i64 (sc.1:Int),.int .i64 (sc.2:Int)] 27 (0,0))):=(by rw [hW7];exact blk_new _ _);have Hng:Hid (w5.heap.size ≠ g):=(by have:=HR5.out.rd.lt;show _ ≠ _;omega);have HG7:=hIh (HG.out W7 HR7.out.fr);generalize hCS:(((cs.setIfInBounds 0 (.int .i64 3)).setIfInBounds 2 (.string (sb p))).setIfInBounds 3 (.string (sb n))) = CS at HR7;have HCS:=hIh hCS;have Hr1:Hid (∀ t ∈ r,t.length ≤ 1048576):=fun t ht=>Hsm.out t (by simp [ht]);have Hr2:Hid (r.length ≤ 1048577):=(by have:=Hln.out;show _ ≤ _;simp only [List.length_cons] at this;omega)
   obtain ⟨x2,y2,z2, -⟩:=HR7.out.cell 2 (by omega);obtain ⟨x3,y3,z3, -⟩:=HR7.out.cell 3 (by omega);have e2:x2 = .string (sb p):=(by rw [← hCS] at z2;have hs:=HR.out.sz;simp at hs;simp [hs] at z2;exact z2.symm);have e3:x3 = .string (sb n):=(by rw [← hCS] at z3;have hs:=HR.out.sz;simp at hs;simp [hs] at z3;exact z3.symm);subst e2 e3;obtain ⟨x11,y11,z11,f11⟩:=HR7.out.cell 11 (by omega);obtain ⟨x12,y12,z12,f12⟩:=HR7.out.cell 12 (by omega);obtain ⟨x13,y13,z13,f13⟩:=HR7.out.cell 13 (by omega);obtain ⟨x14,y14,z14,f14⟩:=HR7.out.cell 14 (by omega);obtain ⟨x15,y15,z15,f15⟩:=HR7.out.cell 15 (by omega)
   have HS:Hid (∀ W l',RS g gq q line w0 W l' CS → W.heap[w5.heap.size]? = some (.cells #[.int .i64 (sc.1:Int),.int .i64 (sc.2:Int)] 27 (0,0)) → W.cell? ⟨gq,2,none⟩ = some (.string (sb p)) ∧ W.cell? ⟨gq,3,none⟩ = some (.string (sb n)) ∧ W.cell? ⟨w5.heap.size,0,none⟩ = some (.int .i64 (sc.1:Int)) ∧ W.cell? ⟨w5.heap.size,1,none⟩ = some (.int .i64 (sc.2:Int)) ∧ W.cell? ⟨gq,11,none⟩ = some x11 ∧ W.frozen? ⟨gq,11,none⟩ = false ∧ W.cell? ⟨gq,12,none⟩ = some x12 ∧ W.frozen? ⟨gq,12,none⟩ = false ∧ W.cell? ⟨gq,13,none⟩ = some x13 ∧ W.frozen? ⟨gq,13,none⟩ = false ∧ W.cell? ⟨gq,14,none⟩ = some x14 ∧ W.frozen? ⟨gq,14,none⟩ = false ∧ W.cell? ⟨gq,15,none⟩ = some x15 ∧ W.frozen? ⟨gq,15,none⟩ = false):=fun W l' h1 h2=>by
    have key:∀ i v,i < 29 → CS[i]? = some v → W.cell? ⟨gq,i,none⟩ = some v ∧ W.frozen? ⟨gq,i,none⟩ = false:=fun i v hi hv=>by
     obtain ⟨v',a1,a2,a3⟩:=h1.cell i hi;rw [hv] at a2
     cases a2
     exact ⟨a1,a3⟩
    obtain ⟨b0,b1, -, -⟩:=cells2 h2;have k11:=key 11 _ (by omega) z11;have k12:=key 12 _ (by omega) z12;have k13:=key 13 _ (by omega) z13;have k14:=key 14 _ (by omega) z14;have k15:=key 15 _ (by omega) z15;exact ⟨(key 2 _ (by omega) z2).1,(key 3 _ (by omega) z3).1,b0,b1,k11.1,k11.2,k12.1,k12.2,k13.1,k13.2,k14.1,k14.2,k15.1,k15.2⟩
   have HRd:=hIh HR7.out.drew;have HGd:Hid (Glob W7.drew):=HG7.out.below (drewB (Below.refl _ _) 1);have Hlt7:=hIh (blk_lt Hb7.out)
   cases hx2:amountsS r with
   | none=>
    have Ham:=hIh (HRd.out.amountsN HGd.out hg Hr1.out Hr2.out hx2);have Hp:Hid (∀ W,FQ g gq w0 W → QuP g gq q line w0 cs (wSet :: p :: n :: s :: r) (.panicked [{ v:=.iface 74 (.agg #[]),recovered:=false }]) W):=fun W hW=>.inr (.inr ⟨by rw [Hqd.out];show (scopeS s).bind _ = none;rw [Hsc2.out];show (amountsS r).bind _ = none;rw [hx2];rfl,rfl,hW⟩);obtain ⟨t1,t2,t3,t4, -⟩:=HS.out W7 _ HR7.out Hb7.out;clear hsc hW7 hx2 hCS y2 y3 z2 z3 y11 y12 y13 y14 y15 z11 z12 z13 z14 z15 f11 f12 f13 f14 f15;go_wp2_with (go_at_call 29;with_reducible refine (needT_calls _ _).mono ?_;rintro e wz ⟨rfl,hwz⟩;obtain rfl:=hwz.symm);rw [← HW7.out];go_region_dies
    all_goals (with_reducible refine Ham.out.mono ?_;rintro e w8 ⟨rfl,hF8⟩;exact pan_end (Hp.out _ hF8))
   | some x=>
    have HS4:Hid (∀ W l',RS g gq q line w0 W l' CS → W.heap[w5.heap.size]? = some (.cells #[.int .i64 (sc.1:Int),.int .i64 (sc.2:Int)] 27 (0,0)) → W.cell? ⟨gq,2,none⟩ = some (.string (sb p)) ∧ W.cell? ⟨gq,3,none⟩ = some (.string (sb n)) ∧ W.cell? ⟨w5.heap.size,0,none⟩ = some (.int .i64 (sc.1:Int)) ∧ W.cell? ⟨w5.heap.size,1,none⟩ = some (.int .i64 (sc.2:Int))):=fun W l' h1 h2=>by
     obtain ⟨t1,t2,t3,t4, -⟩:=HS.out W l' h1 h2;exact ⟨t1,t2,t3,t4⟩
    have hgsq:w5.heap.size ≠ gq:=(by have:=blk_lt HR5.out.rq;omega);have far:∀ (W:World) (i:Nat) (v:Value) (b o:Nat),(b ≠ gq ∨ o ≠ i) → (W.setCell ⟨gq,i,none⟩ v).cell? ⟨b,o,none⟩ = W.cell? ⟨b,o,none⟩:=fun W i v b o h=>World.cell?_setCell_other W _ _ v (by intro e;simp only [Addr.mk.injEq] at e;omega)
    have HS5:Hid (∀ (W:World) (v1 v2 v3 v4 v5:Value),W.cell? ⟨gq,2,none⟩ = some (.string (sb p)) ∧ W.cell? ⟨gq,3,none⟩ = some (.string (sb n)) ∧ W.cell? ⟨w5.heap.size,0,none⟩ = some (.int .i64 (sc.1:Int)) ∧ W.cell? ⟨w5.heap.size,1,none⟩ = some (.int .i64 (sc.2:Int)) → (((((W.setCell ⟨gq,11,none⟩ v1).setCell ⟨gq,12,none⟩ v2).setCell ⟨gq,13,none⟩ v3).setCell ⟨gq,14,none⟩ v4).setCell ⟨gq,15,none⟩ v5).cell? ⟨gq,2,none⟩ = some (.string (sb p)) ∧ (((((W.setCell ⟨gq,11,none⟩ v1).setCell ⟨gq,12,none⟩ v2).setCell ⟨gq,13,none⟩ v3).setCell ⟨gq,14,none⟩ v4).setCell ⟨gq,15,none⟩ v5).cell? ⟨gq,3,none⟩ = some (.string (sb n)) ∧ (((((W.setCell ⟨gq,11,none⟩ v1).setCell ⟨gq,12,none⟩ v2).setCell ⟨gq,13,none⟩ v3).setCell ⟨gq,14,none⟩ v4).setCell ⟨gq,15,none⟩ v5).cell? ⟨w5.heap.size,0,none⟩ = some (.int .i64 (sc.1:Int)) ∧ (((((W.setCell ⟨gq,11,none⟩ v1).setCell ⟨gq,12,none⟩ v2).setCell ⟨gq,13,none⟩ v3).setCell ⟨gq,14,none⟩ v4).setCell ⟨gq,15,none⟩ v5).cell? ⟨w5.heap.size,1,none⟩ = some (.int .i64 (sc.2:Int))):=fun W v1 v2 v3 v4 v5 h=>by
     obtain ⟨a1,a2,a3,a4⟩:=h;exact ⟨by rw [far _ 15 _ _ _ (.inr (by omega)),far _ 14 _ _ _ (.inr (by omega)),far _ 13 _ _ _ (.inr (by omega)),far _ 12 _ _ _ (.inr (by omega)),far _ 11 _ _ _ (.inr (by omega))];exact a1,by rw [far _ 15 _ _ _ (.inr (by omega)),far _ 14 _ _ _ (.inr (by omega)),far _ 13 _ _ _ (.inr (by omega)),far _ 12 _ _ _ (.inr (by omega)),far _ 11 _ _ _ (.inr (by omega))];exact a2,by rw [far _ 15 _ _ _ (.inl hgsq),far _ 14 _ _ _ (.inl hgsq),far _ 13 _ _ _ (.inl hgsq),far _ 12 _ _ _ (.inl hgsq),far _ 11 _ _ _ (.inl hgsq)];exact a3,by rw [far _ 15 _ _ _ (.inl hgsq),far _ 14 _ _ _ (.inl hgsq),far _ 13 _ _ _ (.inl hgsq),far _ 12 _ _ _ (.inl hgsq),far _ 11 _ _ _ (.inl hgsq)];exact a4⟩
    clear far hgsq;have Ham:=hIh (HRd.out.amounts Hsd.out HGd.out hg Hr1.out Hr2.out hx2);have Hx2:=hIh hx2;clear hsc hW7 hx2 hCS y2 y3 z2 z3 y11 y12 y13 y14 y15 z11 z12 z13 z14 z15 f11 f12 f13 f14 f15;go_wp2_with (go_at_call 29;with_reducible refine (needT_calls _ _).mono ?_;rintro e wz ⟨rfl,hwz⟩;obtain rfl:=hwz.symm);rw [← HW7.out]
    go_region_held3 (fun W=>W.cell? ⟨gq,2,none⟩ = some (.string (sb p)) ∧ W.cell? ⟨gq,3,none⟩ = some (.string (sb n)) ∧ W.cell? ⟨w5.heap.size,0,none⟩ = some (.int .i64 (sc.1:Int)) ∧ W.cell? ⟨w5.heap.size,1,none⟩ = some (.int .i64 (sc.2:Int))) (first | exact HS4.out _ _ HRd.out Hb7.out | with_reducible exact HS4.out _ _ Hafter.out Hb8.out | exact HS5.out _ _ _ _ _ _ (HS4.out _ _ Hafter.out Hb8.out))
     ((go_at_call 98;with_reducible refine Ham.out.mono ?_;intro e w8 hA8;obtain ⟨A,c,rfl,hrd,hnw,hR8,hF8⟩:=AmQ.open hA8;have Hrd:=hIh hrd;have Hnw:=hIh hnw;have Hafter:=hIh hR8;have Hb8:=hIh (hF8.blk Hb7.out Hng.out);obtain ⟨-, -, -, -,u1,u2,u3,u4,u5,u6,u7,u8,u9,u10⟩:=HS.out w8 _ hR8 Hb8.out;clear hrd hnw hR8 hF8 hA8))
    go_end0
    have hfq:∀ v1 v2 v3 v4 v5:Value,Fr (fun k=>k = gq) w8 (((((w8.setCell ⟨gq,11,none⟩ v1).setCell ⟨gq,12,none⟩ v2).setCell ⟨gq,13,none⟩ v3).setCell ⟨gq,14,none⟩ v4).setCell ⟨gq,15,none⟩ v5):=fun v1 v2 v3 v4 v5=>
     (((((Fr.refl (fun k=>k = gq) w8).setCell (p:=⟨gq,11,none⟩) (.inl rfl) v1).setCell (p:=⟨gq,12,none⟩) (.inl rfl) v2).setCell (p:=⟨gq,13,none⟩) (.inl rfl) v3).setCell (p:=⟨gq,14,none⟩) (.inl rfl) v4).setCell (p:=⟨gq,15,none⟩) (.inl rfl) v5
    have hsz:gq < W7.heap.size:=blk_lt HR7.out.rq;refine .inl ⟨p,n,s,r,sc,x,.slice A x.1.length c,rfl,Hsc2.out,Hx2.out,rfl,?_,?_,?_⟩
    ·have h9:=((((Hafter.out.set Hsd.out 11 (.string (sb p))).set Hsd.out 12 (.string (sb n))).set Hsd.out 13 (.int .i64 (sc.1:Int))).set Hsd.out 14 (.int .i64 (sc.2:Int))).set Hsd.out 15 (.slice A x.1.length c)
     rw [← HCS.out] at h9;exact h9
    ·exact RdS.fr Hrd.out (hfq _ _ _ _ _) (fun k hk e=>by have h8:W7.heap.size ≤ k:=Hnw.out k hk;omega)
    ·intro k hk
     have h8:W7.heap.size ≤ k:=Hnw.out k hk;have:=HR7.out.fr.size;omega
  ·have Hp:Hid (∀ W,Below w5.heap.size w5 W → QuP g gq q line w0 cs (wSet :: p :: n :: s :: r) (.panicked [{ v:=.iface 74 (.agg #[]),recovered:=false }]) W):=fun W hW=>.inr (.inr ⟨by rw [Hqd.out];show (scopeS s).bind _ = none;rw [hsc];rfl,rfl,HR5.out.fr.below hW⟩)
   have hb:(ec == 0) = false:=(by simpa using hec);clear hsc hec;go_wp2_with (go_at_call 29;with_reducible refine (needF_calls _ _).mono ?_;rintro e wz ⟨rfl,hwz⟩;obtain rfl:=hwz.symm);exact ⟨rfl,Hp.out _ (bel_alloc _ _)⟩
end Go.Proofs.YtpfkkagkbneilaaGreatDoor
