/- Texts J5, J6, J7, K1, K2 of the proof of BursarChecks, joined. -/
import Derived.Test.YtpfkkagkbneilaaGreatDoorV11
import Derived.Test.YtpfkkagkbneilaaGreatDoorV6
import Derived.WalkSmall
namespace Go.Proofs.YtpfkkagkbneilaaGreatDoor
open Go.RowKit
set_option linter.unusedVariables false
set_option linter.unusedSimpArgs false
set_option maxRecDepth 100000
set_option maxHeartbeats 25600000
def stV:Option Nat → Int
 | none => -1
 | some p=>p
def pendS (s:Str) (i:Nat):Option Nat → Option Str
 | none=>none
 | some p=>some ((s.drop p).take (i - p))
structure TkSt (s:Str) (i:Nat) (st:Option Nat) (done:List Str):Prop where
 hi:i ≤ s.length
 hs:∀ p,st = some p → p < i
 hd:done.length ≤ i
 eq:words s = done ++ tokR (pendS s i st) (s.drop i)
theorem TkSt.skip {s:Str} {i:Nat} {done:List Str} {c:UInt8} (h:TkSt s i none done) (hc:s[i]? = some c) (hb:blank c = true):TkSt s (i + 1) none done:=by
 obtain ⟨hlt,hc⟩:=List.getElem?_eq_some_iff.1 hc;refine ⟨hlt,(fun p hp=>by cases hp),by have:=h.hd;omega,?_⟩;rw [h.eq,List.drop_eq_getElem_cons hlt,hc,tokR,if_pos hb];simp [pendS]
theorem TkSt.cut {s:Str} {i p:Nat} {done:List Str} {c:UInt8} (h:TkSt s i (some p) done) (hc:s[i]? = some c) (hb:blank c = true):TkSt s (i + 1) none (done ++ [(s.drop p).take (i - p)]):=by
 obtain ⟨hlt,hc⟩:=List.getElem?_eq_some_iff.1 hc;refine ⟨hlt,(fun p hp=>by cases hp),by have:=h.hd;simp;omega,?_⟩;rw [h.eq,List.drop_eq_getElem_cons hlt,hc,tokR,if_pos hb];simp [pendS]
theorem take_part (s:Str) (p i wd:Nat) (hp:p ≤ i) (hw:i + wd ≤ s.length):(s.drop p).take (i + wd - p) = (s.drop p).take (i - p) ++ (s.drop i).take wd:=by
 rw [show i + wd - p = (i - p) + wd by omega,List.take_add,List.drop_drop,show p + (i - p) = i by omega]
theorem nbs {s:Str} {i wd:Nat} (hn:∀ (j:Nat) (b:UInt8),i ≤ j → j < i + wd → s[j]? = some b → blank b = false):∀ b ∈ (s.drop i).take wd,blank b = false:=by
 intro b hb;obtain ⟨j,hj⟩:=List.mem_iff_getElem?.1 hb;rw [List.getElem?_take] at hj
 split at hj
 ·rw [List.getElem?_drop] at hj
  exact hn (i + j) b (by omega) (by omega) hj
 ·cases hj
theorem TkSt.begin {s:Str} {i wd:Nat} {done:List Str} (h:TkSt s i none done) (h1:1 ≤ wd) (hw:i + wd ≤ s.length) (hn:∀ (j:Nat) (b:UInt8),i ≤ j → j < i + wd → s[j]? = some b → blank b = false):TkSt s (i + wd) (some i) done:=by
 refine ⟨hw,fun p hp=>by cases hp;omega,by have:=h.hd;omega,?_⟩
 have e:s.drop i = (s.drop i).take wd ++ s.drop (i + wd):=by rw [← List.drop_drop];exact (List.take_append_drop _ _).symm
 rw [h.eq]
 conv=>lhs;rw [e]
 rw [tokR_nb (nbs hn) (by intro e2;have:=congrArg List.length e2;rw [List.length_take,List.length_drop,List.length_nil] at this;omega)];simp [pendS]
theorem TkSt.more {s:Str} {i p wd:Nat} {done:List Str} (h:TkSt s i (some p) done) (h1:1 ≤ wd) (hw:i + wd ≤ s.length) (hn:∀ (j:Nat) (b:UInt8),i ≤ j → j < i + wd → s[j]? = some b → blank b = false):TkSt s (i + wd) (some p) done:=by
 have hp:=h.hs p rfl;refine ⟨hw,fun q hq=>by cases hq;omega,by have:=h.hd;omega,?_⟩
 have e:s.drop i = (s.drop i).take wd ++ s.drop (i + wd):=by rw [← List.drop_drop];exact (List.take_append_drop _ _).symm
 rw [h.eq]
 conv=>lhs;rw [e]
 rw [tokR_nb (nbs hn) (by intro e2;have:=congrArg List.length e2;rw [List.length_take,List.length_drop,List.length_nil] at this;omega)];simp only [pendS,Option.getD_some];rw [take_part s p i wd (by omega) hw]
theorem TkSt.last {s:Str} {i p:Nat} {done:List Str} (h:TkSt s i (some p) done) (hi:s.length ≤ i):words s = done ++ [s.drop p]:=by
 have:=h.hi;rw [h.eq,List.drop_eq_nil_of_le hi];simp only [pendS,tokR,Option.toList];rw [List.take_of_length_le (by rw [List.length_drop];omega)]
theorem TkSt.fin {s:Str} {i:Nat} {done:List Str} (h:TkSt s i none done) (hi:s.length ≤ i):words s = done:=by
 rw [h.eq,List.drop_eq_nil_of_le hi];simp [pendS,tokR]
structure TkW (w:World) (s:Str) (i:Nat) (done:List Str) (v3:Value) (wr:World):Prop where
 it:wr.heap[w.heap.size]? = some (.stringIter (sb s) i)
 own:wr.ownsRow 0 9 1 v3 done.length (done.flatMap strC)
 new:∀ k,v3.ownBlock = some k → w.heap.size + 1 ≤ k
 bel:Below w.heap.size w wr
def TkLoop (w:World) (s:Str) (v3 v4:Value) (wr:World):Prop := ∃ (i:Nat) (st:Option Nat) (done:List Str),v4 = .int .i64 (stV st) ∧ TkSt s i st done ∧ TkW w s i done v3 wr
theorem TkW.move {w:World} {s:Str} {i:Nat} {done:List Str} {v3:Value} {wr:World} (h:TkW w s i done v3 wr) (j:Nat):TkW w s j done v3 (wr.iterAt w.heap.size (sb s) j):=by
 refine ⟨Lib.iterAt_heap wr w.heap.size (sb s) i j h.it,?_,h.new,Lib.below_iterAt h.bel (Nat.le_refl _) _ _⟩;have hf:Fr (fun k=>k = w.heap.size) wr (wr.iterAt w.heap.size (sb s) j):=⟨rfl,rfl,rfl,by rw [Lib.iterAt_size];exact Nat.le_refl _,fun k hk hne=>Lib.iterAt_other wr w.heap.size k (sb s) j hne⟩;exact hf.owns h.own (fun k hk e=>by have:=h.new k hk;omega)
theorem TkW.app {w:World} {s:Str} {i:Nat} {done:List Str} {v3 v' : Value} {wr w2:World} {x:Str} {o:Obj} (h:TkW w s i done v3 wr) (ho:w2.ownsRow 0 9 1 v' (done.length + 1) (done.flatMap strC ++ [x].flatMap strC)) (hg:(wr.alloc o).grownBy w2 v3.ownBlock)
  (hn:∀ k,v'.ownBlock = some k → v3.ownBlock = some k ∨ wr.heap.size + 1 ≤ k):TkW w s i (done ++ [x]) v' w2:=by
 have hs:=h.bel.size;have hlt:=blk_lt h.it;refine ⟨?_,by rw [List.length_append,flat_app];exact ho,fun k hk=>?_,?_⟩
 ·exact blk_grown (blk_below h.it ((Below.refl _ _).alloc (Nat.le_refl _) o)) hg (fun e=>by have:=h.new _ e;omega)
 ·rcases hn k hk with h1 | h1
  ·exact h.new k h1
  ·omega
 ·exact (h.bel.alloc hs o).grown hg (by simp;omega) (fun k hk=>by have:=h.new k hk;omega)
theorem tokens_calls (w:World) (s:Str) (hs:s.length ≤ 1048576):Calls Tryz.prog 26 #[.string (sb s)] w fun e w' => ∃ v,e = .returned v ∧ RdT w' v (words s) ∧ (∀ k,v.ownBlock = some k → w.heap.size ≤ k) ∧ Below w.heap.size w w':=by
 have hsz:(sb s).size = s.length:=sb_size s;have Hst:Hid (TkLoop w s (.slice none 0 0) (.int .i64 (-1)) (w.iter (sb s) 0)):=⟨0,none, [],rfl,⟨by omega,(fun p hp=>by cases hp),by simp,by rw [List.drop_zero,List.nil_append];exact (tokR_eq s).1.symm⟩,⟨World.iter_heap _ _ _,World.ownsRow_nil _ _ _ _,(fun k hk=>by cases hk),iter_bel _ _ _⟩⟩;have Hsl:Hid (∀ i j,i ≤ j → j ≤ s.length → ∀ W,(Instr.slice 9 (.string (sb s)) (some (.int .i64 (i:Int))) (some (.int .i64 (j:Int))) none).run Tryz.prog W = .ok (.string (sb ((s.drop i).take (j - i)))) W):=fun i j h1 h2 W=>run_sl W s i j h1 h2;have HslF:Hid (∀ i,i ≤ s.length → ∀ W,(Instr.slice 9 (.string (sb s)) (some (.int .i64 (i:Int))) none none).run Tryz.prog W = .ok (.string (sb (s.drop i))) W):=fun i h W=>run_slF W s i h;have Hnx:=hIh (fun (wr:World) (i:Nat) h1 h2=>nextR wr w.heap.size s i h1 h2);have Hend:=hIh (fun (wr:World) (i:Nat) (ty:TypeId) (h1:wr.heap[w.heap.size]? = some (.stringIter (sb s) i)) (h2:¬ i < s.length)=>Lib.run_next_end_at (P:=Tryz.prog) wr w.heap.size (sb s) i ty h1 (by rw [sb_size];exact h2))
 generalize hS:sb s = S at hsz Hsl HslF Hst Hnx Hend;have HS:=hIh hS;clear hS;go_enter Tryz.func26,Tryz.ntmps26;go_wp2
 go_loopw [3,4] (fun v3 v4 wr=>TkLoop w s v3 v4 wr) (fun _ _ wr=>s.length - wr.iterPos w.heap.size)
 case atStart=>exact Hst.out
 case round=>
  clear Hst;obtain ⟨i,st,done,rfl,hP,hW⟩:=hrel;have hi:=hP.hi;have hdn:=hP.hd;have hit:=hW.it;rw [HS.out] at hit;obtain ⟨m,hm⟩ : ∃ m,m = done.length:=⟨_,rfl⟩;obtain ⟨T,hT⟩ : ∃ T,T = done.flatMap strC:=⟨_,rfl⟩;obtain ⟨A0,c0,hA⟩:=own_slice hW.own;rw [← hm] at hA;subst hA
  have Hm:Hid (m ≤ 1048576):=by show _ ≤ _;omega
  have Hme:=hIh hm;have HTe:=hIh hT;have HP:=hIh hP;have HW:=hIh hW;clear hP hW hm hT hdn
  by_cases hlt:i < s.length
  ·obtain ⟨r,wd,hnx,hw1,hw2,hr,hc⟩:=Hnx.out wr i hit hlt
   have HW2:=hIh (HW.out.move (i + wd))
   have Hown:Hid ((wr.iterAt w.heap.size (sb s) (i + wd)).ownsRow 0 9 1 (.slice A0 m c0) m T):=by
    have:=HW2.out.own;rw [← Hme.out,← HTe.out] at this;exact this
   have Hpos:Hid (∀ (W:World) (j:Nat),W.heap[w.heap.size]? = some (.stringIter S (i + wd)) → s.length - W.iterPos w.heap.size < s.length - wr.iterPos w.heap.size):=fun W j h5=>by
    unfold World.iterPos;rw [h5,hit];simp only;omega
   rw [HS.out] at HW2 Hown;clear hit Hnx Hend;generalize wr.iterAt w.heap.size S (i + wd) = W2 at hnx HW2 Hown;have hi0:(0:Int) ≤ i:=(by omega)
   by_cases hbl:∃ c,s[i]? = some c ∧ blank c = true
   ·obtain ⟨c,hc2,hbl⟩:=hbl
    obtain ⟨hca,rfl,rfl⟩ : c.toNat < 128 ∧ r = c.toNat ∧ wd = 1:=by
     rcases hc with ⟨c',h1,h2,h3,h4⟩ | ⟨-,hall⟩
     ·rw [hc2] at h1;cases h1;exact ⟨h2,h3,h4⟩
     ·have:=blank_low (hall i c (Nat.le_refl _) (by omega) hc2)
      rw [hbl] at this;cases this
    have hn:=(blank_iff c).1 hbl
    have hcases:((c.toNat:Int) == 32) = true ∨ (((c.toNat:Int) == 32) = false ∧ ((c.toNat:Int) == 9) = true):=by
     rcases hn with h | h
     ·left;rw [h];rfl
     ·right;rw [h];exact ⟨rfl,rfl⟩
    cases st with
    | none=>
     have Hk:Hid (TkLoop w s (.slice A0 m c0) (.int .i64 (-1)) W2):=⟨i + 1,none,done,rfl,HP.out.skip hc2 hbl,HW2.out⟩;have hstv:stV none = -1:=rfl;have hit2:=HW2.out.it;rw [HS.out] at hit2;have Hp2:=hIh (Hpos.out W2 0 hit2);generalize c.toNat = cn at hnx hcases;clear hc hc2 hbl hn hit2;rcases hcases with k32 | ⟨k32,k9⟩
     ·go_wp2
      go_roundw
      case rel=>exact Hk.out
      case measure=>exact Hp2.out
     ·go_wp2
      go_roundw
      case rel=>exact Hk.out
      case measure=>exact Hp2.out
    | some p=>
     have hpi:=HP.out.hs p rfl;have hstv:stV (some p) = (p:Int):=rfl;have hp0:(0:Int) ≤ (p:Int):=(by omega);have Hcut:=hIh (HP.out.cut hc2 hbl);have hsl:=Hsl.out p i (by omega) hi;obtain ⟨X,hX⟩ : ∃ X:Str,X = ((s.drop p).take (i - p)):=⟨_,rfl⟩;rw [← hX] at hsl Hcut;generalize hXS:sb X = XS at hsl;have HX:=hIh hXS;obtain ⟨XC,hXC⟩ : ∃ XC,XC = [X].flatMap strC:=⟨_,rfl⟩;have HXC:=hIh hXC
     have Hk:Hid (∀ v' w2 o,w2.ownsRow 0 9 1 v' (m + 1) (T ++ XC) → (W2.alloc o).grownBy w2 (Value.slice A0 m c0).ownBlock → (∀ k,v'.ownBlock = some k → (Value.slice A0 m c0).ownBlock = some k ∨ W2.heap.size + 1 ≤ k) → TkLoop w s v' (.int .i64 (-1)) w2 ∧ s.length - w2.iterPos w.heap.size < s.length - wr.iterPos w.heap.size):=fun v' w2 o ho hg hn=>by
      have h5:=HW2.out.app (x:=X) (by rw [← HTe.out,← Hme.out,← HXC.out];exact ho) hg hn;have h6:=h5.it;rw [HS.out] at h6;exact ⟨⟨i + 1,none,done ++ [X],rfl,Hcut.out,h5⟩,Hpos.out w2 0 h6⟩
     generalize c.toNat = cn at hnx hcases;clear hc hc2 hbl hn hX hXS hXC Hsl HslF;rcases hcases with k32 | ⟨k32,k9⟩
     ·go_wp2_with (at_builtin;refine wpList_append2 _ rfl (.tmp 25) (.tmp 30) 59 rfl 9 (.string ⟨#[]⟩) 1 16 Tryz.underlying59 infoStr rfl (by decide) _ m T rfl (Hown.out.alloc _) _ 1 XC rfl ?c1 ?c4 ?c2 ?c3 ?_)
      case c1=>rw [HXC.out,← HX.out];exact rd_oneS _ _ _
      case c4=>rw [HXC.out];exact flat_one strC strC_one [X]
      case c2=>have:=Hm.out;unfold maxLen;omega
      case c3=>have:=Hm.out;omega
      intro v' w2 ho2 hg2 hn2 _;obtain ⟨A',c',rfl⟩:=own_slice ho2;have Hk2:=hIh (Hk.out _ w2 _ ho2 hg2 hn2);clear ho2 hg2 hn2 Hk;go_wp2;go_roundw
      case rel=>exact Hk2.out.1
      case measure=>exact Hk2.out.2
     ·go_wp2_with (at_builtin;refine wpList_append2 _ rfl (.tmp 25) (.tmp 30) 59 rfl 9 (.string ⟨#[]⟩) 1 16 Tryz.underlying59 infoStr rfl (by decide) _ m T rfl (Hown.out.alloc _) _ 1 XC rfl ?c1 ?c4 ?c2 ?c3 ?_)
      case c1=>rw [HXC.out,← HX.out];exact rd_oneS _ _ _
      case c4=>rw [HXC.out];exact flat_one strC strC_one [X]
      case c2=>have:=Hm.out;unfold maxLen;omega
      case c3=>have:=Hm.out;omega
      intro v' w2 ho2 hg2 hn2 _;obtain ⟨A',c',rfl⟩:=own_slice ho2;have Hk2:=hIh (Hk.out _ w2 _ ho2 hg2 hn2);clear ho2 hg2 hn2 Hk;go_wp2;go_roundw
      case rel=>exact Hk2.out.1
      case measure=>exact Hk2.out.2
   ·have hnbl:∀ (j:Nat) (b:UInt8),i ≤ j → j < i + wd → s[j]? = some b → blank b = false:=fun j b h1 h2 h3=>by
     rcases hc with ⟨c',g1,g2,g3,g4⟩ | ⟨-,hall⟩
     ·obtain rfl:j = i:=by omega
      cases hb:blank b with
      | false=>rfl
      | true=>exact absurd ⟨b,h3,hb⟩ hbl
     ·exact blank_low (hall j b h1 h2 h3)
    have hne:r ≠ 32 ∧ r ≠ 9:=by
     rcases hc with ⟨c',g1,g2,g3,g4⟩ | ⟨h1, -⟩
     ·have:=hnbl i c' (Nat.le_refl _) (by omega) g1
      constructor
      ·intro e;rw [(blank_iff c').2 (.inl (by omega))] at this;cases this
      ·intro e;rw [(blank_iff c').2 (.inr (by omega))] at this;cases this
     ·omega
    have k32:((r:Int) == 32) = false:=(by simp;omega);have k9:((r:Int) == 9) = false:=(by simp;omega);have hit2:=HW2.out.it;rw [HS.out] at hit2;have Hp2:=hIh (Hpos.out W2 0 hit2)
    cases st with
    | none=>
     have Hk:Hid (TkLoop w s (.slice A0 m c0) (.int .i64 (i:Int)) W2):=⟨i + wd,some i,done,rfl,HP.out.begin hw1 hw2 hnbl,HW2.out⟩;have hstv:stV none = -1:=rfl;clear hc hbl hnbl hne hit2 hw1 hw2;go_wp2;go_roundw
     case rel=>exact Hk.out
     case measure=>exact Hp2.out
    | some p=>
     have hpi:=HP.out.hs p rfl;have hstv:stV (some p) = (p:Int):=rfl;have hp0:¬ (p:Int) < 0:=(by omega);have hp0b:decide ((p:Int) < 0) = false:=decide_eq_false hp0;have Hk:Hid (TkLoop w s (.slice A0 m c0) (.int .i64 (p:Int)) W2):=⟨i + wd,some p,done,rfl,HP.out.more hw1 hw2 hnbl,HW2.out⟩;clear hc hbl hnbl hne hit2 hw1 hw2 hpi;go_wp2;go_roundw
     case rel=>exact Hk.out
     case measure=>exact Hp2.out
  ·have hnx:=fun ty=>Hend.out wr i ty hit hlt
   have Hown:Hid (wr.ownsRow 0 9 1 (.slice A0 m c0) m T):=by
    have:=HW.out.own;rw [← Hme.out,← HTe.out] at this;exact this
   clear hit Hnx Hend
   cases st with
   | none=>
    have hstv:stV none = -1:=rfl;have Hres:=hIh (HP.out.fin (by omega));clear hi hlt;go_wp2;go_ret;refine ⟨_,rfl,?_,fun k hk=>Nat.le_of_succ_le (HW.out.new k hk),HW.out.bel⟩;rw [Hres.out];have h1:=HW.out.own;have:=RdS.of_own (f:=strC) (l:=done) h1;exact this
   | some p=>
    have hpi:=HP.out.hs p rfl;have hstv:stV (some p) = (p:Int):=rfl;have hp0:(0:Int) ≤ (p:Int):=(by omega);have hp0b:decide ((0:Int) ≤ (p:Int)) = true:=decide_eq_true hp0;have Hres:=hIh (HP.out.last (by omega));have hsl:=HslF.out p (by omega);obtain ⟨X,hX⟩ : ∃ X:Str,X = (s.drop p):=⟨_,rfl⟩;rw [← hX] at hsl Hres;generalize hXS:sb X = XS at hsl;have HX:=hIh hXS;obtain ⟨XC,hXC⟩ : ∃ XC,XC = [X].flatMap strC:=⟨_,rfl⟩;have HXC:=hIh hXC;clear hX hXS hXC Hsl HslF hi hlt hpi;go_wp2_with (at_builtin;refine wpList_append2 _ rfl (.tmp 41) (.tmp 45) 59 rfl 9 (.string ⟨#[]⟩) 1 16 Tryz.underlying59 infoStr rfl (by decide) _ m T rfl (Hown.out.alloc _) _ 1 XC rfl ?c1 ?c4 ?c2 ?c3 ?_)
    case c1=>rw [HXC.out,← HX.out];exact rd_oneS _ _ _
    case c4=>rw [HXC.out];exact flat_one strC strC_one [X]
    case c2=>have:=Hm.out;unfold maxLen;omega
    case c3=>have:=Hm.out;omega
    intro v' w2 ho2 hg2 hn2 _;obtain ⟨A',c',rfl⟩:=own_slice ho2;have h5:=hIh (HW.out.app (x:=X) (by rw [← HTe.out,← Hme.out,← HXC.out];exact ho2) hg2 hn2);clear ho2 hg2 hn2;go_wp2;go_ret;refine ⟨_,rfl,?_,fun k hk=>Nat.le_of_succ_le (h5.out.new k hk),h5.out.bel⟩;rw [Hres.out];have:=RdS.of_own (f:=strC) (l:=done ++ [X]) h5.out.own;exact this
theorem behind_len (s:Str):∀ n,(behindS s n).length ≤ s.length
 | 0=>dropWhile_len _ _
 | n + 1=>Nat.le_trans (Nat.le_trans (dropWhile_len _ _) (dropWhile_len _ _)) (behind_len s n)
theorem behind_dead {s:Str} {i:Nat} (h:(behindS s i).all nb = true):∀ n,i < n → behindS s n = []:=by
 have h1:behindS s (i + 1) = []:=by
  have:(behindS s i).dropWhile (fun b => !blank b) = []:=by
   have key:∀ l:Str,l.all nb = true → l.dropWhile (fun b => !blank b) = []:=by
    intro l
    induction l with
    | nil=>intro _;rfl
    | cons a r ih=>
     intro h;simp only [List.all_cons,Bool.and_eq_true] at h;rw [List.dropWhile_cons];have:(!blank a) = true:=h.1;rw [this];exact ih h.2
   exact key _ h
  show dropB _ = [];rw [this];rfl
 intro n hn
 induction n with
 | zero=>omega
 | succ n ih=>
  by_cases e:n = i
  ·subst e;exact h1
  ·show dropB ((behindS s n).dropWhile _) = []
   rw [ih (by omega)];rfl
def BhLoop (w:World) (s:Str) (n:Nat) (v0 v9:Value) (wr:World):Prop := ∃ i:Nat,i ≤ n ∧ v9 = .int .i64 i ∧ v0 = .string (sb (behindS s i)) ∧ Below w.heap.size w wr
theorem drop_takeW (s:Str):s.drop (s.takeWhile nb).length = s.dropWhile nb:=by
 conv=>lhs;arg 2;rw [← List.takeWhile_append_dropWhile (p:=nb) (l:=s)]
 rw [List.drop_left]
theorem behind_calls (w:World) (s:Str) (n:Nat) (hs:s.length ≤ 1048576) (hn:n ≤ 1048577):Calls Tryz.prog 27 #[.string (sb s),.int .i64 (n:Int)] w fun e w'=>e = .returned (.string (sb (behindS s n))) ∧ Below w.heap.size w w':=by
 have Htl:Hid (∀ W (t:Str),Calls Tryz.prog 44 #[.string (sb t),.string (ByteArray.mk #[32,9])] W fun e w'=>e = .returned (.string (sb (dropB t))) ∧ Below W.heap.size W w'):=fun W t=>ltriml_calls W t;have Hia:Hid (∀ W (t:Str),t.length ≤ 4194304 → Calls Tryz.prog 45 #[.string (sb t),.string (ByteArray.mk #[32,9])] W fun e w'=>e = .returned (.int .i64 (iaR t)) ∧ Below W.heap.size W w'):=fun W t h=>lindexany_calls W t h;have Ht0:Hid (∀ W,Calls Tryz.prog 44 #[.string (sb s),.string (ByteArray.mk #[32,9])] W fun e w'=>e = .returned (.string (sb (behindS s 0))) ∧ Below W.heap.size W w'):=fun W=>Htl.out W s;generalize sb s = S at Ht0;generalize hB0:sb (behindS s 0) = B0 at Ht0;have HB0:=hIh hB0;clear hB0;go_enter Tryz.func27,Tryz.ntmps27;go_wp2_with (go_at_call 44;with_reducible refine (Ht0.out _).mono ?_;rintro e w1 ⟨rfl,hw1⟩)
 go_loopw [0,9] (fun v0 v9 wr=>BhLoop w s n v0 v9 wr) (fun _ i _=>n - (intOf i).toNat)
 case atStart=>exact ⟨0,by omega,rfl,by rw [HB0.out],hw1⟩
 case round=>
  obtain ⟨i,hi,rfl,rfl,hB⟩:=hrel;have HB:=hIh hB
  by_cases hlt:i < n
  ·have hli:(i:Int) < n:=by omega
   have hbl:=behind_len s i;have Hi:=hIh (Hia.out wr (behindS s i) (by omega))
   have hslF:∀ W,(Instr.slice 9 (.string (sb (behindS s i))) (some (.int .i64 (((behindS s i).takeWhile nb).length:Int))) none none).run Tryz.prog W = .ok (.string (sb ((behindS s i).dropWhile nb))) W:=fun W=>by
    rw [run_slF W (behindS s i) _ (by
     have:=congrArg List.length (List.takeWhile_append_dropWhile (p:=nb) (l:=behindS s i))
     rw [List.length_append] at this;omega),drop_takeW]
   have Htl2:Hid (∀ W,Calls Tryz.prog 44 #[.string (sb ((behindS s i).dropWhile nb)),.string (ByteArray.mk #[32,9])] W fun e w'=>e = .returned (.string (sb (behindS s (i + 1)))) ∧ Below W.heap.size W w'):=fun W=>Htl.out W _
   by_cases ha:(behindS s i).all nb = true
   ·have hr:iaR (behindS s i) = -1:=by unfold iaR;rw [if_pos ha]
    have Hres:=hIh (behind_dead ha n hlt);rw [hr] at Hi;generalize sb (behindS s i) = L at Hi;clear ha hr hslF hB;go_wp2_with (go_at_call 45;with_reducible refine Hi.out.mono ?_;rintro e w2 ⟨rfl,hw2⟩);go_ret;exact ⟨by rw [Hres.out];rfl,HB.out.trans (hw2.mono HB.out.size)⟩
   ·have hr:iaR (behindS s i) = ((behindS s i).takeWhile nb).length:=by unfold iaR;rw [if_neg ha]
    rw [hr] at Hi;have Hk:Hid (∀ W,Below wr.heap.size wr W → BhLoop w s n (.string (sb (behindS s (i + 1)))) (.int .i64 ((i:Int) + 1)) W):=fun W hW=>⟨i + 1,hlt,rfl,rfl,HB.out.trans (hW.mono HB.out.size)⟩;generalize sb (behindS s i) = L at Hi hslF;generalize ((behindS s i).takeWhile nb).length = q at Hi hslF;generalize sb ((behindS s i).dropWhile nb) = D at Htl2 hslF;generalize sb (behindS s (i + 1)) = L2 at Htl2 Hk;have hq:¬ (q:Int) < 0:=(by omega);have hqb:decide ((q:Int) < 0) = false:=decide_eq_false hq;clear ha hr hB hbl;go_wp2_with (first | (go_at_call 45;with_reducible refine Hi.out.mono ?_;rintro e w2 ⟨rfl,hw2⟩) | (go_at_call 44;with_reducible refine (Htl2.out _).mono ?_;rintro e w3 ⟨rfl,hw3⟩));go_roundw
    case rel=>exact Hk.out _ (hw2.trans (hw3.mono hw2.size))
    case measure=>simp [intOf];omega
  ·have hli:¬ (i:Int) < n:=by omega
   obtain rfl:i = n:=(by omega);go_wp2;go_ret;exact ⟨rfl,HB.out⟩
theorem words_len_le (s:Str):(words s).length ≤ s.length:=by
 have key:∀ (n:Nat) (s:Str),s.length ≤ n → (words s).length ≤ s.length:=by
  intro n
  induction n with
  | zero=>
   intro s h;have:s = []:=List.eq_nil_of_length_eq_zero (by omega);subst this;simp [words,cutW]
  | succ n ih=>
   intro s h;rw [words_eq]
   cases hd:dropB s with
   | nil=>simp
   | cons c r=>
    simp only;have h1:(dropB s).length ≤ s.length:=dropWhile_len _ _;have h2:=takeWhile_nb_nil hd;have h3:=congrArg List.length (List.takeWhile_append_dropWhile (p:=nb) (l:=c :: r));have h4:0 < ((c :: r).takeWhile nb).length:=List.length_pos_iff.2 h2.1;rw [List.length_append] at h3;rw [hd] at h1;have h5:=ih ((c :: r).dropWhile nb) (by omega);simp only [List.length_cons] at h5 h3 h1 ⊢;omega
 exact key s.length s (Nat.le_refl _)
theorem cutdry_calls (w:World) (s:Str) (hs:s.length ≤ 1048576):Calls Tryz.prog 12 #[.string (sb s)] w fun e w'=>e = .returned (.tuple #[.bool (dryS s).1,.string (sb (dryS s).2)]) ∧ Below w.heap.size w w':=by
 have Htok:=hIh (tokens_calls w s hs);have Hbh:Hid (∀ W,Calls Tryz.prog 27 #[.string (sb s),.int .i64 1] W fun e w'=>e = .returned (.string (sb (behindS s 1))) ∧ Below W.heap.size W w'):=fun W=>behind_calls W s 1 hs (by omega)
 have Hd1:Hid (∀ t r,words s = t :: r → t = wDry → dryS s = (true,behindS s 1)):=fun t r h e=>by unfold dryS;rw [h,e];rfl
 have Hd2:Hid (∀ t r,words s = t :: r → t ≠ wDry → dryS s = (false,s)):=fun t r h e=>by
  unfold dryS;rw [h,if_neg];intro h2;exact e (by simpa using h2)
 have Hd3:Hid (words s = [] → dryS s = (false,s)):=fun h=>by unfold dryS;rw [h];rfl
 have hwl:(words s).length ≤ 1048576:=Nat.le_trans (words_len_le s) hs;generalize words s = ws at Htok Hd1 Hd2 Hd3 hwl;generalize dryS s = ds at Hd1 Hd2 Hd3;generalize hS:sb s = S at Htok Hbh;have HS:=hIh hS;clear hS
 cases ws with
 | nil=>
  have Hres:=hIh (Hd3.out rfl);go_enter Tryz.func12,Tryz.ntmps12;go_wp2_with fail
  with_reducible refine Htok.out.mono ?_
  rintro e w1 ⟨v,rfl,hv, -,hw1⟩;obtain ⟨A,c,rfl⟩:=hv.slice;have hl0:(([] : List Str).length:Int) = 0:=rfl;clear hv;go_wp2;go_ret2;exact ⟨by rw [Hres.out,← HS.out];rfl,hw1⟩
 | cons t r=>
  by_cases ht:t = wDry
  ·have Hres:=hIh (Hd1.out t r rfl ht)
   have hk:(sb t).toList = [100,114,121]:=(by rw [sb_toL,ht];rfl);have hkb:((sb t).toList == [100,114,121]) = true:=(by rw [hk];rfl);obtain ⟨n,hn⟩ : ∃ n,n = (t :: r).length:=⟨_,rfl⟩;have hn0:(0:Int) < n:=(by rw [hn];simp only [List.length_cons];omega);have hn0b:decide ((0:Int) < n) = true:=decide_eq_true hn0;go_enter Tryz.func12,Tryz.ntmps12;go_wp2_with fail;(with_reducible refine Htok.out.mono ?_);rintro e w1 ⟨v,rfl,hv, -,hw1⟩;obtain ⟨b,off,c,hvv, -,hbl,hcell⟩:=RdT.some hv (by simp);subst hvv;have hc0:=hcell 0 (by simp);rw [Nat.add_zero] at hc0;change _ = some (Value.string (sb t)) at hc0;rw [← hn];generalize sb t = TS at hk hkb hc0;generalize hB1:sb (behindS s 1) = B1 at Hbh;have HB1:=hIh hB1;clear hv hcell hn hB1;go_wp2_with (go_at_call 27;with_reducible refine (Hbh.out _).mono ?_;rintro e w2 ⟨rfl,hw2⟩);go_ret2;exact ⟨by rw [Hres.out,← HB1.out];rfl,hw1.trans (hw2.mono hw1.size)⟩
  ·have Hres:=hIh (Hd2.out t r rfl ht)
   have hkb:((sb t).toList == [100,114,121]) = false:=by
    rw [beq_eq_false_iff_ne,sb_toL];exact ht
   have hk:¬ (sb t).toList = [100,114,121]:=(by rw [sb_toL];exact ht);obtain ⟨n,hn⟩ : ∃ n,n = (t :: r).length:=⟨_,rfl⟩;have hn0:(0:Int) < n:=(by rw [hn];simp only [List.length_cons];omega);have hn0b:decide ((0:Int) < n) = true:=decide_eq_true hn0;go_enter Tryz.func12,Tryz.ntmps12;go_wp2_with fail;(with_reducible refine Htok.out.mono ?_);rintro e w1 ⟨v,rfl,hv, -,hw1⟩;obtain ⟨b,off,c,hvv, -,hbl,hcell⟩:=RdT.some hv (by simp);subst hvv;have hc0:=hcell 0 (by simp);rw [Nat.add_zero] at hc0;change _ = some (Value.string (sb t)) at hc0;rw [← hn];generalize sb t = TS at hk hkb hc0;clear hv hcell hn;go_wp2;go_ret2;exact ⟨by rw [Hres.out,← HS.out];rfl,hw1⟩
def NuRes (o:Option Int) (v:Int) (ok:Bool):Prop:=(∃ n,o = some n ∧ v = n ∧ ok = true) ∨ (o = none ∧ ok = false)
theorem numv_succ (s:Str) (i:Nat) (c:UInt8) (h:s[i]? = some c):numv (s.take (i + 1)) = numv (s.take i) * 10 + (c.toNat - 48):=by
 obtain ⟨hlt,hc⟩:=List.getElem?_eq_some_iff.1 h;unfold numv;rw [List.take_add_one,h,List.foldl_append];rfl
theorem numv_mono (s:Str) (i:Nat):numv (s.take i) ≤ numv s:=by
 have key:∀ (l:Str) (a:Nat),a ≤ l.foldl (fun n b=>n * 10 + (b.toNat - 48)) a:=by
  intro l
  induction l with
  | nil=>intro a;exact Nat.le_refl _
  | cons b r ih=>intro a;rw [List.foldl_cons];exact Nat.le_trans (by omega) (ih _)
 have h2:=key (s.drop i) (numv (s.take i))
 have:numv s = (s.drop i).foldl (fun n b=>n * 10 + (b.toNat - 48)) (numv (s.take i)):=by
  conv=>lhs;rw [← List.take_append_drop i s]
  unfold numv;rw [List.foldl_append]
 rw [this];exact h2
theorem dig_none_letter {s:Str} {m i:Nat} {c:UInt8} (h:s[i]? = some c) (hc:isDg c = false):digitsS s m = none:=by
 unfold digitsS;rw [if_neg];rintro ⟨-, -,h3, -⟩;have:=List.all_eq_true.1 h3 c (List.mem_of_getElem? h);rw [hc] at this;cases this
theorem dig_none_big {s:Str} {m i:Nat} (hi:i < s.length) (h:461168601842738790 < numv (s.take i)):digitsS s m = none:=by
 unfold digitsS;rw [if_neg];rintro ⟨-, -, -,h4⟩;have h1:=numv_succ s i s[i] (List.getElem?_eq_getElem hi);have h2:=numv_mono s (i + 1);omega
def DgLoop (w:World) (s:Str) (v6:Value) (wr:World):Prop := ∃ i:Nat,i ≤ s.length ∧ v6 = .int .i64 (numv (s.take i):Nat) ∧ numv (s.take i) ≤ 4611686018427387909 ∧ wr.heap[w.heap.size]? = some (.stringIter (sb s) i) ∧ (∀ (j:Nat) (b:UInt8),j < i → s[j]? = some b → isDg b = true) ∧ Below w.heap.size w wr
theorem dgN (c:UInt8):isDg c = true ↔ 48 ≤ c.toNat ∧ c.toNat ≤ 57:=by
 simp only [isDg,Bool.and_eq_true,decide_eq_true_eq,UInt8.le_iff_toNat_le];exact Iff.rfl
theorem wrap_i32 (n:Nat) (h:n < 128):IntKind.i32.wrap ((n:Int) - 48) = (n:Int) - 48:=by
 have e:IntKind.i32.wrap ((n:Int) - 48) = (((n:Int) - 48 + 2147483648) % 4294967296) - 2147483648:=by
  unfold IntKind.wrap;simp [IntKind.bits,IntKind.signed];omega
 rw [e];omega
def NuPost (w:World) (o:Option Int) (e:Ending) (w' : World):Prop := ∃ (v:Int) (ok:Bool),e = .returned (.tuple #[.int .i64 v,.bool ok]) ∧ NuRes o v ok ∧ Below w.heap.size w w'
theorem NuPost.mk {w w' : World} {o:Option Int} {e:Ending} (v:Int) (ok:Bool) (h:e = .returned (.tuple #[.int .i64 v,.bool ok])) (h2:NuRes o v ok) (h3:Below w.heap.size w w'):NuPost w o e w':=⟨v,ok,h,h2,h3⟩
def dgI (s:Str) (m:Nat):Option Int:=(digitsS s m).map fun n=>(n:Int)
theorem dgI_none {s:Str} {m:Nat} (h:digitsS s m = none):dgI s m = none:=by unfold dgI;rw [h];rfl
theorem dgI_some {s:Str} {m n:Nat} (h:digitsS s m = some n):dgI s m = some (n:Int):=by unfold dgI;rw [h];rfl
theorem digits_calls (w:World) (s:Str) (m:Nat) (hm:m ≤ 19):Calls Tryz.prog 105 #[.string (sb s),.int .i64 (m:Int)] w (NuPost w (dgI s m)):=by
 have hsz:(sb s).size = s.length:=sb_size s
 by_cases h0:s.length < 1 ∨ m < s.length
 ·have Hres:Hid (digitsS s m = none):=by
   show _ = _;unfold digitsS;rw [if_neg];rintro ⟨h1,h2, -⟩;have:=List.length_pos_iff.2 h1;omega
  have hcs:((s.length:Int) < 1) ∨ (¬ (s.length:Int) < 1 ∧ (m:Int) < s.length):=by omega
  generalize sb s = S at hsz;clear h0;rcases hcs with g | ⟨g,g2⟩
  ·have gb:decide ((s.length:Int) < 1) = true:=decide_eq_true g
   go_enter Tryz.func105,Tryz.ntmps105;go_wp2;go_ret2;exact NuPost.mk _ _ rfl (.inr ⟨dgI_none Hres.out,rfl⟩) (Below.refl _ _)
  ·have gb:decide ((s.length:Int) < 1) = false:=decide_eq_false g
   have gb2:decide ((m:Int) < s.length) = true:=decide_eq_true g2;go_enter Tryz.func105,Tryz.ntmps105;go_wp2;go_ret2;exact NuPost.mk _ _ rfl (.inr ⟨dgI_none Hres.out,rfl⟩) (Below.refl _ _)
 have g1:¬ (s.length:Int) < 1:=by omega
 have g1b:decide ((s.length:Int) < 1) = false:=decide_eq_false g1
 have g2:¬ (m:Int) < s.length:=by omega
 have g2b:decide ((m:Int) < s.length) = false:=decide_eq_false g2;have Hst:Hid (DgLoop w s (.int .i64 0) (w.iter (sb s) 0)):=⟨0,by omega,rfl,by simp [numv],World.iter_heap _ _ _,fun j b h=>by omega,iter_bel _ _ _⟩
 have Hfin:Hid ((∀ (j:Nat) (b:UInt8),s[j]? = some b → isDg b = true) → digitsS s m = if numv s ≤ 4611686018427387904 then some (numv s) else none):=fun h=>by
  have ha:s.all isDg = true:=List.all_eq_true.2 fun c hc=>by
   obtain ⟨i,hi⟩:=List.mem_iff_getElem?.1 hc;exact h i c hi
  have hne:s ≠ []:=by intro e;rw [e] at h0;simp at h0
  unfold digitsS
  by_cases hv:numv s ≤ 4611686018427387904
  ·rw [if_pos hv,if_pos ⟨hne,by omega,ha,hv⟩]
  ·rw [if_neg hv,if_neg (fun h=>hv h.2.2.2)]
 have Hnx:=hIh (fun (wr:World) (i:Nat) h1 h2=>nextR wr w.heap.size s i h1 h2);have Hend:=hIh (fun (wr:World) (i:Nat) (ty:TypeId) (h1:wr.heap[w.heap.size]? = some (.stringIter (sb s) i)) (h2:¬ i < s.length)=>Lib.run_next_end_at (P:=Tryz.prog) wr w.heap.size (sb s) i ty h1 (by rw [sb_size];exact h2));generalize hS:sb s = S at hsz Hst Hnx Hend;have HS:=hIh hS;clear hS h0;go_enter Tryz.func105,Tryz.ntmps105;go_wp2
 go_loopw [6] (fun v6 wr=>DgLoop w s v6 wr) (fun _ wr=>s.length - wr.iterPos w.heap.size)
 case atStart=>exact Hst.out
 case round=>
  clear Hst g1 g1b g2 g2b;obtain ⟨i,hi,rfl,hnv,hit,hno,hB⟩:=hrel;rw [HS.out] at hit;have Hno:=hIh hno;have HB:=hIh hB;clear hno hB
  by_cases hlt:i < s.length
  ·obtain ⟨r,wd,hnx,hw1,hw2,hr,hc⟩:=Hnx.out wr i hit hlt
   have HB2:=hIh (Lib.below_iterAt HB.out (k:=w.heap.size) (Nat.le_refl _) S (i + wd));have Hit2:=hIh (Lib.iterAt_heap wr w.heap.size S i (i + wd) hit)
   have Hpos:Hid (s.length - (wr.iterAt w.heap.size S (i + wd)).iterPos w.heap.size < s.length - wr.iterPos w.heap.size):=by
    have h5:=Hit2.out;show _ < _;unfold World.iterPos;rw [h5,hit];simp only;omega
   have Hbig:Hid (461168601842738790 < numv (s.take i) → digitsS s m = none):=fun h=>dig_none_big hlt h;rcases hc with ⟨c,hc,hca,rfl,rfl⟩ | ⟨hr1,hall⟩
   ·by_cases hd:isDg c = true
    ·have hdd:=(dgN c).1 hd
     have hnext:=numv_succ s i c hc
     have Hk:Hid (numv (s.take i) ≤ 461168601842738790 → ∀ x:Int,x = (numv (s.take (i + 1)):Nat) → DgLoop w s (.int .i64 x) (wr.iterAt w.heap.size S (i + 1))):=fun h x hx=>⟨i + 1,hlt,by rw [hx],by rw [hnext];omega,by rw [HS.out];exact Hit2.out,fun j b hj hb=>by
      by_cases e:j = i
      ·subst e;rw [hc] at hb;cases hb;exact hd
      ·exact Hno.out j b (by omega) hb,HB2.out⟩
     rw [hnext] at Hk;generalize numv (s.take i) = n at hnv Hk Hbig;generalize wr.iterAt w.heap.size S (i + 1) = W2 at hnx HB2 Hpos Hk;have hwr:=wrap_i32 c.toNat hca;have Hwr:=hIh hwr;generalize c.toNat = cn at hnx hdd Hk Hwr hca;obtain ⟨k1,k2⟩:=hdd;have q1:¬ (cn:Int) < 48:=(by omega);have q1b:decide ((cn:Int) < 48) = false:=decide_eq_false q1;have q2:¬ (57:Int) < cn:=(by omega);have q2b:decide ((57:Int) < cn) = false:=decide_eq_false q2
     by_cases hb:461168601842738790 < n
     ·have Hres:=hIh (Hbig.out hb)
      have q3:(461168601842738790:Int) < n:=(by omega);have q3b:decide ((461168601842738790:Int) < n) = true:=decide_eq_true q3;clear hc hd hit hnext hb Hk Hbig hwr Hnx Hend;go_wp2;go_ret2;exact NuPost.mk _ _ rfl (.inr ⟨dgI_none Hres.out,rfl⟩) HB2.out
     ·have q3:¬ (461168601842738790:Int) < n:=by omega
      have q3b:decide ((461168601842738790:Int) < n) = false:=decide_eq_false q3;have Hk2:=hIh (Hk.out (by omega));have hn10:(n:Int) * 10 ≤ 4611686018427387900:=(by omega);have hn0:(0:Int) ≤ (n:Int) * 10:=(by omega);clear hc hd hit hnext hb Hk Hbig hwr Hnx Hend;go_wp2;go_roundw
      case rel=>exact Hk2.out _ (by omega)
      case measure=>exact Hpos.out
    ·have hdd:¬ (48 ≤ c.toNat ∧ c.toNat ≤ 57):=fun h=>hd ((dgN c).2 h)
     have Hres:Hid (digitsS s m = none):=dig_none_letter hc ((Bool.not_eq_true _).mp hd);generalize numv (s.take i) = n at hnv Hbig;generalize wr.iterAt w.heap.size S (i + 1) = W2 at hnx HB2 Hpos;generalize c.toNat = cn at hnx hdd hca;clear hc hd hit Hbig Hnx Hend
     by_cases q1:(cn:Int) < 48
     ·have q1b:decide ((cn:Int) < 48) = true:=decide_eq_true q1
      clear hdd;go_wp2;go_ret2;exact NuPost.mk _ _ rfl (.inr ⟨dgI_none Hres.out,rfl⟩) HB2.out
     ·have q1b:decide ((cn:Int) < 48) = false:=decide_eq_false q1
      have q2:(57:Int) < cn:=(by omega);have q2b:decide ((57:Int) < cn) = true:=decide_eq_true q2;clear hdd;go_wp2;go_ret2;exact NuPost.mk _ _ rfl (.inr ⟨dgI_none Hres.out,rfl⟩) HB2.out
   ·have Hres:Hid (digitsS s m = none):=by
     have h5:=hall i s[i] (Nat.le_refl _) (by omega) (List.getElem?_eq_getElem hlt);refine dig_none_letter (List.getElem?_eq_getElem hlt) ?_
     cases hd:isDg s[i] with
     | false=>rfl
     | true=>have:=((dgN _).1 hd).2;omega
    generalize numv (s.take i) = n at hnv Hbig;generalize wr.iterAt w.heap.size S (i + wd) = W2 at hnx HB2 Hpos;have q1:¬ (r:Int) < 48:=(by omega);have q1b:decide ((r:Int) < 48) = false:=decide_eq_false q1;have q2:(57:Int) < r:=(by omega);have q2b:decide ((57:Int) < r) = true:=decide_eq_true q2;clear hall hit Hbig Hnx Hend;go_wp2;go_ret2;exact NuPost.mk _ _ rfl (.inr ⟨dgI_none Hres.out,rfl⟩) HB2.out
  ·have hnx:=fun ty=>Hend.out wr i ty hit hlt
   have Hf:=hIh (Hfin.out fun j b hb=>Hno.out j b (by have:=(List.getElem?_eq_some_iff.1 hb).1;omega) hb);rw [List.take_of_length_le (by omega)] at hnv ⊢;generalize numv s = n at hnv Hf;clear hit hi Hnx Hend
   by_cases hb:n ≤ 4611686018427387904
   ·rw [if_pos hb] at Hf
    have q:(n:Int) ≤ 4611686018427387904:=(by omega);have qb:decide ((n:Int) ≤ 4611686018427387904) = true:=decide_eq_true q;clear hb;go_wp2;go_ret2;exact NuPost.mk _ _ rfl (.inl ⟨n,dgI_some Hf.out,rfl,rfl⟩) HB.out
   ·rw [if_neg hb] at Hf
    have q:¬ (n:Int) ≤ 4611686018427387904:=(by omega);have qb:decide ((n:Int) ≤ 4611686018427387904) = false:=decide_eq_false q;clear hb;go_wp2;go_ret2;exact NuPost.mk _ _ rfl (.inr ⟨dgI_none Hf.out,rfl⟩) HB.out
theorem dgI_le {s:Str} {m:Nat} {v:Int} (h:dgI s m = some v):0 ≤ v ∧ v ≤ 4611686018427387904:=by
 unfold dgI digitsS at h
 split at h
 ·rename_i h2
  have h3:((numv s:Nat):Int) = v:=by simpa using h
  have h4:=h2.2.2.2;omega
 ·cases h
theorem numS_neg {s r:Str} (h:cutPre [45] s = some r):numS s = (dgI r 10).map fun n => -n:=by
 unfold cutPre at h
 split at h
 ·rename_i h2
  obtain ⟨t,rfl⟩:=List.isPrefixOf_iff_prefix.1 h2
  cases h
  unfold numS dgI;simp [Option.map_map]
  try rfl
 ·cases h
theorem numS_pos {s:Str} (h:cutPre [45] s = none):numS s = dgI s 10:=by
 unfold cutPre at h
 split at h
 ·cases h
 ·rename_i h2
  unfold numS dgI
  split
  ·rename_i r
   exact absurd (by simp [List.isPrefixOf]) h2
  ·rfl
theorem number_calls (w:World) (s:Str):Calls Tryz.prog 126 #[.string (sb s)] w (NuPost w (numS s)):=by
 cases hp:cutPre [45] s with
 | none=>
  have C1:Hid (∀ W,Calls Tryz.prog 124 #[.string (sb s),.string (ByteArray.mk #[45])] W fun e w'=>e = .returned (.tuple #[.string (sb s),.bool false]) ∧ w' = W):=fun W=>lpreN_calls W s [45] hp;have C2:Hid (∀ W,Calls Tryz.prog 105 #[.string (sb s),.int .i64 10] W (NuPost W (dgI s 10))):=fun W=>digits_calls W s 10 (by omega);rw [numS_pos hp];generalize sb s = S at C1 C2;generalize dgI s 10 = o at C2;clear hp;go_enter Tryz.func126,Tryz.ntmps126;go_wp2_with fail
  with_reducible refine (C1.out _).mono ?_
  rintro e w1 ⟨rfl,hw1⟩;obtain rfl:=hw1.symm;go_wp2_with fail
  with_reducible refine (C2.out _).mono ?_
  rintro e w2 ⟨v,ok,rfl,hr,hw2⟩;go_wp2;go_ret2;exact NuPost.mk _ _ rfl hr hw2
 | some r=>
  have C1:Hid (∀ W,Calls Tryz.prog 124 #[.string (sb s),.string (ByteArray.mk #[45])] W fun e w'=>e = .returned (.tuple #[.string (sb r),.bool true]) ∧ w' = W):=fun W=>lpreS_calls W s [45] r hp;have C2:Hid (∀ W,Calls Tryz.prog 105 #[.string (sb r),.int .i64 10] W (NuPost W (dgI r 10))):=fun W=>digits_calls W r 10 (by omega);have Hle:Hid (∀ v,dgI r 10 = some v → 0 ≤ v ∧ v ≤ 4611686018427387904):=fun v h=>dgI_le h;rw [numS_neg hp];generalize sb s = S at C1 C2;generalize sb r = R at C1 C2;generalize dgI r 10 = o at C2 Hle;clear hp;go_enter Tryz.func126,Tryz.ntmps126;go_wp2_with fail
  with_reducible refine (C1.out _).mono ?_
  rintro e w1 ⟨rfl,hw1⟩;obtain rfl:=hw1.symm;go_wp2_with fail
  with_reducible refine (C2.out _).mono ?_
  rintro e w2 ⟨v,ok,rfl,hr,hw2⟩;rcases hr with ⟨n,rfl,rfl,rfl⟩ | ⟨rfl,rfl⟩
  ·have hle:=Hle.out _ rfl
   obtain ⟨l1,l2⟩:=hle;have Hf:Hid (∀ x:Int,x = -v → NuRes (Option.map (fun n => -n) (some v)) x true):=fun x hx=>.inl ⟨-v,rfl,hx,rfl⟩;have hn1:(-4611686018427387904:Int) ≤ -v:=(by omega);have hn2 : -v ≤ 0:=(by omega);go_wp2;go_ret2;exact NuPost.mk _ _ rfl (Hf.out _ (by first | rfl | omega)) hw2
  ·have Hf:Hid (∀ x:Int,NuRes (Option.map (fun n => -n) none) x false):=fun x=>.inr ⟨rfl,rfl⟩
   go_wp2;go_ret2;exact NuPost.mk _ _ rfl (Hf.out _) hw2
theorem needT_calls (w:World) (p:Value):Calls Tryz.prog 29 #[p,.bool true] w fun e w'=>e = .returned (.tuple #[]) ∧ w' = w:=by
 go_enter Tryz.func29,Tryz.ntmps29;go_wp2;go_end0;exact ⟨rfl,rfl⟩
theorem needF_calls (w:World) (p:Value):Calls Tryz.prog 29 #[p,.bool false] w fun e w'=>e = (.panicked [{ v:=.iface 74 (.agg #[]),recovered:=false }]) ∧ w' = w:=by
 go_enter Tryz.func29,Tryz.ntmps29;go_wp2;exact ⟨rfl,rfl,rfl⟩
def IsR (g:Nat) (q:Nat → Prop) (line:Str) (w:World) (l:List Str):Prop := ∃ v,w.heap[g]? = some (.cells #[v,.string (sb line)] 78 (0,0)) ∧ RdT w v l ∧ (l ≠ [] → ∀ k,v.ownBlock = some k → k ≠ g ∧ ¬ q k)
section
variable {g:Nat} {q:Nat → Prop} {line:Str} {w w1:World} {l:List Str}
theorem IsR.below (h:IsR g q line w l) (hb:Below w.heap.size w w1):IsR g q line w1 l:=by
 obtain ⟨v,h1,h2,h3⟩:=h;exact ⟨v,blk_below h1 hb,RdS.below h2 hb,h3⟩
theorem IsR.lt (h:IsR g q line w l):g < w.heap.size:=by
 obtain ⟨v,h1, -⟩:=h;exact blk_lt h1
theorem IsR.fr (h:IsR g q line w l) (hf:Fr q w w1) (hne:¬ q g):IsR g q line w1 l:=by
 obtain ⟨v,h1,h2,h3⟩:=h;exact ⟨v,hf.blk h1 hne,RdS.keep strC_len (by decide) h2 hf (fun hl k hk=>(h3 hl k hk).2),h3⟩
end
theorem IsR.next {g:Nat} {q:Nat → Prop} {line:Str} {w:World} {t:Str} {r:List Str} {b off c:Nat} (h1:w.heap[g]? = some (.cells #[.slice (some ⟨b,off,none⟩) (t :: r).length c,.string (sb line)] 78 (0,0))) (h2:RdT w (.slice (some ⟨b,off,none⟩) (t :: r).length c) (t :: r)) (h3:b ≠ g ∧ ¬ q b) :
  IsR g q line (w.setCell ⟨g,0,none⟩ (.slice (some ⟨b,off + 1,none⟩) r.length (c - 1))) r ∧ Fr (fun k=>k = g) w (w.setCell ⟨g,0,none⟩ (.slice (some ⟨b,off + 1,none⟩) r.length (c - 1))):=by
 have hf:Fr (fun k=>k = g) w (w.setCell ⟨g,0,none⟩ (.slice (some ⟨b,off + 1,none⟩) r.length (c - 1))):=(Fr.refl (fun k=>k = g) w).setCell (p:=⟨g,0,none⟩) (.inl rfl) _;refine ⟨⟨_,blk_setCell h1 0 _,?_,?_⟩,hf⟩
 ·have h4:=rd_tail (i:=1) h2 (by simp)
  rw [Nat.one_mul] at h4;have e:(List.flatMap strC (t :: r)).drop 1 = r.flatMap strC:=rfl;rw [e,show (t :: r).length - 1 = r.length by simp] at h4
  exact RdS.fr (f:=strC) (l:=r) h4 hf (fun k hk e2=>by
   have:b = k:=(by simpa [Value.ownBlock] using hk)
   exact h3.1 (this.trans e2))
 ·intro _ k hk
  have:b = k:=by simpa [Value.ownBlock] using hk
  rw [← this];exact h3
theorem IsR.mono {g:Nat} {q q' : Nat → Prop} {line:Str} {w:World} {l:List Str} (h:IsR g q line w l) (hq:∀ k,q' k → q k):IsR g q' line w l:=by
 obtain ⟨v,h1,h2,h3⟩:=h;exact ⟨v,h1,h2,fun hl k hk=>⟨(h3 hl k hk).1,fun e=>(h3 hl k hk).2 (hq k e)⟩⟩
theorem IsR.more {g:Nat} {q:Nat → Prop} {line:Str} {w:World} {l:List Str} (h:IsR g q line w l):IsR g (fun k=>q k ∨ w.heap.size ≤ k) line w l:=by
 obtain ⟨v,h1,h2,h3⟩:=h;refine ⟨v,h1,h2,fun hl k hk=>⟨(h3 hl k hk).1,?_⟩⟩;rintro (e | e)
 ·exact (h3 hl k hk).2 e
 ·have:=RdS.lt strC_len (by decide) h2 hl k hk;omega
theorem IsR.next1 {g:Nat} {q:Nat → Prop} {line:Str} {w:World} {v:Value} {b off:Nat} (h1:w.heap[g]? = some (.cells #[v,.string (sb line)] 78 (0,0))) (h3:b ≠ g ∧ ¬ q b) :
  IsR g q line (w.setCell ⟨g,0,none⟩ (.slice (some ⟨b,off,none⟩) 0 0)) [] ∧ Fr (fun k=>k = g) w (w.setCell ⟨g,0,none⟩ (.slice (some ⟨b,off,none⟩) 0 0)):=by
 have hf:Fr (fun k=>k = g) w (w.setCell ⟨g,0,none⟩ (.slice (some ⟨b,off,none⟩) 0 0)):=(Fr.refl (fun k=>k = g) w).setCell (p:=⟨g,0,none⟩) (.inl rfl) _;refine ⟨⟨_,blk_setCell h1 0 _,⟨by simp,_,_,rfl,Nat.le_refl _,(fun h=>by cases h),fun ad hA j u hu=>by simp at hu⟩,fun _ k hk=>?_⟩,hf⟩
 have:b = k:=by simpa [Value.ownBlock] using hk
 rw [← this];exact h3
theorem IsR.cons {g:Nat} {q:Nat → Prop} {line:Str} {w:World} {t:Str} {r:List Str} (h:IsR g q line w (t :: r)):∃ b off c,w.heap[g]? = some (.cells #[.slice (some ⟨b,off,none⟩) (t :: r).length c,.string (sb line)] 78 (0,0)) ∧ (t :: r).length ≤ c ∧
  w.cell? ⟨b,off,none⟩ = some (.string (sb t)) ∧ RdT w (.slice (some ⟨b,off,none⟩) (t :: r).length c) (t :: r) ∧ (b ≠ g ∧ ¬ q b):=by
 obtain ⟨v,h1,h2,h3⟩:=h;obtain ⟨b,off,c,rfl,hc,hb,hcell⟩:=RdT.some h2 (by simp);have h0:=hcell 0 (by simp);rw [Nat.add_zero] at h0;exact ⟨b,off,c,h1,hc,h0,h2,h3 (by simp) b rfl⟩
theorem IsR.nil {g:Nat} {q:Nat → Prop} {line:Str} {w:World} (h:IsR g q line w []):∃ A c,w.heap[g]? = some (.cells #[.slice A 0 c,.string (sb line)] 78 (0,0)):=by
 obtain ⟨v,h1,h2,h3⟩:=h;obtain ⟨A,c,rfl⟩:=h2.slice;exact ⟨A,c,h1⟩
theorem wordN_calls {g:Nat} {q:Nat → Prop} {line:Str} (w:World) (h:IsR g q line w []):Calls Tryz.prog 31 #[.pointer (some ⟨g,0,none⟩)] w fun e w'=>e = (.panicked [{ v:=.iface 74 (.agg #[]),recovered:=false }]) ∧ w' = w:=by
 obtain ⟨A,c,hb⟩:=h.nil;obtain ⟨c0,c1,f0,f1⟩:=cells2 hb;clear hb h;go_enter Tryz.func31,Tryz.ntmps31;go_wp2_with (go_at_call 29;with_reducible refine (needF_calls _ _).mono ?_;rintro e w1 ⟨rfl,hw1⟩;obtain rfl:=hw1.symm);exact ⟨rfl,rfl,rfl⟩
theorem adv {g:Nat} {q:Nat → Prop} {line:Str} {w:World} {t:Str} {r:List Str} {b off c n:Nat} (hb:w.heap[g]? = some (.cells #[.slice (some ⟨b,off,none⟩) (t :: r).length c,.string (sb line)] 78 (0,0))) (hcap:(t :: r).length ≤ c) (hrd:RdT w (.slice (some ⟨b,off,none⟩) (t :: r).length c) (t :: r)) (hne:b ≠ g ∧ ¬ q b) (hn:n = r.length) :
  (c = 1 ∧ n = 0 ∧ IsR g q line (w.setCell ⟨g,0,none⟩ (.slice (some ⟨b,off,none⟩) 0 0)) r ∧ Fr (fun k=>k = g) w (w.setCell ⟨g,0,none⟩ (.slice (some ⟨b,off,none⟩) 0 0))) ∨
  (c ≠ 1 ∧ IsR g q line (w.setCell ⟨g,0,none⟩ (.slice (some ⟨b,off + 1,none⟩) n (c - 1))) r ∧ Fr (fun k=>k = g) w (w.setCell ⟨g,0,none⟩ (.slice (some ⟨b,off + 1,none⟩) n (c - 1)))):=by
 by_cases hc:c = 1
 ·left
  have hr:r = []:=by
   simp only [List.length_cons] at hcap;exact List.eq_nil_of_length_eq_zero (by omega)
  subst hr;obtain ⟨h1,h2⟩:=IsR.next1 (q:=q) (off:=off) hb hne;exact ⟨hc,hn,h1,h2⟩
 ·right
  obtain ⟨h1,h2⟩:=IsR.next hb hrd hne;rw [← hn] at h1 h2;exact ⟨hc,h1,h2⟩
theorem wordC_calls {g:Nat} {q:Nat → Prop} {line:Str} (w:World) (t:Str) (r:List Str) (h:IsR g q line w (t :: r)):Calls Tryz.prog 31 #[.pointer (some ⟨g,0,none⟩)] w fun e w'=>e = .returned (.string (sb t)) ∧ IsR g q line w' r ∧ Fr (fun k=>k = g) w w':=by
 obtain ⟨b,off,c,hb,hcap,hc0,hrd,hne⟩:=h.cons;obtain ⟨n,hn⟩ : ∃ n,n = r.length:=⟨_,rfl⟩;have hadv:=adv hb hcap hrd hne hn;obtain ⟨c0,c1,f0,f1⟩:=cells2 hb
 have hlen:(t :: r).length = n + 1:=by simp [hn]
 rw [hlen] at c0 hcap
 have hn0:(0:Int) < (n:Int) + 1:=by omega
 have hn0b:decide ((0:Int) < (n:Int) + 1) = true:=decide_eq_true hn0
 have h1n:(1:Int) ≤ (n:Int) + 1:=by omega
 have hcapi:(n:Int) + 1 ≤ c:=by omega
 generalize hTS:sb t = TS at hc0;have HTS:=hIh hTS;clear hb hrd h hn hlen hTS;rcases hadv with ⟨rfl,rfl,hR,hF⟩ | ⟨hc1,hR,hF⟩
 ·have HR:=hIh hR
  have HF:=hIh hF;clear hR hF;go_enter Tryz.func31,Tryz.ntmps31;go_wp2_with (go_at_call 29;with_reducible refine (needT_calls _ _).mono ?_;rintro e w1 ⟨rfl,hw1⟩;obtain rfl:=hw1.symm);go_ret;exact ⟨by first | rfl | (rw [HTS.out];rfl),HR.out,HF.out⟩
 ·have HR:=hIh hR
  have HF:=hIh hF;clear hR hF;go_enter Tryz.func31,Tryz.ntmps31;go_wp2_with (go_at_call 29;with_reducible refine (needT_calls _ _).mono ?_;rintro e w1 ⟨rfl,hw1⟩;obtain rfl:=hw1.symm)
  all_goals (first | (go_ret;exact ⟨by first | rfl | (rw [HTS.out];rfl),HR.out,HF.out⟩) | trace_state)
theorem isN_calls {g:Nat} {q:Nat → Prop} {line:Str} (w:World) (S:ByteArray) (h:IsR g q line w []):Calls Tryz.prog 96 #[.pointer (some ⟨g,0,none⟩),.string S] w fun e w'=>e = .returned (.bool false) ∧ w' = w:=by
 obtain ⟨A,c,hb⟩:=h.nil;obtain ⟨c0,c1,f0,f1⟩:=cells2 hb;clear hb h;go_enter Tryz.func96,Tryz.ntmps96;go_wp2;go_ret;exact ⟨rfl,rfl⟩
theorem isF_calls {g:Nat} {q:Nat → Prop} {line:Str} (w:World) (t s:Str) (r:List Str) (h:IsR g q line w (t :: r)) (hts:t ≠ s):Calls Tryz.prog 96 #[.pointer (some ⟨g,0,none⟩),.string (sb s)] w fun e w'=>e = .returned (.bool false) ∧ w' = w:=by
 obtain ⟨b,off,c,hb,hcap,hc0,hrd,hne⟩:=h.cons;obtain ⟨n,hn⟩ : ∃ n,n = r.length:=⟨_,rfl⟩;have hadv:=adv hb hcap hrd hne hn;obtain ⟨c0,c1,f0,f1⟩:=cells2 hb
 have hlen:(t :: r).length = n + 1:=by simp [hn]
 rw [hlen] at c0 hcap
 have hn0:(0:Int) < (n:Int) + 1:=by omega
 have hn0b:decide ((0:Int) < (n:Int) + 1) = true:=decide_eq_true hn0
 have hnz:(((n:Int) + 1) == 0) = false:=by simp;omega
 have h1n:(1:Int) ≤ (n:Int) + 1:=by omega
 have hcapi:(n:Int) + 1 ≤ c:=by omega
 have hbe:((sb t).toList == (sb s).toList) = false:=beqF' (fun e=>hts (sb_inj.1 e));generalize sb t = TS at hc0 hbe;generalize sb s = S at hbe;clear hb hrd h hn hlen hadv hts;go_enter Tryz.func96,Tryz.ntmps96;go_wp2;go_ret;exact ⟨rfl,rfl⟩
theorem isT_calls {g:Nat} {q:Nat → Prop} {line:Str} (w:World) (t:Str) (r:List Str) (h:IsR g q line w (t :: r)):Calls Tryz.prog 96 #[.pointer (some ⟨g,0,none⟩),.string (sb t)] w fun e w'=>e = .returned (.bool true) ∧ IsR g q line w' r ∧ Fr (fun k=>k = g) w w':=by
 obtain ⟨b,off,c,hb,hcap,hc0,hrd,hne⟩:=h.cons;obtain ⟨n,hn⟩ : ∃ n,n = r.length:=⟨_,rfl⟩;have hadv:=adv hb hcap hrd hne hn;obtain ⟨c0,c1,f0,f1⟩:=cells2 hb
 have hlen:(t :: r).length = n + 1:=by simp [hn]
 rw [hlen] at c0 hcap
 have hn0:(0:Int) < (n:Int) + 1:=by omega
 have hn0b:decide ((0:Int) < (n:Int) + 1) = true:=decide_eq_true hn0
 have hnz:(((n:Int) + 1) == 0) = false:=by simp;omega
 have h1n:(1:Int) ≤ (n:Int) + 1:=by omega
 have hcapi:(n:Int) + 1 ≤ c:=by omega
 have hbe:=beqT' (sb t);generalize sb t = TS at hc0 hbe;clear hb hrd h hn hlen;rcases hadv with ⟨rfl,rfl,hR,hF⟩ | ⟨hc1,hR,hF⟩
 ·have HR:=hIh hR
  have HF:=hIh hF;clear hR hF;go_enter Tryz.func96,Tryz.ntmps96;go_wp2;go_ret;exact ⟨rfl,HR.out,HF.out⟩
 ·have HR:=hIh hR
  have HF:=hIh hF;clear hR hF;go_enter Tryz.func96,Tryz.ntmps96;go_wp2;go_ret;exact ⟨rfl,HR.out,HF.out⟩
def OptPost (g:Nat) (q:Nat → Prop) (line:Str) (w:World) (o:Option Str × List Str) (e:Ending) (w' : World):Prop:=
 ∃ x:ByteArray,e = .returned (.tuple #[.string x,.bool o.1.isSome]) ∧ (∀ v,o.1 = some v → x = sb v) ∧ IsR g q line w' o.2 ∧ Fr (fun k=>k = g) w w'
theorem option_calls {g:Nat} {q:Nat → Prop} {line:Str} (w:World) (name:Str) (l:List Str) (h:IsR g q line w l) (hname:name.length ≤ 100):Calls Tryz.prog 99 #[.pointer (some ⟨g,0,none⟩),.string (sb name)] w (OptPost g q line w (optS name l)):=by
 have hns:(sb name).size ≤ 100:=by rw [sb_size];exact hname
 cases l with
 | nil=>
  have Hpost:Hid (OptPost g q line w (optS name []) (.returned (.tuple #[.string (ByteArray.mk #[]),.bool false])) w):=⟨_,rfl,(fun v hv=>by cases hv),h,Fr.refl _ _⟩;generalize optS name [] = o at Hpost;obtain ⟨A,c,hb⟩:=h.nil;obtain ⟨c0,c1,f0,f1⟩:=cells2 hb;clear hb h;go_enter Tryz.func99,Tryz.ntmps99;go_wp2;go_ret2;exact Hpost.out
 | cons t r=>
  have hz:¬ 9223372036854775807 < (sb name).size + 1:=by omega
  have hcat:sb name ++ (ByteArray.mk #[61]) = sb (name ++ [61]):=by rw [u61,sb_append]
  have hh:=h;obtain ⟨b,off,c,hb,hcap,hc0,hrd,hne⟩:=h.cons;obtain ⟨n,hn⟩ : ∃ n,n = r.length:=⟨_,rfl⟩;have hadv:=adv hb hcap hrd hne hn;obtain ⟨c0,c1,f0,f1⟩:=cells2 hb
  have hlen:(t :: r).length = n + 1:=by simp [hn]
  rw [hlen] at c0 hcap
  have hn0:(0:Int) < (n:Int) + 1:=by omega
  have hn0b:decide ((0:Int) < (n:Int) + 1) = true:=decide_eq_true hn0
  have hnz:(((n:Int) + 1) == 0) = false:=by simp;omega
  have h1n:(1:Int) ≤ (n:Int) + 1:=by omega
  have hcapi:(n:Int) + 1 ≤ c:=by omega
  cases hp:cutPre (name ++ [61]) t with
  | none=>
   have Hpost:Hid (∀ x,OptPost g q line w (optS name (t :: r)) (.returned (.tuple #[.string x,.bool false])) w):=fun x=>by
    have e:optS name (t :: r) = (none,t :: r):=(by simp only [optS,hp]);rw [e];exact ⟨x,rfl,(fun v hv=>by cases hv),hh,Fr.refl _ _⟩
   have Hcp:Hid (∀ W,Calls Tryz.prog 124 #[.string (sb t),.string (sb name ++ (ByteArray.mk #[61]))] W fun e w'=>e = .returned (.tuple #[.string (sb t),.bool false]) ∧ w' = W):=fun W=>(by rw [hcat];exact lpreN_calls W t (name ++ [61]) hp);generalize optS name (t :: r) = o at Hpost;generalize sb t = TS at hc0 Hcp;generalize sb name = N at hns hz Hcp
   clear hb hrd h hh hn hlen hadv hp hcat
   go_enter Tryz.func99,Tryz.ntmps99;go_wp2_with (go_at_call 124;with_reducible refine (Hcp.out _).mono ?_;rintro e w1 ⟨rfl,hw1⟩;obtain rfl:=hw1.symm);go_ret2;exact Hpost.out _
  | some v=>
   have Hpost:Hid (∀ W,IsR g q line W r → Fr (fun k=>k = g) w W → OptPost g q line w (optS name (t :: r)) (.returned (.tuple #[.string (sb v),.bool true])) W):=fun W h1 h2=>by
    have e:optS name (t :: r) = (some v,r):=(by simp only [optS,hp]);rw [e];exact ⟨_,rfl,(fun v' hv=>by cases hv;rfl),h1,h2⟩
   have Hcp:Hid (∀ W,Calls Tryz.prog 124 #[.string (sb t),.string (sb name ++ (ByteArray.mk #[61]))] W fun e w'=>e = .returned (.tuple #[.string (sb v),.bool true]) ∧ w' = W):=fun W=>(by rw [hcat];exact lpreS_calls W t (name ++ [61]) v hp);generalize optS name (t :: r) = o at Hpost;generalize sb t = TS at hc0 Hcp;generalize sb name = N at hns hz Hcp;generalize sb v = V at Hcp Hpost
   clear hb hrd h hh hn hlen hp hcat
   rcases hadv with ⟨rfl,rfl,hR,hF⟩ | ⟨hc1,hR,hF⟩
   ·have HP2:=hIh (Hpost.out _ hR hF)
    clear hR hF Hpost;go_enter Tryz.func99,Tryz.ntmps99;go_wp2_with (go_at_call 124;with_reducible refine (Hcp.out _).mono ?_;rintro e w1 ⟨rfl,hw1⟩;obtain rfl:=hw1.symm);go_ret2;exact HP2.out
   ·have HP2:=hIh (Hpost.out _ hR hF)
    clear hR hF Hpost;go_enter Tryz.func99,Tryz.ntmps99;go_wp2_with (go_at_call 124;with_reducible refine (Hcp.out _).mono ?_;rintro e w1 ⟨rfl,hw1⟩;obtain rfl:=hw1.symm);go_ret2;exact HP2.out
def NumP (g:Nat) (q:Nat → Prop) (line:Str) (w:World) (o:Option (Int × List Str)) (e:Ending) (w' : World):Prop:=
 (∃ x,o = some x ∧ e = .returned (.int .i64 x.1) ∧ IsR g q line w' x.2 ∧ Fr (fun k=>k = g) w w') ∨ (o = none ∧ e = (.panicked [{ v:=.iface 74 (.agg #[]),recovered:=false }]) ∧ Fr (fun k=>k = g) w w')
def QtP (w:World) (o:Option Nat) (e:Ending) (w' : World):Prop:=((∃ v:Nat,o = some v ∧ e = .returned (.int .i64 v)) ∨ (o = none ∧ e = (.panicked [{ v:=.iface 74 (.agg #[]),recovered:=false }]))) ∧ Below w.heap.size w w'
theorem quantity_calls (w:World) (G:Glob w) (p:Value) (s:Str) (hs:s.length ≤ 1048576):Calls Tryz.prog 100 #[p,.string (sb s)] w (QtP w (qparse s)):=by
 have Hq:=hIh (qparse_calls w G s hs);generalize qparse s = o at Hq;generalize sb s = S at Hq;clear G;go_enter Tryz.func100,Tryz.ntmps100;go_wp2_with fail
 with_reducible refine Hq.out.mono ?_
 rintro e w1 ⟨v,ec,rfl,hr,hw1⟩;rcases hr with ⟨x,rfl,rfl,rfl⟩ | ⟨rfl,hec⟩
 ·go_wp2_with (go_at_call 29;with_reducible refine (needT_calls _ _).mono ?_;rintro e w2 ⟨rfl,hw2⟩;obtain rfl:=hw2.symm)
  go_ret;exact ⟨.inl ⟨x,rfl,rfl⟩,hw1⟩
 ·have hb:(ec == 0) = false:=by simpa using hec
  clear hec;go_wp2_with (go_at_call 29;with_reducible refine (needF_calls _ _).mono ?_;rintro e w2 ⟨rfl,hw2⟩;obtain rfl:=hw2.symm);exact ⟨rfl,(⟨.inr ⟨rfl,rfl⟩,hw1⟩ : QtP w none _ _)⟩
theorem must_calls {g:Nat} {q:Nat → Prop} {line:Str} (w:World) (l:List Str) (h:IsR g q line w l):Calls Tryz.prog 102 #[.pointer (some ⟨g,0,none⟩)] w (NumP g q line w ((mustS l).map fun x=>((x.1:Int),x.2))):=by
 have Hop:=hIh (show Calls Tryz.prog 99 #[.pointer (some ⟨g,0,none⟩),.string (ByteArray.mk #[109,117,115,116])] w (OptPost g q line w (optS [109,117,115,116] l)) from option_calls w [109,117,115,116] l h (by decide))
 have Hs:Hid (mustS l = match optS [109,117,115,116] l with
  | (some v,r)=>(digitsS v 19).map fun n=>(n,r)
  | (none,r)=>some (0,r)):=rfl
 generalize mustS l = o at Hs;generalize optS [109,117,115,116] l = p at Hop Hs;obtain ⟨ov,r⟩:=p;clear h
 cases ov with
 | none=>
  have Hpost:Hid (∀ W,IsR g q line W r → Fr (fun k=>k = g) w W → NumP g q line w (o.map fun x=>((x.1:Int),x.2)) (.returned (.int .i64 0)) W):=fun W h1 h2=>.inl ⟨(0,r),by rw [Hs.out];rfl,rfl,h1,h2⟩;generalize (o.map fun x=>((x.1:Int),x.2)) = o2 at Hpost;go_enter Tryz.func102,Tryz.ntmps102;go_wp2_with fail
  with_reducible refine Hop.out.mono ?_
  rintro e w1 ⟨x,rfl, -,hR,hF⟩;have HP:=hIh (Hpost.out _ hR hF);clear hR hF;have hsn:(Option.isSome (none:Option Str)) = false:=rfl;go_wp2;go_ret;exact HP.out
 | some v=>
  have Hd:=hIh (fun W=>(show Calls Tryz.prog 105 #[.string (sb v),.int .i64 19] W (NuPost W (dgI v 19)) from digits_calls W v 19 (by omega)))
  have Hpost:Hid (∀ (e:Ending) (W:World) (n:Int) (ok:Bool),NuRes (dgI v 19) n ok → IsR g q line W r → Fr (fun k=>k = g) w W → e = (if ok then .returned (.int .i64 n) else (.panicked [{ v:=.iface 74 (.agg #[]),recovered:=false }])) → NumP g q line w (o.map fun x=>((x.1:Int),x.2)) e W):=fun e W n ok hn h1 h2 he=>by
   rcases hn with ⟨m,hm,rfl,rfl⟩ | ⟨hm,rfl⟩
   ·left
    cases hd:digitsS v 19 with
    | none=>rw [dgI_none hd] at hm;cases hm
    | some d=>
     rw [dgI_some hd] at hm
     cases hm
     exact ⟨((d:Int),r),by rw [Hs.out];show Option.map _ (Option.map _ (digitsS v 19)) = _;rw [hd];rfl,he,h1,h2⟩
   ·right
    cases hd:digitsS v 19 with
    | some d=>rw [dgI_some hd] at hm;cases hm
    | none=>exact ⟨by rw [Hs.out];show Option.map _ (Option.map _ (digitsS v 19)) = _;rw [hd];rfl,he,h2⟩
  generalize (o.map fun x=>((x.1:Int),x.2)) = o2 at Hpost;generalize dgI v 19 = od at Hd Hpost;go_enter Tryz.func102,Tryz.ntmps102;go_wp2_with fail
  with_reducible refine Hop.out.mono ?_
  rintro e w1 ⟨x,rfl,hx,hR,hF⟩;obtain rfl:=hx v rfl;have HR:=hIh hR;have HF:=hIh hF;have hsn:(Option.isSome (some v)) = true:=rfl;clear hx hR hF;go_wp2_with fail
  with_reducible refine (Hd.out _).mono ?_
  rintro e w2 ⟨n,ok,rfl,hn,hw2⟩;have HP:=hIh (fun e=>Hpost.out e w2 n ok hn (HR.out.below hw2) (HF.out.below hw2));clear hn hw2
  cases ok
  ·go_wp2_with (go_at_call 29;with_reducible refine (needF_calls _ _).mono ?_;rintro e w3 ⟨rfl,hw3⟩;obtain rfl:=hw3.symm)
   exact ⟨rfl,HP.out _ rfl⟩
  ·go_wp2_with (go_at_call 29;with_reducible refine (needT_calls _ _).mono ?_;rintro e w3 ⟨rfl,hw3⟩;obtain rfl:=hw3.symm)
   go_ret;exact HP.out _ rfl
theorem small_calls {g:Nat} {q:Nat → Prop} {line:Str} (w:World) (name:Str) (other:Int) (l:List Str) (h:IsR g q line w l) (hname:name.length ≤ 100):Calls Tryz.prog 101 #[.pointer (some ⟨g,0,none⟩),.string (sb name),.int .i64 other] w (NumP g q line w (smallS name other l)):=by
 have Hop:=hIh (option_calls w name l h hname)
 have Hs:Hid (smallS name other l = match optS name l with
  | (some v,r)=>(numS v).map fun n=>(n,r)
  | (none,r)=>some (other,r)):=rfl
 generalize smallS name other l = o at Hs;generalize optS name l = p at Hop Hs;obtain ⟨ov,r⟩:=p;generalize sb name = N at Hop;clear h hname
 cases ov with
 | none=>
  have Hpost:Hid (∀ W,IsR g q line W r → Fr (fun k=>k = g) w W → NumP g q line w o (.returned (.int .i64 other)) W):=fun W h1 h2=>.inl ⟨(other,r),by rw [Hs.out],rfl,h1,h2⟩;go_enter Tryz.func101,Tryz.ntmps101;go_wp2_with fail
  with_reducible refine Hop.out.mono ?_
  rintro e w1 ⟨x,rfl, -,hR,hF⟩;have HP:=hIh (Hpost.out _ hR hF);clear hR hF;have hsn:(Option.isSome (none:Option Str)) = false:=rfl;go_wp2;go_ret;exact HP.out
 | some v=>
  have Hd:=hIh (fun W=>number_calls W v)
  have Hpost:Hid (∀ (e:Ending) (W:World) (n:Int) (ok:Bool),NuRes (numS v) n ok → IsR g q line W r → Fr (fun k=>k = g) w W → e = (if ok then .returned (.int .i64 n) else (.panicked [{ v:=.iface 74 (.agg #[]),recovered:=false }])) → NumP g q line w o e W):=fun e W n ok hn h1 h2 he=>by
   rcases hn with ⟨m,hm,rfl,rfl⟩ | ⟨hm,rfl⟩
   ·exact .inl ⟨(n,r),by rw [Hs.out];show Option.map _ (numS v) = _;rw [hm];rfl,he,h1,h2⟩
   ·exact .inr ⟨by rw [Hs.out];show Option.map _ (numS v) = _;rw [hm];rfl,he,h2⟩
  generalize numS v = od at Hd Hpost;go_enter Tryz.func101,Tryz.ntmps101;go_wp2_with fail
  with_reducible refine Hop.out.mono ?_
  rintro e w1 ⟨x,rfl,hx,hR,hF⟩;obtain rfl:=hx v rfl;have HR:=hIh hR;have HF:=hIh hF;have hsn:(Option.isSome (some v)) = true:=rfl;clear hx hR hF;go_wp2_with fail
  with_reducible refine (Hd.out _).mono ?_
  rintro e w2 ⟨n,ok,rfl,hn,hw2⟩;have HP:=hIh (fun e=>Hpost.out e w2 n ok hn (HR.out.below hw2) (HF.out.below hw2));clear hn hw2
  cases ok
  ·go_wp2_with (go_at_call 29;with_reducible refine (needF_calls _ _).mono ?_;rintro e w3 ⟨rfl,hw3⟩;obtain rfl:=hw3.symm)
   exact ⟨rfl,HP.out _ rfl⟩
  ·go_wp2_with (go_at_call 29;with_reducible refine (needT_calls _ _).mono ?_;rintro e w3 ⟨rfl,hw3⟩;obtain rfl:=hw3.symm)
   go_ret;exact HP.out _ rfl
end Go.Proofs.YtpfkkagkbneilaaGreatDoor
