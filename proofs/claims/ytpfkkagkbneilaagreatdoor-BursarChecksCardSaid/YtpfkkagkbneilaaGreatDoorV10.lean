/- Texts H6, H7, H8 of the proof of BursarChecks, joined. -/
import Derived.Test.YtpfkkagkbneilaaGreatDoorV9
namespace Go.Proofs.YtpfkkagkbneilaaGreatDoor
open Go.RowKit
set_option linter.unusedVariables false
set_option linter.unusedSimpArgs false
set_option maxRecDepth 100000
set_option maxHeartbeats 25600000
theorem RdS.keep {α : Type} {f : α → List Value} {size:Nat} {w w1:World} {v:Value} {l:List α} (hf:∀ x,(f x).length = size) (hs:0 < size) {S:Nat → Prop} (h:RdS f size w v l) (hfr:Fr S w w1) (hn:l ≠ [] → ∀ k,v.ownBlock = some k → ¬ S k):RdS f size w1 v l:=by
 by_cases hl:l = []
 ·subst hl
  obtain ⟨h1,A,c,h2,h3,h4, -⟩:=h;exact ⟨h1,A,c,h2,h3,h4,fun ad _ j u hu=>by simp at hu⟩
 ·exact RdS.fr h hfr (hn hl)
theorem RdS.lt {α : Type} {f : α → List Value} {size:Nat} {w:World} {v:Value} {l:List α} (hf:∀ x,(f x).length = size) (hs:0 < size) (h:RdS f size w v l) (hl:l ≠ []):∀ k,v.ownBlock = some k → k < w.heap.size:=by
 obtain ⟨b,off,c,rfl, -,hb, -⟩:=h.cells hf hs 0 (List.length_pos_iff.2 hl);intro k hk
 have:b = k:=by simpa [Value.ownBlock] using hk
 omega
structure TOwn (B:Nat) (w:World) (v:Value) (l:List (Tm × Value)):Prop where
 own:w.ownsRow 0 98 3 v l.length (l.flatMap tmC)
 new:∀ k,v.ownBlock = some k → B ≤ k
 els:∀ e ∈ l,RdT w e.2 e.1.vals ∧ (∀ k,e.2.ownBlock = some k → B ≤ k) ∧ (e.1.vals ≠ [] → ∀ k,e.2.ownBlock = some k → v.ownBlock ≠ some k)
theorem TOwn.nil (B:Nat) (w:World):TOwn B w (.slice none 0 0) []:=⟨World.ownsRow_nil _ _ _ _,(fun k hk=>by cases hk),(fun e he=>by cases he)⟩
theorem TOwn.below {B:Nat} {w w1:World} {v:Value} {l:List (Tm × Value)} (h:TOwn B w v l) (hb:Below w.heap.size w w1):TOwn B w1 v l:=
 ⟨own_below h.own hb,h.new,fun e he=>⟨RdS.below (h.els e he).1 hb,(h.els e he).2⟩⟩
theorem TOwn.row {B:Nat} {w:World} {v:Value} {l:List (Tm × Value)} (h:TOwn B w v l):TRow w v l:=⟨RdS.of_own h.own,fun e he=>(h.els e he).1⟩
theorem TOwn.next {B:Nat} {wr wp w4:World} {v v1:Value} {l:List (Tm × Value)} {e:Tm × Value} {o:Obj} (h:TOwn B wr v l) (hB:B ≤ wr.heap.size) (hwp:Below wr.heap.size wr wp) (he:RdT wp e.2 e.1.vals) (hen:∀ k,e.2.ownBlock = some k → wr.heap.size ≤ k)
  (ho:w4.ownsRow 0 98 3 v1 (l.length + 1) (l.flatMap tmC ++ [e].flatMap tmC)) (hg:(wp.alloc o).grownBy w4 v.ownBlock) (hn:∀ k,v1.ownBlock = some k → v.ownBlock = some k ∨ wp.heap.size + 1 ≤ k):TOwn B w4 v1 (l ++ [e]):=by
 have hs:=hwp.size;have hvl:∀ k,v.ownBlock = some k → k < wr.heap.size:=fun k hk=>(h.own.lt k hk).2
 have hF:∀ {x:Value} {n:List Str},RdT wp x n → (n ≠ [] → ∀ k,x.ownBlock = some k → v.ownBlock ≠ some k) → RdT w4 x n:=by
  intro x n hr hne;have h1:RdT (wp.alloc o) x n:=RdS.below hr ((Below.refl _ _).alloc (Nat.le_refl _) o);exact RdS.keep strC_len (by decide) h1 ((Fr.refl (fun k=>v.ownBlock = some k) (wp.alloc o)).grown hg (fun k hk=>.inl hk)) (fun hn k hk e=>hne hn k hk e)
 refine ⟨by rw [List.length_append,flat_app];exact ho,fun k hk=>?_,fun x hx=>?_⟩
 ·rcases hn k hk with h3 | h3
  ·exact h.new k h3
  ·omega
 ·rcases List.mem_append.1 hx with hx | hx
  ·obtain ⟨h1,h2,h3⟩:=h.els x hx
   refine ⟨hF (RdS.below h1 hwp) h3,h2,fun hne k hk hv=>?_⟩;rcases hn k hv with h4 | h4
   ·exact h3 hne k hk h4
   ·have:=RdS.lt strC_len (by decide) h1 hne k hk;omega
  ·rw [List.mem_singleton.1 hx]
   refine ⟨hF he (fun hne k hk hv=>?_),fun k hk=>Nat.le_trans hB (hen k hk),fun hne k hk hv=>?_⟩
   ·have:=hen k hk;have:=hvl k hv;omega
   ·rcases hn k hv with h4 | h4
    ·have:=hen k hk;have:=hvl k h4;omega
    ·have:=RdS.lt strC_len (by decide) he hne k hk;omega
theorem rd_tm (w:World) (t:TypeId) (e:Tm × Value):Rd (w.alloc (.cells #[.string (sb e.1.key),.int .i64 (e.1.how:Int),e.2] t)) 3 (.slice (some ⟨w.heap.size,0,none⟩) 1 1) 1 ([e].flatMap tmC):=by
 refine ⟨rfl,_,_,rfl,Nat.le_refl _,(fun h=>by cases h),fun ad hA j u hu=>?_⟩
 cases hA
 match j,hu with
 | 0,hu=>cases hu;rw [show (⟨w.heap.size,0,none⟩ : Addr).add 0 = ⟨w.heap.size,0,none⟩ from rfl];simp only [World.cell?,blk_new];rfl
 | 1,hu=>cases hu;rw [show (⟨w.heap.size,0,none⟩ : Addr).add 1 = ⟨w.heap.size,1,none⟩ from rfl];simp only [World.cell?,blk_new];rfl
 | 2,hu=>cases hu;rw [show (⟨w.heap.size,0,none⟩ : Addr).add 2 = ⟨w.heap.size,2,none⟩ from rfl];simp only [World.cell?,blk_new];rfl
theorem tm_one (e:Tm × Value) {w:World} (h:RdT w e.2 e.1.vals):∀ u ∈ [e].flatMap tmC,u.oneCell' = true:=by
 obtain ⟨A,c,hv⟩:=h.slice;intro u hu
 have hu2:u ∈ [Value.string (sb e.1.key),Value.int .i64 (e.1.how:Int),e.2]:=by simpa [tmC] using hu
 rw [hv] at hu2;rcases List.mem_cons.1 hu2 with rfl | hu2
 ·rfl
 rcases List.mem_cons.1 hu2 with rfl | hu2
 ·rfl
 ·rw [List.mem_singleton.1 hu2];rfl
theorem infoTm:(Tryz.prog.info? 98).map (fun i=>(i.zero,i.size,i.bytes)) = some (some (.agg #[.string ⟨#[]⟩,.int .i64 0,.slice none 0 0]),3,48):=by kernel_rfl
def SelRes (B:Nat) (o:Option (List Tm)) (v:Value) (ec:Int) (w' : World):Prop:=
 (∃ l:List (Tm × Value),o = some (l.map Prod.fst) ∧ TRow w' v l ∧ (∀ k,v.ownBlock = some k → B ≤ k) ∧ (∀ e ∈ l, ∀ k,e.2.ownBlock = some k → B ≤ k) ∧ ec = 0) ∨ (o = none ∧ ec ≠ 0)
theorem TOwn.sel {B:Nat} {w:World} {v:Value} {l:List (Tm × Value)} (h:TOwn B w v l):SelRes B (some (l.map Prod.fst)) v 0 w:=.inl ⟨l,rfl,h.row,h.new,fun e he=>(h.els e he).2.1,rfl⟩
def PaLoop (w:World) (rd:Str → Tm) (ws:List Str) (v4 v6:Value) (wr:World):Prop := ∃ (i:Nat) (done:List (Tm × Value)),v6 = .int .i64 i ∧ i ≤ ws.length ∧ done.map Prod.fst = (ws.take i).map rd ∧ TOwn w.heap.size wr v4 done ∧ Below w.heap.size w wr
theorem PaLoop.len {rd:Str → Tm} {ws:List Str} {i:Nat} {done:List (Tm × Value)} (h:done.map Prod.fst = (ws.take i).map rd) (hi:i ≤ ws.length):done.length = i:=by
 have:=congrArg List.length h;simp at this;omega
theorem sel_ok {rd:Str → Tm} {t:Str} {l:List (Tm × Value)} (hne:t ≠ []) (hm:l.map Prod.fst = (pieces 44 t).map rd) (hok:tmsOk l = true) (htx:selTxt (l.map Prod.fst) = t):selParse rd t = some (l.map Prod.fst):=by
 unfold tmsOk at hok;rw [Bool.and_eq_true] at hok;unfold selParse;rw [if_neg hne];simp only;rw [← hm,if_pos ⟨by simpa using of_decide_eq_true hok.2,hok.1,htx⟩]
theorem sel_bad {rd:Str → Tm} {t:Str} {l:List (Tm × Value)} (hne:t ≠ []) (hm:l.map Prod.fst = (pieces 44 t).map rd) (hx:tmsOk l = false ∨ selTxt (l.map Prod.fst) ≠ t):selParse rd t = none:=by
 unfold selParse;rw [if_neg hne];simp only;rw [← hm,if_neg];rintro ⟨h1,h2,h3⟩;rcases hx with hx | hx
 ·unfold tmsOk at hx
  rw [h2] at hx;have:decide (l.length ≤ 8) = true:=decide_eq_true (by simpa using h1);rw [this] at hx;cases hx
 ·exact hx h3
theorem pieces_small (c:UInt8) (s:Str):(pieces c s).length ≤ s.length + 1:=by
 rw [pieces_count];have:=List.count_le_length (a:=c) (l:=s);omega
theorem rselparse_calls (w:World) (t:Str) (ht:t.length ≤ 1048576) :
  Calls Tryz.prog 70 #[.string (sb t)] w fun e w' => ∃ A n c ec,e = .returned (.tuple #[.slice A n c,.int .i64 ec]) ∧ SelRes w.heap.size (selParse termR t) (.slice A n c) ec w' ∧ Below w.heap.size w w':=by
 by_cases hne:t = []
 ·subst hne
  have hz:(sb []).toList = []:=sb_toL []
  have hz2:(sb []).toList.isEmpty = true:=by rw [hz];rfl
  have Hres:Hid (SelRes w.heap.size (selParse termR []) (.slice none 0 0) 0 w):=(TOwn.nil _ w).sel;generalize sb [] = S at hz hz2;go_enter Tryz.func70,Tryz.ntmps70;go_wp2;go_ret2;exact ⟨_,_,_,_,rfl,Hres.out,Below.refl _ _⟩
 have hz:¬ (sb t).toList = []:=by rw [sb_toL];exact hne
 have hz2:(sb t).toList.isEmpty = false:=by
  cases hx:(sb t).toList with
  | nil=>exact absurd hx hz
  | cons a r=>rfl
 have Hpc:=hIh (fun W=>(show Calls Tryz.prog 107 #[.string (sb t),.int .u8 44] W _ from pieces_calls W t 44 ht))
 have hpl:(pieces 44 t).length ≤ 1048577:=by have:=pieces_small 44 t;omega
 have Hml:Hid (∀ j (h:j < (pieces 44 t).length),(pieces 44 t)[j].length ≤ 1048576):=fun j h=>by have:=pieces_mem (List.getElem_mem h);omega
 have Hok:=hIh (fun (l:List (Tm × Value)) h1 h2 h3=>sel_ok (rd:=termR) (t:=t) (l:=l) hne h1 h2 h3);have Hbad:=hIh (fun (l:List (Tm × Value)) h1 h2=>sel_bad (rd:=termR) (t:=t) (l:=l) hne h1 h2);generalize pieces 44 t = ws at Hpc hpl Hml Hok Hbad;generalize hS:sb t = S at hz hz2 Hpc;have HS:=hIh hS;clear hS hne;go_enter Tryz.func70,Tryz.ntmps70;go_wp2_with fail
 with_reducible refine (Hpc.out _).mono ?_
 rintro e w1 ⟨pv,rfl,hrd,hnw,hw1⟩;obtain ⟨PA,pcap,rfl⟩:=hrd.slice;have H1:=hIh hw1;have Hrd:=hIh hrd;clear hw1 hrd hnw Hpc;go_wp2
 go_loopw [4,6] (fun v4 v6 wr=>PaLoop w1 termR ws v4 v6 wr) (fun _ i _=>ws.length - (intOf i).toNat)
 case atStart=>exact ⟨0, [],rfl,by omega,rfl,TOwn.nil _ _,Below.refl _ _⟩
 case round=>
  obtain ⟨i,done,rfl,hi,hdn,hT,hB⟩:=hrel;have hlen:=PaLoop.len hdn hi;obtain ⟨A,cp,hA⟩:=own_slice hT.own;rw [hlen] at hA;subst hA;have Hlen:=hIh hlen;have HT:=hIh hT;have HB:=hIh hB;have Hdn:=hIh hdn;clear hT hdn hlen
  by_cases hlt:i < ws.length
  ·have hli:(i:Int) < ws.length:=by omega
   have hi0:(0:Int) ≤ i:=(by omega);obtain ⟨bk,off,cc,hpv, -,hbl,hcell⟩:=Hrd.out.some (by intro e;rw [e] at hlt;simp at hlt)
   cases hpv
   have hci:=(hB.cell (p:=⟨bk,off + i,none⟩) hbl).trans (hcell i hlt);have Hrc:=hIh (fun W=>read_calls W ws[i] (Hml.out i hlt));have htk:(ws.take (i + 1)).map termR = (ws.take i).map termR ++ [termR ws[i]]:=(by rw [List.take_add_one,List.getElem?_eq_getElem hlt,List.map_append];rfl);have Htk:=hIh htk;generalize ws[i] = x at hci Hrc Htk;generalize termR x = tm at Hrc Htk;generalize sb x = X at hci Hrc;clear hB hcell htk;go_wp2_with fail;(with_reducible refine (Hrc.out _).mono ?_);rintro e w2 ⟨vv,rfl,hvv,hvn,hw2⟩;have Hvv:=hIh hvv;have Hvn:=hIh hvn;have H2:=hIh hw2;obtain ⟨VA,vc,rfl⟩:=hvv.slice;obtain ⟨K,hK⟩ : ∃ K,K = sb tm.key:=⟨_,rfl⟩;obtain ⟨hw,hhw⟩ : ∃ k:Int,k = (tm.how:Int):=⟨_,rfl⟩;obtain ⟨n,hn⟩ : ∃ n,n = tm.vals.length:=⟨_,rfl⟩;rw [← hK,← hhw,← hn];rw [← hn] at Hvv Hvn;obtain ⟨XC,hXC⟩ : ∃ XC,XC = [((tm,Value.slice VA n vc):Tm × Value)].flatMap tmC:=⟨_,rfl⟩;obtain ⟨T,hT0⟩ : ∃ T,T = done.flatMap tmC:=⟨_,rfl⟩
   have Hown:Hid (w2.ownsRow 0 98 3 (.slice A i cp) i T):=by
    show World.ownsRow _ _ _ _ _ _ _;have:=(HT.out.below hw2).own;rw [Hlen.out,← hT0] at this;exact this
   have Hc1:Hid (Rd (w2.alloc (.cells #[.string K,.int .i64 hw,.slice VA n vc] 98)) 3 (.slice (some ⟨w2.heap.size,0,none⟩) 1 1) 1 XC):=by
    show Rd _ _ _ _ _;rw [hXC,hK,hhw];exact rd_tm w2 98 (tm,.slice VA n vc)
   have Hc4:Hid (∀ u ∈ XC,u.oneCell' = true):=(by rw [hXC];exact tm_one (tm,.slice VA n vc) Hvv.out);have HXC:=hIh hXC;have HT0:=hIh hT0;clear hXC hT0 hvv hvn hw2 hK hhw hn;go_wp2_with (at_builtin;refine wpList_append2 _ rfl (.tmp 19) (.tmp 25) 36 rfl 98 (.agg #[.string ⟨#[]⟩,.int .i64 0,.slice none 0 0]) 3 48 Tryz.underlying36 infoTm rfl (by decide) _ i T rfl (Hown.out.alloc _) _ 1 XC rfl ?c1 ?c4 ?c2 ?c3 ?_)
   case c1=>exact Hc1.out
   case c4=>exact Hc4.out
   case c2=>unfold maxLen;omega
   case c3=>omega
   intro v' w3 ho3 hg3 hn3 _;obtain ⟨A',c',rfl⟩:=own_slice ho3
   have Hk:Hid (PaLoop w1 termR ws (.slice A' (i + 1) c') (.int .i64 ((i:Int) + 1)) w3):=by
    have ht2:=TOwn.next (e:=(tm,.slice VA n vc)) HT.out HB.out.size H2.out Hvv.out (fun k hk=>Hvn.out k hk) (by rw [Hlen.out,← HT0.out,← HXC.out];exact ho3) hg3 hn3;refine ⟨i + 1,done ++ [(tm,.slice VA n vc)],rfl,by omega,?_,ht2,?_⟩
    ·rw [List.map_append,Hdn.out,Htk.out];rfl
    ·have h4:Below w1.heap.size w1 w2:=HB.out.trans (H2.out.mono HB.out.size)
     exact (h4.alloc h4.size _).grown hg3 (by have:=h4.size;simp;omega) (fun k hk=>HT.out.new k hk)
   clear ho3 hg3 hn3;go_wp2;go_roundw
   case rel=>exact Hk.out
   case measure=>simp [intOf];omega
  ·have hli:¬ (i:Int) < ws.length:=by omega
   have Hall:Hid (done.map Prod.fst = ws.map termR):=(by show _ = _;rw [Hdn.out,List.take_of_length_le (by omega)]);have Hpr:=hIh (rprintsel_calls wr _ done HT.out.row (by have:=Hlen.out;omega));have HW:Hid (Below w.heap.size w wr):=H1.out.trans (hB.mono H1.out.size)
   have Hsel:Hid (∀ W,Below wr.heap.size wr W → SelRes w.heap.size (some (done.map Prod.fst)) (.slice A i cp) 0 W):=fun W hW=>by
    have:=((HT.out.below hW).sel);rcases this with ⟨l,h1,h2,h3,h4,h5⟩ | ⟨h1, -⟩
    ·exact .inl ⟨l,h1,h2,fun k hk=>Nat.le_trans H1.out.size (h3 k hk),fun e he k hk=>Nat.le_trans H1.out.size (h4 e he k hk),h5⟩
    ·cases h1
   clear hi hlt hB;go_wp2_with fail;(with_reducible refine Hpr.out.mono ?_);rintro e w2 ⟨s,ec,rfl,hp,hw2⟩;have H2:=hIh hw2
   by_cases hok:tmsOk done = true
   ·obtain ⟨rfl,rfl⟩:=hp.1 hok
    by_cases htx:selTxt (done.map Prod.fst) = t
    ·have Hres:Hid (selParse termR t = some (done.map Prod.fst)):=Hok.out done Hall.out hok htx
     rw [htx,HS.out];have hb:=beqT' S;have hb2:(S.toList != S.toList) = false:=(by simp);clear hp hok htx hw2 Hok Hbad;go_wp2;go_ret2;exact ⟨_,_,_,_,rfl,by rw [Hres.out];exact Hsel.out _ H2.out,HW.out.trans (H2.out.mono HW.out.size)⟩
    ·have Hres:Hid (selParse termR t = none):=Hbad.out done Hall.out (.inr htx)
     have hb:((sb (selTxt (done.map Prod.fst))).toList == S.toList) = false:=beqF' (by rw [← HS.out];intro e;exact htx (sb_inj.1 e));have hb2:((sb (selTxt (done.map Prod.fst))).toList != S.toList) = true:=(by rw [bne,hb];rfl);generalize sb (selTxt (done.map Prod.fst)) = X at hb hb2;clear hp hok htx hw2 Hok Hbad;go_wp2;go_ret2;exact ⟨_,_,_,_,rfl,.inr ⟨Hres.out,by decide⟩,HW.out.trans (H2.out.mono HW.out.size)⟩
   ·have ho2:=(Bool.not_eq_true _).mp hok
    have hec:=hp.2 ho2;have Hres:Hid (selParse termR t = none):=Hbad.out done Hall.out (.inl ho2);have hb:(ec == 0) = false:=(by simpa using hec);have hb2:(ec != 0) = true:=(by simpa using hec);clear hp hok ho2 hw2 Hok Hbad hec;go_wp2;go_ret2;exact ⟨_,_,_,_,rfl,.inr ⟨Hres.out,by decide⟩,HW.out.trans (H2.out.mono HW.out.size)⟩
theorem lcont_calls (w:World) (b off c:Nat) (l:List Str) (i:Nat) (x:Str) (hi:i ≤ l.length) (hl:l.length ≤ 4194304) (hcell:∀ j,j < l.length → w.cell? ⟨b,off + j,none⟩ = some (.string (sb (l.getD j [])))) :
  Calls Tryz.prog 200 #[.slice (some ⟨b,off,none⟩) i c,.string (sb x)] w fun e w'=>e = .returned (.bool ((l.take i).contains x)) ∧ w' = w:=by
 refine (Tryz.slices_Contains_string b off i c (l.map sb) (sb x) w (by simpa using hi) (by omega) ?_).mono ?_
 ·intro j hj
  have hj2:j < l.length:=by simpa using hj
  rw [hcell j hj2];simp [List.getD,hj2]
 ·rintro e w' ⟨rfl,rfl⟩
  refine ⟨?_,rfl⟩
  congr 2
  rw [Bool.eq_iff_iff,Lib.containsS_iff,← List.map_take,List.contains_iff_mem,List.mem_map]
  constructor
  ·rintro ⟨y,hy,he⟩;rw [← sb_inj.1 he];exact hy
  ·intro h;exact ⟨x,h,rfl⟩
theorem okVal_eq (l:List Str) (i:Nat):okVal l i = ((isNm (l.getD i []) || (l.getD i [] == [] && l.length == 1)) && !(l.take i).contains (l.getD i [])):=rfl
def BpLoop (w:World) (l:List Str) (v34:Value) (w1:World):Prop := ∃ i:Nat,i ≤ l.length ∧ v34 = .int .i64 i ∧ (∀ k,k < i → okVal l k = true) ∧ Below w.heap.size w w1
theorem proper_calls (w:World) (t:Tm) (vv:Value) (hv:RdT w vv t.vals) :
  Calls Tryz.prog 179 #[.agg #[.string (sb t.key),.int .i64 (t.how:Int),vv]] w fun e w'=>e = .returned (.bool (tmOk t)) ∧ Below w.heap.size w w':=by
 obtain ⟨key,how,vals⟩:=t;simp only at hv ⊢;obtain ⟨A,c,rfl⟩:=hv.slice;obtain ⟨hw,hhw⟩ : ∃ k:Int,k = (how:Int):=⟨_,rfl⟩;rw [← hhw];have HB0:=hIh (bel_alloc w (.cells #[.string (sb key),.int .i64 hw,.slice A vals.length c] 98));have Hbx:=hIh (blk_new w (.cells #[.string (sb key),.int .i64 hw,.slice A vals.length c] 98));obtain ⟨c0,c1,c2, -⟩:=cells3 Hbx.out;have Hnm:=hIh (fun W=>bname_calls W key);have Hrd:=hIh hv;generalize hSK:sb key = SK at HB0 Hbx c0 c1 c2 Hnm;have HSK:=hIh hSK;have Hspec:Hid (tmOk ⟨key,how,vals⟩ = (isNm key && decide (how ≤ 3) && (if 2 ≤ how then vals == [] else valsOk vals))):=rfl;generalize hW0:w.alloc (.cells #[.string SK,.int .i64 hw,.slice A vals.length c] 98) = W0 at HB0 Hbx c0 c1 c2;have HW0:=hIh hW0;clear hSK hv hW0
 by_cases hk:isNm key = true
 case neg=>
  have hk2:isNm key = false:=(Bool.not_eq_true _).mp hk;rw [hk2] at Hnm Hspec
  have Hres:Hid (tmOk ⟨key,how,vals⟩ = false):=by show _ = _;rw [Hspec.out];rfl
  clear hk hk2 Hspec hhw;go_enter Tryz.func179,Tryz.ntmps179;go_wp2_with fail;rw [HW0.out];go_wp2_with (go_at_call 199;with_reducible refine (Hnm.out _).mono ?_;rintro e w1 ⟨rfl,hw1⟩;have H1:=hIh (HB0.out.trans (hw1.mono HB0.out.size));obtain ⟨d0,d1,d2, -⟩:=cells3 (blk_below Hbx.out hw1));go_ret;exact ⟨by rw [Hres.out];rfl,H1.out⟩
 rw [hk] at Hnm Hspec
 have hcs:(2 ≤ how ∧ how ≤ 3) ∨ how ≤ 1 ∨ 3 < how:=by omega
 rcases hcs with ⟨h2,h3⟩ | h1 | h3
 ·have Hres:Hid (tmOk ⟨key,how,vals⟩ = (vals == [])):=by show _ = _;rw [Hspec.out];simp [h3,h2]
  have hb:((hw == 2) = true) ∨ ((hw == 2) = false ∧ (hw == 3) = true):=by
   rw [hhw];rcases (by omega:how = 2 ∨ how = 3) with rfl | rfl
   ·exact .inl rfl
   ·exact .inr ⟨rfl,rfl⟩
  clear hk Hspec h2 h3
  by_cases hvn:vals.length = 0
  ·have hb0:((vals.length:Int) == 0) = true:=by simp [List.length_eq_zero_iff.1 hvn]
   have hbe:(vals == []) = true:=(by rw [List.length_eq_zero_iff.1 hvn];rfl);rw [hbe] at Hres;clear hbe hvn hhw;rcases hb with hb2 | ⟨hb2,hb3⟩
   ·go_enter Tryz.func179,Tryz.ntmps179
    go_wp2_with fail;rw [HW0.out];go_wp2_with (go_at_call 199;with_reducible refine (Hnm.out _).mono ?_;rintro e w1 ⟨rfl,hw1⟩;have H1:=hIh (HB0.out.trans (hw1.mono HB0.out.size));obtain ⟨d0,d1,d2, -⟩:=cells3 (blk_below Hbx.out hw1));go_ret;exact ⟨by rw [Hres.out];rfl,H1.out⟩
   ·go_enter Tryz.func179,Tryz.ntmps179
    go_wp2_with fail;rw [HW0.out];go_wp2_with (go_at_call 199;with_reducible refine (Hnm.out _).mono ?_;rintro e w1 ⟨rfl,hw1⟩;have H1:=hIh (HB0.out.trans (hw1.mono HB0.out.size));obtain ⟨d0,d1,d2, -⟩:=cells3 (blk_below Hbx.out hw1));go_ret;exact ⟨by rw [Hres.out];rfl,H1.out⟩
  ·have hb0:((vals.length:Int) == 0) = false:=by simp;intro e;exact hvn (by rw [e];rfl)
   have hbe:(vals == []) = false:=(by simp;intro e;exact hvn (by rw [e];rfl));rw [hbe] at Hres;clear hbe hvn hhw;rcases hb with hb2 | ⟨hb2,hb3⟩
   ·go_enter Tryz.func179,Tryz.ntmps179
    go_wp2_with fail;rw [HW0.out];go_wp2_with (go_at_call 199;with_reducible refine (Hnm.out _).mono ?_;rintro e w1 ⟨rfl,hw1⟩;have H1:=hIh (HB0.out.trans (hw1.mono HB0.out.size));obtain ⟨d0,d1,d2, -⟩:=cells3 (blk_below Hbx.out hw1));go_ret;exact ⟨by rw [Hres.out];rfl,H1.out⟩
   ·go_enter Tryz.func179,Tryz.ntmps179
    go_wp2_with fail;rw [HW0.out];go_wp2_with (go_at_call 199;with_reducible refine (Hnm.out _).mono ?_;rintro e w1 ⟨rfl,hw1⟩;have H1:=hIh (HB0.out.trans (hw1.mono HB0.out.size));obtain ⟨d0,d1,d2, -⟩:=cells3 (blk_below Hbx.out hw1));go_ret;exact ⟨by rw [Hres.out];rfl,H1.out⟩
 ·have Hspec2:Hid (tmOk ⟨key,how,vals⟩ = valsOk vals):=by
   show _ = _;rw [Hspec.out,if_neg (by omega),decide_eq_true (by omega:how ≤ 3)];simp
  have kb2:(hw == 2) = false:=by rw [hhw];simp;omega
  have kb3:(hw == 3) = false:=by rw [hhw];simp;omega
  have hb:((hw == 0) = true) ∨ ((hw == 0) = false ∧ (hw == 1) = true):=by
   rw [hhw];rcases (by omega:how = 0 ∨ how = 1) with rfl | rfl
   ·exact .inl rfl
   ·exact .inr ⟨rfl,rfl⟩
  clear hk Hspec h1 hhw
  by_cases hl1:vals.length < 1
  ·have g:(vals.length:Int) < 1:=by omega
   have gb:decide ((vals.length:Int) < 1) = true:=decide_eq_true g
   have Hres:Hid (tmOk ⟨key,how,vals⟩ = false):=by
    show _ = _;rw [Hspec2.out,valsOk_eq,decide_eq_false (by omega:¬ 1 ≤ vals.length)];rfl
   rcases hb with hb0 | ⟨hb0,hb1⟩
   ·go_enter Tryz.func179,Tryz.ntmps179
    go_wp2_with fail;rw [HW0.out];go_wp2_with (go_at_call 199;with_reducible refine (Hnm.out _).mono ?_;rintro e w1 ⟨rfl,hw1⟩;have H1:=hIh (HB0.out.trans (hw1.mono HB0.out.size));obtain ⟨d0,d1,d2, -⟩:=cells3 (blk_below Hbx.out hw1));go_ret;exact ⟨by rw [Hres.out];rfl,H1.out⟩
   ·go_enter Tryz.func179,Tryz.ntmps179
    go_wp2_with fail;rw [HW0.out];go_wp2_with (go_at_call 199;with_reducible refine (Hnm.out _).mono ?_;rintro e w1 ⟨rfl,hw1⟩;have H1:=hIh (HB0.out.trans (hw1.mono HB0.out.size));obtain ⟨d0,d1,d2, -⟩:=cells3 (blk_below Hbx.out hw1));go_ret;exact ⟨by rw [Hres.out];rfl,H1.out⟩
  ·have q1:¬ (vals.length:Int) < 1:=by omega
   have q1b:decide ((vals.length:Int) < 1) = false:=decide_eq_false q1
   by_cases hl8:8 < vals.length
   ·have g:8 < (vals.length:Int):=by omega
    have gb:decide (8 < (vals.length:Int)) = true:=decide_eq_true g
    have Hres:Hid (tmOk ⟨key,how,vals⟩ = false):=by
     show _ = _;rw [Hspec2.out,valsOk_eq,decide_eq_false (by omega:¬ vals.length ≤ 8),Bool.and_false];rfl
    rcases hb with hb0 | ⟨hb0,hb1⟩
    ·go_enter Tryz.func179,Tryz.ntmps179
     go_wp2_with fail;rw [HW0.out];go_wp2_with (go_at_call 199;with_reducible refine (Hnm.out _).mono ?_;rintro e w1 ⟨rfl,hw1⟩;have H1:=hIh (HB0.out.trans (hw1.mono HB0.out.size));obtain ⟨d0,d1,d2, -⟩:=cells3 (blk_below Hbx.out hw1));go_ret;exact ⟨by rw [Hres.out];rfl,H1.out⟩
    ·go_enter Tryz.func179,Tryz.ntmps179
     go_wp2_with fail;rw [HW0.out];go_wp2_with (go_at_call 199;with_reducible refine (Hnm.out _).mono ?_;rintro e w1 ⟨rfl,hw1⟩;have H1:=hIh (HB0.out.trans (hw1.mono HB0.out.size));obtain ⟨d0,d1,d2, -⟩:=cells3 (blk_below Hbx.out hw1));go_ret;exact ⟨by rw [Hres.out];rfl,H1.out⟩
   ·have q8:¬ 8 < (vals.length:Int):=by omega
    have q8b:decide (8 < (vals.length:Int)) = false:=decide_eq_false q8
    have Hspec3:Hid (tmOk ⟨key,how,vals⟩ = (List.range vals.length).all fun i=>okVal vals i):=by
     show _ = _;rw [Hspec2.out,valsOk_eq,decide_eq_true (by omega:1 ≤ vals.length),decide_eq_true (by omega:vals.length ≤ 8)];rfl
    clear Hspec2;rcases hb with hb0 | ⟨hb0,hb1⟩
    ·go_enter Tryz.func179,Tryz.ntmps179
     go_wp2_with fail;rw [HW0.out];go_wp2_with (go_at_call 199;with_reducible refine (Hnm.out _).mono ?_;rintro e w1 ⟨rfl,hw1⟩;have H1:=hIh (HB0.out.trans (hw1.mono HB0.out.size));obtain ⟨d0,d1,d2, -⟩:=cells3 (blk_below Hbx.out hw1))
     go_loopw [34] (fun v34 wr=>BpLoop w1 vals v34 wr) (fun i _=>vals.length - (intOf i).toNat)
     case atStart=>exact ⟨0,by omega,rfl,fun k h=>by omega,Below.refl _ _⟩
     case round=>
      obtain ⟨i,hi,rfl,hno,hB⟩:=hrel;have Hno:=hIh hno;have HB:=hIh hB;have HbW1:=hIh (blk_below Hbx.out hw1);have Hdx:=hIh (blk_below HbW1.out hB);obtain ⟨e0,e1,e2, -⟩:=cells3 Hdx.out;have HW:Hid (Below w.heap.size w wr):=H1.out.trans (hB.mono H1.out.size);clear hno hB hw1 c0 c1 c2 d0 d1 d2 HbW1
      by_cases hlt:i < vals.length
      ·have hli:(i:Int) < vals.length:=by omega
       have hi0:(0:Int) ≤ i:=(by omega);have hil:(i:Int) ≤ vals.length:=(by omega);obtain ⟨bk,off,cc,hA,hcc,hbl,hcell⟩:=RdT.some (RdS.below Hrd.out HW.out) (by intro e;rw [e] at hlt;simp at hlt)
       cases hA
       have hcap:(i:Int) ≤ c:=(by omega)
       have Hce:Hid (∀ W,Below wr.heap.size wr W → ∀ j,j < vals.length → W.cell? ⟨bk,off + j,none⟩ = some (.string (sb (vals.getD j [])))):=fun W hW j hj=>by
        rw [hW.cell (p:=⟨bk,off + j,none⟩) hbl,hcell j hj];simp [List.getD,hj]
       have hci:=Hce.out wr (Below.refl _ _) i hlt;have Hvm:=hIh (fun W=>bname_calls W (vals.getD i []));have Hco:=hIh (fun W (hW:Below wr.heap.size wr W)=>lcont_calls W bk off c vals i (vals.getD i []) (by omega) (by omega) (Hce.out W hW));have Hoe:=hIh (okVal_eq vals i)
       have Hk:Hid (okVal vals i = true → ∀ W,Below wr.heap.size wr W → BpLoop w1 vals (.int .i64 ((i:Int) + 1)) W):=fun ho W hW=>⟨i + 1,hlt,rfl,fun k hk=>by
        by_cases e:k = i
        ·subst e;exact ho
        ·exact Hno.out k (by omega),HB.out.trans (hW.mono HB.out.size)⟩
       have Hf:Hid (okVal vals i = false → tmOk ⟨key,how,vals⟩ = false):=fun ho=>by
        rw [Hspec3.out,List.all_eq_false];exact ⟨i,List.mem_range.2 hlt,by simp [ho]⟩
       have Hct0:Hid (vals.length = 1 → (vals.take i).contains (vals.getD i []) = false):=fun h=>by
        rw [show i = 0 by omega];rfl
       generalize okVal vals i = OK at Hoe Hk Hf;generalize (vals.take i).contains (vals.getD i []) = CT at Hco Hoe Hct0;generalize vals.getD i [] = V at hci Hvm Hco Hoe Hct0;generalize hSV:sb V = SV at hci Hvm Hco;have HSV:=hIh hSV;clear hcell hSV hbl
       by_cases hn:isNm V = true
       ·rw [hn] at Hvm Hoe
        clear hn
        cases CT with
        | false=>
         have Hk2:=hIh (Hk.out (by rw [Hoe.out];rfl));clear Hk Hf Hoe Hct0;go_wp2_with (first | (go_at_call 199;with_reducible refine (Hvm.out _).mono ?_;rintro e w2 ⟨rfl,hw2⟩;have H2:=hIh hw2;obtain ⟨x0,x1,x2, -⟩:=cells3 (blk_below Hdx.out hw2);clear hw2) | (go_at_call 200;with_reducible refine (Hco.out _ H2.out).mono ?_;rintro e w3 ⟨rfl,hw3⟩;obtain rfl:=hw3));go_roundw
         case rel=>exact Hk2.out _ H2.out
         case measure=>simp [intOf];omega
        | true=>
         have Hres:=hIh (Hf.out (by rw [Hoe.out];rfl));clear Hk Hf Hoe Hct0;go_wp2_with (first | (go_at_call 199;with_reducible refine (Hvm.out _).mono ?_;rintro e w2 ⟨rfl,hw2⟩;have H2:=hIh hw2;obtain ⟨x0,x1,x2, -⟩:=cells3 (blk_below Hdx.out hw2);clear hw2) | (go_at_call 200;with_reducible refine (Hco.out _ H2.out).mono ?_;rintro e w3 ⟨rfl,hw3⟩;obtain rfl:=hw3));go_ret;exact ⟨by rw [Hres.out];rfl,HW.out.trans (H2.out.mono HW.out.size)⟩
       ·have hn2:=(Bool.not_eq_true _).mp hn
        rw [hn2] at Hvm Hoe;clear hn hn2
        by_cases he:V = []
        ·have z1:SV.toList.isEmpty = true:=by rw [← HSV.out,sb_toL,he];rfl
         have z2:SV.toList = []:=(by rw [← HSV.out,sb_toL,he]);have z3:(SV.toList == []) = true:=(by rw [z2];rfl);have z4:(SV.toList != []) = false:=(by rw [z2];rfl);have hv1:(V == []) = true:=(by rw [he];rfl);rw [hv1] at Hoe
         by_cases hle:vals.length = 1
         ·have g:¬ (1:Int) < vals.length:=by omega
          have gb:decide ((1:Int) < vals.length) = false:=decide_eq_false g;have hc0:=Hct0.out hle;have h5:(vals.length == 1) = true:=(by simp [hle]);rw [h5,hc0] at Hoe;rw [hc0] at Hco;have Hk2:=hIh (Hk.out (by rw [Hoe.out];rfl));clear Hk Hf Hoe Hct0 hc0 h5 hle hv1 he;go_wp2_with (first | (go_at_call 199;with_reducible refine (Hvm.out _).mono ?_;rintro e w2 ⟨rfl,hw2⟩;have H2:=hIh hw2;obtain ⟨x0,x1,x2, -⟩:=cells3 (blk_below Hdx.out hw2);clear hw2) | (go_at_call 200;with_reducible refine (Hco.out _ H2.out).mono ?_;rintro e w3 ⟨rfl,hw3⟩;obtain rfl:=hw3));go_roundw
          case rel=>exact Hk2.out _ H2.out
          case measure=>simp [intOf];omega
         ·have g:(1:Int) < vals.length:=by omega
          have gb:decide ((1:Int) < vals.length) = true:=decide_eq_true g;have h5:(vals.length == 1) = false:=(by simp [hle]);rw [h5] at Hoe;have Hres:=hIh (Hf.out (by rw [Hoe.out];rfl));clear Hk Hf Hoe Hct0 h5 hle hv1 he;go_wp2_with (first | (go_at_call 199;with_reducible refine (Hvm.out _).mono ?_;rintro e w2 ⟨rfl,hw2⟩;have H2:=hIh hw2;obtain ⟨x0,x1,x2, -⟩:=cells3 (blk_below Hdx.out hw2);clear hw2) | (go_at_call 200;with_reducible refine (Hco.out _ H2.out).mono ?_;rintro e w3 ⟨rfl,hw3⟩;obtain rfl:=hw3));go_ret;exact ⟨by rw [Hres.out];rfl,HW.out.trans (H2.out.mono HW.out.size)⟩
        ·have z2:¬ SV.toList = []:=by rw [← HSV.out,sb_toL];exact he
         have z1:SV.toList.isEmpty = false:=by
          cases hx:SV.toList with
          | nil=>exact absurd hx z2
          | cons a r=>rfl
         have z3:(SV.toList == []) = false:=(by simpa using z2);have z4:(SV.toList != []) = true:=(by simpa using z2);have hv1:(V == []) = false:=(by simpa using he);rw [hv1] at Hoe;have Hres:=hIh (Hf.out (by rw [Hoe.out];rfl));clear Hk Hf Hoe Hct0 hv1 he;go_wp2_with (first | (go_at_call 199;with_reducible refine (Hvm.out _).mono ?_;rintro e w2 ⟨rfl,hw2⟩;have H2:=hIh hw2;obtain ⟨x0,x1,x2, -⟩:=cells3 (blk_below Hdx.out hw2);clear hw2) | (go_at_call 200;with_reducible refine (Hco.out _ H2.out).mono ?_;rintro e w3 ⟨rfl,hw3⟩;obtain rfl:=hw3));go_ret;exact ⟨by rw [Hres.out];rfl,HW.out.trans (H2.out.mono HW.out.size)⟩
      ·have hli:¬ (i:Int) < vals.length:=by omega
       have Hres:Hid (tmOk ⟨key,how,vals⟩ = true):=by
        show _ = _;rw [Hspec3.out,List.all_eq_true];intro k hk;exact Hno.out k (by have:=List.mem_range.1 hk;omega)
       clear hi;go_wp2;go_ret;exact ⟨by rw [Hres.out];rfl,HW.out⟩
    ·go_enter Tryz.func179,Tryz.ntmps179
     go_wp2_with fail;rw [HW0.out];go_wp2_with (go_at_call 199;with_reducible refine (Hnm.out _).mono ?_;rintro e w1 ⟨rfl,hw1⟩;have H1:=hIh (HB0.out.trans (hw1.mono HB0.out.size));obtain ⟨d0,d1,d2, -⟩:=cells3 (blk_below Hbx.out hw1))
     go_loopw [34] (fun v34 wr=>BpLoop w1 vals v34 wr) (fun i _=>vals.length - (intOf i).toNat)
     case atStart=>exact ⟨0,by omega,rfl,fun k h=>by omega,Below.refl _ _⟩
     case round=>
      obtain ⟨i,hi,rfl,hno,hB⟩:=hrel;have Hno:=hIh hno;have HB:=hIh hB;have HbW1:=hIh (blk_below Hbx.out hw1);have Hdx:=hIh (blk_below HbW1.out hB);obtain ⟨e0,e1,e2, -⟩:=cells3 Hdx.out;have HW:Hid (Below w.heap.size w wr):=H1.out.trans (hB.mono H1.out.size);clear hno hB hw1 c0 c1 c2 d0 d1 d2 HbW1
      by_cases hlt:i < vals.length
      ·have hli:(i:Int) < vals.length:=by omega
       have hi0:(0:Int) ≤ i:=(by omega);have hil:(i:Int) ≤ vals.length:=(by omega);obtain ⟨bk,off,cc,hA,hcc,hbl,hcell⟩:=RdT.some (RdS.below Hrd.out HW.out) (by intro e;rw [e] at hlt;simp at hlt)
       cases hA
       have hcap:(i:Int) ≤ c:=(by omega)
       have Hce:Hid (∀ W,Below wr.heap.size wr W → ∀ j,j < vals.length → W.cell? ⟨bk,off + j,none⟩ = some (.string (sb (vals.getD j [])))):=fun W hW j hj=>by
        rw [hW.cell (p:=⟨bk,off + j,none⟩) hbl,hcell j hj];simp [List.getD,hj]
       have hci:=Hce.out wr (Below.refl _ _) i hlt;have Hvm:=hIh (fun W=>bname_calls W (vals.getD i []));have Hco:=hIh (fun W (hW:Below wr.heap.size wr W)=>lcont_calls W bk off c vals i (vals.getD i []) (by omega) (by omega) (Hce.out W hW));have Hoe:=hIh (okVal_eq vals i)
       have Hk:Hid (okVal vals i = true → ∀ W,Below wr.heap.size wr W → BpLoop w1 vals (.int .i64 ((i:Int) + 1)) W):=fun ho W hW=>⟨i + 1,hlt,rfl,fun k hk=>by
        by_cases e:k = i
        ·subst e;exact ho
        ·exact Hno.out k (by omega),HB.out.trans (hW.mono HB.out.size)⟩
       have Hf:Hid (okVal vals i = false → tmOk ⟨key,how,vals⟩ = false):=fun ho=>by
        rw [Hspec3.out,List.all_eq_false];exact ⟨i,List.mem_range.2 hlt,by simp [ho]⟩
       have Hct0:Hid (vals.length = 1 → (vals.take i).contains (vals.getD i []) = false):=fun h=>by
        rw [show i = 0 by omega];rfl
       generalize okVal vals i = OK at Hoe Hk Hf;generalize (vals.take i).contains (vals.getD i []) = CT at Hco Hoe Hct0;generalize vals.getD i [] = V at hci Hvm Hco Hoe Hct0;generalize hSV:sb V = SV at hci Hvm Hco;have HSV:=hIh hSV;clear hcell hSV hbl
       by_cases hn:isNm V = true
       ·rw [hn] at Hvm Hoe
        clear hn
        cases CT with
        | false=>
         have Hk2:=hIh (Hk.out (by rw [Hoe.out];rfl));clear Hk Hf Hoe Hct0;go_wp2_with (first | (go_at_call 199;with_reducible refine (Hvm.out _).mono ?_;rintro e w2 ⟨rfl,hw2⟩;have H2:=hIh hw2;obtain ⟨x0,x1,x2, -⟩:=cells3 (blk_below Hdx.out hw2);clear hw2) | (go_at_call 200;with_reducible refine (Hco.out _ H2.out).mono ?_;rintro e w3 ⟨rfl,hw3⟩;obtain rfl:=hw3));go_roundw
         case rel=>exact Hk2.out _ H2.out
         case measure=>simp [intOf];omega
        | true=>
         have Hres:=hIh (Hf.out (by rw [Hoe.out];rfl));clear Hk Hf Hoe Hct0;go_wp2_with (first | (go_at_call 199;with_reducible refine (Hvm.out _).mono ?_;rintro e w2 ⟨rfl,hw2⟩;have H2:=hIh hw2;obtain ⟨x0,x1,x2, -⟩:=cells3 (blk_below Hdx.out hw2);clear hw2) | (go_at_call 200;with_reducible refine (Hco.out _ H2.out).mono ?_;rintro e w3 ⟨rfl,hw3⟩;obtain rfl:=hw3));go_ret;exact ⟨by rw [Hres.out];rfl,HW.out.trans (H2.out.mono HW.out.size)⟩
       ·have hn2:=(Bool.not_eq_true _).mp hn
        rw [hn2] at Hvm Hoe;clear hn hn2
        by_cases he:V = []
        ·have z1:SV.toList.isEmpty = true:=by rw [← HSV.out,sb_toL,he];rfl
         have z2:SV.toList = []:=(by rw [← HSV.out,sb_toL,he]);have z3:(SV.toList == []) = true:=(by rw [z2];rfl);have z4:(SV.toList != []) = false:=(by rw [z2];rfl);have hv1:(V == []) = true:=(by rw [he];rfl);rw [hv1] at Hoe
         by_cases hle:vals.length = 1
         ·have g:¬ (1:Int) < vals.length:=by omega
          have gb:decide ((1:Int) < vals.length) = false:=decide_eq_false g;have hc0:=Hct0.out hle;have h5:(vals.length == 1) = true:=(by simp [hle]);rw [h5,hc0] at Hoe;rw [hc0] at Hco;have Hk2:=hIh (Hk.out (by rw [Hoe.out];rfl));clear Hk Hf Hoe Hct0 hc0 h5 hle hv1 he;go_wp2_with (first | (go_at_call 199;with_reducible refine (Hvm.out _).mono ?_;rintro e w2 ⟨rfl,hw2⟩;have H2:=hIh hw2;obtain ⟨x0,x1,x2, -⟩:=cells3 (blk_below Hdx.out hw2);clear hw2) | (go_at_call 200;with_reducible refine (Hco.out _ H2.out).mono ?_;rintro e w3 ⟨rfl,hw3⟩;obtain rfl:=hw3));go_roundw
          case rel=>exact Hk2.out _ H2.out
          case measure=>simp [intOf];omega
         ·have g:(1:Int) < vals.length:=by omega
          have gb:decide ((1:Int) < vals.length) = true:=decide_eq_true g;have h5:(vals.length == 1) = false:=(by simp [hle]);rw [h5] at Hoe;have Hres:=hIh (Hf.out (by rw [Hoe.out];rfl));clear Hk Hf Hoe Hct0 h5 hle hv1 he;go_wp2_with (first | (go_at_call 199;with_reducible refine (Hvm.out _).mono ?_;rintro e w2 ⟨rfl,hw2⟩;have H2:=hIh hw2;obtain ⟨x0,x1,x2, -⟩:=cells3 (blk_below Hdx.out hw2);clear hw2) | (go_at_call 200;with_reducible refine (Hco.out _ H2.out).mono ?_;rintro e w3 ⟨rfl,hw3⟩;obtain rfl:=hw3));go_ret;exact ⟨by rw [Hres.out];rfl,HW.out.trans (H2.out.mono HW.out.size)⟩
        ·have z2:¬ SV.toList = []:=by rw [← HSV.out,sb_toL];exact he
         have z1:SV.toList.isEmpty = false:=by
          cases hx:SV.toList with
          | nil=>exact absurd hx z2
          | cons a r=>rfl
         have z3:(SV.toList == []) = false:=(by simpa using z2);have z4:(SV.toList != []) = true:=(by simpa using z2);have hv1:(V == []) = false:=(by simpa using he);rw [hv1] at Hoe;have Hres:=hIh (Hf.out (by rw [Hoe.out];rfl));clear Hk Hf Hoe Hct0 hv1 he;go_wp2_with (first | (go_at_call 199;with_reducible refine (Hvm.out _).mono ?_;rintro e w2 ⟨rfl,hw2⟩;have H2:=hIh hw2;obtain ⟨x0,x1,x2, -⟩:=cells3 (blk_below Hdx.out hw2);clear hw2) | (go_at_call 200;with_reducible refine (Hco.out _ H2.out).mono ?_;rintro e w3 ⟨rfl,hw3⟩;obtain rfl:=hw3));go_ret;exact ⟨by rw [Hres.out];rfl,HW.out.trans (H2.out.mono HW.out.size)⟩
      ·have hli:¬ (i:Int) < vals.length:=by omega
       have Hres:Hid (tmOk ⟨key,how,vals⟩ = true):=by
        show _ = _;rw [Hspec3.out,List.all_eq_true];intro k hk;exact Hno.out k (by have:=List.mem_range.1 hk;omega)
       clear hi;go_wp2;go_ret;exact ⟨by rw [Hres.out];rfl,HW.out⟩
 ·have Hres:Hid (tmOk ⟨key,how,vals⟩ = false):=by
   show _ = _;rw [Hspec.out,decide_eq_false (by omega:¬ how ≤ 3)];simp
  have kb0:(hw == 0) = false:=by rw [hhw];simp;omega
  have kb1:(hw == 1) = false:=by rw [hhw];simp;omega
  have kb2:(hw == 2) = false:=by rw [hhw];simp;omega
  have kb3:(hw == 3) = false:=by rw [hhw];simp;omega
  clear hk Hspec h3 hhw;go_enter Tryz.func179,Tryz.ntmps179;go_wp2_with fail;rw [HW0.out];go_wp2_with (go_at_call 199;with_reducible refine (Hnm.out _).mono ?_;rintro e w1 ⟨rfl,hw1⟩;have H1:=hIh (HB0.out.trans (hw1.mono HB0.out.size));obtain ⟨d0,d1,d2, -⟩:=cells3 (blk_below Hbx.out hw1));go_ret;exact ⟨by rw [Hres.out];rfl,H1.out⟩
theorem all1_calls (w:World) (t:Tm) (vv:Value) (hv:RdT w vv t.vals) :
  Calls Tryz.prog 178 #[.agg #[.string (sb t.key),.int .i64 (t.how:Int),vv]] w fun e w'=>e = .returned (.bool (!tmOk t)) ∧ Below w.heap.size w w':=by
 have Hp:=hIh (fun W (hW:Below w.heap.size w W)=>proper_calls W t vv (RdS.below hv hW));obtain ⟨A,c,rfl⟩:=hv.slice;obtain ⟨hw,hhw⟩ : ∃ k:Int,k = (t.how:Int):=⟨_,rfl⟩;rw [← hhw] at Hp ⊢;generalize sb t.key = SK at Hp;generalize t.vals.length = n at Hp;have HB0:=hIh (bel_alloc w (.cells #[.string SK,.int .i64 hw,.slice A n c] 98));have Hbx:=hIh (blk_new w (.cells #[.string SK,.int .i64 hw,.slice A n c] 98));obtain ⟨c0,c1,c2, -⟩:=cells3 Hbx.out;generalize tmOk t = ok at Hp;clear hhw hv;go_enter Tryz.func178,Tryz.ntmps178;go_wp2_with (go_at_call 179;with_reducible refine (Hp.out _ HB0.out).mono ?_;rintro e w1 ⟨rfl,hw1⟩)
 cases ok <;> (go_wp2;go_ret;exact ⟨rfl,HB0.out.trans (hw1.mono HB0.out.size)⟩)
def IxLoop (w:World) (l:List (Tm × Value)) (v8:Value) (w1:World):Prop := ∃ i:Nat,i ≤ l.length ∧ v8 = .int .i64 i ∧ (∀ k (h:k < l.length),k < i → tmOk l[k].1 = true) ∧ Below w.heap.size w w1
theorem ixterm_calls (w:World) (v:Value) (l:List (Tm × Value)) (hv:TRow w v l) (hl:l.length ≤ 8) :
  Calls Tryz.prog 198 #[v,.func (Fn.func 178) #[] #[]] w fun e w' => ∃ r:Int,e = .returned (.int .i64 r) ∧ (tmsOk l = true → r = -1) ∧ (tmsOk l = false → 0 ≤ r) ∧ Below w.heap.size w w':=by
 obtain ⟨A,c,rfl⟩:=hv.1.slice;have Hv:=hIh hv;clear hv;go_enter Tryz.func198,Tryz.ntmps198;go_wp2
 go_loopw [8] (fun v8 w1=>IxLoop w l v8 w1) (fun i _=>l.length - (intOf i).toNat)
 case atStart=>exact ⟨0,by omega,rfl,fun k h hk=>by omega,Below.refl _ _⟩
 case round=>
  obtain ⟨i,hi,rfl,hno,hB⟩:=hrel;have Hno:=hIh hno;have HB:=hIh hB;clear hno
  by_cases hlt:i < l.length
  ·have hli:(i:Int) < l.length:=by omega
   have hi0:(0:Int) ≤ i:=(by omega);have hvr:=Hv.out.below hB;obtain ⟨b,off,c',hA,hbl,d0,d1,d2⟩:=hvr.at i hlt
   cases hA
   have Htm:=hIh (fun W (hW:Below wr.heap.size wr W)=>all1_calls W l[i].1 l[i].2 (RdS.below (hvr.2 l[i] (List.getElem_mem hlt)) hW))
   have Hk:Hid (tmOk l[i].1 = true → ∀ W,Below wr.heap.size wr W → IxLoop w l (.int .i64 ((i:Int) + 1)) W):=fun ho W hW=>⟨i + 1,hlt,rfl,fun k h hk=>by
    by_cases e:k = i
    ·subst e;exact ho
    ·exact Hno.out k h (by omega),HB.out.trans (hW.mono HB.out.size)⟩
   have Hf:Hid (tmOk l[i].1 = false → tmsOk l = false):=fun ho=>by
    have:(l.map Prod.fst).all tmOk = false:=by
     rw [List.all_eq_false];exact ⟨l[i].1,List.mem_map.2 ⟨l[i],List.getElem_mem hlt,rfl⟩,by simp [ho]⟩
    unfold tmsOk;rw [this];rfl
   generalize l[i] = x at d0 d1 d2 Htm Hk Hf;obtain ⟨⟨key,how,vals⟩,xv⟩:=x;simp only at d0 d1 d2;have Htm2:Hid (∀ W,Below wr.heap.size wr W → Calls Tryz.prog 178 #[.agg #[.string (sb key),.int .i64 (how:Int),xv]] W fun e w'=>e = .returned (.bool (!tmOk ⟨key,how,vals⟩)) ∧ Below W.heap.size W w'):=Htm.out;generalize sb key = SK at d0 Htm2;clear hvr hB Htm
   by_cases ho:tmOk ⟨key,how,vals⟩ = true
   ·have Hk2:=hIh (Hk.out ho)
    rw [ho] at Htm2;clear ho Hk Hf;go_wp2_with (go_at_call 178;with_reducible refine (Htm2.out _ (Below.refl _ _)).mono ?_;rintro e w1 ⟨rfl,hw1⟩);go_roundw
    case rel=>exact Hk2.out _ hw1
    case measure=>simp [intOf];omega
   ·have ho2:=(Bool.not_eq_true _).mp ho
    have Hk2:=hIh (Hf.out ho2);rw [ho2] at Htm2;clear ho ho2 Hk Hf;go_wp2_with (go_at_call 178;with_reducible refine (Htm2.out _ (Below.refl _ _)).mono ?_;rintro e w1 ⟨rfl,hw1⟩);go_ret;exact ⟨_,rfl,(fun h=>by rw [Hk2.out] at h;cases h),fun _=>hi0,HB.out.trans (hw1.mono HB.out.size)⟩
  ·have hli:¬ (i:Int) < l.length:=by omega
   have Hall:Hid (tmsOk l = true):=by
    show _ = _;unfold tmsOk;rw [Bool.and_eq_true,List.all_eq_true];refine ⟨?_,decide_eq_true hl⟩;intro t ht;obtain ⟨e,he,rfl⟩:=List.mem_map.1 ht;obtain ⟨k,hk,rfl⟩:=List.getElem_of_mem he;exact Hno.out k hk (by omega)
   clear hi;go_wp2;go_ret;exact ⟨_,rfl,fun _=>rfl,(fun h=>by rw [Hall.out] at h;cases h),HB.out⟩
theorem cfterm_calls (w:World) (v:Value) (l:List (Tm × Value)) (hv:TRow w v l) (hl:l.length ≤ 8) :
  Calls Tryz.prog 177 #[v,.func (Fn.func 178) #[] #[]] w fun e w'=>e = .returned (.bool (!tmsOk l)) ∧ Below w.heap.size w w':=by
 have Hix:=hIh (ixterm_calls w v l hv hl);obtain ⟨A,c,rfl⟩:=hv.1.slice;generalize tmsOk l = ok at Hix;clear hv;go_enter Tryz.func177,Tryz.ntmps177;go_wp2_with fail
 with_reducible refine Hix.out.mono ?_
 rintro e w1 ⟨r,rfl,h1,h2,hw1⟩
 cases ok
 ·have hr:=h2 rfl
  clear h1 h2;have hb:decide ((0:Int) ≤ r) = true:=decide_eq_true hr;go_wp2;go_ret;exact ⟨rfl,hw1⟩
 ·obtain rfl:=h1 rfl
  clear h1 h2;go_wp2;go_ret;exact ⟨rfl,hw1⟩
theorem ball_calls (w:World) (v:Value) (l:List (Tm × Value)) (hv:TRow w v l) (hl:l.length ≤ 4194304) :
  Calls Tryz.prog 154 #[v] w fun e w'=>e = .returned (.bool (tmsOk l)) ∧ Below w.heap.size w w':=by
 by_cases h8:l.length ≤ 8
 ·have Hcf:=hIh (cfterm_calls w v l hv h8)
  obtain ⟨A,c,rfl⟩:=hv.1.slice
  have g:(l.length:Int) ≤ 8:=by omega
  have gb:decide ((l.length:Int) ≤ 8) = true:=decide_eq_true g;generalize tmsOk l = ok at Hcf;clear hv h8
  cases ok
  ·go_enter Tryz.func154,Tryz.ntmps154
   go_wp2_with (go_at_call 177;with_reducible refine Hcf.out.mono ?_;rintro e w1 ⟨rfl,hw1⟩);go_ret;exact ⟨rfl,hw1⟩
  ·go_enter Tryz.func154,Tryz.ntmps154
   go_wp2_with (go_at_call 177;with_reducible refine Hcf.out.mono ?_;rintro e w1 ⟨rfl,hw1⟩);go_ret;exact ⟨rfl,hw1⟩
 ·have Hres:Hid (tmsOk l = false):=by show _ = _;unfold tmsOk;rw [decide_eq_false h8,Bool.and_false]
  obtain ⟨A,c,rfl⟩:=hv.1.slice
  have g:¬ (l.length:Int) ≤ 8:=by omega
  have gb:decide ((l.length:Int) ≤ 8) = false:=decide_eq_false g;clear hv h8;go_enter Tryz.func154,Tryz.ntmps154;go_wp2;go_ret;exact ⟨by rw [Hres.out];rfl,Below.refl _ _⟩
theorem printed_calls (w:World) (t:Tm) (vv:Value) (hv:RdT w vv t.vals) (hok:tmOk t = true) :
  Calls Tryz.prog 155 #[.agg #[.string (sb t.key),.int .i64 (t.how:Int),vv]] w fun e w'=>e = .returned (.string (sb (tmTxt t))) ∧ Below w.heap.size w w':=by
 obtain ⟨hk,hcs⟩:=tm_cases hok;obtain ⟨key,how,vals⟩:=t;simp only at hv hcs hk ⊢;obtain ⟨A,c,rfl⟩:=hv.slice;have HB0:=hIh (bel_alloc w (.cells #[.string (sb key),.int .i64 (how:Int),.slice A vals.length c] 98));have Hbx:=hIh (blk_new w (.cells #[.string (sb key),.int .i64 (how:Int),.slice A vals.length c] 98));obtain ⟨c0,c1,c2, -⟩:=cells3 Hbx.out;have Hrd:=hIh hv
 have hks:(sb key).size ≤ 32:=by rw [sb_size];exact nm_size hk
 generalize hSK:sb key = SK at c0 HB0 Hbx c1 c2 hks;have HSK:=hIh hSK;clear hk hok hv hSK;rcases hcs with ⟨rfl,hvn⟩ | ⟨rfl,hvn⟩ | ⟨hh,hvo⟩
 ·have Hres:Hid (sb (tmTxt ⟨key,2,vals⟩) = SK):=by show _ = _;rw [tmTxt_2];exact HSK.out
  have hgm:¬ (1:Int) < vals.length:=by rw [hvn];simp
  have hgmb:decide ((1:Int) < vals.length) = false:=decide_eq_false hgm;obtain ⟨k,hk⟩ : ∃ k:Int,k = ((2:Nat):Int):=⟨_,rfl⟩;rw [← hk] at c0 c1 c2 HB0 Hbx;rw [← hk]
  have hb0:(k == 0) = false:=by rw [hk];rfl
  have hb1:(k == 1) = false:=by rw [hk];rfl
  have hb2:(k == 2) = true:=by rw [hk];rfl
  have hb3:(k == 3) = false:=by rw [hk];rfl
  rw [Hres.out];clear hvn hk;go_enter Tryz.func155,Tryz.ntmps155;go_wp2;go_ret;exact ⟨rfl,HB0.out⟩
 ·have z1:¬ 9223372036854775807 < 1 + SK.size:=by omega
  have Hres:Hid (sb (tmTxt ⟨key,3,vals⟩) = (ByteArray.mk #[33]) ++ SK):=by show _ = _;rw [tmTxt_3,u33,← HSK.out,sb_append];rfl
  have hgm:¬ (1:Int) < vals.length:=by rw [hvn];simp
  have hgmb:decide ((1:Int) < vals.length) = false:=decide_eq_false hgm;obtain ⟨k,hk⟩ : ∃ k:Int,k = ((3:Nat):Int):=⟨_,rfl⟩;rw [← hk] at c0 c1 c2 HB0 Hbx;rw [← hk]
  have hb0:(k == 0) = false:=by rw [hk];rfl
  have hb1:(k == 1) = false:=by rw [hk];rfl
  have hb2:(k == 2) = false:=by rw [hk];rfl
  have hb3:(k == 3) = true:=by rw [hk];rfl
  rw [Hres.out];clear hvn hk;go_enter Tryz.func155,Tryz.ntmps155;go_wp2;go_ret;exact ⟨rfl,HB0.out⟩
 ·by_cases h1:vals.length = 1
  ·have hgm:¬ (1:Int) < vals.length:=by omega
   have hgmb:decide ((1:Int) < vals.length) = false:=decide_eq_false hgm;rcases hh with rfl | rfl
   ·obtain ⟨v,rfl⟩:=one_of h1
    have Hres:Hid (sb (tmTxt ⟨key,0, [v]⟩) = sb key ++ (ByteArray.mk #[61]) ++ sb v):=(by show _ = _;rw [tmTxt_01,u61,sb_append,sb_append];simp);obtain ⟨bb,off,c',hA, -,hbl,hcell⟩:=RdT.some Hrd.out (by simp)
    cases hA
    have hcv2:=(HB0.out.cell (p:=⟨bb,off + 0,none⟩) hbl).trans (hcell 0 (by simp));rw [Nat.add_zero] at hcv2;change _ = some (Value.string (sb v)) at hcv2;rw [HSK.out] at Hres;simp only [List.length_singleton] at c0 c1 c2 HB0 Hbx hcv2 ⊢;have hvs:(sb v).size ≤ 32:=(by rw [sb_size];exact val_size hvo v (by simp));have hq:=fun (n:Nat)=>(show ((w.alloc (.cells #[.string SK,.int .i64 (0:Nat),.slice (some ⟨bb,off,none⟩) 1 c] 98)).drewN n).cell? ⟨bb,off,none⟩ = some (.string (sb v)) from hcv2);generalize sb v = SV at Hres hcv2 hvs hq;have z1:¬ 9223372036854775807 < SK.size + 1:=(by omega);have z2:¬ 9223372036854775807 < SK.size + 1 + SV.size:=(by omega);obtain ⟨k,hk⟩ : ∃ k:Int,k = ((0:Nat):Int):=⟨_,rfl⟩;rw [← hk] at c0 c1 c2 HB0 Hbx hcv2 hq;rw [← hk];have hb0:(k == 0) = true:=(by rw [hk];rfl);have hb1:(k == 1) = false:=(by rw [hk];rfl);have hb2:(k == 2) = false:=(by rw [hk];rfl);have hb3:(k == 3) = false:=(by rw [hk];rfl)
    rw [Hres.out];clear hk hcell Hres;go_enter Tryz.func155,Tryz.ntmps155;go_wp2;go_quiet (fail);go_wp2;go_ret;exact ⟨rfl,drewB HB0.out _⟩
   ·obtain ⟨v,rfl⟩:=one_of h1
    have Hres:Hid (sb (tmTxt ⟨key,1, [v]⟩) = sb key ++ (ByteArray.mk #[33,61]) ++ sb v):=(by show _ = _;rw [tmTxt_11,u3361,sb_append,sb_append];simp);obtain ⟨bb,off,c',hA, -,hbl,hcell⟩:=RdT.some Hrd.out (by simp)
    cases hA
    have hcv2:=(HB0.out.cell (p:=⟨bb,off + 0,none⟩) hbl).trans (hcell 0 (by simp));rw [Nat.add_zero] at hcv2;change _ = some (Value.string (sb v)) at hcv2;rw [HSK.out] at Hres;simp only [List.length_singleton] at c0 c1 c2 HB0 Hbx hcv2 ⊢;have hvs:(sb v).size ≤ 32:=(by rw [sb_size];exact val_size hvo v (by simp));have hq:=fun (n:Nat)=>(show ((w.alloc (.cells #[.string SK,.int .i64 (1:Nat),.slice (some ⟨bb,off,none⟩) 1 c] 98)).drewN n).cell? ⟨bb,off,none⟩ = some (.string (sb v)) from hcv2);generalize sb v = SV at Hres hcv2 hvs hq;have z1:¬ 9223372036854775807 < SK.size + 2:=(by omega);have z2:¬ 9223372036854775807 < SK.size + 2 + SV.size:=(by omega);obtain ⟨k,hk⟩ : ∃ k:Int,k = ((1:Nat):Int):=⟨_,rfl⟩;rw [← hk] at c0 c1 c2 HB0 Hbx hcv2 hq;rw [← hk];have hb0:(k == 0) = false:=(by rw [hk];rfl);have hb1:(k == 1) = true:=(by rw [hk];rfl);have hb2:(k == 2) = false:=(by rw [hk];rfl);have hb3:(k == 3) = false:=(by rw [hk];rfl)
    rw [Hres.out];clear hk hcell Hres;go_enter Tryz.func155,Tryz.ntmps155;go_wp2;go_quiet (fail);go_wp2;go_ret;exact ⟨rfl,drewB HB0.out _⟩
  ·rcases hh with rfl | rfl
   ·have Hres:Hid (sb (tmTxt ⟨key,0,vals⟩) = SK ++ (ByteArray.mk #[32,105,110,32,40]) ++ sb (joinS [32] vals) ++ (ByteArray.mk #[41])):=by show _ = _;rw [tmTxt_0n _ _ h1,uin,u41,← HSK.out,sb_append,sb_append,sb_append]
    have hl:=valsOk_len hvo;have hvs:=val_size hvo;have hgm:(1:Int) < vals.length:=(by omega);have hgmb:decide ((1:Int) < vals.length) = true:=decide_eq_true hgm
    have hjs:(sb (joinS [32] vals)).size ≤ 400:=by
     have:=joinS_take_size 32 32 vals vals.length hl.2 hvs;rw [List.take_length] at this;rw [sb_size];omega
    have Hj:=hIh (fun W (hW:Below w.heap.size w W)=>(show Calls Tryz.prog 156 #[.slice A vals.length c,.string (ByteArray.mk #[32])] W _ from ljoin_calls W (.slice A vals.length c) vals [32] (RdS.below Hrd.out hW) (by intro e;rw [e] at hl;simp at hl) (by omega) (by
     have:=joinS_take_size 32 32 vals vals.length hl.2 hvs;rw [List.take_length] at this
     omega)))
    generalize sb (joinS [32] vals) = J at Hres hjs Hj;have z1:¬ 9223372036854775807 < SK.size + 5:=(by omega);have z2:¬ 9223372036854775807 < SK.size + 5 + J.size:=(by omega);have z3:¬ 9223372036854775807 < SK.size + 5 + J.size + 1:=(by omega);obtain ⟨k,hk⟩ : ∃ k:Int,k = ((0:Nat):Int):=⟨_,rfl⟩;rw [← hk] at c0 c1 c2 HB0 Hbx;rw [← hk];have hb0:(k == 0) = true:=(by rw [hk];rfl);have hb1:(k == 1) = false:=(by rw [hk];rfl);have hb2:(k == 2) = false:=(by rw [hk];rfl);have hb3:(k == 3) = false:=(by rw [hk];rfl);rw [Hres.out];generalize hW0:w.alloc (.cells #[.string SK,.int .i64 k,.slice A vals.length c] 98) = W0 at c0 c1 c2 HB0 Hbx;have HW0:=hIh hW0
    have HS:Hid (∀ W,Below W0.heap.size W0 W → W.cell? ⟨w.heap.size,0,none⟩ = some (.string SK) ∧ W.cell? ⟨w.heap.size,2,none⟩ = some (.slice A vals.length c) ∧ Below W0.heap.size W0 W):=fun W hW=>by
     obtain ⟨a0,a1,a2, -⟩:=cells3 (blk_below Hbx.out hW);exact ⟨a0,a2,hW⟩
    have HJ:Hid (∀ W,Below W0.heap.size W0 W → Calls Tryz.prog 156 #[.slice A vals.length c,.string (ByteArray.mk #[32])] W fun e w'=>e = .returned (.string J) ∧ Below W.heap.size W w'):=fun W hW=>Hj.out W (HB0.out.trans (hW.mono HB0.out.size));have HT:Hid (∀ W W',Below W0.heap.size W0 W → Below W.heap.size W W' → Below W0.heap.size W0 W'):=fun W W' h1 h2=>h1.trans (h2.mono h1.size);have Hd:Hid (Below W0.heap.size W0 W0.drew):=drewB (Below.refl _ _) 1;clear hk hvo hl hvs Hres hW0 Hj;go_enter Tryz.func155,Tryz.ntmps155;go_wp2_with fail;rw [HW0.out];go_wp2_with fail
    go_region_held3 (fun W=>W.cell? ⟨w.heap.size,0,none⟩ = some (.string SK) ∧ W.cell? ⟨w.heap.size,2,none⟩ = some (.slice A vals.length c) ∧ Below W0.heap.size W0 W) (first | exact HS.out _ Hd.out | exact HS.out _ (HT.out _ _ (by assumption) (by assumption)))
     ((go_at_call 156;with_reducible refine (HJ.out _ ?hx).mono ?_;(case hx=>first | exact Hd.out | assumption);rintro e w' ⟨rfl,hq⟩))
    all_goals (go_wp2;go_ret;exact ⟨rfl,HB0.out.trans ((HT.out _ _ Hd.out hq).mono HB0.out.size)⟩)
   ·have Hres:Hid (sb (tmTxt ⟨key,1,vals⟩) = SK ++ (ByteArray.mk #[32,110,111,116,105,110,32,40]) ++ sb (joinS [32] vals) ++ (ByteArray.mk #[41])):=by show _ = _;rw [tmTxt_1n _ _ h1,unotin,u41,← HSK.out,sb_append,sb_append,sb_append]
    have hl:=valsOk_len hvo;have hvs:=val_size hvo;have hgm:(1:Int) < vals.length:=(by omega);have hgmb:decide ((1:Int) < vals.length) = true:=decide_eq_true hgm
    have hjs:(sb (joinS [32] vals)).size ≤ 400:=by
     have:=joinS_take_size 32 32 vals vals.length hl.2 hvs;rw [List.take_length] at this;rw [sb_size];omega
    have Hj:=hIh (fun W (hW:Below w.heap.size w W)=>(show Calls Tryz.prog 156 #[.slice A vals.length c,.string (ByteArray.mk #[32])] W _ from ljoin_calls W (.slice A vals.length c) vals [32] (RdS.below Hrd.out hW) (by intro e;rw [e] at hl;simp at hl) (by omega) (by
     have:=joinS_take_size 32 32 vals vals.length hl.2 hvs;rw [List.take_length] at this
     omega)))
    generalize sb (joinS [32] vals) = J at Hres hjs Hj;have z1:¬ 9223372036854775807 < SK.size + 8:=(by omega);have z2:¬ 9223372036854775807 < SK.size + 8 + J.size:=(by omega);have z3:¬ 9223372036854775807 < SK.size + 8 + J.size + 1:=(by omega);obtain ⟨k,hk⟩ : ∃ k:Int,k = ((1:Nat):Int):=⟨_,rfl⟩;rw [← hk] at c0 c1 c2 HB0 Hbx;rw [← hk];have hb0:(k == 0) = false:=(by rw [hk];rfl);have hb1:(k == 1) = true:=(by rw [hk];rfl);have hb2:(k == 2) = false:=(by rw [hk];rfl);have hb3:(k == 3) = false:=(by rw [hk];rfl);rw [Hres.out];generalize hW0:w.alloc (.cells #[.string SK,.int .i64 k,.slice A vals.length c] 98) = W0 at c0 c1 c2 HB0 Hbx;have HW0:=hIh hW0
    have HS:Hid (∀ W,Below W0.heap.size W0 W → W.cell? ⟨w.heap.size,0,none⟩ = some (.string SK) ∧ W.cell? ⟨w.heap.size,2,none⟩ = some (.slice A vals.length c) ∧ Below W0.heap.size W0 W):=fun W hW=>by
     obtain ⟨a0,a1,a2, -⟩:=cells3 (blk_below Hbx.out hW);exact ⟨a0,a2,hW⟩
    have HJ:Hid (∀ W,Below W0.heap.size W0 W → Calls Tryz.prog 156 #[.slice A vals.length c,.string (ByteArray.mk #[32])] W fun e w'=>e = .returned (.string J) ∧ Below W.heap.size W w'):=fun W hW=>Hj.out W (HB0.out.trans (hW.mono HB0.out.size));have HT:Hid (∀ W W',Below W0.heap.size W0 W → Below W.heap.size W W' → Below W0.heap.size W0 W'):=fun W W' h1 h2=>h1.trans (h2.mono h1.size);have Hd:Hid (Below W0.heap.size W0 W0.drew):=drewB (Below.refl _ _) 1;clear hk hvo hl hvs Hres hW0 Hj;go_enter Tryz.func155,Tryz.ntmps155;go_wp2_with fail;rw [HW0.out];go_wp2_with fail
    go_region_held3 (fun W=>W.cell? ⟨w.heap.size,0,none⟩ = some (.string SK) ∧ W.cell? ⟨w.heap.size,2,none⟩ = some (.slice A vals.length c) ∧ Below W0.heap.size W0 W) (first | exact HS.out _ Hd.out | exact HS.out _ (HT.out _ _ (by assumption) (by assumption)))
     ((go_at_call 156;with_reducible refine (HJ.out _ ?hx).mono ?_;(case hx=>first | exact Hd.out | assumption);rintro e w' ⟨rfl,hq⟩))
    all_goals (go_wp2;go_ret;exact ⟨rfl,HB0.out.trans ((HT.out _ _ Hd.out hq).mono HB0.out.size)⟩)
def BPrLoop (w:World) (l:List (Tm × Value)) (v4 v12:Value) (w1:World):Prop := ∃ i:Nat,i ≤ l.length ∧ v12 = .int .i64 i ∧ w1.ownsRow 0 9 1 v4 i (((l.take i).map fun e=>tmTxt e.1).flatMap strC) ∧ (∀ k,v4.ownBlock = some k → w.heap.size ≤ k) ∧ Below w.heap.size w w1
theorem bprintsel_calls (w:World) (v:Value) (l:List (Tm × Value)) (hv:TRow w v l) (hne:l ≠ []) (hl:l.length ≤ 4194304) :
  Calls Tryz.prog 129 #[v] w fun e w' => ∃ s ec,e = .returned (.tuple #[.string s,.int .i64 ec]) ∧ PrRes l s ec ∧ Below w.heap.size w w':=by
 have Htms:=hIh (ball_calls w v l hv hl);obtain ⟨A,c,rfl⟩:=hv.1.slice;have Hv:=hIh hv;clear hv
 by_cases hok:tmsOk l = true
 case neg=>
  have ho2:=(Bool.not_eq_true _).mp hok;rw [ho2] at Htms;have Hres:Hid (PrRes l (ByteArray.mk #[]) 43):=⟨fun h=>absurd h hok,fun _=>by decide⟩;clear hok ho2;go_enter Tryz.func129,Tryz.ntmps129;go_wp2_with (go_at_call 154;with_reducible refine Htms.out.mono ?_;rintro e w1 ⟨rfl,hw1⟩);go_ret2;exact ⟨_,_,rfl,Hres.out,hw1⟩
 rw [hok] at Htms
 have Hall:Hid (∀ k (h:k < l.length),tmOk l[k].1 = true):=fun k h=>by
  unfold tmsOk at hok;rw [Bool.and_eq_true] at hok;exact List.all_eq_true.1 hok.1 _ (List.mem_map.2 ⟨l[k],List.getElem_mem h,rfl⟩)
 have h8:l.length ≤ 8:=by
  unfold tmsOk at hok;rw [Bool.and_eq_true] at hok;exact of_decide_eq_true hok.2
 have Hjs:Hid ((joinS [44] (l.map fun e=>tmTxt e.1)).length ≤ 8000):=by
  have:=joinS_take_size 44 500 (l.map fun e=>tmTxt e.1) l.length (by simpa using h8) (fun x hx=>by
   obtain ⟨e,he,rfl⟩:=List.mem_map.1 hx;obtain ⟨k,hk,rfl⟩:=List.getElem_of_mem he
   exact tm_size (Hall.out k hk))
  rw [List.take_of_length_le (by simp)] at this;show _ ≤ _;omega
 have Hres:Hid (PrRes l (sb (joinS [44] (l.map fun e=>tmTxt e.1))) 0):=⟨fun _=>⟨by unfold selTxt;rw [List.map_map];rfl,rfl⟩,fun h=>by rw [hok] at h;cases h⟩;have Hne:=hIh hne;clear hok hne;go_enter Tryz.func129,Tryz.ntmps129;go_wp2_with (go_at_call 154;with_reducible refine Htms.out.mono ?_;rintro e w1 ⟨rfl,hw1⟩)
 go_loopw [4,12] (fun v4 v12 wr=>BPrLoop w l v4 v12 wr) (fun _ i _=>l.length - (intOf i).toNat)
 case atStart=>exact ⟨0,by omega,rfl,World.ownsRow_nil _ _ _ _,(fun k hk=>by cases hk),hw1⟩
 case round=>
  obtain ⟨i,hi,rfl,hown,hnew,hB⟩:=hrel;obtain ⟨T,hT⟩ : ∃ T,T = ((l.take i).map fun e=>tmTxt e.1).flatMap strC:=⟨_,rfl⟩;rw [← hT] at hown;obtain ⟨RA,cp,rfl⟩:=own_slice hown;have Hown:=hIh hown;have Hnew:=hIh hnew;have HB:=hIh hB;have HT0:=hIh hT;clear hown hnew hT
  by_cases hlt:i < l.length
  ·have hli:(i:Int) < l.length:=by omega
   have hi0:(0:Int) ≤ i:=(by omega);have hvr:=Hv.out.below hB;obtain ⟨b,off,c',hA,hbl,d0,d1,d2⟩:=hvr.at i hlt
   cases hA
   have Hw:=hIh (fun W (hW:Below wr.heap.size wr W)=>printed_calls W l[i].1 l[i].2 (RdS.below (hvr.2 l[i] (List.getElem_mem hlt)) hW) (Hall.out i hlt));obtain ⟨XA,xc,hxv⟩:=(hvr.2 l[i] (List.getElem_mem hlt)).slice;have htk:(l.take (i + 1)).map (fun e=>tmTxt e.1) = (l.take i).map (fun e=>tmTxt e.1) ++ [tmTxt l[i].1]:=(by rw [List.take_add_one,List.getElem?_eq_getElem hlt,List.map_append];rfl)
   have Hgo:Hid (∀ (W w2:World) (o:Obj) (v' : Value),Below wr.heap.size wr W → w2.ownsRow 0 9 1 v' (i + 1) (T ++ [tmTxt l[i].1].flatMap strC) → (W.alloc o).grownBy w2 (Value.slice RA i cp).ownBlock → (∀ k,v'.ownBlock = some k → (Value.slice RA i cp).ownBlock = some k ∨ W.heap.size + 1 ≤ k) → BPrLoop w l v' (.int .i64 ((i:Int) + 1)) w2):=fun W w2 o v' hW ho hg hn=>by
    have h1:Below w.heap.size w W:=HB.out.trans (hW.mono HB.out.size);refine ⟨i + 1,hlt,rfl,by rw [htk,flat_app,← HT0.out];exact ho,fun k hk=>?_,(h1.alloc h1.size o).grown hg (by have:=h1.size;simp;omega) (fun k hk=>Hnew.out k hk)⟩;rcases hn k hk with h2 | h2
    ·exact Hnew.out k h2
    ·have:=h1.size;omega
   generalize l[i] = x at d0 d1 d2 Hw Hgo hxv;obtain ⟨⟨key,how,vals⟩,xv⟩:=x;simp only at d0 d1 d2 hxv;subst hxv;have Hw2:Hid (∀ W,Below wr.heap.size wr W → Calls Tryz.prog 155 #[.agg #[.string (sb key),.int .i64 (how:Int),.slice XA vals.length xc]] W fun e w'=>e = .returned (.string (sb (tmTxt ⟨key,how,vals⟩))) ∧ Below W.heap.size W w'):=Hw.out;have Hgo2:Hid (∀ (W w2:World) (o:Obj) (v' : Value),Below wr.heap.size wr W → w2.ownsRow 0 9 1 v' (i + 1) (T ++ [tmTxt ⟨key,how,vals⟩].flatMap strC) → (W.alloc o).grownBy w2 (Value.slice RA i cp).ownBlock → (∀ k,v'.ownBlock = some k → (Value.slice RA i cp).ownBlock = some k ∨ W.heap.size + 1 ≤ k) → BPrLoop w l v' (.int .i64 ((i:Int) + 1)) w2):=Hgo.out;generalize tmTxt ⟨key,how,vals⟩ = tx at Hw2 Hgo2;obtain ⟨hw,hhw⟩ : ∃ k:Int,k = (how:Int):=⟨_,rfl⟩;rw [← hhw] at d1 Hw2;generalize sb key = SK at d0 Hw2;obtain ⟨TX,hTX⟩ : ∃ TX,TX = sb tx:=⟨_,rfl⟩;rw [← hTX] at Hw2
   have HTX:=hIh hTX;obtain ⟨XC,hXC⟩ : ∃ XC,XC = [tx].flatMap strC:=⟨_,rfl⟩;have HXC:=hIh hXC;have HBa:=hIh (bel_alloc wr (.cells #[.string SK,.int .i64 hw,.slice XA vals.length xc] 98));clear hvr hB Hw Hgo hTX hXC htk hhw;go_wp2_with (first | (go_at_call 155;with_reducible refine (Hw2.out _ HBa.out).mono ?_;rintro e w2 ⟨rfl,hw2⟩;have H2:=hIh (HBa.out.trans (hw2.mono HBa.out.size));clear hw2) | (at_builtin;refine wpList_append2 _ rfl (.tmp 16) (.tmp 19) 59 rfl 9 (.string ⟨#[]⟩) 1 16 Tryz.underlying59 infoStr rfl (by decide) _ i T rfl (World.ownsRow.alloc (own_below Hown.out H2.out) _) _ 1 XC rfl ?c1 ?c4 ?c2 ?c3 ?_))
   case c1=>rw [HXC.out,HTX.out];exact rd_oneS _ _ _
   case c4=>rw [HXC.out];exact flat_one strC strC_one [tx]
   case c2=>unfold maxLen;omega
   case c3=>omega
   intro v' w3 ho3 hg3 hn3 _;have Hk:=hIh (Hgo2.out _ w3 _ v' H2.out (by rw [← HXC.out];exact ho3) hg3 hn3);clear ho3 hg3 hn3 Hgo2;go_wp2;go_roundw
   case rel=>exact Hk.out
   case measure=>simp [intOf];omega
  ·have hli:¬ (i:Int) < l.length:=by omega
   have hie:i = l.length:=(by omega)
   have Hj:=hIh (ljoin_calls wr (.slice RA i cp) (l.map fun e=>tmTxt e.1) [44] (by
    have h1:=Hown.out;rw [HT0.out,hie,List.take_length] at h1;have:i = (l.map fun e=>tmTxt e.1).length:=(by simpa using hie);rw [hie]
    exact RdS.of_own (f:=strC) (l:=l.map fun e=>tmTxt e.1) (by rw [List.length_map];exact h1)) (by intro e;exact Hne.out (List.map_eq_nil_iff.1 e)) (by rw [List.length_map];omega) (by have:=Hjs.out;omega))
   generalize sb (joinS [44] (l.map fun e=>tmTxt e.1)) = J at Hj Hres;have HjE:Hid (Calls Tryz.prog 156 #[.slice RA i cp,.string (ByteArray.mk #[44])] wr fun e w'=>e = .returned (.string J) ∧ Below wr.heap.size wr w'):=Hj.out;clear hi hlt hie hB Hj;go_wp2_with (go_at_call 156;with_reducible refine HjE.out.mono ?_;rintro e w2 ⟨rfl,hw2⟩);go_ret2;exact ⟨_,_,rfl,Hres.out,HB.out.trans (hw2.mono HB.out.size)⟩
end Go.Proofs.YtpfkkagkbneilaaGreatDoor
