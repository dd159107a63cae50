/- Texts M3, M4 of the proof of BursarChecks, joined. -/
import Derived.Test.YtpfkkagkbneilaaGreatDoorV19
namespace Go.Proofs.YtpfkkagkbneilaaGreatDoor
open Go.RowKit
set_option linter.unusedVariables false
set_option linter.unusedSimpArgs false
set_option maxRecDepth 100000
set_option maxHeartbeats 25600000
structure RlsS (w:World) (g gq:Nat) (l:List Str) (R:ReqD) (i:Nat) (wr:World):Prop where
 le:i ≤ l.length
 bel:Below w.heap.size w wr
 res:wr.heap[g]? = some (.cells zeroCells 38 (0,0))
 blk:wr.heap[gq]? = some (.cells (reqCells R (.slice none 0 0) (.slice none 0 0) (.slice none 0 0) (.slice none 0 0) (.slice none 0 0)) 38 (0,0))
theorem RlsS.below {w wr w' : World} {g gq:Nat} {l:List Str} {R:ReqD} {i:Nat} (h:RlsS w g gq l R i wr) (hb:Below wr.heap.size wr w'):RlsS w g gq l R i w':=⟨h.le,h.bel.trans (hb.mono h.bel.size),blk_below h.res hb,blk_below h.blk hb⟩
theorem RlsS.at {w wr:World} {g gq:Nat} {l:List Str} {R:ReqD} {i:Nat} (h:RlsS w g gq l R i wr) {j:Nat} (hj:j ≤ l.length):RlsS w g gq l R j wr:=⟨hj,h.bel,h.res,h.blk⟩
theorem RlsS.set {w wr:World} {g gq:Nat} {l:List Str} {R R' : ReqD} {i:Nat} (h:RlsS w g gq l R i wr) (hg:g = w.heap.size) (hq:gq = g + 1) (o:Nat) (x:Value) (hc:(reqCells R (.slice none 0 0) (.slice none 0 0) (.slice none 0 0) (.slice none 0 0) (.slice none 0 0)).setIfInBounds o x = reqCells R' (.slice none 0 0) (.slice none 0 0) (.slice none 0 0) (.slice none 0 0) (.slice none 0 0)):RlsS w g gq l R' i (wr.setCell ⟨gq,o,none⟩ x):=by
 have hf:Fr (fun k=>k = gq) wr (wr.setCell ⟨gq,o,none⟩ x):=(Fr.refl (fun k=>k = gq) _).setCell (p:=⟨gq,o,none⟩) (.inl rfl) _;exact ⟨h.le,h.bel.trans (hf.to_below (fun k hk=>by omega) h.bel.size),hf.blk h.res (by omega),by rw [← hc];exact blk_setCell h.blk o x⟩
def lsR0 (p:Str):ReqD:={ ReqD.zero with op:=11,path:=p }
def lsR1 (p:Str) (d:Bool):ReqD:={ ReqD.zero with op:=11,path:=p,deep:=d }
def lsR2 (p:Str) (d:Bool) (f:Str):ReqD:={ ReqD.zero with op:=11,path:=p,deep:=d,frm:=f }
def lsR3 (p:Str) (d:Bool) (f:Str) (m:Int):ReqD:={ ReqD.zero with op:=11,path:=p,deep:=d,frm:=f,most:=m }
def LsE1 (w:World) (g gq:Nat) (l:List Str) (p:Str) (D:Bool) (v9:Value) (wx:World):Prop := ∃ i:Nat,v9 = .int .i64 i ∧ l.drop i = lsR (l.drop 2) ∧ RlsS w g gq l (lsR1 p D) i wx
def LsE2 (w:World) (g gq:Nat) (l:List Str) (p:Str) (D:Bool) (i1:Nat) (v9:Value) (wx:World):Prop := ∃ i:Nat,v9 = .int .i64 i ∧ l.drop i = (optS wFrom (l.drop i1)).2 ∧ RlsS w g gq l (lsR2 p D ((optS wFrom (l.drop i1)).1.getD [])) i wx
theorem rlist_calls (w:World) (line:Str) (v v2:Value) (a:Str) (r:List Str) (hw:words line = a :: r) (h:RdT w v (words line)) (hat:RdS atC 1 w v2 ((cutW 0 line).map Prod.fst)) (hll:line.length ≤ 1048576) :
  Calls Tryz.prog 35 #[.string (sb line),v,v2] w (ReP (listD (fun k=>selParse termR (selText line ((words line).length - k))) r) w):=by
 have hsm:∀ t ∈ words line,t.length ≤ 1048576:=fun t ht=>Nat.le_trans (words_mem ht) hll
 have hln:(words line).length ≤ 1048577:=by have:=words_len line;omega
 obtain ⟨b,off,c,rfl,hc,hb0,hcell⟩:=RdT.some h (by rw [hw];simp);have hcl:(cutW 0 line).length = (words line).length:=cutW_len line
 have hpos:0 < (words line).length:=by rw [hw];simp
 obtain ⟨b2,off2,c2,hv2,hc2',hb02,hcell2⟩:=atC_cells hat (by intro e;have:=congrArg List.length e;rw [List.length_map,hcl] at this;simp only [List.length_nil] at this;omega);rw [List.length_map,hcl] at hv2 hc2';subst hv2;obtain ⟨sel,hsel⟩ : ∃ sel:Nat → Option (List Tm),sel = fun k=>selParse termR (selText line ((words line).length - k)):=⟨_,rfl⟩;obtain ⟨n,hn⟩ : ∃ n,n = (words line).length:=⟨_,rfl⟩;obtain ⟨O,hO⟩ : ∃ O,O = listD sel r:=⟨_,rfl⟩;obtain ⟨g,hg⟩ : ∃ g,g = w.heap.size:=⟨_,rfl⟩;have hF:Tryz.f35.results = #[.cell 6 38,.tmp 7]:=rfl;have HF:=hIh hF;have Hg:=hIh hg
 have H1:Hid ((w.alloc (.cells zeroCells 38)).heap[g]? = some (.cells zeroCells 38 (0,0)) ∧ Below w.heap.size w (w.alloc (.cells zeroCells 38))):=by
  rw [hg];exact ⟨blk_new _ _,bel_alloc _ _⟩
 have Hth1:Hid ((w.alloc (.cells zeroCells 38)).there g 0 zeroCells.size):=there_blk H1.out.1 (Nat.le_refl _);have hgs:w.heap.size = g:=hg.symm;rw [← hsel,← hO,← hn];rw [← hn] at hc hc2' hln
 have hci:(n:Int) ≤ c:=by omega
 have hci2:(n:Int) ≤ c2:=by omega
 have hnb:(n:Int) ≤ 1048577:=by omega
 by_cases h5:n < 2
 ·have Hno:Hid (O = none):=by
   show _ = _;rw [hw] at hn;rw [hO]
   match r,hn with
   | [],_=>rfl
   | p :: r,hn=>simp at hn;omega
  have hd:decide ((n:Int) < 2) = true:=decide_eq_true (by omega)
  have hd2:(n:Int) < 2:=by omega
  generalize sb line = S;clear hO h hsm hln hcell hcell2 hF hg h5 hn hsel hw hat hcl hpos;go_enter Tryz.func35,Tryz.ntmps35;go_wp2_with (refine wpList_store_mid (op:=⟨none,.store 38 (.tmp 6) (.tmp 22),_,_,_,_⟩) rfl 38 (.tmp 6) (.tmp 22) rfl g 0 zeroCells rfl rfl Hth1.out infoReq zero_one ?_);exact re_no HF.out Hg.out H1.out.1 zeroCells_size H1.out.2 Hno.out rfl rfl
 obtain ⟨p,r,rfl⟩ : ∃ p q,r = p :: q:=by
  rw [hw] at hn
  match r,hn with
  | [],hn=>simp at hn;omega
  | p :: q,hn=>exact ⟨p,q,rfl⟩
 obtain ⟨l,hl⟩ : ∃ l,l = words line:=⟨_,rfl⟩;have hd:decide ((n:Int) < 2) = false:=decide_eq_false (by omega)
 have hd2:¬ (n:Int) < 2:=by omega
 have hn1:(1:Int) < n:=by omega
 have Hdr:Hid (l.drop 2 = r):=by show _ = _;rw [hl,hw];rfl
 have h1:w.cell? ⟨b,off + 1,none⟩ = some (.string (sb p)):=by
  rw [hcell 1 (by omega)]
  have:(words line)[1]'(by omega) = p:=by simp [hw]
  rw [this]
 rw [← hl] at h hsm hn hcell;have Hcell:Hid (∀ i (hi:i < l.length),w.cell? ⟨b,off + i,none⟩ = some (.string (sb l[i]))):=hcell
 have HcellA:Hid (∀ i,i < n → ∃ (q:Nat) (u:Str),w.cell? ⟨b2,off2 + i,none⟩ = some (.int .i64 (q:Int)) ∧ l[i]? = some u ∧ (cutW 0 line)[i]? = some (q,u)):=fun i hi=>by
  have h1:i < (cutW 0 line).length:=by rw [hcl,← hl,← hn];exact hi
  have h2:=cutW_get h1 (by rw [← hl,← hn];exact hi);exact ⟨_,_,hcell2 i (by rw [List.length_map];exact h1),by subst hl;exact List.getElem?_eq_getElem (by rw [← hn];exact hi),h2⟩
 have Hb0:Hid (b < w.heap.size):=hb0;have Hb02:Hid (b2 < w.heap.size):=hb02;have Hn:=hIh hn;have Hl:=hIh hl
 have Hsel:Hid (∀ k,sel k = selParse termR (selText line (n - k))):=fun k=>by rw [hsel,hn,hl]
 have HO:Hid (O = (smallS wMost 100 (optS wFrom (lsR (l.drop 2))).2).bind fun m=>match m.2 with
  | []=>some { ReqD.zero with op:=11,path:=p,deep:=(l.drop 2).head? == some wDeep,frm:=(optS wFrom (lsR (l.drop 2))).1.getD [],most:=m.1 }
  | w :: l'=>if w = wWhere then (sel l'.length).map fun t=>{ ReqD.zero with op:=11,path:=p,deep:=(l.drop 2).head? == some wDeep,frm:=(optS wFrom (lsR (l.drop 2))).1.getD [],most:=m.1,terms:=t } else none):=by
  show _ = _;rw [Hdr.out,hO];exact listD_eq sel p r
 have Hsml:Hid (∀ W (j:Nat),j ≤ l.length → Below w.heap.size w W → Calls Tryz.prog 65 #[.slice (some ⟨b,off,none⟩) n c,.int .i64 (j:Int),.string (ByteArray.mk #[109,111,115,116]),.int .i64 100] W (AtP l (smallS wMost 100 (l.drop j)) W)):=fun W j hj hb=>by
  rw [smallS_V,hn];exact rsmall_calls W _ l (RdS.below h hb) hsm (by omega) j hj wMost 100
 have Hval:Hid (∀ W (i:Nat) (hi:i < l.length),Calls Tryz.prog 69 #[.string (sb l[i]),.string (ByteArray.mk #[102,114,111,109])] W (VlP (cutPre (wFrom ++ [61]) l[i]) W)):=fun W i hi=>optval_calls W l[i] wFrom (hsm _ (List.getElem_mem hi));have HslT:=hIh (fun W (i j:Nat) (h1:i ≤ j) (h2:j ≤ line.length)=>run_sl W line i j h1 h2);have Hll:=hIh hll;obtain ⟨S,hS⟩ : ∃ S,S = sb line:=⟨_,rfl⟩;rw [← hS] at HslT;rw [← hS];have HS:=hIh hS;have hc2:∀ o,(w.alloc o).cell? ⟨b,off + 1,none⟩ = some (.string (sb p)):=fun o=>(World.cell?_alloc_lt w _ _ hb0).trans h1;have Hc2:=hIh hc2;obtain ⟨D,hD⟩ : ∃ D,D = ((l.drop 2).head? == some wDeep):=⟨_,rfl⟩;have HD:=hIh hD;rw [← hD] at HO;clear hcell hcell2 hF hg h5 hO hl hc2 hn hS hsel hw hat hcl hpos hll h hsm hln hc2' hc hD;go_enter Tryz.func35,Tryz.ntmps35;obtain ⟨w1,hw1⟩ : ∃ w1,w1 = w.alloc (.cells zeroCells 38):=⟨_,rfl⟩;go_upto_region 3 with fail
 show Code.wp _ _ _ _ (w.alloc (.cells zeroCells 38));rw [← hw1];obtain ⟨gq,hgq⟩ : ∃ gq,gq = w1.heap.size:=⟨_,rfl⟩;have hgs3:w1.heap.size = gq:=hgq.symm
 have Hgq:Hid (gq = g + 1):=by show _ = _;rw [hgq,hw1,alloc_size,hgs]
 have y1:=Hc2.out (.cells zeroCells 38);rw [← hw1] at y1
 have HR1:Hid (w1.heap[g]? = some (.cells zeroCells 38 (0,0)) ∧ Below w.heap.size w w1):=by rw [hw1];exact H1.out
 have hqa:(w1.alloc (.cells zeroCells 38)).heap[gq]? = some (.cells zeroCells 38 (0,0)):=by rw [hgq];exact blk_new _ _
 have Hth2:Hid ((w1.alloc (.cells zeroCells 38)).there gq 0 (reqCells (lsR0 p) (.slice none 0 0) (.slice none 0 0) (.slice none 0 0) (.slice none 0 0) (.slice none 0 0)).size):=there_blk hqa (by rw [reqCells_size,zeroCells_size];omega)
 have Hone:Hid ((reqCells (lsR0 p) (.slice none 0 0) (.slice none 0 0) (.slice none 0 0) (.slice none 0 0) (.slice none 0 0)).all (·.oneCell') = true):=by show _ = _;simp [reqCells,Value.oneCell']
 obtain ⟨W5,hW5⟩ : ∃ W5,W5 = (w1.alloc (.cells zeroCells 38)).setCells gq 0 (reqCells (lsR0 p) (.slice none 0 0) (.slice none 0 0) (.slice none 0 0) (.slice none 0 0) (.slice none 0 0)).toList:=⟨_,rfl⟩
 have H5:Hid (RlsS w g gq l (lsR0 p) 2 W5):=by
  obtain ⟨hs,hf⟩:=req_store hqa zeroCells_size (reqCells_size (lsR0 p) (.slice none 0 0) (.slice none 0 0) (.slice none 0 0) (.slice none 0 0) (.slice none 0 0));rw [← hW5] at hs hf;have hb:Below w1.heap.size w1 (w1.alloc (.cells zeroCells 38)):=bel_alloc _ _;have hb5:Below w1.heap.size w1 W5:=hb.trans (hf.to_below (fun k hk=>by omega) hb.size);exact ⟨by have:=Hn.out;omega,HR1.out.2.trans (hb5.mono HR1.out.2.size),blk_below HR1.out.1 hb5,hs⟩
 have HW5:=hIh hW5;clear hgq hW5 hw1 hqa;go_upto_region 4 with (refine wpList_store_mid (op:=⟨none,.store 38 (.tmp 8) (.tmp 26),_,_,_,_⟩) rfl 38 (.tmp 8) (.tmp 26) rfl gq 0 (reqCells (lsR0 p) (.slice none 0 0) (.slice none 0 0) (.slice none 0 0) (.slice none 0 0) (.slice none 0 0)) rfl rfl Hth2.out infoReq Hone.out ?_);show Code.wp _ _ _ _ ((w1.alloc (.cells zeroCells 38)).setCells gq 0 (reqCells (lsR0 p) (.slice none 0 0) (.slice none 0 0) (.slice none 0 0) (.slice none 0 0) (.slice none 0 0)).toList);rw [← HW5.out];clear y1 hgs3 hgs H1 Hth1 Hth2 Hone HW5 Hc2 hd hd2 hn1 hb0 hb02 h1;go_upto_region 5 with fail;obtain ⟨b1,hb1'⟩ : ∃ b1:Bool,(b1 = true ↔ ∃ h:2 < l.length,l[2] = wDeep):=⟨decide (∃ h:2 < l.length,l[2] = wDeep),by simp⟩;have Hb1:=hIh hb1'
 have HDb:Hid (D = b1 ∧ l.drop (if b1 then 3 else 2) = lsR (l.drop 2)):=by
  have e:(l.drop 2).head? = l[2]?:=head_at
  have hd1:D = (l[2]? == some wDeep):=by rw [HD.out,e]
  have hb:D = b1:=by
   rw [hd1]
   cases b1 with
   | true=>
    obtain ⟨h1,h2⟩:=Hb1.out.1 rfl;rw [List.getElem?_eq_getElem h1,h2];simp
   | false=>
    by_cases h1:2 < l.length
    ·have h2:l[2]'h1 ≠ wDeep:=fun e=>by have:=Hb1.out.2 ⟨h1,e⟩;cases this
     rw [List.getElem?_eq_getElem h1];simpa using h2
    ·rw [List.getElem?_eq_none (by omega)];rfl
  refine ⟨hb,?_⟩;unfold lsR;rw [← HD.out,hb]
  cases b1 with
  | true=>simp [List.drop_drop]
  | false=>simp
 clear hb1'
 have hn2:(2:Int) ≤ n:=by have:=H5.out.le;have:=Hn.out;omega
 go_cut [37] (fun v37 wx=>v37 = .bool b1 ∧ wx = W5)
 case first=>
  by_cases h1:2 < l.length
  ·have hc:W5.cell? ⟨b,off + 2,none⟩ = some (.string (sb (l[2]'h1))):=bcell H5.out.bel (Hcell.out 2 h1)
   have hb1:decide ((2:Int) < n) = true:=decide_eq_true (by have:=Hn.out;omega);have hb2:(2:Int) < n:=(by have:=Hn.out;omega)
   have hce:((sb (l[2]'h1)).toList == [100,101,101,112]) = b1:=by
    rw [show ([100,101,101,112] : Str) = wDeep from rfl,eqL]
    by_cases e:l[2]'h1 = wDeep
    ·rw [decide_eq_true e,(Hb1.out.2 ⟨h1,e⟩)]
    ·rw [decide_eq_false e]
     cases b1 with
     | false=>rfl
     | true=>exact absurd (Hb1.out.1 rfl).2 e
   generalize sb (l[2]'h1) = TT at hc hce;clear h1;go_wp2_with fail;go_meet
   case rel=>exact ⟨rfl,rfl⟩
  ·have hb1:decide ((2:Int) < n) = false:=decide_eq_false (by have:=Hn.out;omega)
   have hb2:¬ (2:Int) < n:=(by have:=Hn.out;omega)
   obtain rfl:b1 = false:=by
    cases b1 with
    | false=>rfl
    | true=>exact absurd (Hb1.out.1 rfl).1 h1
   clear h1;go_wp2_with fail;go_meet
   case rel=>exact ⟨rfl,rfl⟩
 case rest=>
 obtain ⟨rfl,hwc⟩:=hcut;obtain rfl:=hwc;go_upto_if 37 with fail
 go_cut [9] (fun v9 wx=>LsE1 w g gq l p D v9 wx)
 case first=>
  cases b1 with
  | true=>
   obtain ⟨h1, -⟩:=Hb1.out.1 rfl;have k27:=cellsN (i:=27) H5.out.blk (show 27 < 29 by omega);obtain ⟨c27,f27⟩:=k27
   have Hend:Hid (∀ x:Int,x = 3 → LsE1 w g gq l p D (.int .i64 x) (wc.setCell ⟨gq,27,none⟩ (.bool true))):=fun x hx=>by
    refine ⟨3,by rw [hx];rfl,HDb.out.2,?_⟩;have h2:=(H5.out.at (j:=3) (by omega)).set Hg.out Hgq.out 27 (.bool true) (R':=lsR1 p true) rfl;rw [HDb.out.1];exact h2
   clear h1;go_wp2_with fail;go_meet
   case rel=>exact Hend.out _ rfl
  | false=>
   have Hend:Hid (LsE1 w g gq l p D (.int .i64 2) wc):=by
    refine ⟨2,rfl,HDb.out.2,?_⟩;rw [HDb.out.1];exact H5.out
   go_wp2_with fail;go_meet
   case rel=>exact Hend.out
 case rest=>
 obtain ⟨i1,rfl,hi1,hS⟩:=hcut;have Hi1:=hIh hi1;have H6:=hIh hS
 have hi1n:(i1:Int) ≤ n:=by have:=hS.le;have:=Hn.out;omega
 have HO2:Hid (O = (smallS wMost 100 (optS wFrom (l.drop i1)).2).bind fun m=>match m.2 with
  | []=>some { ReqD.zero with op:=11,path:=p,deep:=D,frm:=(optS wFrom (l.drop i1)).1.getD [],most:=m.1 }
  | w :: l'=>if w = wWhere then (sel l'.length).map fun t=>{ ReqD.zero with op:=11,path:=p,deep:=D,frm:=(optS wFrom (l.drop i1)).1.getD [],most:=m.1,terms:=t } else none):=by
  show _ = _;rw [hi1];exact HO.out
 clear hS hi1 HO HD HDb Hb1 H5;go_upto_if 44 with fail
 go_cut [9] (fun v9 wx=>LsE2 w g gq l p D i1 v9 wx)
 case first=>
  by_cases hlt:i1 < l.length
  ·have hb1:decide ((i1:Int) < n) = true:=decide_eq_true (by have:=Hn.out;omega)
   have hb2:(i1:Int) < n:=(by have:=Hn.out;omega);have hc:wc.cell? ⟨b,off + i1,none⟩ = some (.string (sb (l[i1]'hlt))):=bcell H6.out.bel (Hcell.out i1 hlt);have Hv:=hIh (Hval.out wc i1 hlt);have hdr:=List.drop_eq_getElem_cons hlt;have Hlt:Hid (i1 < l.length):=hlt
   cases hcp:cutPre (wFrom ++ [61]) (l[i1]'hlt) with
   | none=>
    rw [hcp] at Hv
    have Hend:Hid (LsE2 w g gq l p D i1 (.int .i64 (i1:Int)) wc):=by
     have e:optS wFrom (l.drop i1) = (none,l.drop i1):=(by rw [hdr];simp only [optS,hcp]);refine ⟨i1,rfl,by rw [e],?_⟩;rw [e];exact H6.out
    generalize sb (l[i1]'hlt) = TT at hc Hv;clear hcp hdr hlt;go_wp2_with fail;(with_reducible refine Hv.out.mono ?_);rintro e w2 ⟨x,rfl, -,hw2⟩;obtain rfl:=hw2.symm;go_wp2_with fail;go_meet
    case rel=>exact Hend.out
   | some u=>
    rw [hcp] at Hv;have k26:=cellsN (i:=26) H6.out.blk (show 26 < 29 by omega);obtain ⟨c26,f26⟩:=k26
    have Hend:Hid (∀ (x:Int) (U:ByteArray),x = (i1:Int) + 1 → U = sb u → LsE2 w g gq l p D i1 (.int .i64 x) (wc.setCell ⟨gq,26,none⟩ (.string U))):=fun x U hx hU=>by
     have e:optS wFrom (l.drop i1) = (some u,l.drop (i1 + 1)):=(by rw [hdr];simp only [optS,hcp]);refine ⟨i1 + 1,by rw [hx];simp,by rw [e],?_⟩;rw [e,hU];exact (H6.out.at (j:=i1 + 1) Hlt.out).set Hg.out Hgq.out 26 (.string (sb u)) rfl
    generalize sb (l[i1]'hlt) = TT at hc Hv;clear hcp hdr hlt;go_wp2_with fail;(with_reducible refine Hv.out.mono ?_);rintro e w2 ⟨x,rfl,hx,hw2⟩;obtain rfl:=hw2.symm;have Hx:=hIh (hx u rfl);clear hx;go_wp2_with fail;go_meet
    case rel=>exact Hend.out _ _ rfl Hx.out
  ·have hb1:decide ((i1:Int) < n) = false:=decide_eq_false (by have:=Hn.out;omega)
   have hb2:¬ (i1:Int) < n:=(by have:=Hn.out;omega)
   have Hend:Hid (LsE2 w g gq l p D i1 (.int .i64 (i1:Int)) wc):=by
    have e:optS wFrom (l.drop i1) = (none,l.drop i1):=(by rw [List.drop_eq_nil_of_le (by omega)];rfl);refine ⟨i1,rfl,by rw [e],?_⟩;rw [e];exact H6.out
   clear hlt;go_wp2_with fail;go_meet
   case rel=>exact Hend.out
 case rest=>
 obtain ⟨i2,rfl,hi2,hS⟩:=hcut;have H7:=hIh hS;obtain ⟨F,hF⟩ : ∃ F:Str,F = (optS wFrom (l.drop i1)).1.getD []:=⟨_,rfl⟩;rw [← hF] at hS;have H7:=hIh hS
 have HO3:Hid (O = (smallS wMost 100 (l.drop i2)).bind fun m=>match m.2 with
  | []=>some { ReqD.zero with op:=11,path:=p,deep:=D,frm:=F,most:=m.1 }
  | w :: l'=>if w = wWhere then (sel l'.length).map fun t=>{ ReqD.zero with op:=11,path:=p,deep:=D,frm:=F,most:=m.1,terms:=t } else none):=by
  show _ = _;rw [hi2,hF];exact HO2.out
 clear hS hi2 hF HO2 H6;have Hc1:=hIh (Hsml.out wc i2 H7.out.le H7.out.bel);go_wp2_with fail
 with_reducible refine Hc1.out.mono ?_
 rintro e X1 ⟨mo,j,ok,rfl,hj,hr,hb⟩;have Hj:=hIh hj;have H8:=hIh ((H7.out.below hb).at hj);have Hr:=hIh hr
 have hjn:(j:Int) ≤ n:=by have:=Hn.out;omega
 clear hj hr hb Hc1
 cases ok with
 | false=>
  have Hno:Hid (O = none):=by
   rcases Hr.out with ⟨h1, -⟩ | ⟨-,h2⟩
   ·cases h1
   ·show _ = _;rw [HO3.out,h2];rfl
  have Hth:Hid (X1.there g 0 zeroCells.size):=there_blk H8.out.res (Nat.le_refl _);clear Hr;go_wp2_with ((with_reducible refine wpList_store_mid (op:=⟨none,.store 38 (.tmp 6) (.tmp 67),_,_,_,_⟩) ?_ 38 (.tmp 6) (.tmp 67) ?_ g 0 zeroCells ?_ ?_ Hth.out infoZ zero_one ?_);exact rfl;exact rfl;exact rfl;exact rfl);exact re_no HF.out Hg.out H8.out.res zeroCells_size H8.out.bel Hno.out rfl rfl
 | true=>
 have HO4:Hid (O = match l.drop j with
  | []=>some { ReqD.zero with op:=11,path:=p,deep:=D,frm:=F,most:=mo }
  | w :: l'=>if w = wWhere then (sel l'.length).map fun t=>{ ReqD.zero with op:=11,path:=p,deep:=D,frm:=F,most:=mo,terms:=t } else none):=by
  rcases Hr.out with ⟨-,h1⟩ | ⟨h1, -⟩
  ·show _ = _;rw [HO3.out,h1];rfl
  ·cases h1
 clear Hr HO3;have k25:=cellsN (i:=25) H8.out.blk (show 25 < 29 by omega);obtain ⟨c25,f25⟩:=k25;obtain ⟨X2,hX2⟩ : ∃ X,X = X1.setCell ⟨gq,25,none⟩ (.int .i64 mo):=⟨_,rfl⟩
 have H9:Hid (RlsS w g gq l (lsR3 p D F mo) j X2):=by
  rw [hX2];exact H8.out.set Hg.out Hgq.out 25 (.int .i64 mo) rfl
 have HX2:=hIh hX2;clear hX2;go_upto_region 17 with fail;rw [← HX2.out];clear c25 f25 HX2;obtain ⟨b3,hb3'⟩ : ∃ b3:Bool,(b3 = true ↔ ∃ h:j < l.length,l[j] = wWhere):=⟨decide (∃ h:j < l.length,l[j] = wWhere),by simp⟩;have Hb3:=hIh hb3';clear hb3'
 go_cut [80] (fun v80 wx=>v80 = .bool b3 ∧ wx = X2)
 case first=>
  by_cases h1:j < l.length
  ·have hc:X2.cell? ⟨b,off + j,none⟩ = some (.string (sb (l[j]'h1))):=bcell H9.out.bel (Hcell.out j h1)
   have hb1:decide ((j:Int) < n) = true:=decide_eq_true (by have:=Hn.out;omega);have hb2:(j:Int) < n:=(by have:=Hn.out;omega)
   have hce:((sb (l[j]'h1)).toList == [119,104,101,114,101]) = b3:=by
    rw [show ([119,104,101,114,101] : Str) = wWhere from rfl,eqL]
    by_cases e:l[j]'h1 = wWhere
    ·rw [decide_eq_true e,(Hb3.out.2 ⟨h1,e⟩)]
    ·rw [decide_eq_false e]
     cases b3 with
     | false=>rfl
     | true=>exact absurd (Hb3.out.1 rfl).2 e
   generalize sb (l[j]'h1) = TT at hc hce;clear h1;go_wp2_with fail;go_meet
   case rel=>exact ⟨rfl,rfl⟩
  ·have hb1:decide ((j:Int) < n) = false:=decide_eq_false (by have:=Hn.out;omega)
   have hb2:¬ (j:Int) < n:=(by have:=Hn.out;omega)
   obtain rfl:b3 = false:=by
    cases b3 with
    | false=>rfl
    | true=>exact absurd (Hb3.out.1 rfl).1 h1
   clear h1;go_wp2_with fail;go_meet
   case rel=>exact ⟨rfl,rfl⟩
 case rest=>
 obtain ⟨rfl,hwc⟩:=hcut;obtain rfl:=hwc
 cases b3 with
 | false=>
  obtain ⟨CS,hCS⟩ : ∃ CS,CS = reqCells (lsR3 p D F mo) (.slice none 0 0) (.slice none 0 0) (.slice none 0 0) (.slice none 0 0) (.slice none 0 0):=⟨_,rfl⟩
  have hsz:CS.size = 29:=by rw [hCS];rfl
  have hone:CS.all (·.oneCell') = true:=by rw [hCS];simp [reqCells,Value.oneCell']
  have hways:(j = n ∧ ReB O g wc CS true) ∨ (j ≠ n ∧ ReB O g wc CS false):=by
   have h0:=HO4.out
   cases hd:l.drop j with
   | nil=>
    rw [hd] at h0;have h1:j = n:=(by have:=congrArg List.length hd;simp only [List.length_drop,List.length_nil] at this;have:=H9.out.le;have:=Hn.out;omega);refine .inl ⟨h1,.inl ⟨rfl,_,h0,?_⟩⟩;rw [hCS];exact ReqV.flat (g + 1) wc (r:=lsR3 p D F mo) ⟨rfl,rfl,rfl,rfl,rfl⟩
   | cons t r'=>
    rw [hd] at h0;have hjl:j < l.length:=(by have:=congrArg List.length hd;simp only [List.length_drop,List.length_cons] at this;omega)
    have ht:t = l[j]'hjl:=by
     have:=List.drop_eq_getElem_cons hjl;rw [hd] at this;exact (List.cons.inj this).1
    have h1:t ≠ wWhere:=fun e=>(by have:=Hb3.out.2 ⟨hjl,by rw [← ht,e]⟩;cases this);exact .inr ⟨by have:=Hn.out;omega,.inr ⟨rfl,by rw [h0];exact if_neg h1⟩⟩
  have H10:Hid (wc.heap[gq]? = some (.cells CS 38 (0,0)) ∧ wc.heap[g]? = some (.cells zeroCells 38 (0,0)) ∧ Below w.heap.size w wc ∧ (CS.size = 29 ∧ CS.all (·.oneCell') = true)):=⟨by rw [hCS];exact H9.out.blk,H9.out.res,H9.out.bel,hsz,hone⟩
  have Hth:Hid (wc.there g 0 CS.size):=there_blk H10.out.2.1 (by rw [hsz,zeroCells_size];omega)
  have Hsz:Hid ((Tryz.prog.info? 38).map (·.size) = some CS.size):=by show _ = _;rw [hsz];exact infoReq
  clear hCS hsz hone;rcases hways with ⟨h1,hv⟩ | ⟨h1,hv⟩
  case' inl=>
   have hq1:((j:Int) == (n:Int)) = true:=(by simp;omega);have hq2:(j == n) = true:=(by simp;omega)
  case' inr=>
   have hq1:((j:Int) == (n:Int)) = false:=(by simp;omega);have hq2:(j == n) = false:=(by simp;omega)
  all_goals
   have Hv:=hIh hv;clear hv h1;go_wp2_with (first | ((with_reducible refine wpList_load_row (o:=⟨some 116,.load 38 (.tmp 8),_,_,_,_⟩) ?_ 38 (.tmp 8) ?_ gq ?_ 38 CS (0,0) _ H10.out.1 reqU ?_ Hsz.out ?_);exact rfl;exact rfl;exact rfl;exact rfl) | ((with_reducible refine wpList_store_mid (op:=⟨none,.store 38 (.tmp 6) (.tmp 116),_,_,_,_⟩) ?_ 38 (.tmp 6) (.tmp 116) ?_ g 0 CS ?_ ?_ Hth.out Hsz.out H10.out.2.2.2.2 ?_);exact rfl;exact rfl;exact rfl;exact rfl));exact re_any HF.out Hg.out H10.out.2.1 zeroCells_size H10.out.2.2.2 H10.out.2.2.1 Hv.out rfl rfl
 | true=>
  obtain ⟨hjl,hjw⟩:=Hb3.out.1 rfl
  have hO5:O = (selParse termR (selText line (j + 1))).map fun t=>{ ReqD.zero with op:=11,path:=p,deep:=D,frm:=F,most:=mo,terms:=t }:=by
   have h0:=HO4.out;rw [List.drop_eq_getElem_cons hjl,hjw] at h0;rw [h0];show (if wWhere = wWhere then _ else none) = _;rw [if_pos rfl,Hsel.out];rw [show n - (l.drop (j + 1)).length = j + 1 from by have:=Hn.out;simp only [List.length_drop];omega]
  have HO5:=hIh hO5
  have hj1n:(j:Int) + 1 ≤ n:=by have:=Hn.out;omega
  have Hj1n:Hid (j + 1 ≤ n):=by have:=Hn.out;show _ ≤ _;omega
  clear hO5 hjw HO4 hjl;go_upto_if 85 with fail
  go_cut [15] (fun v15 wx=>v15 = .string (sb (selText line (j + 1))) ∧ RlsS w g gq l (lsR3 p D F mo) j wx)
  case first=>
   by_cases hlt:j + 1 < n
   ·have hb1:decide ((j:Int) + 1 < n) = true:=decide_eq_true (by omega)
    have hb2:(j:Int) + 1 < n:=(by omega);obtain ⟨last,hlast⟩ : ∃ last,n = last + 1:=⟨n - 1,by omega⟩;obtain ⟨q1,u1,k1, -,k3⟩:=HcellA.out (j + 1) hlt;obtain ⟨q2,u2,k4,k5,k6⟩:=HcellA.out last (by omega);have hsel:=sel_between k3 k6 (by rw [← Hl.out,← Hn.out,hlast]) (by omega);have hbw:=behind_word k6;have hle:q2 + u2.length ≤ line.length:=hbw.2.2.2.1;have hsl:=fun W=>HslT.out W q1 (q2 + u2.length) hsel.1 hle;rw [hsel.2] at hsl;have hq:(((q2 + u2.length:Nat)):Int) = (q2:Int) + (u2.length:Int):=(by simp);rw [hq] at hsl
    have hcu:wc.cell? ⟨b,off + last,none⟩ = some (.string (sb u2)):=by
     obtain ⟨h5,h6⟩:=List.getElem?_eq_some_iff.1 k5;rw [← h6];exact bcell H9.out.bel (Hcell.out last h5)
    have hc1:=bcell H9.out.bel k1;have hc2:=bcell H9.out.bel k4;have hsu:(sb u2).size = u2.length:=sb_size u2;have hnl:(n:Int) - 1 = (last:Int):=(by omega);have hx1:((j:Int) + 1).toNat = j + 1:=(by omega);have hlb:(last:Int) < n:=(by omega);have hll:=Hll.out;have hwr:IntKind.i64.wrap ((q2:Int) + (u2.length:Int)) = (q2:Int) + (u2.length:Int):=IntWalk.i64_in _ (by omega);have hwr2:IntKind.i64.wrap ((j:Int) + 1) = (j:Int) + 1:=IntWalk.i64_in _ (by omega);have hub:(u2.length:Int) ≤ 1048576:=(by omega);have hqb:(q2:Int) ≤ 1048576:=(by omega);have Hfin:Hid (∀ W,Below wc.heap.size wc W → RlsS w g gq l (lsR3 p D F mo) j W):=fun W hb=>H9.out.below hb;generalize hTX:sb (selText line (j + 1)) = TX at hsl;have HTX:=hIh hTX;generalize sb u2 = U2 at hcu hsu;generalize u2.length = ul at hsl hsu hwr hub;clear hsel hbw hle k1 k3 k4 k5 k6 hq hlt hlast hll hTX;go_wp2_with fail;go_quiet (fail);go_wp2_with fail
    go_meet
    case rel=>exact ⟨by rw [HTX.out],Hfin.out _ (drewB (Below.refl _ _) _)⟩
   ·have hb1:decide ((j:Int) + 1 < n) = false:=decide_eq_false (by omega)
    have hb2:¬ (j:Int) + 1 < n:=(by omega)
    have Hfin:Hid (Value.string (ByteArray.mk #[]) = .string (sb (selText line (j + 1))) ∧ RlsS w g gq l (lsR3 p D F mo) j wc):=by
     refine ⟨?_,H9.out⟩;rw [show selText line (j + 1) = [] from by unfold selText;rw [behind_none (by rw [← Hl.out,← Hn.out];omega)];rfl]
     rfl
    clear hlt;go_wp2_with fail;go_meet
    case rel=>exact Hfin.out
  case rest=>
  obtain ⟨rfl,hS⟩:=hcut;have H10:=hIh hS;have hst:(selText line (j + 1)).length ≤ 1048576:=Nat.le_trans (selText_len line (j + 1)) Hll.out;have Hp:=hIh (rselparse_calls wc (selText line (j + 1)) hst);obtain ⟨SO,hSO⟩ : ∃ SO,SO = selParse termR (selText line (j + 1)):=⟨_,rfl⟩;rw [← hSO] at Hp
  have HO6:Hid (O = SO.map fun t=>{ ReqD.zero with op:=11,path:=p,deep:=D,frm:=F,most:=mo,terms:=t }):=by show _ = _;rw [hSO];exact HO5.out
  generalize sb (selText line (j + 1)) = TX at Hp;clear hst hS hSO HO5 H9;go_wp2_with fail
  with_reducible refine Hp.out.mono ?_
  rintro e X3 ⟨TA,tn,tc,ec,rfl,hsr,hb⟩;have H11:=hIh (H10.out.below hb);have hlq:gq < wc.heap.size:=blk_lt H10.out.blk;have k23:=cellsN (i:=23) H11.out.blk (show 23 < 29 by omega);obtain ⟨c23,f23⟩:=k23;obtain ⟨X4,hX4⟩ : ∃ X,X = X3.setCell ⟨gq,23,none⟩ (.slice TA tn tc):=⟨_,rfl⟩
  have hf4:Fr (fun k=>k = gq) X3 X4:=by rw [hX4];exact (Fr.refl (fun k=>k = gq) _).setCell (p:=⟨gq,23,none⟩) (.inl rfl) _
  have hgg:=Hg.out;have hgqq:=Hgq.out;obtain ⟨CS,hCS⟩ : ∃ CS,CS = reqCells (lsR3 p D F mo) (.slice none 0 0) (.slice none 0 0) (.slice none 0 0) (.slice none 0 0) (.slice TA tn tc):=⟨_,rfl⟩
  have hsz:CS.size = 29:=by rw [hCS];rfl
  have hone:CS.all (·.oneCell') = true:=by rw [hCS];simp [reqCells,Value.oneCell']
  have H12:Hid (X4.heap[gq]? = some (.cells CS 38 (0,0)) ∧ X4.heap[g]? = some (.cells zeroCells 38 (0,0)) ∧ Below w.heap.size w X4 ∧ (CS.size = 29 ∧ CS.all (·.oneCell') = true)):=⟨by rw [hX4,hCS];exact blk_setCell H11.out.blk 23 _,hf4.blk H11.out.res (by omega),H11.out.bel.trans (hf4.to_below (fun k hk=>by omega) H11.out.bel.size),hsz,hone⟩
  have hways:(ec = 0 ∧ ReB O g X4 CS true) ∨ (ec ≠ 0 ∧ ReB O g X4 CS false):=by
   rcases hsr with ⟨tl,h1,h2,h3,h4,h5⟩ | ⟨h1,h2⟩
   ·refine .inl ⟨h5,.inl ⟨rfl, { ReqD.zero with op:=11,path:=p,deep:=D,frm:=F,most:=mo,terms:=tl.map Prod.fst },by rw [HO6.out,h1];rfl,.slice none 0 0,.slice none 0 0,.slice none 0 0,.slice none 0 0,.slice TA tn tc, [],tl,hCS,RdS.nil _ _ _,⟨PRow.nil _,rfl⟩,RdS.nil _ _ _,RdS.nil _ _ _,⟨?_,rfl⟩,RNew.nil _,no_own _,no_own _,fun k hk=>by have:=h3 k hk;omega,fun e he k hk=>by have:=h4 e he k hk;omega⟩⟩
    exact h2.fr hf4 (fun k hk e=>by have:=h3 k hk;omega) (fun e he k hk e2=>by have:=h4 e he k hk;omega)
   ·exact .inr ⟨h2,.inr ⟨rfl,by rw [HO6.out,h1];rfl⟩⟩
  have Hth:Hid (X4.there g 0 CS.size):=there_blk H12.out.2.1 (by rw [hsz,zeroCells_size];omega)
  have Hsz:Hid ((Tryz.prog.info? 38).map (·.size) = some CS.size):=by show _ = _;rw [hsz];exact infoReq
  have HX4:=hIh hX4;clear hsr hb hlq hX4 hf4 hgg hgqq hCS hsz hone;rcases hways with ⟨h1,hv⟩ | ⟨h1,hv⟩
  case' inl=>
   have hq1:(ec == 0) = true:=(by simp [h1])
  case' inr=>
   have hq1:(ec == 0) = false:=(by simpa using h1)
  all_goals
   have Hv:=hIh hv;clear hv h1;go_upto_region 24 with fail;rw [← HX4.out];go_wp2_with (first | ((with_reducible refine wpList_load_row (o:=⟨some 113,.load 38 (.tmp 8),_,_,_,_⟩) ?_ 38 (.tmp 8) ?_ gq ?_ 38 CS (0,0) _ H12.out.1 reqU ?_ Hsz.out ?_);exact rfl;exact rfl;exact rfl;exact rfl) | ((with_reducible refine wpList_store_mid (op:=⟨none,.store 38 (.tmp 6) (.tmp 113),_,_,_,_⟩) ?_ 38 (.tmp 6) (.tmp 113) ?_ g 0 CS ?_ ?_ Hth.out Hsz.out H12.out.2.2.2.2 ?_);exact rfl;exact rfl;exact rfl;exact rfl));exact re_any HF.out Hg.out H12.out.2.1 zeroCells_size H12.out.2.2.2 H12.out.2.2.1 Hv.out rfl rfl
section
def wDelete:Str := [100,101,108,101,116,101]
def wWatch:Str := [119,97,116,99,104]
def wBind:Str := [98,105,110,100]
def setD (f:List Str → Option ReqD):List Str → Option ReqD
 | t :: r=>if t = wSet then f r else none
 | []=>none
def restD (a:Str) (r:List Str):Option ReqD:=if a = wQuota then setD quSet r else if a = wLimit then setD liSet r else if a = wDelete then dropD r else if a = wWatch then watchD r else if a = wBind then bindD r else none
def drCells (p m:Str) (v:Int):Array Value := #[.int .i64 9,.string (sb []),.string (sb p),.string (sb m),
 .string (sb []),.string (sb []),.slice none 0 0,.int .i64 0,.int .i64 0,.slice none 0 0,.int .i64 0,
 .string (sb []),.string (sb []),.int .i64 0,.int .i64 0,.slice none 0 0,
 .string (sb []),.string (sb []),.slice none 0 0,
 .string (sb []),.string (sb []),.string (sb []),.int .i64 0,
 .slice none 0 0,.int .i64 v,.int .i64 0,.string (sb []),.bool false,.bool false]
def waCells (p:Str) (v m:Int):Array Value := #[.int .i64 13,.string (sb []),.string (sb p),.string (sb []),
 .string (sb []),.string (sb []),.slice none 0 0,.int .i64 0,.int .i64 0,.slice none 0 0,.int .i64 0,
 .string (sb []),.string (sb []),.int .i64 0,.int .i64 0,.slice none 0 0,
 .string (sb []),.string (sb []),.slice none 0 0,
 .string (sb []),.string (sb []),.string (sb []),.int .i64 0,
 .slice none 0 0,.int .i64 v,.int .i64 m,.string (sb []),.bool false,.bool false]
theorem wp_store_rq {i j:Tmp} {ty:TypeId} {pos:String} {after:Array Edge} {a:Act} {w:World} {K:Act → World → Prop} {Q:Exit → Act → World → Prop} (hi:a.eval (.tmp i) = .pointer (some ⟨ptrB (a.eval (.tmp i)),ptrO (a.eval (.tmp i)),none⟩)) (hj:a.eval (.tmp j) = .agg (aggC (a.eval (.tmp j)))) (hs:(aggC (a.eval (.tmp j))).size = 29) (h1:allOne (aggC (a.eval (.tmp j))).toList = true) (ht:w.there (ptrB (a.eval (.tmp i))) (ptrO (a.eval (.tmp i))) 29) :
  Oper.wp Tryz.prog ⟨none,.store 38 (.tmp i) (.tmp j),ty,pos,after,none⟩ a w K Q = K (a.put none undef) (w.setCells (ptrB (a.eval (.tmp i))) (ptrO (a.eval (.tmp i))) (aggC (a.eval (.tmp j))).toList):=wp_store_any _ 29 infoReq hi hj hs h1 ht
theorem infoW (p:Str) (v m:Int):(Tryz.prog.info? 38).map (·.size) = some (waCells p v m).size:=infoReq
theorem oneW (p:Str) (v m:Int):(waCells p v m).all (·.oneCell') = true:=by simp [waCells,Value.oneCell']
theorem oneD (p m:Str) (v:Int):(drCells p m v).all (·.oneCell') = true:=by simp [drCells,Value.oneCell']
attribute [local go_sem ↓] wp_store_rq
attribute [local go_sem] ptrB_at ptrO_at allOne_cons allOne_nil aggC_agg oneI oneS oneL oneB
theorem rrest_short (w:World) (v:Value) (a:Str) (r:List Str) (h:RdT w v (a :: r)) (hsm:∀ t ∈ a :: r,t.length ≤ 1048576) (hln:(a :: r).length ≤ 1048577) (hr:r = []):Calls Tryz.prog 36 #[v] w (ReP (restD a r) w):=by
 obtain ⟨b,off,c,rfl,hc,hb0,hcell⟩:=RdT.some h (by simp);obtain ⟨n,hn⟩ : ∃ n,n = (a :: r).length:=⟨_,rfl⟩;obtain ⟨O,hO⟩ : ∃ O,O = restD a r:=⟨_,rfl⟩;obtain ⟨g,hg⟩ : ∃ g,g = w.heap.size:=⟨_,rfl⟩;have hF:Tryz.f36.results = #[.cell 2 38,.tmp 3]:=rfl;have HF:=hIh hF;have Hg:=hIh hg;obtain ⟨w1,hw1⟩ : ∃ w1,w1 = w.alloc (.cells zeroCells 38):=⟨_,rfl⟩
 have H1:Hid (w1.heap[g]? = some (.cells zeroCells 38 (0,0)) ∧ Below w.heap.size w w1 ∧ w1.heap.size = g + 1):=by
  rw [hw1,hg];exact ⟨blk_new _ _,bel_alloc _ _,alloc_size _ _⟩
 have Hth:Hid (w1.there g 0 zeroCells.size):=there_blk H1.out.1 (Nat.le_refl _);have HW1:=hIh hw1;have hgs:w.heap.size = g:=hg.symm;rw [← hO,← hn];rw [← hn] at hc
 have hci:(n:Int) ≤ c:=by omega
 have hnb:(n:Int) ≤ 1048577:=by omega
 have Hn:=hIh hn
 have hn0:(0:Int) < n:=by rw [hn];simp only [List.length_cons];omega
 have Hb0:Hid (b < w.heap.size):=hb0;subst hr
 have Hno:Hid (O = none):=by
  show _ = _;rw [hO];unfold restD
  split
  ·rfl
  ·split
   ·rfl
   ·split
    ·rfl
    ·split
     ·rfl
     ·split <;> rfl
 have hd:decide ((n:Int) < 2) = true:=decide_eq_true (by rw [hn];simp)
 have hd2:(n:Int) < 2:=by rw [hn];simp
 clear hO h hsm hln hcell hF hg hn hw1 hc hb0;go_enter Tryz.func36,Tryz.ntmps36;go_upto_region 1 with fail;show Code.wp _ _ _ _ (w.alloc (.cells zeroCells 38));rw [← HW1.out];go_wp2_with ((with_reducible refine wpList_store_mid (op:=⟨none,.store 38 (.tmp 2) (.tmp 20),_,_,_,_⟩) ?_ 38 (.tmp 2) (.tmp 20) ?_ g 0 zeroCells ?_ ?_ Hth.out infoZ zero_one ?_);exact rfl;exact rfl;exact rfl;exact rfl);exact re_no HF.out Hg.out H1.out.1 zeroCells_size H1.out.2.1 Hno.out rfl rfl
theorem rrest_quota (w:World) (v:Value) (a:Str) (r:List Str) (h:RdT w v (a :: r)) (hsm:∀ t ∈ a :: r,t.length ≤ 1048576) (hln:(a :: r).length ≤ 1048577) (hr:r ≠ []) (ha:a = wQuota):Calls Tryz.prog 36 #[v] w (ReP (restD a r) w):=by
 obtain ⟨b,off,c,rfl,hc,hb0,hcell⟩:=RdT.some h (by simp);obtain ⟨n,hn⟩ : ∃ n,n = (a :: r).length:=⟨_,rfl⟩;obtain ⟨O,hO⟩ : ∃ O,O = restD a r:=⟨_,rfl⟩;obtain ⟨g,hg⟩ : ∃ g,g = w.heap.size:=⟨_,rfl⟩;have hF:Tryz.f36.results = #[.cell 2 38,.tmp 3]:=rfl;have HF:=hIh hF;have Hg:=hIh hg;obtain ⟨w1,hw1⟩ : ∃ w1,w1 = w.alloc (.cells zeroCells 38):=⟨_,rfl⟩
 have H1:Hid (w1.heap[g]? = some (.cells zeroCells 38 (0,0)) ∧ Below w.heap.size w w1 ∧ w1.heap.size = g + 1):=by
  rw [hw1,hg];exact ⟨blk_new _ _,bel_alloc _ _,alloc_size _ _⟩
 have Hth:Hid (w1.there g 0 zeroCells.size):=there_blk H1.out.1 (Nat.le_refl _);have HW1:=hIh hw1;have hgs:w.heap.size = g:=hg.symm;rw [← hO,← hn];rw [← hn] at hc
 have hci:(n:Int) ≤ c:=by omega
 have hnb:(n:Int) ≤ 1048577:=by omega
 have Hn:=hIh hn
 have hn0:(0:Int) < n:=by rw [hn];simp only [List.length_cons];omega
 have Hb0:Hid (b < w.heap.size):=hb0
 obtain ⟨t1,r,rfl⟩ : ∃ t1 q,r = t1 :: q:=by
  cases r with
  | nil=>exact absurd rfl hr
  | cons t1 q=>exact ⟨t1,q,rfl⟩
 have hd:decide ((n:Int) < 2) = false:=decide_eq_false (by rw [hn];simp only [List.length_cons];omega)
 have hd2:¬ (n:Int) < 2:=by rw [hn];simp only [List.length_cons];omega
 have hn1:(1:Int) < n:=by rw [hn];simp only [List.length_cons];omega
 have h0:w1.cell? ⟨b,off,none⟩ = some (.string (sb a)):=bcell H1.out.2.1 (by have:=hcell 0 (by simp);simpa using this);have h1:w1.cell? ⟨b,off + 1,none⟩ = some (.string (sb t1)):=bcell H1.out.2.1 (hcell 1 (by simp));subst ha;have q1:((sb wQuota).toList == [113,117,111,116,97]) = true:=eqLT rfl
 by_cases hs:t1 = wSet
 case neg=>
  have Hno:Hid (O = none):=by
   show _ = _;rw [hO];simp [restD,setD,hs]
  have q6:=neLT (l := [115,101,116]) hs;have q7:=eqLF (l := [115,101,116]) hs;generalize sb t1 = T1 at h1 q6 q7;generalize sb wQuota = T0 at h0 q1;clear hO h hsm hln hcell hF hg hn hw1 hc hb0 hs hr;go_enter Tryz.func36,Tryz.ntmps36;go_upto_region 1 with fail;show Code.wp _ _ _ _ (w.alloc (.cells zeroCells 38));rw [← HW1.out];go_wp2_with ((with_reducible refine wpList_store_mid (op:=⟨none,.store 38 (.tmp 2) (.tmp 30),_,_,_,_⟩) ?_ 38 (.tmp 2) (.tmp 30) ?_ g 0 zeroCells ?_ ?_ Hth.out infoZ zero_one ?_);exact rfl;exact rfl;exact rfl;exact rfl);exact re_no HF.out Hg.out H1.out.1 zeroCells_size H1.out.2.1 Hno.out rfl rfl
 case pos=>
  subst hs
  have hO2:O = quSet r:=by
   rw [hO];simp [restD,setD]
  have HO2:=hIh hO2;have q6:((sb wSet).toList != [115,101,116]) = false:=neLF rfl;have q7:((sb wSet).toList == [115,101,116]) = true:=eqLT rfl
  have Hc:Hid (Calls Tryz.prog 71 #[.slice (some ⟨b,off,none⟩) n c] w1 (ReP (quSet r) w1)):=by
   have:=rquotaSet_calls w1 (.slice (some ⟨b,off,none⟩) n c) wQuota r (by rw [hn];exact RdS.below h H1.out.2.1) hsm hln;exact this
  generalize sb wSet = T1 at h1 q6 q7;generalize sb wQuota = T0 at h0 q1;clear hO h hsm hln hcell hF hg hn hw1 hc hb0 hr hO2;go_enter Tryz.func36,Tryz.ntmps36;go_upto_region 1 with fail;show Code.wp _ _ _ _ (w.alloc (.cells zeroCells 38));rw [← HW1.out];go_wp2_with fail
  with_reducible refine Hc.out.mono ?_
  rintro e w2 ⟨cs,bb,rfl,hcs,hv,hb⟩;have Hcs:=hIh hcs;have Hres:Hid (w2.heap[g]? = some (.cells zeroCells 38 (0,0)) ∧ Below w.heap.size w w2):=⟨blk_below H1.out.1 hb,H1.out.2.1.trans (hb.mono H1.out.2.1.size)⟩;have Hth2:Hid (w2.there g 0 cs.size):=there_blk Hres.out.1 (by rw [hcs.1,zeroCells_size];omega)
  have Hsz:Hid ((Tryz.prog.info? 38).map (·.size) = some cs.size):=by show _ = _;rw [hcs.1];exact infoReq
  have Hv:Hid (ReB O g w2 cs bb):=by
   show ReB _ _ _ _ _;rw [HO2.out];rw [H1.out.2.2] at hv;exact hv
  clear hv hb hcs;go_wp2_with ((with_reducible refine wpList_store_mid (op:=⟨none,.store 38 (.tmp 2) (.tmp 33),_,_,_,_⟩) ?_ 38 (.tmp 2) (.tmp 33) ?_ g 0 cs ?_ ?_ Hth2.out Hsz.out Hcs.out.2 ?_);exact rfl;exact rfl;exact rfl;exact rfl);exact re_any HF.out Hg.out Hres.out.1 zeroCells_size Hcs.out Hres.out.2 Hv.out rfl rfl
theorem rrest_limit (w:World) (v:Value) (a:Str) (r:List Str) (h:RdT w v (a :: r)) (hsm:∀ t ∈ a :: r,t.length ≤ 1048576) (hln:(a :: r).length ≤ 1048577) (hr:r ≠ []) (ha:a = wLimit):Calls Tryz.prog 36 #[v] w (ReP (restD a r) w):=by
 obtain ⟨b,off,c,rfl,hc,hb0,hcell⟩:=RdT.some h (by simp);obtain ⟨n,hn⟩ : ∃ n,n = (a :: r).length:=⟨_,rfl⟩;obtain ⟨O,hO⟩ : ∃ O,O = restD a r:=⟨_,rfl⟩;obtain ⟨g,hg⟩ : ∃ g,g = w.heap.size:=⟨_,rfl⟩;have hF:Tryz.f36.results = #[.cell 2 38,.tmp 3]:=rfl;have HF:=hIh hF;have Hg:=hIh hg;obtain ⟨w1,hw1⟩ : ∃ w1,w1 = w.alloc (.cells zeroCells 38):=⟨_,rfl⟩
 have H1:Hid (w1.heap[g]? = some (.cells zeroCells 38 (0,0)) ∧ Below w.heap.size w w1 ∧ w1.heap.size = g + 1):=by
  rw [hw1,hg];exact ⟨blk_new _ _,bel_alloc _ _,alloc_size _ _⟩
 have Hth:Hid (w1.there g 0 zeroCells.size):=there_blk H1.out.1 (Nat.le_refl _);have HW1:=hIh hw1;have hgs:w.heap.size = g:=hg.symm;rw [← hO,← hn];rw [← hn] at hc
 have hci:(n:Int) ≤ c:=by omega
 have hnb:(n:Int) ≤ 1048577:=by omega
 have Hn:=hIh hn
 have hn0:(0:Int) < n:=by rw [hn];simp only [List.length_cons];omega
 have Hb0:Hid (b < w.heap.size):=hb0
 obtain ⟨t1,r,rfl⟩ : ∃ t1 q,r = t1 :: q:=by
  cases r with
  | nil=>exact absurd rfl hr
  | cons t1 q=>exact ⟨t1,q,rfl⟩
 have hd:decide ((n:Int) < 2) = false:=decide_eq_false (by rw [hn];simp only [List.length_cons];omega)
 have hd2:¬ (n:Int) < 2:=by rw [hn];simp only [List.length_cons];omega
 have hn1:(1:Int) < n:=by rw [hn];simp only [List.length_cons];omega
 have h0:w1.cell? ⟨b,off,none⟩ = some (.string (sb a)):=bcell H1.out.2.1 (by have:=hcell 0 (by simp);simpa using this);have h1:w1.cell? ⟨b,off + 1,none⟩ = some (.string (sb t1)):=bcell H1.out.2.1 (hcell 1 (by simp));subst ha;have q1:((sb wLimit).toList == [113,117,111,116,97]) = false:=eqLF (by decide);have q2:((sb wLimit).toList == [108,105,109,105,116]) = true:=eqLT rfl
 by_cases hs:t1 = wSet
 case neg=>
  have Hno:Hid (O = none):=by
   show _ = _;rw [hO];simp [restD,setD,hs,show ¬ wLimit = wQuota from by decide]
  have q6:=neLT (l := [115,101,116]) hs;have q7:=eqLF (l := [115,101,116]) hs;generalize sb t1 = T1 at h1 q6 q7;generalize sb wLimit = T0 at h0 q1 q2;clear hO h hsm hln hcell hF hg hn hw1 hc hb0 hs hr;go_enter Tryz.func36,Tryz.ntmps36;go_upto_region 1 with fail;show Code.wp _ _ _ _ (w.alloc (.cells zeroCells 38));rw [← HW1.out];go_wp2_with ((with_reducible refine wpList_store_mid (op:=⟨none,.store 38 (.tmp 2) (.tmp 41),_,_,_,_⟩) ?_ 38 (.tmp 2) (.tmp 41) ?_ g 0 zeroCells ?_ ?_ Hth.out infoZ zero_one ?_);exact rfl;exact rfl;exact rfl;exact rfl);exact re_no HF.out Hg.out H1.out.1 zeroCells_size H1.out.2.1 Hno.out rfl rfl
 case pos=>
  subst hs
  have hO2:O = liSet r:=by
   rw [hO];simp [restD,setD,show ¬ wLimit = wQuota from by decide]
  have HO2:=hIh hO2;have q6:((sb wSet).toList != [115,101,116]) = false:=neLF rfl;have q7:((sb wSet).toList == [115,101,116]) = true:=eqLT rfl
  have Hc:Hid (Calls Tryz.prog 72 #[.slice (some ⟨b,off,none⟩) n c] w1 (ReP (liSet r) w1)):=by
   have:=rlimitSet_calls w1 (.slice (some ⟨b,off,none⟩) n c) wLimit r (by rw [hn];exact RdS.below h H1.out.2.1) hsm hln;exact this
  generalize sb wSet = T1 at h1 q6 q7;generalize sb wLimit = T0 at h0 q1 q2;clear hO h hsm hln hcell hF hg hn hw1 hc hb0 hr hO2;go_enter Tryz.func36,Tryz.ntmps36;go_upto_region 1 with fail;show Code.wp _ _ _ _ (w.alloc (.cells zeroCells 38));rw [← HW1.out];go_wp2_with fail
  with_reducible refine Hc.out.mono ?_
  rintro e w2 ⟨cs,bb,rfl,hcs,hv,hb⟩;have Hcs:=hIh hcs;have Hres:Hid (w2.heap[g]? = some (.cells zeroCells 38 (0,0)) ∧ Below w.heap.size w w2):=⟨blk_below H1.out.1 hb,H1.out.2.1.trans (hb.mono H1.out.2.1.size)⟩;have Hth2:Hid (w2.there g 0 cs.size):=there_blk Hres.out.1 (by rw [hcs.1,zeroCells_size];omega)
  have Hsz:Hid ((Tryz.prog.info? 38).map (·.size) = some cs.size):=by show _ = _;rw [hcs.1];exact infoReq
  have Hv:Hid (ReB O g w2 cs bb):=by
   show ReB _ _ _ _ _;rw [HO2.out];rw [H1.out.2.2] at hv;exact hv
  clear hv hb hcs;go_wp2_with ((with_reducible refine wpList_store_mid (op:=⟨none,.store 38 (.tmp 2) (.tmp 44),_,_,_,_⟩) ?_ 38 (.tmp 2) (.tmp 44) ?_ g 0 cs ?_ ?_ Hth2.out Hsz.out Hcs.out.2 ?_);exact rfl;exact rfl;exact rfl;exact rfl);exact re_any HF.out Hg.out Hres.out.1 zeroCells_size Hcs.out Hres.out.2 Hv.out rfl rfl
theorem rrest_delete (w:World) (v:Value) (a:Str) (r:List Str) (h:RdT w v (a :: r)) (hsm:∀ t ∈ a :: r,t.length ≤ 1048576) (hln:(a :: r).length ≤ 1048577) (hr:r ≠ []) (ha:a = wDelete):Calls Tryz.prog 36 #[v] w (ReP (restD a r) w):=by
 obtain ⟨b,off,c,rfl,hc,hb0,hcell⟩:=RdT.some h (by simp);obtain ⟨n,hn⟩ : ∃ n,n = (a :: r).length:=⟨_,rfl⟩;obtain ⟨O,hO⟩ : ∃ O,O = restD a r:=⟨_,rfl⟩;obtain ⟨g,hg⟩ : ∃ g,g = w.heap.size:=⟨_,rfl⟩;have hF:Tryz.f36.results = #[.cell 2 38,.tmp 3]:=rfl;have HF:=hIh hF;have Hg:=hIh hg;obtain ⟨w1,hw1⟩ : ∃ w1,w1 = w.alloc (.cells zeroCells 38):=⟨_,rfl⟩
 have H1:Hid (w1.heap[g]? = some (.cells zeroCells 38 (0,0)) ∧ Below w.heap.size w w1 ∧ w1.heap.size = g + 1):=by
  rw [hw1,hg];exact ⟨blk_new _ _,bel_alloc _ _,alloc_size _ _⟩
 have Hth:Hid (w1.there g 0 zeroCells.size):=there_blk H1.out.1 (Nat.le_refl _);have HW1:=hIh hw1;have hgs:w.heap.size = g:=hg.symm;rw [← hO,← hn];rw [← hn] at hc
 have hci:(n:Int) ≤ c:=by omega
 have hnb:(n:Int) ≤ 1048577:=by omega
 have Hn:=hIh hn
 have hn0:(0:Int) < n:=by rw [hn];simp only [List.length_cons];omega
 have Hb0:Hid (b < w.heap.size):=hb0
 obtain ⟨t1,r,rfl⟩ : ∃ t1 q,r = t1 :: q:=by
  cases r with
  | nil=>exact absurd rfl hr
  | cons t1 q=>exact ⟨t1,q,rfl⟩
 have hd:decide ((n:Int) < 2) = false:=decide_eq_false (by rw [hn];simp only [List.length_cons];omega)
 have hd2:¬ (n:Int) < 2:=by rw [hn];simp only [List.length_cons];omega
 have hn1:(1:Int) < n:=by rw [hn];simp only [List.length_cons];omega
 have h0:w1.cell? ⟨b,off,none⟩ = some (.string (sb a)):=bcell H1.out.2.1 (by have:=hcell 0 (by simp);simpa using this);have h1:w1.cell? ⟨b,off + 1,none⟩ = some (.string (sb t1)):=bcell H1.out.2.1 (hcell 1 (by simp));subst ha;have q1:((sb wDelete).toList == [113,117,111,116,97]) = false:=eqLF (by decide);have q2:((sb wDelete).toList == [108,105,109,105,116]) = false:=eqLF (by decide);have q3:((sb wDelete).toList == [100,101,108,101,116,101]) = true:=eqLT rfl
 by_cases h5:n < 3
 case pos=>
  have Hno:Hid (O = none):=by
   show _ = _;rw [hn] at h5;have:r = []:=List.eq_nil_of_length_eq_zero (by simp only [List.length_cons] at h5;omega);rw [hO,this];simp [restD,dropD,show ¬ wDelete = wQuota from by decide,show ¬ wDelete = wLimit from by decide]
  have hd3:decide ((n:Int) < 3) = true:=decide_eq_true (by omega)
  have hd4:(n:Int) < 3:=by omega
  generalize sb t1 = T1 at h1;generalize sb wDelete = T0 at h0 q1 q2 q3;clear hO h hsm hln hcell hF hg hn hw1 hc hb0 hr h5;go_enter Tryz.func36,Tryz.ntmps36;go_upto_region 1 with fail;show Code.wp _ _ _ _ (w.alloc (.cells zeroCells 38));rw [← HW1.out];go_wp2_with ((with_reducible refine wpList_store_mid (op:=⟨none,.store 38 (.tmp 2) (.tmp 50),_,_,_,_⟩) ?_ 38 (.tmp 2) (.tmp 50) ?_ g 0 zeroCells ?_ ?_ Hth.out infoZ zero_one ?_);exact rfl;exact rfl;exact rfl;exact rfl);exact re_no HF.out Hg.out H1.out.1 zeroCells_size H1.out.2.1 Hno.out rfl rfl
 obtain ⟨m,r,rfl⟩ : ∃ m q,r = m :: q:=by
  cases r with
  | nil=>rw [hn] at h5;simp at h5
  | cons m q=>exact ⟨m,q,rfl⟩
 have hd3:decide ((n:Int) < 3) = false:=decide_eq_false (by omega)
 have hd4:¬ (n:Int) < 3:=by omega
 have hn2:(2:Int) < n:=by omega
 have h2:w1.cell? ⟨b,off + 2,none⟩ = some (.string (sb m)):=bcell H1.out.2.1 (hcell 2 (by simp))
 have hO2:O = dropD (t1 :: m :: r):=by
  rw [hO];simp [restD,show ¬ wDelete = wQuota from by decide,show ¬ wDelete = wLimit from by decide]
 have HO2:=hIh hO2;obtain ⟨l,hl⟩ : ∃ l,l = wDelete :: t1 :: m :: r:=⟨_,rfl⟩
 have Hdr:Hid (l.drop 3 = r):=by show _ = _;rw [hl];rfl
 rw [← hl] at h hsm hln hn;have HN:Hid (n = l.length):=hn
 have Hmus:Hid (Calls Tryz.prog 66 #[.slice (some ⟨b,off,none⟩) n c,.int .i64 3] w1 (AtP l (optV [109,117,115,116] 0 (fun u=>dgI u 19) (l.drop 3)) w1)):=by
  have:=rmust_calls w1 _ l (RdS.below h H1.out.2.1) hsm hln 3 (by omega);rw [← hn] at this;exact this
 generalize sb wDelete = T0 at h0 q1 q2 q3;clear hO h hsm hln hcell hF hg hn hw1 hc hb0 hr h5 hO2 hl;go_enter Tryz.func36,Tryz.ntmps36;go_upto_region 1 with fail;show Code.wp _ _ _ _ (w.alloc (.cells zeroCells 38));rw [← HW1.out];go_wp2_with fail
 with_reducible refine Hmus.out.mono ?_
 rintro e X ⟨ve,j,ok,rfl,hj,hr,hb⟩;have Hr:=hIh (must_ways hr);have Hres:Hid (X.heap[g]? = some (.cells zeroCells 38 (0,0)) ∧ Below w.heap.size w X):=⟨blk_below H1.out.1 hb,H1.out.2.1.trans (hb.mono H1.out.2.1.size)⟩;have z1:=bcell hb h1;have z2:=bcell hb h2;have hth5:X.drew.there g 0 29:=there_drew (there_blk Hres.out.1 (by rw [zeroCells_size];omega))
 have hbg:b ≠ g:=by have:=Hb0.out;have:=Hg.out;omega
 have HZ:Hid (X.drew.cell? ⟨b,off + 1,none⟩ = some (.string (sb t1)) ∧ X.drew.cell? ⟨b,off + 2,none⟩ = some (.string (sb m))):=⟨z1,z2⟩
 have HS5:Hid (∀ q:List Value,(X.drew.setCells g 0 q).cell? ⟨b,off + 1,none⟩ = some (.string (sb t1)) ∧ (X.drew.setCells g 0 q).cell? ⟨b,off + 2,none⟩ = some (.string (sb m))):=fun q=>by
  refine ⟨?_,?_⟩ <;> rw [cell_setCells_far hbg]
  ·exact z1
  ·exact z2
 have hways:(ok = true ∧ j = n ∧ ReB O g X.drew (drCells t1 m ve) true) ∨ (ok = true ∧ j ≠ n ∧ ReB O g X.drew (drCells t1 m ve) false) ∨ (ok = false ∧ ReB O g X.drew (drCells t1 m ve) false):=by
  have h0:O = (mustS (l.drop 3)).bind fun c=>ended { ReqD.zero with op:=9,path:=t1,name:=m,ver:=c.1 } c.2:=by rw [HO2.out,Hdr.out];rfl
  have hnl:=HN.out;rcases Hr.out with ⟨h1,vn,rfl,h2⟩ | ⟨h1,h2⟩
  ·rw [h2] at h0
   simp only [Option.bind_some] at h0
   by_cases hjn:j = n
   ·rw [List.drop_eq_nil_of_le (by omega)] at h0
    exact .inl ⟨h1,hjn,.inl ⟨rfl,_,h0,ReqV.flat (g + 1) X.drew (r:={ ReqD.zero with op:=9,path:=t1,name:=m,ver:=vn }) ⟨rfl,rfl,rfl,rfl,rfl⟩⟩⟩
   ·rw [List.drop_eq_getElem_cons (by omega)] at h0
    exact .inr (.inl ⟨h1,hjn,.inr ⟨rfl,h0⟩⟩)
  ·rw [h2] at h0
   exact .inr (.inr ⟨h1,.inr ⟨rfl,h0⟩⟩)
 have hjn2:(j:Int) ≤ n:=by have:=HN.out;omega
 clear hj hr hb h0 h1 h2 hbg Hr Hmus;rcases hways with ⟨rfl,hjn,hv⟩ | ⟨rfl,hjn,hv⟩ | ⟨rfl,hv⟩
 case' inl=>
  have hbb:((j:Int) == (n:Int)) = true:=by simp;omega
  have hbc:(j == n) = true:=by simp;omega
 case inr.inr=>
  have Hv:=hIh hv;clear hv;go_wp2;refine wp_region_held_drew (S:=fun W=>W.cell? ⟨b,off + 1,none⟩ = some (.string (sb t1)) ∧ W.cell? ⟨b,off + 2,none⟩ = some (.string (sb m))) (by kernel_rfl) ?_ (fun hHeld=>?_)
  ·exact HZ.out
  refine wpAnyH_take (i:=0) (v:=?_) rfl (by kernel_rfl) (by kernel_rfl) (by kernel_rfl) (fun _ _ _ h=>h) (Or.inl ⟨by rfl,?_⟩) hHeld ?_
  rotate_left
  ·(intro w hSw;(try dsimp only at hSw);go_simp);all_goals with_reducible rfl
  try simp only [Act.put,List.setIfInBounds_toArray,List.set_cons_zero,List.set_cons_succ]
  refine wpAnyH_take (i:=1) (v:=?_) rfl (by kernel_rfl) (by kernel_rfl) (by kernel_rfl) (fun _ _ _ h=>h) (Or.inl ⟨by rfl,?_⟩) hHeld ?_
  rotate_left
  ·(intro w hSw;(try dsimp only at hSw);go_simp);all_goals with_reducible rfl
  try simp only [Act.put,List.setIfInBounds_toArray,List.set_cons_zero,List.set_cons_succ]
  refine wpAnyH_take (i:=2) (v:=?_) rfl (by kernel_rfl) (by kernel_rfl) (by kernel_rfl) (fun _ _ _ h=>h) (Or.inl ⟨by rfl,?_⟩) hHeld ?_
  rotate_left
  ·(intro w hSw;(try dsimp only at hSw);go_simp);all_goals with_reducible rfl
  try simp only [Act.put,List.setIfInBounds_toArray,List.set_cons_zero,List.set_cons_succ]
  refine wpAnyH_take (i:=3) (v:=?_) rfl (by kernel_rfl) (by kernel_rfl) (by kernel_rfl) (fun _ _ _ h=>h) (Or.inl ⟨by rfl,?_⟩) hHeld ?_
  rotate_left
  ·(intro w hSw;(try dsimp only at hSw);go_simp);all_goals with_reducible rfl
  try simp only [Act.put,List.setIfInBounds_toArray,List.set_cons_zero,List.set_cons_succ]
  refine wpAnyH_take (i:=4) (v:=?_) rfl (by kernel_rfl) (by kernel_rfl) (by kernel_rfl) (fun _ _ _ h=>h) (Or.inl ⟨by rfl,?_⟩) hHeld ?_
  rotate_left
  ·(intro w hSw;(try dsimp only at hSw);go_simp);all_goals with_reducible rfl
  try simp only [Act.put,List.setIfInBounds_toArray,List.set_cons_zero,List.set_cons_succ]
  refine wpAnyH_take (i:=5) (v:=?_) rfl (by kernel_rfl) (by kernel_rfl) (by kernel_rfl) (fun _ _ _ h=>h) (Or.inl ⟨by rfl,?_⟩) hHeld ?_
  rotate_left
  ·(intro w hSw;(try dsimp only at hSw);go_simp);all_goals with_reducible rfl
  try simp only [Act.put,List.setIfInBounds_toArray,List.set_cons_zero,List.set_cons_succ]
  refine wpAnyH_take (i:=6) (v:=?_) rfl (by kernel_rfl) (by kernel_rfl) (by kernel_rfl) (fun _ _ _ h=>h) (Or.inl ⟨by rfl,?_⟩) hHeld ?_
  rotate_left
  ·(intro w hSw;(try dsimp only at hSw);go_simp);all_goals with_reducible rfl
  try simp only [Act.put,List.setIfInBounds_toArray,List.set_cons_zero,List.set_cons_succ]
  refine wpAnyH_take (i:=7) (v:=?_) rfl (by kernel_rfl) (by kernel_rfl) (by kernel_rfl) (fun _ _ _ h=>h) (Or.inl ⟨by rfl,?_⟩) hHeld ?_
  rotate_left
  ·(intro w hSw;(try dsimp only at hSw);go_simp);all_goals with_reducible rfl
  try simp only [Act.put,List.setIfInBounds_toArray,List.set_cons_zero,List.set_cons_succ]
  refine wpAnyH_take (i:=8) (v:=?_) rfl (by kernel_rfl) (by kernel_rfl) (by kernel_rfl) (fun _ _ _ h=>h) (Or.inl ⟨by rfl,?_⟩) hHeld ?_
  rotate_left
  ·(intro w hSw;(try dsimp only at hSw);go_simp);all_goals with_reducible rfl
  try simp only [Act.put,List.setIfInBounds_toArray,List.set_cons_zero,List.set_cons_succ]
  refine wpAnyH_take (i:=9) (v:=?_) rfl (by kernel_rfl) (by kernel_rfl) (by kernel_rfl) (fun _ _ _ h=>h) (Or.inl ⟨by rfl,?_⟩) hHeld ?_
  rotate_left
  ·(intro w hSw;(try dsimp only at hSw);go_simp);all_goals with_reducible rfl
  try simp only [Act.put,List.setIfInBounds_toArray,List.set_cons_zero,List.set_cons_succ]
  refine wpAnyH_take (i:=10) (v:=undef) rfl (by kernel_rfl) (by kernel_rfl) (by kernel_rfl) (fun _ _ _ h=>h) (Or.inr ⟨by kernel_rfl,rfl⟩) hHeld ?_
  try simp only [Act.put,List.setIfInBounds_toArray,List.set_cons_zero,List.set_cons_succ]
  refine wpAnyH_take (i:=11) (v:=undef) rfl (by kernel_rfl) (by kernel_rfl) (by kernel_rfl) (fun _ _ _ h=>h) (Or.inr ⟨by kernel_rfl,rfl⟩) hHeld ?_
  try simp only [Act.put,List.setIfInBounds_toArray,List.set_cons_zero,List.set_cons_succ]
  refine wpAnyH_take (i:=12) (v:=undef) rfl (by kernel_rfl) (by kernel_rfl) (by kernel_rfl) (fun _ _ _ h=>h) (Or.inr ⟨by kernel_rfl,rfl⟩) hHeld ?_
  try simp only [Act.put,List.setIfInBounds_toArray,List.set_cons_zero,List.set_cons_succ]
  refine wpAnyH_take (i:=13) (v:=?_) rfl (by kernel_rfl) (by kernel_rfl) (by kernel_rfl) (fun _ _ _ h=>h) (Or.inl ⟨by rfl,?_⟩) hHeld ?_
  rotate_left
  ·(intro w hSw;(try dsimp only at hSw);go_simp);all_goals with_reducible rfl
  try simp only [Act.put,List.setIfInBounds_toArray,List.set_cons_zero,List.set_cons_succ]
  refine wpAnyH_ready (rs := [14]) (by kernel_rfl) (by simp) ?_;refine AllReadyH.cons (o:=⟨none,.store 38 (.tmp 2) (.tmp 64),_,_,_,_⟩) rfl (fun K hK=>?_) AllReadyH.nil;go_simp;refine hK.out _ _ ?_ (fun hHeld2=>?_)
  ·exact HS5.out _
  clear hK K
  try simp only [Act.put,List.setIfInBounds_toArray,List.set_cons_zero,List.set_cons_succ]
  refine wpAnyH_take (i:=15) (oi:=⟨some 3,.assign (.tmp 70),_,_,_,_⟩) (v:=?_) rfl (by kernel_rfl) (by kernel_rfl) (by kernel_rfl) (fun _ _ _ h=>h) (Or.inl ⟨by rfl,?_⟩) hHeld2 ?_
  rotate_left
  ·(intro w hSw;(try dsimp only at hSw);go_simp);all_goals with_reducible rfl
  try simp only [Act.put,List.setIfInBounds_toArray,List.set_cons_zero,List.set_cons_succ]
  refine wpAnyH_done (by kernel_rfl) ?_ _;go_wp2;exact re_any HF.out Hg.out (W:=X.drew) (cs:=drCells t1 m ve) Hres.out.1 zeroCells_size ⟨rfl,oneD t1 m ve⟩ Hres.out.2.drew Hv.out rfl rfl
 case' inr.inl=>
  have hbb:((j:Int) == (n:Int)) = false:=by simp;omega
  have hbc:(j == n) = false:=by simp;omega
 all_goals
  have Hv:=hIh hv;clear hv
  try clear hjn
  go_wp2;go_region_held3 (fun W=>W.cell? ⟨b,off + 1,none⟩ = some (.string (sb t1)) ∧ W.cell? ⟨b,off + 2,none⟩ = some (.string (sb m))) (first | with_reducible exact ⟨z1,z2⟩ | with_reducible exact HZ.out | with_reducible exact HS5.out _) (fail);go_wp2;exact re_any HF.out Hg.out (W:=X.drew) (cs:=drCells t1 m ve) Hres.out.1 zeroCells_size ⟨rfl,oneD t1 m ve⟩ Hres.out.2.drew Hv.out rfl rfl
theorem rrest_watch (w:World) (v:Value) (a:Str) (r:List Str) (h:RdT w v (a :: r)) (hsm:∀ t ∈ a :: r,t.length ≤ 1048576) (hln:(a :: r).length ≤ 1048577) (hr:r ≠ []) (ha:a = wWatch):Calls Tryz.prog 36 #[v] w (ReP (restD a r) w):=by
 obtain ⟨b,off,c,rfl,hc,hb0,hcell⟩:=RdT.some h (by simp);obtain ⟨n,hn⟩ : ∃ n,n = (a :: r).length:=⟨_,rfl⟩;obtain ⟨O,hO⟩ : ∃ O,O = restD a r:=⟨_,rfl⟩;obtain ⟨g,hg⟩ : ∃ g,g = w.heap.size:=⟨_,rfl⟩;have hF:Tryz.f36.results = #[.cell 2 38,.tmp 3]:=rfl;have HF:=hIh hF;have Hg:=hIh hg;obtain ⟨w1,hw1⟩ : ∃ w1,w1 = w.alloc (.cells zeroCells 38):=⟨_,rfl⟩
 have H1:Hid (w1.heap[g]? = some (.cells zeroCells 38 (0,0)) ∧ Below w.heap.size w w1 ∧ w1.heap.size = g + 1):=by
  rw [hw1,hg];exact ⟨blk_new _ _,bel_alloc _ _,alloc_size _ _⟩
 have Hth:Hid (w1.there g 0 zeroCells.size):=there_blk H1.out.1 (Nat.le_refl _);have HW1:=hIh hw1;have hgs:w.heap.size = g:=hg.symm;rw [← hO,← hn];rw [← hn] at hc
 have hci:(n:Int) ≤ c:=by omega
 have hnb:(n:Int) ≤ 1048577:=by omega
 have Hn:=hIh hn
 have hn0:(0:Int) < n:=by rw [hn];simp only [List.length_cons];omega
 have Hb0:Hid (b < w.heap.size):=hb0
 obtain ⟨t1,r,rfl⟩ : ∃ t1 q,r = t1 :: q:=by
  cases r with
  | nil=>exact absurd rfl hr
  | cons t1 q=>exact ⟨t1,q,rfl⟩
 have hd:decide ((n:Int) < 2) = false:=decide_eq_false (by rw [hn];simp only [List.length_cons];omega)
 have hd2:¬ (n:Int) < 2:=by rw [hn];simp only [List.length_cons];omega
 have hn1:(1:Int) < n:=by rw [hn];simp only [List.length_cons];omega
 have h0:w1.cell? ⟨b,off,none⟩ = some (.string (sb a)):=bcell H1.out.2.1 (by have:=hcell 0 (by simp);simpa using this);have h1:w1.cell? ⟨b,off + 1,none⟩ = some (.string (sb t1)):=bcell H1.out.2.1 (hcell 1 (by simp));subst ha;have q1:((sb wWatch).toList == [113,117,111,116,97]) = false:=eqLF (by decide);have q2:((sb wWatch).toList == [108,105,109,105,116]) = false:=eqLF (by decide);have q3:((sb wWatch).toList == [100,101,108,101,116,101]) = false:=eqLF (by decide);have q4:((sb wWatch).toList == [119,97,116,99,104]) = true:=eqLT rfl
 by_cases h5:n < 3
 case pos=>
  have Hno:Hid (O = none):=by
   show _ = _;rw [hn] at h5;have:r = []:=List.eq_nil_of_length_eq_zero (by simp only [List.length_cons] at h5;omega);rw [hO,this];simp [restD,watchD,show ¬ wWatch = wQuota from by decide,show ¬ wWatch = wLimit from by decide,show ¬ wWatch = wDelete from by decide]
  have hd3:decide ((n:Int) < 3) = true:=decide_eq_true (by omega)
  have hd4:(n:Int) < 3:=by omega
  generalize sb t1 = T1 at h1;generalize sb wWatch = T0 at h0 q1 q2 q3 q4;clear hO h hsm hln hcell hF hg hn hw1 hc hb0 hr h5;go_enter Tryz.func36,Tryz.ntmps36;go_upto_region 1 with fail;show Code.wp _ _ _ _ (w.alloc (.cells zeroCells 38));rw [← HW1.out];go_wp2_with ((with_reducible refine wpList_store_mid (op:=⟨none,.store 38 (.tmp 2) (.tmp 75),_,_,_,_⟩) ?_ 38 (.tmp 2) (.tmp 75) ?_ g 0 zeroCells ?_ ?_ Hth.out infoZ zero_one ?_);exact rfl;exact rfl;exact rfl;exact rfl);exact re_no HF.out Hg.out H1.out.1 zeroCells_size H1.out.2.1 Hno.out rfl rfl
 obtain ⟨m,r,rfl⟩ : ∃ m q,r = m :: q:=by
  cases r with
  | nil=>rw [hn] at h5;simp at h5
  | cons m q=>exact ⟨m,q,rfl⟩
 have hd3:decide ((n:Int) < 3) = false:=decide_eq_false (by omega)
 have hd4:¬ (n:Int) < 3:=by omega
 have hn2:(2:Int) < n:=by omega
 have h2:w1.cell? ⟨b,off + 2,none⟩ = some (.string (sb m)):=bcell H1.out.2.1 (hcell 2 (by simp))
 have hO2:O = watchD (t1 :: m :: r):=by
  rw [hO];simp [restD,show ¬ wWatch = wQuota from by decide,show ¬ wWatch = wLimit from by decide,show ¬ wWatch = wDelete from by decide]
 have HO2:=hIh hO2;obtain ⟨l,hl⟩ : ∃ l,l = wWatch :: t1 :: m :: r:=⟨_,rfl⟩
 have Hdr:Hid (l.drop 3 = r):=by show _ = _;rw [hl];rfl
 rw [← hl] at h hsm hln hn;have HN:Hid (n = l.length):=hn;have Hdig:Hid (∀ W,Calls Tryz.prog 73 #[.string (sb m),.int .i64 19] W (NuPost W (dgI m 19))):=fun W=>rdigits_calls W m 19 (by omega)
 have Hsml:Hid (∀ W,Below w.heap.size w W → Calls Tryz.prog 65 #[.slice (some ⟨b,off,none⟩) n c,.int .i64 3,.string (ByteArray.mk #[109,111,115,116]),.int .i64 100] W (AtP l (smallS wMost 100 (l.drop 3)) W)):=fun W hb=>by
  have:=rsmall_calls W _ l (RdS.below h hb) hsm hln 3 (by omega) wMost 100;rw [← hn] at this;rw [smallS_V];exact this
 have Hdg:Hid ((∃ k:Nat,dgI m 19 = some (k:Int) ∧ digitsS m 19 = some k) ∨ (dgI m 19 = none ∧ digitsS m 19 = none)):=by
  unfold dgI
  cases digitsS m 19 with
  | none=>exact .inr ⟨rfl,rfl⟩
  | some k=>exact .inl ⟨k,rfl,rfl⟩
 generalize hM:sb m = SM at h2 Hdig;generalize sb wWatch = T0 at h0 q1 q2 q3 q4;clear hO h hsm hln hcell hF hg hn hw1 hc hb0 hr h5 hO2 hl hM;go_enter Tryz.func36,Tryz.ntmps36;go_upto_region 1 with fail;show Code.wp _ _ _ _ (w.alloc (.cells zeroCells 38));rw [← HW1.out];go_wp2_with fail
 with_reducible refine (Hdig.out _).mono ?_
 rintro e X ⟨ve,ok1,rfl,hr1,hb1⟩;have Hr1:=hIh hr1;have HB1:=hIh (H1.out.2.1.trans (hb1.mono H1.out.2.1.size));have Hbb1:=hIh hb1;have z1:=bcell hb1 h1;clear hr1 hb1 h1 h2 h0;have Hc2:=hIh (Hsml.out X HB1.out);go_wp2_with fail
 with_reducible refine Hc2.out.mono ?_
 rintro e Y ⟨mo,j,ok2,rfl,hj,hr2,hb2⟩;have z1':=bcell hb2 z1;have Hres:Hid (Y.heap[g]? = some (.cells zeroCells 38 (0,0)) ∧ Below w.heap.size w Y):=⟨blk_below (blk_below H1.out.1 Hbb1.out) hb2,HB1.out.trans (hb2.mono HB1.out.size)⟩;have Hth2:Hid (Y.there g 0 (waCells t1 ve mo).size):=there_blk Hres.out.1 (by rw [zeroCells_size];show 29 ≤ 29;omega)
 have hways:(ok1 = true ∧ ok2 = true ∧ j = n ∧ ReB O g Y (waCells t1 ve mo) true) ∨ (ok1 = true ∧ ok2 = true ∧ j ≠ n ∧ ReB O g Y (waCells t1 ve mo) false) ∨ (ok1 = true ∧ ok2 = false ∧ ReB O g Y (waCells t1 ve mo) false) ∨ (ok1 = false ∧ ReB O g Y (waCells t1 ve mo) false):=by
  have h0:O = (digitsS m 19).bind fun n=>(smallS wMost 100 (l.drop 3)).bind fun x=>ended { ReqD.zero with op:=13,path:=t1,ver:=n,most:=x.1 } x.2:=by rw [HO2.out,Hdr.out];rfl
  have hnl:=HN.out;rcases Hr1.out with ⟨k,h1,h2,h3⟩ | ⟨h1,h3⟩
  ·rcases Hdg.out with ⟨k2,h4,h5⟩ | ⟨h4, -⟩
   ·rw [h4] at h1
    obtain rfl:=Option.some.inj h1;subst h2;rw [h5] at h0;simp only [Option.bind_some] at h0;rcases hr2 with ⟨h6,h7⟩ | ⟨h6,h7⟩
    ·rw [h7] at h0
     simp only [Option.bind_some] at h0
     by_cases hjn:j = n
     ·rw [List.drop_eq_nil_of_le (by omega)] at h0
      exact .inl ⟨h3,h6,hjn,.inl ⟨rfl,_,h0,ReqV.flat (g + 1) Y (r:={ ReqD.zero with op:=13,path:=t1,ver:=k2,most:=mo }) ⟨rfl,rfl,rfl,rfl,rfl⟩⟩⟩
     ·rw [List.drop_eq_getElem_cons (by omega)] at h0
      exact .inr (.inl ⟨h3,h6,hjn,.inr ⟨rfl,h0⟩⟩)
    ·rw [h7] at h0
     exact .inr (.inr (.inl ⟨h3,h6,.inr ⟨rfl,h0⟩⟩))
   ·rw [h4] at h1;cases h1
  ·rcases Hdg.out with ⟨k2,h4,h5⟩ | ⟨-,h5⟩
   ·rw [h4] at h1;cases h1
   ·rw [h5] at h0
    exact .inr (.inr (.inr ⟨h3,.inr ⟨rfl,h0⟩⟩))
 have hjn2:(j:Int) ≤ n:=by have:=HN.out;omega
 clear hj hr2 hb2 z1 Hr1 Hdg Hc2;rcases hways with ⟨rfl,rfl,hjn,hv⟩ | ⟨rfl,rfl,hjn,hv⟩ | ⟨rfl,rfl,hv⟩ | ⟨rfl,hv⟩
 case' inl=>
  have hbb:((j:Int) == (n:Int)) = true:=by simp;omega
  have hbc:(j == n) = true:=by simp;omega
 case' inr.inl=>
  have hbb:((j:Int) == (n:Int)) = false:=by simp;omega
  have hbc:(j == n) = false:=by simp;omega
 all_goals
  have Hv:=hIh hv;clear hv
  try clear hjn
  go_wp2_with ((with_reducible refine wpList_store_mid (op:=⟨none,.store 38 (.tmp 2) (.tmp 94),_,_,_,_⟩) ?_ 38 (.tmp 2) (.tmp 94) ?_ g 0 (waCells t1 ve mo) ?_ ?_ Hth2.out (infoW t1 ve mo) (oneW t1 ve mo) ?_);exact rfl;exact rfl;exact rfl;exact rfl);exact re_any HF.out Hg.out Hres.out.1 zeroCells_size ⟨rfl,oneW t1 ve mo⟩ Hres.out.2 Hv.out rfl rfl
theorem rrest_other (w:World) (v:Value) (a:Str) (r:List Str) (h:RdT w v (a :: r)) (hsm:∀ t ∈ a :: r,t.length ≤ 1048576) (hln:(a :: r).length ≤ 1048577) (hr:r ≠ []) (k1:a ≠ wQuota) (k2:a ≠ wLimit) (k3:a ≠ wDelete) (k4:a ≠ wWatch) (k5:a ≠ wBind):Calls Tryz.prog 36 #[v] w (ReP (restD a r) w):=by
 obtain ⟨b,off,c,rfl,hc,hb0,hcell⟩:=RdT.some h (by simp);obtain ⟨n,hn⟩ : ∃ n,n = (a :: r).length:=⟨_,rfl⟩;obtain ⟨O,hO⟩ : ∃ O,O = restD a r:=⟨_,rfl⟩;obtain ⟨g,hg⟩ : ∃ g,g = w.heap.size:=⟨_,rfl⟩;have hF:Tryz.f36.results = #[.cell 2 38,.tmp 3]:=rfl;have HF:=hIh hF;have Hg:=hIh hg;obtain ⟨w1,hw1⟩ : ∃ w1,w1 = w.alloc (.cells zeroCells 38):=⟨_,rfl⟩
 have H1:Hid (w1.heap[g]? = some (.cells zeroCells 38 (0,0)) ∧ Below w.heap.size w w1 ∧ w1.heap.size = g + 1):=by
  rw [hw1,hg];exact ⟨blk_new _ _,bel_alloc _ _,alloc_size _ _⟩
 have Hth:Hid (w1.there g 0 zeroCells.size):=there_blk H1.out.1 (Nat.le_refl _);have HW1:=hIh hw1;have hgs:w.heap.size = g:=hg.symm;rw [← hO,← hn];rw [← hn] at hc
 have hci:(n:Int) ≤ c:=by omega
 have hnb:(n:Int) ≤ 1048577:=by omega
 have Hn:=hIh hn
 have hn0:(0:Int) < n:=by rw [hn];simp only [List.length_cons];omega
 have Hb0:Hid (b < w.heap.size):=hb0
 obtain ⟨t1,r,rfl⟩ : ∃ t1 q,r = t1 :: q:=by
  cases r with
  | nil=>exact absurd rfl hr
  | cons t1 q=>exact ⟨t1,q,rfl⟩
 have hd:decide ((n:Int) < 2) = false:=decide_eq_false (by rw [hn];simp only [List.length_cons];omega)
 have hd2:¬ (n:Int) < 2:=by rw [hn];simp only [List.length_cons];omega
 have hn1:(1:Int) < n:=by rw [hn];simp only [List.length_cons];omega
 have h0:w1.cell? ⟨b,off,none⟩ = some (.string (sb a)):=bcell H1.out.2.1 (by have:=hcell 0 (by simp);simpa using this);have h1:w1.cell? ⟨b,off + 1,none⟩ = some (.string (sb t1)):=bcell H1.out.2.1 (hcell 1 (by simp))
 have Hno:Hid (O = none):=by
  show _ = _;rw [hO];simp [restD,k1,k2,k3,k4,k5]
 have q1:((sb a).toList == [113,117,111,116,97]) = false:=eqLF k1;have q2:((sb a).toList == [108,105,109,105,116]) = false:=eqLF k2;have q3:((sb a).toList == [100,101,108,101,116,101]) = false:=eqLF k3;have q4:((sb a).toList == [119,97,116,99,104]) = false:=eqLF k4;have q5:((sb a).toList == [98,105,110,100]) = false:=eqLF k5;generalize sb a = T0 at h0 q1 q2 q3 q4 q5;generalize sb t1 = T1 at h1;clear hO h hsm hln hcell hF hg hn hw1 hc hb0 hr k1 k2 k3 k4 k5;go_enter Tryz.func36,Tryz.ntmps36;go_upto_region 1 with fail;show Code.wp _ _ _ _ (w.alloc (.cells zeroCells 38));rw [← HW1.out];go_wp2_with ((with_reducible refine wpList_store_mid (op:=⟨none,.store 38 (.tmp 2) (.tmp 143),_,_,_,_⟩) ?_ 38 (.tmp 2) (.tmp 143) ?_ g 0 zeroCells ?_ ?_ Hth.out infoZ zero_one ?_);exact rfl;exact rfl;exact rfl;exact rfl);exact re_no HF.out Hg.out H1.out.1 zeroCells_size H1.out.2.1 Hno.out rfl rfl
end
end Go.Proofs.YtpfkkagkbneilaaGreatDoor
