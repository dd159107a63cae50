/- Texts M7, N1, N2, N3, N4, N5 of the proof of BursarAsks, joined. -/
import Derived.Test.YtpfkkagkbneilaaGreatDoorZ16
import Derived.Test.YtpfkkagkbneilaaGreatDoorZ17
import Derived.Test.YtpfkkagkbneilaaGreatDoorZ23
import Derived.Deep.QuietTactic
import Derived.BigQuiet
namespace Go.Proofs.YtpfkkagkbneilaaGreatDoor
open Go.RowKit
set_option linter.unusedVariables false
set_option linter.unusedSimpArgs false
def AkB (o:Option ReqD) (g:Nat) (W:World) (cs:Array Value) (b:Bool):Prop:=(b = true ∧ ∃ rq,o = some rq ∧ ReqV (g + 1) W cs rq) ∨ (b = false ∧ o = none ∧ cs = zeroCells)
theorem ak_any {F:Func} {i j:Tmp} (hF:F.results = #[.cell i 38,.tmp j]) {tmps:Array Value} {t:Str} {w W:World} {g:Nat} {C cs:Array Value} {b:Bool} (hg:g = w.heap.size) (hq:W.heap[g]? = some (.cells C 38 (0,0))) (hC:C.size = 29) (hs:cs.size = 29) (hb:Below w.heap.size w W)
  (hv:AkB (askD (selParse termR) t) g W cs b) (h2:tmps.getD i undef = .pointer (some ⟨g,0,none⟩)) (h3:tmps.getD j undef = .bool b) :
  bodyPost Tryz.prog F (AkP (selParse termR) t w) Exit.ret { tmps:=tmps,defers := [] } (W.setCells g 0 cs.toList):=by
 obtain ⟨s1,f1⟩:=req_store hq hC hs
 refine bodyPost_ret (resultsR hF h2 h3 s1 hs) rfl ⟨cs,b,rfl,?_,hb.trans (f1.to_below (fun k hk=>by omega) hb.size)⟩
 rcases hv with ⟨h,rq,h4,h5⟩ | h
 ·exact .inl ⟨h,rq,h4,(h5.fr f1 (fun k h6 h7=>by omega)).mono (by omega)⟩
 ·exact .inr h
theorem ReqV.keep {B:Nat} {w w1:World} {cs:Array Value} {r:ReqD} (h:ReqV B w cs r) {S:Nat → Prop} (hf:Fr S w w1) (hS:∀ k,k < w.heap.size → ¬ S k):ReqV B w1 cs r:=by
 obtain ⟨lv,pv,hv,rv,tv,pl,tl,h1,h2,⟨h3,h4⟩,h5,h6,⟨h7,h8⟩,h9⟩:=h
 refine ⟨lv,pv,hv,rv,tv,pl,tl,h1,RdS.keep lbC_len (by decide) h2 hf (fun hl k hk=>hS k (RdS.lt lbC_len (by decide) h2 hl k hk)),⟨⟨RdS.keep ptC_len (by decide) h3.1 hf (fun hl k hk=>hS k (RdS.lt ptC_len (by decide) h3.1 hl k hk)),fun e he=>⟨?_,?_⟩⟩,h4⟩,
  RdS.keep amtC_len (by decide) h5 hf (fun hl k hk=>hS k (RdS.lt amtC_len (by decide) h5 hl k hk)),RdS.keep ruC_len (by decide) h6 hf (fun hl k hk=>hS k (RdS.lt ruC_len (by decide) h6 hl k hk)),⟨⟨RdS.keep tmC_len (by decide) h7.1 hf (fun hl k hk=>hS k (RdS.lt tmC_len (by decide) h7.1 hl k hk)),fun e he=>?_⟩,h8⟩,h9⟩
 ·exact RdS.keep amtC_len (by decide) (h3.2 e he).1 hf (fun hl k hk=>hS k (RdS.lt amtC_len (by decide) (h3.2 e he).1 hl k hk))
 ·exact RdS.keep amtC_len (by decide) (h3.2 e he).2 hf (fun hl k hk=>hS k (RdS.lt amtC_len (by decide) (h3.2 e he).2 hl k hk))
 ·exact RdS.keep strC_len (by decide) (h7.2 e he) hf (fun hl k hk=>hS k (RdS.lt strC_len (by decide) (h7.2 e he) hl k hk))
def NlLoop (s:Str) (w1:World) (v4:Value) (wr:World):Prop := ∃ i:Nat,v4 = .int .i64 i ∧ i ≤ s.length ∧ (∀ j (h:j < s.length),j < i → s[j] ≠ 10) ∧ wr = w1
theorem dryS_len (u:Str):(dryS u).2.length ≤ u.length:=by
 unfold dryS
 split
 ·exact behindS_len u 1
 ·exact Nat.le_refl _
set_option maxRecDepth 100000 in
set_option maxHeartbeats 12800000 in
theorem rask_calls (w:World) (s:Str) (hs:s.length ≤ 1048576):Calls Tryz.prog 6 #[.string (sb s)] w (AkP (selParse termR) s w):=by
 obtain ⟨g,hg⟩ : ∃ g,g = w.heap.size:=⟨_,rfl⟩
 have hF:Tryz.f6.results = #[.cell 2 38,.tmp 3]:=rfl
 have HF:=Lib.hid hF
 have Hg:=Lib.hid hg
 obtain ⟨w1,hw1⟩ : ∃ w1,w1 = w.alloc (.cells zeroCells 38):=⟨_,rfl⟩
 have H1:Hid (w1.heap[g]? = some (.cells zeroCells 38 (0,0)) ∧ Below w.heap.size w w1 ∧ w1.heap.size = g + 1):=by
  rw [hw1,hg];exact ⟨blk_new _ _,bel_alloc _ _,alloc_size _ _⟩
 have HW1:=Lib.hid hw1
 have hgs:w.heap.size = g:=hg.symm
 have Hth1:Hid (w1.there g 0 zeroCells.size):=there_blk H1.out.1 (Nat.le_refl _)
 obtain ⟨u,hu⟩ : ∃ u,u = s.takeWhile (· != 35):=⟨_,rfl⟩
 have hul:u.length ≤ 1048576:=by rw [hu];exact Nat.le_trans (takeWhile_len _ _) hs
 have Hbare:Hid (∀ W,Calls Tryz.prog 15 #[.string (sb s)] W fun e w'=>e = .returned (.string (sb u)) ∧ w' = W):=fun W=>by rw [hu];exact bare_calls W s hs
 have Hdry:Hid (∀ W,Calls Tryz.prog 14 #[.string (sb u)] W fun e w'=>e = .returned (.tuple #[.bool (dryS u).1,.string (sb (dryS u).2)]) ∧ Below W.heap.size W w'):=fun W=>rdryOf_calls W u hul
 obtain ⟨x,hx⟩ : ∃ x,x = (dryS u).2:=⟨_,rfl⟩
 obtain ⟨D,hD⟩ : ∃ D,D = (dryS u).1:=⟨_,rfl⟩
 have hxl:x.length ≤ 1048576:=by rw [hx];exact Nat.le_trans (dryS_len u) hul
 have Hreq:Hid (∀ W,Calls Tryz.prog 16 #[.string (sb x)] W (ReP (requestD (selParse termR) x) W)):=fun W=>rrequest_calls W x hxl
 have Hak1:Hid ((10:UInt8) ∈ s → askD (selParse termR) s = none):=fun h=>by unfold askD;rw [if_pos h]
 have Hak2:Hid (¬ (10:UInt8) ∈ s → askD (selParse termR) s = (requestD (selParse termR) x).map fun q=>{ q with dry:=D }):=fun h=>by unfold askD;rw [if_neg h,← hu,← hx,← hD]
 rw [← hx,← hD] at Hdry
 have hst:(sb s).size = s.length:=sb_size s
 have Hix:=Lib.hid (fun W (i:Nat) (h:i < s.length)=>run_ix W s i s[i] (List.getElem?_eq_getElem h))
 have hnb:(s.length:Int) ≤ 1048576:=by omega
 obtain ⟨N,hN⟩ : ∃ N,N = s.length:=⟨_,rfl⟩
 rw [← hN] at hst hnb
 have HN:=Lib.hid hN
 have Hst:Hid (NlLoop s w1 (.int .i64 0) w1):=⟨0,rfl,by omega,fun j h1 h2=>by omega,rfl⟩
 generalize sb s = S at hst Hix Hbare
 generalize sb u = U at Hbare Hdry
 generalize sb x = SX at Hdry Hreq
 clear hF hg hw1 hs hu hul hx hD hxl hN
 go_enter Tryz.func6,Tryz.ntmps6
 go_upto_region 1 with fail
 show Code.wp _ _ _ _ (w.alloc (.cells zeroCells 38))
 rw [← HW1.out]
 go_wp2_with fail
 go_loopw [4] (fun v4 wr=>NlLoop s w1 v4 wr) (fun v4 _=>N - (intOf v4).toNat)
 case atStart=>exact Hst.out
 case round=>
  clear Hst
  obtain ⟨i,rfl,hi,hno,hwr⟩:=hrel
  obtain rfl:=hwr
  rw [← HN.out] at hi
  have Hno:=Lib.hid hno
  clear hno
  by_cases hlt:i < N
  ·have hlt' : i < s.length:=by rw [← HN.out];exact hlt
   have hb:decide ((i:Int) < N) = true:=decide_eq_true (by omega)
   have hb2:(i:Int) < N:=by omega
   have hix:=fun W=>Hix.out W i hlt'
   by_cases hc:s[i] = 10
   ·have Hres:Hid (AkB (askD (selParse termR) s) g wr zeroCells false):=.inr ⟨rfl,Hak1.out (by rw [← hc];exact List.getElem_mem hlt'),rfl⟩
    have hcb:=byteT 10 rfl hc
    generalize s[i].toNat = cn at hix hcb
    clear hc hlt' Hix
    go_wp2_with ((with_reducible refine wpList_store_mid (op:=⟨none,.store 38 (.tmp 2) (.tmp 19),_,_,_,_⟩) ?_ 38 (.tmp 2) (.tmp 19) ?_ g 0 zeroCells ?_ ?_ Hth1.out infoZ zero_one ?_);exact rfl;exact rfl;exact rfl;exact rfl)
    exact ak_any HF.out Hg.out H1.out.1 zeroCells_size zeroCells_size H1.out.2.1 Hres.out rfl rfl
   ·have hcb:=byteF 10 rfl hc
    have Hk:Hid (NlLoop s wr (.int .i64 ((i:Int) + 1)) wr):=⟨i + 1,by simp,by omega,fun j h1 h2=>by
     by_cases e:j = i
     ·subst e;exact hc
     ·exact Hno.out j h1 (by omega),rfl⟩
    generalize s[i].toNat = cn at hix hcb
    clear hc hlt' Hix
    go_wp2
    go_roundw
    case rel=>exact Hk.out
    case measure=>simp [intOf];omega
  ·have hnin:¬ (10:UInt8) ∈ s:=fun hm=>by
    obtain ⟨j,hj,e⟩:=List.mem_iff_getElem.1 hm
    exact Hno.out j hj (by have:=HN.out;omega) e
   have HA:=Lib.hid (Hak2.out hnin)
   have hb:decide ((i:Int) < N) = false:=decide_eq_false (by omega)
   have hb2:¬ (i:Int) < N:=by omega
   clear hnin hlt hi Hix
   go_wp2_with fail
   with_reducible refine (Hbare.out _).mono ?_
   rintro e X ⟨rfl,hX⟩
   obtain rfl:=hX.symm
   go_wp2_with fail
   with_reducible refine (Hdry.out _).mono ?_
   rintro e X2 ⟨rfl,hb2'⟩
   have HB2:=Lib.hid hb2'
   clear hb2'
   go_wp2_with fail
   with_reducible refine (Hreq.out _).mono ?_
   rintro e Y ⟨cs,bb,rfl,hcs,hv,hb3⟩
   have Hcs:=Lib.hid hcs
   have hY1:Below wr.heap.size wr Y:=HB2.out.trans (hb3.mono HB2.out.size)
   have Hv:=Lib.hid hv
   obtain ⟨gq,hgq⟩ : ∃ gq,gq = Y.heap.size:=⟨_,rfl⟩
   have hqs:Y.heap.size = gq:=hgq.symm
   have hqa:(Y.alloc (.cells zeroCells 38)).heap[gq]? = some (.cells zeroCells 38 (0,0)):=by rw [hgq];exact blk_new _ _
   have Hth2:Hid ((Y.alloc (.cells zeroCells 38)).there gq 0 cs.size):=there_blk hqa (by rw [hcs.1,zeroCells_size];omega)
   have Hsz:Hid ((Tryz.prog.info? 38).map (·.size) = some cs.size):=by show _ = _;rw [hcs.1];exact infoReq
   obtain ⟨Z,hZ⟩ : ∃ Z,Z = (Y.alloc (.cells zeroCells 38)).setCells gq 0 cs.toList:=⟨_,rfl⟩
   obtain ⟨hs2,hf2⟩:=req_store hqa zeroCells_size hcs.1
   rw [← hZ] at hs2 hf2
   have hbZ:Below Y.heap.size Y Z:=(bel_alloc Y _).trans (hf2.to_below (fun k hk=>by omega) (bel_alloc Y _).size)
   have HZ:Hid (Z.heap[gq]? = some (.cells cs 38 (0,0)) ∧ Z.heap[g]? = some (.cells zeroCells 38 (0,0)) ∧ Below w.heap.size w Z ∧ Below Y.heap.size Y Z ∧ g + 1 ≤ X2.heap.size ∧ g < gq):=by
    have h1:=hY1.size
    have h2:=H1.out.2.2
    exact ⟨hs2,blk_below (blk_below H1.out.1 hY1) hbZ,H1.out.2.1.trans ((hY1.trans (hbZ.mono h1)).mono H1.out.2.1.size),hbZ,by have:=HB2.out.size;omega,by omega⟩
   have HZe:=Lib.hid hZ
   clear hcs hv hb3 hY1 hgq hqa hZ hs2 hf2 hbZ
   go_upto_region 8 with (refine wpList_store_mid (op:=⟨none,.store 38 (.tmp 7) (.tmp 29),_,_,_,_⟩) rfl 38 (.tmp 7) (.tmp 29) rfl gq 0 cs rfl rfl Hth2.out Hsz.out Hcs.out.2 ?_)
   show Code.wp _ _ _ _ ((Y.alloc (.cells zeroCells 38)).setCells gq 0 cs.toList)
   rw [← HZe.out]
   cases bb with
   | false=>
    have Hres:Hid (AkB (askD (selParse termR) s) g Z zeroCells false):=by
     rcases Hv.out with ⟨h1, -⟩ | ⟨-,h2⟩
     ·cases h1
     ·exact .inr ⟨rfl,by rw [HA.out,h2];rfl,rfl⟩
    have HthZ:Hid (Z.there g 0 zeroCells.size):=there_blk HZ.out.2.1 (Nat.le_refl _)
    go_wp2_with ((with_reducible refine wpList_store_mid (op:=⟨none,.store 38 (.tmp 2) (.tmp 33),_,_,_,_⟩) ?_ 38 (.tmp 2) (.tmp 33) ?_ g 0 zeroCells ?_ ?_ HthZ.out infoZ zero_one ?_);exact rfl;exact rfl;exact rfl;exact rfl)
    exact ak_any HF.out Hg.out HZ.out.2.1 zeroCells_size zeroCells_size HZ.out.2.2.1 Hres.out rfl rfl
   | true=>
    obtain ⟨rq,hrq,hrv⟩ : ∃ rq,requestD (selParse termR) x = some rq ∧ ReqV X2.heap.size Y cs rq:=by
     rcases Hv.out with ⟨-,rq,h1,h2⟩ | ⟨h1, -⟩
     ·exact ⟨rq,h1,h2⟩
     ·cases h1
    obtain ⟨c28,f28⟩:=cellsN (i:=28) HZ.out.1 (show 28 < cs.size by rw [Hcs.out.1];omega)
    generalize cs[28]'_ = V28 at c28
    obtain ⟨V,hV⟩ : ∃ V,V = Z.setCell ⟨gq,28,none⟩ (.bool D):=⟨_,rfl⟩
    have hfV:Fr (fun k=>k = gq) Z V:=by rw [hV];exact (Fr.refl (fun k=>k = gq) _).setCell (p:=⟨gq,28,none⟩) (.inl rfl) _
    obtain ⟨CT,hCT⟩ : ∃ CT,CT = cs.setIfInBounds 28 (.bool D):=⟨_,rfl⟩
    have hgl:=HZ.out.2.2.2.2.2
    have hgw:=Hg.out
    have hvV:ReqV (g + 1) V CT { rq with dry:=D }:=by
     rw [hCT]
     have h2:Fr (fun k=>k = gq) Y V:=(Fr.of_below HZ.out.2.2.2.1 (fun k=>k = gq)).trans hfV (fun k hk=>.inl hk)
     exact ((hrv.keep h2 (fun k hk e=>by omega)).dry D).mono HZ.out.2.2.2.2.1
    have HV:Hid (V.heap[gq]? = some (.cells CT 38 (0,0)) ∧ V.heap[g]? = some (.cells zeroCells 38 (0,0)) ∧ Below w.heap.size w V ∧ AkB (askD (selParse termR) s) g V CT true ∧ CT.all (·.oneCell') = true):=
     ⟨by rw [hV,hCT];exact blk_setCell HZ.out.1 28 _,hfV.blk HZ.out.2.1 (by omega),HZ.out.2.2.1.trans (hfV.to_below (fun k hk=>by omega) HZ.out.2.2.1.size),.inl ⟨rfl,_,by rw [HA.out,hrq];rfl,hvV⟩,hvV.one⟩
    have Hct:Hid (CT.size = 29):=hvV.size
    have HthV:Hid (V.there g 0 CT.size):=there_blk HV.out.2.1 (by rw [Hct.out,zeroCells_size];omega)
    have HszV:Hid ((Tryz.prog.info? 38).map (·.size) = some CT.size):=by show _ = _;rw [Hct.out];exact infoReq
    have HVe:=Lib.hid hV
    clear hrq hrv hV hfV hCT hgl hgw hvV
    go_upto_region 11 with fail
    rw [← HVe.out]
    clear c28 f28
    go_wp2_with (first | ((with_reducible refine wpList_load_row (o:=⟨some 36,.load 38 (.tmp 7),_,_,_,_⟩) ?_ 38 (.tmp 7) ?_ gq ?_ 38 CT (0,0) _ HV.out.1 reqU ?_ HszV.out ?_);exact rfl;exact rfl;exact rfl;exact rfl) | ((with_reducible refine wpList_store_mid (op:=⟨none,.store 38 (.tmp 2) (.tmp 36),_,_,_,_⟩) ?_ 38 (.tmp 2) (.tmp 36) ?_ g 0 CT ?_ ?_ HthV.out HszV.out HV.out.2.2.2.2 ?_);exact rfl;exact rfl;exact rfl;exact rfl))
    exact ak_any HF.out Hg.out HV.out.2.1 zeroCells_size Hct.out HV.out.2.2.1 HV.out.2.2.2.1 rfl rfl
end Go.Proofs.YtpfkkagkbneilaaGreatDoor
namespace Go.Proofs.YtpfkkagkbneilaaGreatDoor
open Go.RowKit
set_option linter.unusedVariables false
set_option linter.unusedSimpArgs false
def EqP (w:World) (e:Ending) (w' : World):Prop:=e = .returned (.bool true) ∧ ∃ m,w' = w.drewN m
theorem RdS.drewN {α : Type} {f : α → List Value} {size:Nat} {w:World} {v:Value} {l:List α} (h:RdS f size w v l) (n:Nat):RdS f size (w.drewN n) v l:=h
theorem drewN_drewN' (w:World) (a b:Nat):(w.drewN a).drewN b = w.drewN (a + b):=World.drewN_drewN w a b
def EqLoop (w:World) (n:Nat) (i:Value) (w1:World):Prop := ∃ k:Nat,k ≤ n ∧ i = .int .i64 k ∧ ∃ m,w1 = w.drewN m
theorem castNe (n:Nat):((n:Int) != n) = false:=by simp
set_option maxRecDepth 100000 in
theorem eqAmt_calls (w:World) (v1 v2:Value) (l:List Amt) (h1:RdS amtC 2 w v1 l) (h2:RdS amtC 2 w v2 l) (hl:l.length ≤ 1048577):Calls Tryz.prog 17 #[v1,v2] w (EqP w):=by
 by_cases h0:l.length = 0
 ·obtain ⟨A,c,rfl⟩:=h1.slice
  obtain ⟨A2,c2,rfl⟩:=h2.slice
  have hd0:decide ((0:Int) < ((0:Nat):Int)) = false:=by simp
  rw [h0]
  clear h1 h2 hl h0
  go_enter Tryz.func17,Tryz.ntmps17
  go_wp2
  refine wp_loop_rounds 1 ?_
  rw [rounds_succ]
  go_wp2
  go_ret
  exact ⟨rfl,0,rfl⟩
 obtain ⟨b1,off1,c1,rfl,hc1, -, -⟩:=h1.cells amtC_len (by decide) 0 (by omega)
 obtain ⟨b2,off2,c2,rfl,hc2, -, -⟩:=h2.cells amtC_len (by decide) 0 (by omega)
 have H1:=Lib.hid h1
 have H2:=Lib.hid h2
 obtain ⟨n,hn⟩ : ∃ n,n = l.length:=⟨_,rfl⟩
 have Hn:=Lib.hid hn
 rw [← hn] at hc1 hc2 hl
 rw [← hn]
 have hne:=castNe n
 have hnb:(n:Int) ≤ 1048577:=by omega
 have hcc1:(n:Int) ≤ c1:=by omega
 have hcc2:(n:Int) ≤ c2:=by omega
 clear h1 h2 h0 hn hl hc1 hc2
 go_enter Tryz.func17,Tryz.ntmps17
 go_wp2
 go_loopw [5] (fun i w1=>EqLoop w n i w1) (fun i _=>n - (intOf i).toNat)
 case atStart=>exact ⟨0,Nat.zero_le _,rfl,0,rfl⟩
 case round=>
  obtain ⟨k,hk,rfl,m,rfl⟩:=hrel
  by_cases hlt:k < n
  ·have hltd:decide ((k:Int) < n) = true:=decide_eq_true (by omega)
   have hlt2:(k:Int) < n:=by omega
   obtain ⟨_,_,_,e1, -, -,q⟩:=H1.out.cells amtC_len (by decide) k (by have:=Hn.out;omega)
   cases e1
   obtain ⟨_,_,_,e1, -, -,r⟩:=H2.out.cells amtC_len (by decide) k (by have:=Hn.out;omega)
   cases e1
   have q0:=q 0 _ (by decide) rfl
   have q1:=q 1 _ (by decide) rfl
   have r0:=r 0 _ (by decide) rfl
   have r1:=r 1 _ (by decide) rfl
   rw [Nat.add_zero] at q0 r0
   rw [← Nat.add_assoc] at q1 r1
   have Hk:Hid (∀ a,EqLoop w n (.int .i64 ((k:Int) + 1)) (w.drewN (m + a))):=fun a=>⟨k + 1,hlt,by simp,m + a,rfl⟩
   clear q r
   generalize sb _ = S at q0 r0
   generalize ((l[k]'_).val:Int) = N at q1 r1
   go_wp2
   go_quiet (fail)
   go_wp2
   go_roundw
   case rel=>exact Hk.out _
   case measure=>simp [intOf];omega
  ·have hltd:decide ((k:Int) < n) = false:=decide_eq_false (by omega)
   have hlt2:¬ (k:Int) < n:=by omega
   go_wp2
   go_ret
   exact ⟨rfl,m,rfl⟩
theorem eqAmt_quiet (w:World) (v1 v2:Value) (l:List Amt) (h1:RdS amtC 2 w v1 l) (h2:RdS amtC 2 w v2 l) (hl:l.length ≤ 1048577) (a:Nat):Calls Tryz.prog 17 #[v1,v2] (w.drewN a) fun e w''=>e = .returned (.bool true) ∧ ∃ m,w'' = w.drewN m:=
 Calls.quiet_of (eqAmt_calls (w.drewN a) v1 v2 l (h1.drewN a) (h2.drewN a) hl)
theorem PRow.drewN {w:World} {v:Value} {l:List PtV} (h:PRow w v l) (n:Nat):PRow (w.drewN n) v l:=h
theorem map_at {α β : Type} {f : α → β} {l1 l2:List α} (h:l1.map f = l2.map f) {i:Nat} (h1:i < l1.length) (h2:i < l2.length):f l1[i] = f l2[i]:=by
 have:=congrArg (·[i]?) h
 simp only [List.getElem?_map,List.getElem?_eq_getElem h1,List.getElem?_eq_getElem h2,Option.map_some] at this
 exact Option.some.inj this
theorem map_len {α β : Type} {f : α → β} {l1 l2:List α} (h:l1.map f = l2.map f):l1.length = l2.length:=by
 have:=congrArg List.length h;simpa using this
set_option maxRecDepth 100000 in
set_option maxHeartbeats 3200000 in
theorem eqPart_calls (w:World) (v1 v2:Value) (l1 l2:List PtV) (h1:PRow w v1 l1) (h2:PRow w v2 l2) (he:l1.map Prod.fst = l2.map Prod.fst) (hl:l1.length ≤ 1048577) (hs:∀ e ∈ l1,e.1.reqs.length ≤ 1048577 ∧ e.1.lims.length ≤ 1048577):Calls Tryz.prog 37 #[v1,v2] w (EqP w):=by
 have hlen:=map_len he
 by_cases h0:l1.length = 0
 ·obtain ⟨A,c,rfl⟩:=h1.1.slice
  obtain ⟨A2,c2,rfl⟩:=h2.1.slice
  have hd0:decide ((0:Int) < ((0:Nat):Int)) = false:=by simp
  rw [← hlen,h0]
  clear h1 h2 hl h0 he hlen hs
  go_enter Tryz.func37,Tryz.ntmps37
  go_wp2
  refine wp_loop_rounds 1 ?_
  rw [rounds_succ]
  go_wp2
  go_ret
  exact ⟨rfl,0,rfl⟩
 obtain ⟨b1,off1,c1,rfl,hc1, -, -⟩:=h1.1.cells ptC_len (by decide) 0 (by omega)
 obtain ⟨b2,off2,c2,rfl,hc2, -, -⟩:=h2.1.cells ptC_len (by decide) 0 (by omega)
 have H1:=Lib.hid h1
 have H2:=Lib.hid h2
 have He:=Lib.hid he
 have Hs:=Lib.hid hs
 have Hlen:=Lib.hid hlen
 obtain ⟨n,hn⟩ : ∃ n,n = l1.length:=⟨_,rfl⟩
 have Hn:=Lib.hid hn
 rw [← hn] at hc1 hl hlen
 rw [← hlen] at hc2
 rw [← hlen,← hn]
 have hne:=castNe n
 have hnb:(n:Int) ≤ 1048577:=by omega
 have hcc1:(n:Int) ≤ c1:=by omega
 have hcc2:(n:Int) ≤ c2:=by omega
 clear h1 h2 h0 hn hl hc1 hc2 he hs hlen
 go_enter Tryz.func37,Tryz.ntmps37
 go_wp2
 go_loopw [5] (fun i w1=>EqLoop w n i w1) (fun i _=>n - (intOf i).toNat)
 case atStart=>exact ⟨0,Nat.zero_le _,rfl,0,rfl⟩
 case round=>
  obtain ⟨k,hk,rfl,m,hm⟩:=hrel
  have Hm:=Lib.hid hm
  clear hm
  by_cases hlt:k < n
  ·have hltd:decide ((k:Int) < n) = true:=decide_eq_true (by omega)
   have hlt2:(k:Int) < n:=by omega
   have hk1:k < l1.length:=by have:=Hn.out;omega
   have hk2:k < l2.length:=by have:=Hlen.out;omega
   obtain ⟨_,_,_,e1, -, -,q⟩:=(Hm.out ▸ H1.out.drewN m:PRow wr _ _).1.cells ptC_len (by decide) k hk1
   cases e1
   obtain ⟨_,_,_,e1, -, -,r⟩:=(Hm.out ▸ H2.out.drewN m:PRow wr _ _).1.cells ptC_len (by decide) k hk2
   cases e1
   have q0:=q 0 _ (by decide) rfl
   have q1:=q 1 _ (by decide) rfl
   have q2:=q 2 _ (by decide) rfl
   have r0:=r 0 _ (by decide) rfl
   have r1:=r 1 _ (by decide) rfl
   have r2:=r 2 _ (by decide) rfl
   rw [Nat.add_zero] at q0 r0
   rw [← Nat.add_assoc] at q1 r1 q2 r2
   have hxy:=map_at He.out hk1 hk2
   obtain ⟨a1,a2⟩:=(Hm.out ▸ H1.out.drewN m:PRow wr _ _).2 l1[k] (List.getElem_mem hk1)
   obtain ⟨d1,d2⟩:=(Hm.out ▸ H2.out.drewN m:PRow wr _ _).2 l2[k] (List.getElem_mem hk2)
   obtain ⟨z1,z2⟩:=Hs.out l1[k] (List.getElem_mem hk1)
   rw [← hxy] at r0 d1 d2
   have HA:=Lib.hid (fun a=>eqAmt_quiet wr _ _ _ a1 d1 z1 a)
   have HB:=Lib.hid (fun a=>eqAmt_quiet wr _ _ _ a2 d2 z2 a)
   have Hk:Hid (∀ a,EqLoop w n (.int .i64 ((k:Int) + 1)) (wr.drewN a)):=fun a=>⟨k + 1,hlt,by simp,m + a,by rw [Hm.out];exact World.drewN_drewN _ _ _⟩
   clear q r a1 a2 d1 d2 z1 z2 hxy
   generalize sb _ = S at q0 r0
   generalize (l1[k]'_).2.1 = x1 at q1 HA
   generalize (l1[k]'_).2.2 = x2 at q2 HB
   generalize (l2[k]'_).2.1 = y1 at r1 HA
   generalize (l2[k]'_).2.2 = y2 at r2 HB
   clear hk1 hk2
   have hss:(S.toList != S.toList) = false:=by simp
   go_wp2
   go_quiet ((go_at_call 17;first | with_reducible exact HA.out _ | with_reducible exact HB.out _))
   go_wp2
   go_roundw
   case rel=>exact Hk.out _
   case measure=>simp [intOf];omega
  ·have hltd:decide ((k:Int) < n) = false:=decide_eq_false (by omega)
   have hlt2:¬ (k:Int) < n:=by omega
   go_wp2
   go_ret
   exact ⟨rfl,m,Hm.out⟩
end Go.Proofs.YtpfkkagkbneilaaGreatDoor
namespace Go.Proofs.YtpfkkagkbneilaaGreatDoor
open Go.RowKit
set_option linter.unusedVariables false
set_option linter.unusedSimpArgs false
def EqB (w:World) (e:Ending) (w' : World):Prop:=e = .returned (.bool true) ∧ Below w.heap.size w w'
theorem cells7 {w:World} {g:Nat} {x0 x1 x2 x3 x4 x5 x6:Value} {t:TypeId} (h:w.heap[g]? = some (.cells #[x0,x1,x2,x3,x4,x5,x6] t (0,0))):w.cell? ⟨g,0,none⟩ = some x0 ∧ w.cell? ⟨g,1,none⟩ = some x1 ∧ w.cell? ⟨g,2,none⟩ = some x2 ∧ w.cell? ⟨g,3,none⟩ = some x3 ∧ w.cell? ⟨g,4,none⟩ = some x4 ∧ w.cell? ⟨g,5,none⟩ = some x5 ∧ w.cell? ⟨g,6,none⟩ = some x6:=by
 simp [World.cell?,h]
def EbLoop (w:World) (n:Nat) (i:Value) (w1:World):Prop := ∃ k:Nat,k ≤ n ∧ i = .int .i64 k ∧ ∃ m,w1 = w.drewN m
set_option maxRecDepth 100000 in
set_option maxHeartbeats 3200000 in
theorem eqObj_calls (w:World) (p m:Str) (a b:Int) (lv1 lv2 pv1 pv2:Value) (dl:List (Str × Str)) (l1 l2:List PtV) (h1:RdS lbC 2 w lv1 dl) (h2:RdS lbC 2 w lv2 dl) (p1:PRow w pv1 l1) (p2:PRow w pv2 l2) (he:l1.map Prod.fst = l2.map Prod.fst) (hd:dl.length ≤ 1048577) (hl:l1.length ≤ 1048577) (hs:∀ e ∈ l1,e.1.reqs.length ≤ 1048577 ∧ e.1.lims.length ≤ 1048577) :
  Calls Tryz.prog 18 #[.agg #[.string (sb p),.string (sb m),lv1,.int .i64 a,.int .i64 b,pv1,.int .i64 0],.agg #[.string (sb p),.string (sb m),lv2,.int .i64 a,.int .i64 b,pv2,.int .i64 0]] w (EqB w):=by
 obtain ⟨A1,c1,rfl⟩:=h1.slice
 obtain ⟨A2,c2,rfl⟩:=h2.slice
 obtain ⟨A3,c3,rfl⟩:=p1.1.slice
 obtain ⟨A4,c4,rfl⟩:=p2.1.slice
 obtain ⟨n,hn⟩ : ∃ n,n = dl.length:=⟨_,rfl⟩
 obtain ⟨n1,hn1⟩ : ∃ n1,n1 = l1.length:=⟨_,rfl⟩
 have hlen:=map_len he
 obtain ⟨g,hg⟩ : ∃ g,g = w.heap.size:=⟨_,rfl⟩
 have hgs:w.heap.size = g:=hg.symm
 obtain ⟨W2,hW2⟩ : ∃ W2,W2 = (w.alloc (.cells #[.string (sb p),.string (sb m),.slice A1 n c1,.int .i64 a,.int .i64 b,.slice A3 n1 c3,.int .i64 0] 25)).alloc (.cells #[.string (sb p),.string (sb m),.slice A2 n c2,.int .i64 a,.int .i64 b,.slice A4 n1 c4,.int .i64 0] 25):=⟨_,rfl⟩
 have H2:Hid (W2.heap[g]? = some (.cells #[.string (sb p),.string (sb m),.slice A1 n c1,.int .i64 a,.int .i64 b,.slice A3 n1 c3,.int .i64 0] 25 (0,0)) ∧ W2.heap[g + 1]? = some (.cells #[.string (sb p),.string (sb m),.slice A2 n c2,.int .i64 a,.int .i64 b,.slice A4 n1 c4,.int .i64 0] 25 (0,0)) ∧ Below w.heap.size w W2):=by
  rw [hW2,hg]
  exact ⟨blk_alloc (blk_new _ _) _,blk_new2 _ _ _,(bel_alloc _ _).trans ((bel_alloc _ _).mono (by rw [alloc_size];omega))⟩
 have Hr:Hid (RdS lbC 2 W2 (.slice A1 n c1) dl ∧ RdS lbC 2 W2 (.slice A2 n c2) dl):=by
  have hb:=H2.out.2.2
  rw [hn]
  exact ⟨RdS.below h1 hb,RdS.below h2 hb⟩
 have Hp:Hid (∀ W,Below w.heap.size w W → Calls Tryz.prog 37 #[.slice A3 n1 c3,.slice A4 n1 c4] W (EqP W)):=fun W hb=>by
  have e1:PRow W (.slice A3 n1 c3) l1:=by rw [hn1];exact ⟨RdS.below p1.1 hb,fun e he=>⟨RdS.below (p1.2 e he).1 hb,RdS.below (p1.2 e he).2 hb⟩⟩
  have e2:PRow W (.slice A4 n1 c4) l2:=by rw [hn1,hlen];exact ⟨RdS.below p2.1 hb,fun e he=>⟨RdS.below (p2.2 e he).1 hb,RdS.below (p2.2 e he).2 hb⟩⟩
  exact eqPart_calls W _ _ l1 l2 e1 e2 he hl hs
 have hne:=castNe n
 have hnb:(n:Int) ≤ 1048577:=by omega
 have Hn:=Lib.hid hn
 rw [← hlen,← hn,← hn1]
 have HW2:=Lib.hid hW2
 have hS1:((sb p).toList != (sb p).toList) = false:=by simp
 have hS2:((sb m).toList != (sb m).toList) = false:=by simp
 have hA1:(a != a) = false:=by simp
 have hA2:(b != b) = false:=by simp
 clear h1 h2 p1 p2 he hd hl hs hn hn1 hlen hg hW2
 go_enter Tryz.func18,Tryz.ntmps18
 go_upto_region 1 with fail
 rw [← HW2.out]
 obtain ⟨x0,x1,x2,x3,x4,x5,x6⟩:=cells7 H2.out.1
 obtain ⟨y0,y1,y2,y3,y4,y5,y6⟩:=cells7 H2.out.2.1
 generalize sb p = P at x0 y0 hS1
 generalize sb m = M at x1 y1 hS2
 go_wp2
 go_loopw [5] (fun i w1=>EbLoop W2 n i w1) (fun i _=>n - (intOf i).toNat)
 case atStart=>exact ⟨0,Nat.zero_le _,rfl,0,rfl⟩
 case round=>
  obtain ⟨k,hk,rfl,q,hq⟩:=hrel
  have Hq:=Lib.hid hq
  have z2:wr.cell? ⟨g,2,none⟩ = some (.slice A1 n c1):=by rw [hq];exact x2
  have z5:wr.cell? ⟨g,5,none⟩ = some (.slice A3 n1 c3):=by rw [hq];exact x5
  have u2:wr.cell? ⟨g + 1,2,none⟩ = some (.slice A2 n c2):=by rw [hq];exact y2
  have u5:wr.cell? ⟨g + 1,5,none⟩ = some (.slice A4 n1 c4):=by rw [hq];exact y5
  have HB:Hid (Below w.heap.size w wr):=by show Below _ _ _;rw [hq];exact drewB H2.out.2.2 q
  have Hrr:Hid (RdS lbC 2 wr (.slice A1 n c1) dl ∧ RdS lbC 2 wr (.slice A2 n c2) dl):=by rw [hq];exact Hr.out
  clear hq
  by_cases hlt:k < n
  ·have hltd:decide ((k:Int) < n) = true:=decide_eq_true (by omega)
   have hlt2:(k:Int) < n:=by omega
   obtain ⟨r1,r2⟩:=Hrr.out
   obtain ⟨b1,o1,d1,e1,hd1, -,s1⟩:=r1.cells lbC_len (by decide) k (by have:=Hn.out;omega)
   obtain ⟨b2,o2,d2,e2,hd2, -,s2⟩:=r2.cells lbC_len (by decide) k (by have:=Hn.out;omega)
   rw [← Hn.out] at e1 e2 hd1 hd2
   cases e1
   cases e2
   have q0:=s1 0 _ (by decide) rfl
   have q1:=s1 1 _ (by decide) rfl
   have t0:=s2 0 _ (by decide) rfl
   have t1:=s2 1 _ (by decide) rfl
   rw [Nat.add_zero] at q0 t0
   rw [← Nat.add_assoc] at q1 t1
   have hcc1:(n:Int) ≤ c1:=by omega
   have hcc2:(n:Int) ≤ c2:=by omega
   have Hk:Hid (∀ f,EbLoop W2 n (.int .i64 ((k:Int) + 1)) (wr.drewN f)):=fun f=>⟨k + 1,hlt,by simp,q + f,by rw [Hq.out];exact World.drewN_drewN _ _ _⟩
   clear s1 s2 r1 r2 hd1 hd2
   generalize sb (dl[k]'_).1 = L1 at q0 t0
   generalize sb (dl[k]'_).2 = L2 at q1 t1
   clear x0 x1 x2 x3 x4 x5 x6 y0 y1 y2 y3 y4 y5 y6
   go_wp2
   go_quiet (fail)
   go_wp2
   go_roundw
   case rel=>exact Hk.out _
   case measure=>simp [intOf];omega
  ·have hltd:decide ((k:Int) < n) = false:=decide_eq_false (by omega)
   have hlt2:¬ (k:Int) < n:=by omega
   have Hc:=Lib.hid (Hp.out wr HB.out)
   go_wp2_with fail
   with_reducible refine Hc.out.mono ?_
   rintro e w' ⟨rfl,q2,hq2⟩
   have Hb2:Hid (Below w.heap.size w w'):=by show Below _ _ _;rw [hq2];exact drewB HB.out q2
   clear hq2
   go_wp2
   go_ret
   exact ⟨rfl,Hb2.out⟩
set_option maxRecDepth 100000 in
set_option maxHeartbeats 3200000 in
theorem eqTm_calls (w:World) (v1 v2:Value) (l1 l2:List (Tm × Value)) (h1:TRow w v1 l1) (h2:TRow w v2 l2) (he:l1.map Prod.fst = l2.map Prod.fst) (hl:l1.length ≤ 1048577) (hs:∀ e ∈ l1,e.1.vals.length ≤ 1048577):Calls Tryz.prog 19 #[v1,v2] w (EqP w):=by
 have hlen:=map_len he
 by_cases h0:l1.length = 0
 ·obtain ⟨A,c,rfl⟩:=h1.1.slice
  obtain ⟨A2,c2,rfl⟩:=h2.1.slice
  have hd0:decide ((0:Int) < ((0:Nat):Int)) = false:=by simp
  rw [← hlen,h0]
  clear h1 h2 hl h0 he hlen hs
  go_enter Tryz.func19,Tryz.ntmps19
  go_wp2
  refine wp_loop_rounds 1 ?_
  rw [rounds_succ]
  go_wp2
  go_ret
  exact ⟨rfl,0,rfl⟩
 obtain ⟨b1,off1,c1,rfl,hc1, -, -⟩:=h1.1.cells tmC_len (by decide) 0 (by omega)
 obtain ⟨b2,off2,c2,rfl,hc2, -, -⟩:=h2.1.cells tmC_len (by decide) 0 (by omega)
 have H1:=Lib.hid h1
 have H2:=Lib.hid h2
 have He:=Lib.hid he
 have Hs:=Lib.hid hs
 have Hlen:=Lib.hid hlen
 obtain ⟨n,hn⟩ : ∃ n,n = l1.length:=⟨_,rfl⟩
 have Hn:=Lib.hid hn
 rw [← hn] at hc1 hl hlen
 rw [← hlen] at hc2
 rw [← hlen,← hn]
 have hne:=castNe n
 have hnb:(n:Int) ≤ 1048577:=by omega
 have hcc1:(n:Int) ≤ c1:=by omega
 have hcc2:(n:Int) ≤ c2:=by omega
 clear h1 h2 h0 hn hl hc1 hc2 he hs hlen
 go_enter Tryz.func19,Tryz.ntmps19
 go_wp2
 go_loopw [5] (fun i w1=>EqLoop w n i w1) (fun i _=>n - (intOf i).toNat)
 case atStart=>exact ⟨0,Nat.zero_le _,rfl,0,rfl⟩
 case round=>
  obtain ⟨k,hk,rfl,m,hm⟩:=hrel
  obtain ⟨wo,rfl⟩ : ∃ wo:World,wo = wr:=⟨_,rfl⟩
  have Hm:=Lib.hid hm
  clear hm
  by_cases hlt:k < n
  ·have hltd:decide ((k:Int) < n) = true:=decide_eq_true (by omega)
   have hlt2:(k:Int) < n:=by omega
   have hk1:k < l1.length:=by have:=Hn.out;omega
   have hk2:k < l2.length:=by have:=Hlen.out;omega
   have hrow1:TRow wo _ l1:=(Hm.out ▸ (show TRow (w.drewN m) _ l1 from H1.out))
   have hrow2:TRow wo _ l2:=(Hm.out ▸ (show TRow (w.drewN m) _ l2 from H2.out))
   obtain ⟨_,_,_,e1, -, -,q⟩:=hrow1.1.cells tmC_len (by decide) k hk1
   cases e1
   obtain ⟨_,_,_,e1, -, -,r⟩:=hrow2.1.cells tmC_len (by decide) k hk2
   cases e1
   have q0:=q 0 _ (by decide) rfl
   have q1:=q 1 _ (by decide) rfl
   have q2:=q 2 _ (by decide) rfl
   have r0:=r 0 _ (by decide) rfl
   have r1:=r 1 _ (by decide) rfl
   have r2:=r 2 _ (by decide) rfl
   rw [Nat.add_zero] at q0 r0
   rw [← Nat.add_assoc] at q1 r1 q2 r2
   have hxy:=map_at He.out hk1 hk2
   have a1:=hrow1.2 l1[k] (List.getElem_mem hk1)
   have d1:=hrow2.2 l2[k] (List.getElem_mem hk2)
   have z1:=Hs.out l1[k] (List.getElem_mem hk1)
   rw [← hxy] at r0 r1 d1
   have Hk:Hid (∀ f,(∃ a,f = wo.drewN a) → EqLoop w n (.int .i64 ((k:Int) + 1)) f):=fun f ⟨a,ha⟩=>⟨k + 1,hlt,by simp,m + a,by rw [ha,Hm.out];exact World.drewN_drewN _ _ _⟩
   generalize (l1[k]'_).2 = x1 at q2 a1
   generalize (l2[k]'_).2 = y1 at r2 d1
   generalize (l1[k]'_).1.vals = vs at a1 d1 z1
   generalize sb (l1[k]'_).1.key = S at q0 r0
   generalize ((l1[k]'_).1.how:Int) = HH at q1 r1
   obtain ⟨VA,vc,rfl⟩:=a1.slice
   obtain ⟨VB,vd,rfl⟩:=d1.slice
   obtain ⟨nv,hnv⟩ : ∃ nv,nv = vs.length:=⟨_,rfl⟩
   rw [← hnv] at q2 r2 z1 a1 d1
   have Hnv:=Lib.hid hnv
   have Ha1:=Lib.hid a1
   have Hd1:=Lib.hid d1
   have hnvb:(nv:Int) ≤ 1048577:=by omega
   have hnev:=castNe nv
   clear q r a1 d1 z1 hxy hrow1 hrow2 hk1 hk2 hnv
   have hss:(S.toList != S.toList) = false:=by simp
   go_wp2
   go_quiet (fail)
   have hX0:∃ a,wo.drewN nq = wo.drewN a:=⟨nq,rfl⟩
   obtain ⟨X,hX⟩ : ∃ X,X = wo.drewN nq:=⟨_,rfl⟩
   rw [← hX] at hX0
   rw [← hX]
   clear hX
   have HX0:=Lib.hid hX0
   clear hX0
   go_wp2
   go_loopw [6] (fun i w1=>EqLoop wo nv i w1) (fun i _=>nv - (intOf i).toNat)
   case atStart=>
    obtain ⟨a,ha⟩:=HX0.out
    exact ⟨0,Nat.zero_le _,rfl,a,ha⟩
   case round=>
    obtain ⟨j,hj,rfl,m2,hm2⟩:=hrel
    have p2:wr.cell? ⟨b1,off1 + k * 3 + 2,none⟩ = some (.slice VA nv vc):=by rw [hm2];exact q2
    have s2:wr.cell? ⟨b2,off2 + k * 3 + 2,none⟩ = some (.slice VB nv vd):=by rw [hm2];exact r2
    have Ha2:Hid (RdT wr (.slice VA nv vc) vs ∧ RdT wr (.slice VB nv vd) vs):=by rw [hm2];exact ⟨Ha1.out,Hd1.out⟩
    have Hm2:=Lib.hid hm2
    clear hm2
    by_cases hlv:j < nv
    ·have hlvd:decide ((j:Int) < nv) = true:=decide_eq_true (by omega)
     have hlv2:(j:Int) < nv:=by omega
     have hvne:vs ≠ []:=by intro e;have:=Hnv.out;rw [e] at this;simp at this;omega
     obtain ⟨e1b,e1o,e1c,e1,f1, -,g1⟩:=RdT.some Ha2.out.1 hvne
     obtain ⟨e2b,e2o,e2c,e2,f2, -,g2⟩:=RdT.some Ha2.out.2 hvne
     rw [← Hnv.out] at e1 e2 f1 f2
     cases e1
     cases e2
     have t1:=g1 j (by have:=Hnv.out;omega)
     have t2:=g2 j (by have:=Hnv.out;omega)
     have fc1:(nv:Int) ≤ vc:=by omega
     have fc2:(nv:Int) ≤ vd:=by omega
     have Hk2:Hid (∀ f,EqLoop wo nv (.int .i64 ((j:Int) + 1)) (wr.drewN f)):=fun f=>⟨j + 1,hlv,by simp,m2 + f,by rw [Hm2.out];exact World.drewN_drewN _ _ _⟩
     clear g1 g2 f1 f2 hvne q0 q1 q2 r0 r1 r2
     generalize sb (vs[j]'_) = TV at t1 t2
     have htt:(TV.toList != TV.toList) = false:=by simp
     go_wp2
     go_quiet (fail)
     go_wp2
     go_roundw
     case rel=>exact Hk2.out _
     case measure=>simp [intOf];omega
    ·have hlvd:decide ((j:Int) < nv) = false:=decide_eq_false (by omega)
     have hlv2:¬ (j:Int) < nv:=by omega
     have Hk3:=Lib.hid (Hk.out wr ⟨m2,Hm2.out⟩)
     clear q0 q1 q2 r0 r1 r2
     go_wp2
     go_roundw
     case rel=>exact Hk3.out
     case measure=>simp [intOf];omega
  ·have hltd:decide ((k:Int) < n) = false:=decide_eq_false (by omega)
   have hlt2:¬ (k:Int) < n:=by omega
   go_wp2
   go_ret
   exact ⟨rfl,m,Hm.out⟩
end Go.Proofs.YtpfkkagkbneilaaGreatDoor
namespace Go.Proofs.YtpfkkagkbneilaaGreatDoor
open Go.RowKit
set_option linter.unusedVariables false
set_option linter.unusedSimpArgs false
structure ReqSm (r:ReqD):Prop where
 labels:r.obj.labels.length ≤ 1048577
 parts:r.obj.parts.length ≤ 1048577
 part:∀ p ∈ r.obj.parts,p.reqs.length ≤ 1048577 ∧ p.lims.length ≤ 1048577
 hard:r.quo.hard.length ≤ 1048577
 rules:r.lim.rules.length ≤ 1048577
 terms:r.terms.length ≤ 1048577
 vals:∀ t ∈ r.terms,t.vals.length ≤ 1048577
set_option maxRecDepth 100000 in
set_option maxHeartbeats 6400000 in
theorem eqReq_calls (w:World) (B1 B2:Nat) (cs1 cs2:Array Value) (rq:ReqD) (h1:ReqV B1 w cs1 rq) (h2:ReqV B2 w cs2 rq) (hsm:ReqSm rq):Calls Tryz.prog 7 #[.agg cs1,.agg cs2] w (EqB w):=by
 obtain ⟨s1,s2,s3,s4,s5,s6,s7⟩:=hsm
 obtain ⟨op,path,name,⟨opath,oname,labels,prio,ends,parts⟩,⟨qpath,qname,kind,arg,hard⟩,⟨lpath,lname,rules⟩,⟨bpath,bname,bsubj,verb⟩,terms,ver,most,frm,deep,dry⟩:=rq
 simp only at s1 s2 s3 s4 s5 s6 s7
 obtain ⟨lv,pv,hv,rv,tv,pl,tl,hc1,l1,⟨p1,p2⟩,q1,r1,⟨t1,t2⟩, -⟩:=h1
 obtain ⟨lv',pv',hv',rv',tv',pl',tl',hc2,l1',⟨p1',p2'⟩,q1',r1',⟨t1',t2'⟩, -⟩:=h2
 simp only at l1 p2 q1 r1 t2 l1' p2' q1' r1' t2'
 obtain ⟨A1,a1,rfl⟩:=l1.slice
 obtain ⟨A2,a2,rfl⟩:=p1.1.slice
 obtain ⟨A3,a3,rfl⟩:=q1.slice
 obtain ⟨A4,a4,rfl⟩:=r1.slice
 obtain ⟨A5,a5,rfl⟩:=t1.1.slice
 obtain ⟨B1,b1,rfl⟩:=l1'.slice
 obtain ⟨B2,b2,rfl⟩:=p1'.1.slice
 obtain ⟨B3,b3,rfl⟩:=q1'.slice
 obtain ⟨B4,b4,rfl⟩:=r1'.slice
 obtain ⟨B5,b5,rfl⟩:=t1'.1.slice
 have hpl:pl.map Prod.fst = pl'.map Prod.fst:=p2.trans p2'.symm
 have htl:tl.map Prod.fst = tl'.map Prod.fst:=t2.trans t2'.symm
 have hpn:pl.length = pl'.length:=map_len hpl
 have htn:tl.length = tl'.length:=map_len htl
 have hpb:pl.length ≤ 1048577:=by rw [← p2] at s2;simpa using s2
 have htb:tl.length ≤ 1048577:=by rw [← t2] at s6;simpa using s6
 have hps:∀ e ∈ pl,e.1.reqs.length ≤ 1048577 ∧ e.1.lims.length ≤ 1048577:=fun e he=>s3 e.1 (by rw [← p2];exact List.mem_map_of_mem he)
 have hts:∀ e ∈ tl,e.1.vals.length ≤ 1048577:=fun e he=>s7 e.1 (by rw [← t2];exact List.mem_map_of_mem he)
 rw [← hpn] at hc2 p1'
 rw [← htn] at hc2 t1'
 obtain ⟨n1,hn1⟩ : ∃ n1,n1 = labels.length:=⟨_,rfl⟩
 obtain ⟨n2,hn2⟩ : ∃ n2,n2 = pl.length:=⟨_,rfl⟩
 obtain ⟨n3,hn3⟩ : ∃ n3,n3 = hard.length:=⟨_,rfl⟩
 obtain ⟨n4,hn4⟩ : ∃ n4,n4 = rules.length:=⟨_,rfl⟩
 obtain ⟨n5,hn5⟩ : ∃ n5,n5 = tl.length:=⟨_,rfl⟩
 rw [← hn1,← hn2,← hn3,← hn4,← hn5] at hc1 hc2
 rw [← hn1] at l1 l1'
 rw [← hn2] at p1 p1'
 rw [← hn3] at q1 q1'
 rw [← hn4] at r1 r1'
 rw [← hn5] at t1 t1'
 obtain ⟨g,hg⟩ : ∃ g,g = w.heap.size:=⟨_,rfl⟩
 have hgs:w.heap.size = g:=hg.symm
 obtain ⟨W2,hW2⟩ : ∃ W2,W2 = (w.alloc (.cells cs1 38)).alloc (.cells cs2 38):=⟨_,rfl⟩
 have hk1:W2.heap[g]? = some (.cells cs1 38 (0,0)):=by rw [hW2,hg];exact blk_alloc (blk_new _ _) _
 have hk2:W2.heap[g + 1]? = some (.cells cs2 38 (0,0)):=by rw [hW2,hg];exact blk_new2 _ _ _
 have hbe:Below w.heap.size w W2:=by rw [hW2];exact (bel_alloc _ _).trans ((bel_alloc _ _).mono (by rw [alloc_size];omega))
 have Hbe:=Lib.hid hbe
 rw [hc1] at hk1
 rw [hc2] at hk2
 have x0:W2.cell? ⟨g,0,none⟩ = some (.int .i64 (op:Int)):=(cellsN (i:=0) hk1 (show 0 < 29 by omega)).1
 have x1:W2.cell? ⟨g,1,none⟩ = some (.string (sb [])):=(cellsN (i:=1) hk1 (show 1 < 29 by omega)).1
 have x2:W2.cell? ⟨g,2,none⟩ = some (.string (sb path)):=(cellsN (i:=2) hk1 (show 2 < 29 by omega)).1
 have x3:W2.cell? ⟨g,3,none⟩ = some (.string (sb name)):=(cellsN (i:=3) hk1 (show 3 < 29 by omega)).1
 have x4:W2.cell? ⟨g,4,none⟩ = some (.string (sb opath)):=(cellsN (i:=4) hk1 (show 4 < 29 by omega)).1
 have x5:W2.cell? ⟨g,5,none⟩ = some (.string (sb oname)):=(cellsN (i:=5) hk1 (show 5 < 29 by omega)).1
 have x6:W2.cell? ⟨g,6,none⟩ = some (.slice A1 n1 a1):=(cellsN (i:=6) hk1 (show 6 < 29 by omega)).1
 have x7:W2.cell? ⟨g,7,none⟩ = some (.int .i64 prio):=(cellsN (i:=7) hk1 (show 7 < 29 by omega)).1
 have x8:W2.cell? ⟨g,8,none⟩ = some (.int .i64 ends):=(cellsN (i:=8) hk1 (show 8 < 29 by omega)).1
 have x9:W2.cell? ⟨g,9,none⟩ = some (.slice A2 n2 a2):=(cellsN (i:=9) hk1 (show 9 < 29 by omega)).1
 have x10:W2.cell? ⟨g,10,none⟩ = some (.int .i64 0):=(cellsN (i:=10) hk1 (show 10 < 29 by omega)).1
 have x11:W2.cell? ⟨g,11,none⟩ = some (.string (sb qpath)):=(cellsN (i:=11) hk1 (show 11 < 29 by omega)).1
 have x12:W2.cell? ⟨g,12,none⟩ = some (.string (sb qname)):=(cellsN (i:=12) hk1 (show 12 < 29 by omega)).1
 have x13:W2.cell? ⟨g,13,none⟩ = some (.int .i64 (kind:Int)):=(cellsN (i:=13) hk1 (show 13 < 29 by omega)).1
 have x14:W2.cell? ⟨g,14,none⟩ = some (.int .i64 (arg:Int)):=(cellsN (i:=14) hk1 (show 14 < 29 by omega)).1
 have x15:W2.cell? ⟨g,15,none⟩ = some (.slice A3 n3 a3):=(cellsN (i:=15) hk1 (show 15 < 29 by omega)).1
 have x16:W2.cell? ⟨g,16,none⟩ = some (.string (sb lpath)):=(cellsN (i:=16) hk1 (show 16 < 29 by omega)).1
 have x17:W2.cell? ⟨g,17,none⟩ = some (.string (sb lname)):=(cellsN (i:=17) hk1 (show 17 < 29 by omega)).1
 have x18:W2.cell? ⟨g,18,none⟩ = some (.slice A4 n4 a4):=(cellsN (i:=18) hk1 (show 18 < 29 by omega)).1
 have x19:W2.cell? ⟨g,19,none⟩ = some (.string (sb bpath)):=(cellsN (i:=19) hk1 (show 19 < 29 by omega)).1
 have x20:W2.cell? ⟨g,20,none⟩ = some (.string (sb bname)):=(cellsN (i:=20) hk1 (show 20 < 29 by omega)).1
 have x21:W2.cell? ⟨g,21,none⟩ = some (.string (sb bsubj)):=(cellsN (i:=21) hk1 (show 21 < 29 by omega)).1
 have x22:W2.cell? ⟨g,22,none⟩ = some (.int .i64 (verb:Int)):=(cellsN (i:=22) hk1 (show 22 < 29 by omega)).1
 have x23:W2.cell? ⟨g,23,none⟩ = some (.slice A5 n5 a5):=(cellsN (i:=23) hk1 (show 23 < 29 by omega)).1
 have x24:W2.cell? ⟨g,24,none⟩ = some (.int .i64 (ver:Int)):=(cellsN (i:=24) hk1 (show 24 < 29 by omega)).1
 have x25:W2.cell? ⟨g,25,none⟩ = some (.int .i64 most):=(cellsN (i:=25) hk1 (show 25 < 29 by omega)).1
 have x26:W2.cell? ⟨g,26,none⟩ = some (.string (sb frm)):=(cellsN (i:=26) hk1 (show 26 < 29 by omega)).1
 have x27:W2.cell? ⟨g,27,none⟩ = some (.bool deep):=(cellsN (i:=27) hk1 (show 27 < 29 by omega)).1
 have x28:W2.cell? ⟨g,28,none⟩ = some (.bool dry):=(cellsN (i:=28) hk1 (show 28 < 29 by omega)).1
 have y0:W2.cell? ⟨g + 1,0,none⟩ = some (.int .i64 (op:Int)):=(cellsN (i:=0) hk2 (show 0 < 29 by omega)).1
 have y1:W2.cell? ⟨g + 1,1,none⟩ = some (.string (sb [])):=(cellsN (i:=1) hk2 (show 1 < 29 by omega)).1
 have y2:W2.cell? ⟨g + 1,2,none⟩ = some (.string (sb path)):=(cellsN (i:=2) hk2 (show 2 < 29 by omega)).1
 have y3:W2.cell? ⟨g + 1,3,none⟩ = some (.string (sb name)):=(cellsN (i:=3) hk2 (show 3 < 29 by omega)).1
 have y4:W2.cell? ⟨g + 1,4,none⟩ = some (.string (sb opath)):=(cellsN (i:=4) hk2 (show 4 < 29 by omega)).1
 have y5:W2.cell? ⟨g + 1,5,none⟩ = some (.string (sb oname)):=(cellsN (i:=5) hk2 (show 5 < 29 by omega)).1
 have y6:W2.cell? ⟨g + 1,6,none⟩ = some (.slice B1 n1 b1):=(cellsN (i:=6) hk2 (show 6 < 29 by omega)).1
 have y7:W2.cell? ⟨g + 1,7,none⟩ = some (.int .i64 prio):=(cellsN (i:=7) hk2 (show 7 < 29 by omega)).1
 have y8:W2.cell? ⟨g + 1,8,none⟩ = some (.int .i64 ends):=(cellsN (i:=8) hk2 (show 8 < 29 by omega)).1
 have y9:W2.cell? ⟨g + 1,9,none⟩ = some (.slice B2 n2 b2):=(cellsN (i:=9) hk2 (show 9 < 29 by omega)).1
 have y10:W2.cell? ⟨g + 1,10,none⟩ = some (.int .i64 0):=(cellsN (i:=10) hk2 (show 10 < 29 by omega)).1
 have y11:W2.cell? ⟨g + 1,11,none⟩ = some (.string (sb qpath)):=(cellsN (i:=11) hk2 (show 11 < 29 by omega)).1
 have y12:W2.cell? ⟨g + 1,12,none⟩ = some (.string (sb qname)):=(cellsN (i:=12) hk2 (show 12 < 29 by omega)).1
 have y13:W2.cell? ⟨g + 1,13,none⟩ = some (.int .i64 (kind:Int)):=(cellsN (i:=13) hk2 (show 13 < 29 by omega)).1
 have y14:W2.cell? ⟨g + 1,14,none⟩ = some (.int .i64 (arg:Int)):=(cellsN (i:=14) hk2 (show 14 < 29 by omega)).1
 have y15:W2.cell? ⟨g + 1,15,none⟩ = some (.slice B3 n3 b3):=(cellsN (i:=15) hk2 (show 15 < 29 by omega)).1
 have y16:W2.cell? ⟨g + 1,16,none⟩ = some (.string (sb lpath)):=(cellsN (i:=16) hk2 (show 16 < 29 by omega)).1
 have y17:W2.cell? ⟨g + 1,17,none⟩ = some (.string (sb lname)):=(cellsN (i:=17) hk2 (show 17 < 29 by omega)).1
 have y18:W2.cell? ⟨g + 1,18,none⟩ = some (.slice B4 n4 b4):=(cellsN (i:=18) hk2 (show 18 < 29 by omega)).1
 have y19:W2.cell? ⟨g + 1,19,none⟩ = some (.string (sb bpath)):=(cellsN (i:=19) hk2 (show 19 < 29 by omega)).1
 have y20:W2.cell? ⟨g + 1,20,none⟩ = some (.string (sb bname)):=(cellsN (i:=20) hk2 (show 20 < 29 by omega)).1
 have y21:W2.cell? ⟨g + 1,21,none⟩ = some (.string (sb bsubj)):=(cellsN (i:=21) hk2 (show 21 < 29 by omega)).1
 have y22:W2.cell? ⟨g + 1,22,none⟩ = some (.int .i64 (verb:Int)):=(cellsN (i:=22) hk2 (show 22 < 29 by omega)).1
 have y23:W2.cell? ⟨g + 1,23,none⟩ = some (.slice B5 n5 b5):=(cellsN (i:=23) hk2 (show 23 < 29 by omega)).1
 have y24:W2.cell? ⟨g + 1,24,none⟩ = some (.int .i64 (ver:Int)):=(cellsN (i:=24) hk2 (show 24 < 29 by omega)).1
 have y25:W2.cell? ⟨g + 1,25,none⟩ = some (.int .i64 most):=(cellsN (i:=25) hk2 (show 25 < 29 by omega)).1
 have y26:W2.cell? ⟨g + 1,26,none⟩ = some (.string (sb frm)):=(cellsN (i:=26) hk2 (show 26 < 29 by omega)).1
 have y27:W2.cell? ⟨g + 1,27,none⟩ = some (.bool deep):=(cellsN (i:=27) hk2 (show 27 < 29 by omega)).1
 have y28:W2.cell? ⟨g + 1,28,none⟩ = some (.bool dry):=(cellsN (i:=28) hk2 (show 28 < 29 by omega)).1
 have Hob:Hid (∀ W,Below w.heap.size w W → Calls Tryz.prog 18 #[.agg #[.string (sb opath),.string (sb oname),.slice A1 n1 a1,.int .i64 prio,.int .i64 ends,.slice A2 n2 a2,.int .i64 0],.agg #[.string (sb opath),.string (sb oname),.slice B1 n1 b1,.int .i64 prio,.int .i64 ends,.slice B2 n2 b2,.int .i64 0]] W (EqB W)):=fun W hb=>
  eqObj_calls W opath oname prio ends _ _ _ _ labels pl pl' (RdS.below l1 hb) (RdS.below l1' hb) ⟨RdS.below p1.1 hb,fun e he=>⟨RdS.below (p1.2 e he).1 hb,RdS.below (p1.2 e he).2 hb⟩⟩ ⟨RdS.below p1'.1 hb,fun e he=>⟨RdS.below (p1'.2 e he).1 hb,RdS.below (p1'.2 e he).2 hb⟩⟩ hpl s1 hpb hps
 have Htm:Hid (∀ W,Below w.heap.size w W → Calls Tryz.prog 19 #[.slice A5 n5 a5,.slice B5 n5 b5] W (EqP W)):=fun W hb=>
  eqTm_calls W _ _ tl tl' ⟨RdS.below t1.1 hb,fun e he=>RdS.below (t1.2 e he) hb⟩ ⟨RdS.below t1'.1 hb,fun e he=>RdS.below (t1'.2 e he) hb⟩ htl htb hts
 have Ham:Hid (Calls Tryz.prog 17 #[.slice A3 n3 a3,.slice B3 n3 b3] W2 (EqP W2)):=eqAmt_calls W2 _ _ hard (RdS.below q1 hbe) (RdS.below q1' hbe) s4
 have Hru:Hid (RdS ruC 6 W2 (.slice A4 n4 a4) rules ∧ RdS ruC 6 W2 (.slice B4 n4 b4) rules):=⟨RdS.below r1 hbe,RdS.below r1' hbe⟩
 have Hn4:=Lib.hid hn4
 have hnb:(n4:Int) ≤ 1048577:=by omega
 have he1:=castNe n1
 have he4:=castNe n4
 have HW2:=Lib.hid hW2
 generalize sb [] = S1 at x1 y1
 generalize sb path = S2 at x2 y2
 generalize sb name = S3 at x3 y3
 generalize sb opath = S4 at x4 y4 Hob
 generalize sb oname = S5 at x5 y5 Hob
 generalize sb qpath = S11 at x11 y11
 generalize sb qname = S12 at x12 y12
 generalize sb lpath = S16 at x16 y16
 generalize sb lname = S17 at x17 y17
 generalize sb bpath = S19 at x19 y19
 generalize sb bname = S20 at x20 y20
 generalize sb bsubj = S21 at x21 y21
 generalize sb frm = S26 at x26 y26
 clear s1 s2 s3 s4 s5 s6 s7 l1 l1' p1 p2 p1' p2' q1 q1' r1 r1' t1 t2 t1' t2' hpl htl hpn htn hpb htb hps hts hn1 hn2 hn3 hn4 hn5 hg hk1 hk2 hbe hc1 hc2 hW2
 go_enter Tryz.func7,Tryz.ntmps7
 go_upto_region 1 with fail
 rw [← HW2.out]
 go_wp2_with fail
 with_reducible refine Ham.out.mono ?_
 rintro e w3 ⟨rfl,q3,rfl⟩
 go_upto_region 7 with fail
 have hq3:∀ (p:Addr),(W2.drewN q3).cell? p = W2.cell? p:=fun _=>rfl
 obtain ⟨W3,hW3⟩ : ∃ W3,W3 = W2.drewN q3:=⟨_,rfl⟩
 rw [← hW3]
 have hb3:Below w.heap.size w W3:=by rw [hW3];exact drewB Hbe.out _
 have Hb3:=Lib.hid hb3
 have Hru3:Hid (RdS ruC 6 W3 (.slice A4 n4 a4) rules ∧ RdS ruC 6 W3 (.slice B4 n4 b4) rules):=by rw [hW3];exact Hru.out
 rw [← hq3,← hW3] at x4 y4
 rw [← hq3,← hW3] at x5 y5
 rw [← hq3,← hW3] at x6 y6
 rw [← hq3,← hW3] at x7 y7
 rw [← hq3,← hW3] at x8 y8
 rw [← hq3,← hW3] at x9 y9
 rw [← hq3,← hW3] at x10 y10
 rw [← hq3,← hW3] at x18 y18
 rw [← hq3,← hW3] at x23 y23
 clear hW3 hq3 hb3 x0 x1 x2 x3 x11 x12 x13 x14 x15 x16 x17 x19 x20 x21 x22 x24 x25 x26 x27 x28 y0 y1 y2 y3 y11 y12 y13 y14 y15 y16 y17 y19 y20 y21 y22 y24 y25 y26 y27 y28
 go_wp2_with fail
 go_loopw [5] (fun i w1=>EbLoop W3 n4 i w1) (fun i _=>n4 - (intOf i).toNat)
 case atStart=>exact ⟨0,Nat.zero_le _,rfl,0,rfl⟩
 case round=>
  obtain ⟨k,hk,rfl,q,hq⟩:=hrel
  have Hq:=Lib.hid hq
  have z4:=x4
  have u4:=y4
  rw [← show wr.cell? ⟨g,4,none⟩ = W3.cell? ⟨g,4,none⟩ by rw [hq];rfl] at z4
  rw [← show wr.cell? ⟨g + 1,4,none⟩ = W3.cell? ⟨g + 1,4,none⟩ by rw [hq];rfl] at u4
  have z5:=x5
  have u5:=y5
  rw [← show wr.cell? ⟨g,5,none⟩ = W3.cell? ⟨g,5,none⟩ by rw [hq];rfl] at z5
  rw [← show wr.cell? ⟨g + 1,5,none⟩ = W3.cell? ⟨g + 1,5,none⟩ by rw [hq];rfl] at u5
  have z6:=x6
  have u6:=y6
  rw [← show wr.cell? ⟨g,6,none⟩ = W3.cell? ⟨g,6,none⟩ by rw [hq];rfl] at z6
  rw [← show wr.cell? ⟨g + 1,6,none⟩ = W3.cell? ⟨g + 1,6,none⟩ by rw [hq];rfl] at u6
  have z7:=x7
  have u7:=y7
  rw [← show wr.cell? ⟨g,7,none⟩ = W3.cell? ⟨g,7,none⟩ by rw [hq];rfl] at z7
  rw [← show wr.cell? ⟨g + 1,7,none⟩ = W3.cell? ⟨g + 1,7,none⟩ by rw [hq];rfl] at u7
  have z8:=x8
  have u8:=y8
  rw [← show wr.cell? ⟨g,8,none⟩ = W3.cell? ⟨g,8,none⟩ by rw [hq];rfl] at z8
  rw [← show wr.cell? ⟨g + 1,8,none⟩ = W3.cell? ⟨g + 1,8,none⟩ by rw [hq];rfl] at u8
  have z9:=x9
  have u9:=y9
  rw [← show wr.cell? ⟨g,9,none⟩ = W3.cell? ⟨g,9,none⟩ by rw [hq];rfl] at z9
  rw [← show wr.cell? ⟨g + 1,9,none⟩ = W3.cell? ⟨g + 1,9,none⟩ by rw [hq];rfl] at u9
  have z10:=x10
  have u10:=y10
  rw [← show wr.cell? ⟨g,10,none⟩ = W3.cell? ⟨g,10,none⟩ by rw [hq];rfl] at z10
  rw [← show wr.cell? ⟨g + 1,10,none⟩ = W3.cell? ⟨g + 1,10,none⟩ by rw [hq];rfl] at u10
  have z18:=x18
  have u18:=y18
  rw [← show wr.cell? ⟨g,18,none⟩ = W3.cell? ⟨g,18,none⟩ by rw [hq];rfl] at z18
  rw [← show wr.cell? ⟨g + 1,18,none⟩ = W3.cell? ⟨g + 1,18,none⟩ by rw [hq];rfl] at u18
  have z23:=x23
  have u23:=y23
  rw [← show wr.cell? ⟨g,23,none⟩ = W3.cell? ⟨g,23,none⟩ by rw [hq];rfl] at z23
  rw [← show wr.cell? ⟨g + 1,23,none⟩ = W3.cell? ⟨g + 1,23,none⟩ by rw [hq];rfl] at u23
  have HB:Hid (Below w.heap.size w wr):=by show Below _ _ _;rw [hq];exact drewB Hb3.out q
  have Hrr:Hid (RdS ruC 6 wr (.slice A4 n4 a4) rules ∧ RdS ruC 6 wr (.slice B4 n4 b4) rules):=by rw [hq];exact Hru3.out
  clear hq x4 y4 x5 y5 x6 y6 x7 y7 x8 y8 x9 y9 x10 y10 x18 y18 x23 y23
  by_cases hlt:k < n4
  ·have hltd:decide ((k:Int) < n4) = true:=decide_eq_true (by omega)
   have hlt2:(k:Int) < n4:=by omega
   obtain ⟨m1,m2⟩:=Hrr.out
   obtain ⟨f1,o1,d1,e1,hd1, -,s1⟩:=m1.cells ruC_len (by decide) k (by have:=Hn4.out;omega)
   obtain ⟨f2,o2,d2,e2,hd2, -,s2⟩:=m2.cells ruC_len (by decide) k (by have:=Hn4.out;omega)
   rw [← Hn4.out] at e1 e2 hd1 hd2
   cases e1
   cases e2
   have c0:=s1 0 _ (by decide) rfl
   have d0:=s2 0 _ (by decide) rfl
   have c1:=s1 1 _ (by decide) rfl
   have d1:=s2 1 _ (by decide) rfl
   have c2:=s1 2 _ (by decide) rfl
   have d2:=s2 2 _ (by decide) rfl
   have c3:=s1 3 _ (by decide) rfl
   have d3:=s2 3 _ (by decide) rfl
   have c4:=s1 4 _ (by decide) rfl
   have d4:=s2 4 _ (by decide) rfl
   have c5:=s1 5 _ (by decide) rfl
   have d5:=s2 5 _ (by decide) rfl
   rw [Nat.add_zero] at c0 d0
   rw [← Nat.add_assoc] at c1 c2 c3 c4 c5 d1 d2 d3 d4 d5
   have hcc1:(n4:Int) ≤ a4:=by omega
   have hcc2:(n4:Int) ≤ b4:=by omega
   have Hk:Hid (∀ f,EbLoop W3 n4 (.int .i64 ((k:Int) + 1)) (wr.drewN f)):=fun f=>⟨k + 1,hlt,by simp,q + f,by rw [Hq.out];exact World.drewN_drewN _ _ _⟩
   clear s1 s2 m1 m2 hd1 hd2 z4 u4 z5 u5 z6 u6 z7 u7 z8 u8 z9 u9 z10 u10 z23 u23
   generalize rules[k]'_ = R at c0 c1 c2 c3 c4 c5 d0 d1 d2 d3 d4 d5
   obtain ⟨R0,R1,R2,R3,R4,R5⟩:=R
   generalize sb R0 = RS at c0 d0
   go_wp2
   go_quiet (fail)
   go_wp2
   go_roundw
   case rel=>exact Hk.out _
   case measure=>simp [intOf];omega
  ·have hltd:decide ((k:Int) < n4) = false:=decide_eq_false (by omega)
   have hlt2:¬ (k:Int) < n4:=by omega
   have Hc:=Lib.hid (Hob.out wr HB.out)
   go_wp2_with fail
   with_reducible refine Hc.out.mono ?_
   rintro e w5 ⟨rfl,hb5⟩
   have Hb5:Hid (Below w.heap.size w w5):=HB.out.trans (hb5.mono HB.out.size)
   have v23:=bcell hb5 z23
   have v23':=bcell hb5 u23
   have Hc2:=Lib.hid (Htm.out w5 Hb5.out)
   clear hb5 z4 u4 z5 u5 z6 u6 z7 u7 z8 u8 z9 u9 z10 u10 z23 u23
   go_wp2_with fail
   with_reducible refine Hc2.out.mono ?_
   rintro e w6 ⟨rfl,q6,hq6⟩
   have Hb6:Hid (Below w.heap.size w w6):=by show Below _ _ _;rw [hq6];exact drewB Hb5.out q6
   clear hq6
   go_wp2
   go_ret
   exact ⟨rfl,Hb6.out⟩
end Go.Proofs.YtpfkkagkbneilaaGreatDoor
namespace Go.Proofs.YtpfkkagkbneilaaGreatDoor
set_option linter.unusedVariables false
set_option linter.unusedSimpArgs false
theorem flat_sm {r:ReqD} (h:FlatR r):ReqSm r:=by
 obtain ⟨h1,h2,h3,h4,h5⟩:=h
 exact ⟨by rw [h1];simp,by rw [h2];simp,by rw [h2];simp,by rw [h3];simp,by rw [h4];simp,by rw [h5];simp,by rw [h5];simp⟩
theorem ended_some {α : Type} {x y : α} {l:List Str} (h:ended x l = some y):x = y:=by
 cases l with
 | nil=>exact Option.some.inj h
 | cons t r=>cases h
theorem named_sm {op:Nat} {l:List Str} {rq:ReqD} (h:namedD op l = some rq):ReqSm rq:=by
 match l,h with
 | [p,n],h=>cases h;exact flat_sm ⟨rfl,rfl,rfl,rfl,rfl⟩
theorem node_sm {l:List Str} {rq:ReqD} (h:nodeD l = some rq):ReqSm rq:=by
 match l,h with
 | [a,p],h=>
  have h2:(if a = [97,100,100] then some ({ ReqD.zero with op:=1,path:=p }:ReqD) else if a = [100,114,111,112] then some { ReqD.zero with op:=2,path:=p } else none) = some rq:=h
  by_cases e1:a = [97,100,100]
  ·rw [if_pos e1] at h2
   cases h2;exact flat_sm ⟨rfl,rfl,rfl,rfl,rfl⟩
  ·rw [if_neg e1] at h2
   by_cases e2:a = [100,114,111,112]
   ·rw [if_pos e2] at h2
    cases h2;exact flat_sm ⟨rfl,rfl,rfl,rfl,rfl⟩
   ·rw [if_neg e2] at h2;cases h2
theorem nodes_sm {l:List Str} {rq:ReqD} (h:nodesD l = some rq):ReqSm rq:=by
 match l,h with
 | [p],h=>cases h;exact flat_sm ⟨rfl,rfl,rfl,rfl,rfl⟩
theorem end_sm {x:ReqD} {l:List Str} {rq:ReqD} (hx:ReqSm x) (h:ended x l = some rq):ReqSm rq:=by rw [← ended_some h];exact hx
theorem drop_sm {l:List Str} {rq:ReqD} (h:dropD l = some rq):ReqSm rq:=by
 match l,h with
 | p :: n :: r,h=>
  obtain ⟨c, -,h2⟩:=Option.bind_eq_some_iff.1 h
  exact end_sm (flat_sm ⟨rfl,rfl,rfl,rfl,rfl⟩) h2
theorem watch_sm {l:List Str} {rq:ReqD} (h:watchD l = some rq):ReqSm rq:=by
 match l,h with
 | p :: v :: r,h=>
  obtain ⟨c, -,h2⟩:=Option.bind_eq_some_iff.1 h
  obtain ⟨m, -,h3⟩:=Option.bind_eq_some_iff.1 h2
  exact end_sm (flat_sm ⟨rfl,rfl,rfl,rfl,rfl⟩) h3
theorem bind_sm {l:List Str} {rq:ReqD} (h:bindD l = some rq):ReqSm rq:=by
 match l,h with
 | [p,n,s,v],h=>
  obtain ⟨c, -,h2⟩:=Option.map_eq_some_iff.1 h
  rw [← h2]
  exact flat_sm ⟨rfl,rfl,rfl,rfl,rfl⟩
theorem quota_sm {l:List Str} {rq:ReqD} (hl:l.length ≤ 1048576) (h:quotaD l = some rq):ReqSm rq:=by
 match l,hl,h with
 | a :: r,hl,h=>
  unfold quotaD at h
  simp only at h
  split at h
  ·exact named_sm h
  ·split at h
   ·split at h
    ·obtain ⟨c, -,h2⟩:=Option.bind_eq_some_iff.1 h
     obtain ⟨x,hx,h3⟩:=Option.bind_eq_some_iff.1 h2
     have h4:=(amountsS_sub hx).2
     refine end_sm ⟨by simp [ReqD.zero,ObD.zero],by simp [ReqD.zero,ObD.zero],by simp [ReqD.zero,ObD.zero],?_,by simp [ReqD.zero,LiD.zero],by simp [ReqD.zero],by simp [ReqD.zero]⟩ h3
     simp only [List.length_cons] at hl
     show x.1.length ≤ _
     omega
    ·cases h
   ·cases h
theorem rulesS_num:∀ (n:Nat) {l:List Str} {x:List Rl × List Str},l.length ≤ n → rulesS l = some x → x.1.length ≤ l.length
 | n, [],x,hn,h=>by rw [rulesS_nil] at h;cases h;simp
 | n,t :: l,x,hn,h=>by
  by_cases ht:t = wRule
  ·subst ht
   cases l with
   | nil=>rw [rulesS_one] at h;cases h
   | cons m r=>
    cases hr:ruleS m r with
    | none=>rw [rulesS_bad hr] at h;cases h
    | some y=>
     obtain ⟨u,r'⟩:=y
     rw [rulesS_go hr] at h
     obtain ⟨z,hz,rfl⟩:=Option.map_eq_some_iff.1 h
     have h1:=ruleS_len hr
     simp only [List.length_cons] at hn h1 ⊢
     match n,hn with
     | n + 1,hn=>
      have:=rulesS_num n (by omega) hz
      omega
  ·rw [rulesS_stop (by simpa using ht)] at h
   cases h;simp
theorem limit_sm {l:List Str} {rq:ReqD} (hl:l.length ≤ 1048576) (h:limitD l = some rq):ReqSm rq:=by
 match l,hl,h with
 | a :: r,hl,h=>
  unfold limitD at h
  simp only at h
  split at h
  ·exact named_sm h
  ·split at h
   ·split at h
    ·obtain ⟨x,hx,h3⟩:=Option.bind_eq_some_iff.1 h
     have h4:=rulesS_num _ (Nat.le_refl _) hx
     refine end_sm ⟨by simp [ReqD.zero,ObD.zero],by simp [ReqD.zero,ObD.zero],by simp [ReqD.zero,ObD.zero],by simp [ReqD.zero,QuD.zero],?_,by simp [ReqD.zero],by simp [ReqD.zero]⟩ h3
     simp only [List.length_cons] at hl
     show x.1.length ≤ _
     omega
    ·cases h
   ·cases h
theorem labelsS_num:∀ (n:Nat) {l:List Str} {x:List (Str × Str) × List Str},l.length ≤ n → labelsS l = some x → x.1.length ≤ l.length ∧ x.2.length ≤ l.length
 | n, [],x,hn,h=>by cases h;simp
 | n,t :: l,x,hn,h=>by
  by_cases ht:t = wLabel
  ·subst ht
   cases l with
   | nil=>rw [labelsS_one] at h;cases h
   | cons m r=>
    cases hr:cutAt [61] m with
    | none=>rw [labelsS_bad hr] at h;cases h
    | some y=>
     obtain ⟨u,v⟩:=y
     rw [labelsS_go hr] at h
     obtain ⟨z,hz,rfl⟩:=Option.map_eq_some_iff.1 h
     simp only [List.length_cons] at hn ⊢
     match n,hn with
     | n + 1,hn=>
      have:=labelsS_num n (by omega) hz
      omega
  ·rw [labelsS_stop (by simpa using ht)] at h
   cases h;simp
theorem partsS_num:∀ (n:Nat) {l:List Str} {x:List Ptt × List Str},l.length ≤ n → partsS l = some x → x.1.length ≤ l.length ∧ ∀ p ∈ x.1,p.reqs.length ≤ l.length ∧ p.lims.length ≤ l.length
 | n, [],x,hn,h=>by rw [partsS_stop (by simp)] at h;cases h;simp
 | n,t :: l,x,hn,h=>by
  by_cases ht:t = wPart
  ·subst ht
   cases l with
   | nil=>rw [partsS_one] at h;cases h
   | cons m r=>
    cases hr:partS m r with
    | none=>rw [partsS_bad hr] at h;cases h
    | some y=>
     obtain ⟨u,r'⟩:=y
     have h0:=hr
     rw [partsS_go hr] at h
     obtain ⟨z,hz,rfl⟩:=Option.map_eq_some_iff.1 h
     have h1:=partS_len hr
     unfold partS at h0
     obtain ⟨a1,b1,h2⟩:=Option.bind_eq_some_iff.1 h0
     obtain ⟨a2,b2,h3⟩:=Option.map_eq_some_iff.1 h2
     have c1:=(amountsIf_sub b1).2
     have c2:=(amountsIf_sub b2).2
     cases h3
     simp only [List.length_cons] at hn h1 ⊢
     match n,hn with
     | n + 1,hn=>
      have hrec:=partsS_num n (by omega) hz
      refine ⟨by omega,fun p hp=>?_⟩
      rcases List.mem_cons.1 hp with rfl | hp
      ·simp only;omega
      ·have:=hrec.2 p hp;omega
  ·rw [partsS_stop (by simpa using ht)] at h
   cases h;simp
theorem object_sm {op:Nat} {l:List Str} {rq:ReqD} (hl:l.length ≤ 1048576) (h:objectD op l = some rq):ReqSm rq:=by
 match l,hl,h with
 | p :: n :: r,hl,h=>
  obtain ⟨a,ha,h⟩:=Option.bind_eq_some_iff.1 h
  obtain ⟨b,hb,h⟩:=Option.bind_eq_some_iff.1 h
  obtain ⟨c,hc,h⟩:=Option.bind_eq_some_iff.1 h
  obtain ⟨d,hd,h⟩:=Option.bind_eq_some_iff.1 h
  obtain ⟨e,he,h⟩:=Option.bind_eq_some_iff.1 h
  have h1:=(smallS_sub ha).2
  have h2:=(smallS_sub hb).2
  have h3:=(mustS_sub hc).2
  have h4:=labelsS_num _ (Nat.le_refl _) hd
  have h5:=partsS_num _ (Nat.le_refl _) he
  simp only [List.length_cons] at hl
  refine end_sm ⟨?_,?_,fun x hx=>?_,by simp [ReqD.zero,QuD.zero],by simp [ReqD.zero,LiD.zero],by simp [ReqD.zero],by simp [ReqD.zero]⟩ h
  ·show d.1.length ≤ _;omega
  ·show e.1.length ≤ _;have:=h5.1;omega
  ·have:=h5.2 x hx;omega
def SelSm (sel:Nat → Option (List Tm)):Prop := ∀ k l,sel k = some l → l.length ≤ 8 ∧ ∀ t ∈ l,t.vals.length ≤ 8
theorem list_sm {sel:Nat → Option (List Tm)} (hs:SelSm sel) {l:List Str} {rq:ReqD} (h:listD sel l = some rq):ReqSm rq:=by
 match l,h with
 | p :: r,h=>
  rw [listD_eq] at h
  obtain ⟨m, -,h2⟩:=Option.bind_eq_some_iff.1 h
  split at h2
  ·cases h2;exact flat_sm ⟨rfl,rfl,rfl,rfl,rfl⟩
  ·split at h2
   ·obtain ⟨tl,ht,h3⟩:=Option.map_eq_some_iff.1 h2
    obtain ⟨g1,g2⟩:=hs _ _ ht
    rw [← h3]
    exact ⟨by simp [ReqD.zero,ObD.zero],by simp [ReqD.zero,ObD.zero],by simp [ReqD.zero,ObD.zero],by simp [ReqD.zero,QuD.zero],by simp [ReqD.zero,LiD.zero],by show tl.length ≤ _;omega,fun t ht=>by have:=g2 t ht;omega⟩
   ·cases h2
theorem form_sm {sel:Nat → Option (List Tm)} (hs:SelSm sel) {a:Str} {r:List Str} (hr:r.length ≤ 1048576) {rq:ReqD} (h:formD sel a r = some rq):ReqSm rq:=by
 unfold formD at h
 by_cases k0:a = [110,111,100,101]
 ·rw [if_pos k0] at h
  exact node_sm h
 rw [if_neg k0] at h
 by_cases k1:a = [113,117,111,116,97]
 ·rw [if_pos k1] at h
  exact quota_sm hr h
 rw [if_neg k1] at h
 by_cases k2:a = [108,105,109,105,116]
 ·rw [if_pos k2] at h
  exact limit_sm hr h
 rw [if_neg k2] at h
 by_cases k3:a = [99,114,101,97,116,101]
 ·rw [if_pos k3] at h
  exact object_sm hr h
 rw [if_neg k3] at h
 by_cases k4:a = [117,112,100,97,116,101]
 ·rw [if_pos k4] at h
  exact object_sm hr h
 rw [if_neg k4] at h
 by_cases k5:a = [101,118,105,99,116]
 ·rw [if_pos k5] at h
  exact object_sm hr h
 rw [if_neg k5] at h
 by_cases k6:a = [100,101,108,101,116,101]
 ·rw [if_pos k6] at h
  exact drop_sm h
 rw [if_neg k6] at h
 by_cases k7:a = [103,101,116]
 ·rw [if_pos k7] at h
  exact named_sm h
 rw [if_neg k7] at h
 by_cases k8:a = [110,111,100,101,115]
 ·rw [if_pos k8] at h
  exact nodes_sm h
 rw [if_neg k8] at h
 by_cases k9:a = [108,105,115,116]
 ·rw [if_pos k9] at h
  exact list_sm hs h
 rw [if_neg k9] at h
 by_cases k10:a = [115,116,97,116,117,115]
 ·rw [if_pos k10] at h
  exact named_sm h
 rw [if_neg k10] at h
 by_cases k11:a = [119,97,116,99,104]
 ·rw [if_pos k11] at h
  exact watch_sm h
 rw [if_neg k11] at h
 by_cases k12:a = [98,105,110,100]
 ·rw [if_pos k12] at h
  exact bind_sm h
 rw [if_neg k12] at h
 by_cases k13:a = [117,110,98,105,110,100]
 ·rw [if_pos k13] at h
  exact named_sm h
 rw [if_neg k13] at h
 by_cases k14:a = [115,121,110,99]
 ·rw [if_pos k14] at h
  exact end_sm (flat_sm ⟨rfl,rfl,rfl,rfl,rfl⟩) h
 rw [if_neg k14] at h
 by_cases k15:a = [99,104,101,99,107,112,111,105,110,116]
 ·rw [if_pos k15] at h
  exact end_sm (flat_sm ⟨rfl,rfl,rfl,rfl,rfl⟩) h
 rw [if_neg k15] at h
 by_cases k16:a = [115,116,97,116]
 ·rw [if_pos k16] at h
  exact end_sm (flat_sm ⟨rfl,rfl,rfl,rfl,rfl⟩) h
 rw [if_neg k16] at h
 cases h
theorem selParse_sm (rd:Str → Tm) {s:Str} {l:List Tm} (h:selParse rd s = some l):l.length ≤ 8 ∧ ∀ t ∈ l,t.vals.length ≤ 8:=by
 unfold selParse at h
 split at h
 ·cases h;simp
 ·simp only at h
  split at h
  ·rename_i h2
   cases h
   refine ⟨h2.1,fun t ht=>?_⟩
   have h3:=List.all_eq_true.1 h2.2.1 t ht
   unfold tmOk at h3
   simp only [Bool.and_eq_true] at h3
   have h4:=h3.2
   split at h4
   ·have:t.vals = []:=by simpa using h4
    rw [this];simp
   ·unfold valsOk at h4
    simp only [Bool.and_eq_true,decide_eq_true_eq] at h4
    exact h4.1.2
  ·cases h
theorem ReqSm.dry {r:ReqD} (h:ReqSm r) (d:Bool):ReqSm { r with dry:=d }:=⟨h.labels,h.parts,h.part,h.hard,h.rules,h.terms,h.vals⟩
theorem ask_sm (rd:Str → Tm) {t:Str} (ht:t.length ≤ 1048576) {rq:ReqD} (h:askD (selParse rd) t = some rq):ReqSm rq:=by
 unfold askD at h
 split at h
 ·cases h
 ·obtain ⟨q,hq,rfl⟩:=Option.map_eq_some_iff.1 h
  refine ReqSm.dry ?_ _
  unfold requestD at hq
  split at hq
  ·cases hq
  ·rename_i w r hw
   refine form_sm (fun k l hk=>selParse_sm rd hk) ?_ hq
   have h1:=words_len (dryS (t.takeWhile (· != 35))).2
   have h2:=dryS_len (t.takeWhile (· != 35))
   have h3:=takeWhile_len (· != 35) t
   rw [hw] at h1
   simp only [List.length_cons] at h1
   omega
end Go.Proofs.YtpfkkagkbneilaaGreatDoor
namespace Go.Proofs.YtpfkkagkbneilaaGreatDoor
open Go.RowKit
set_option linter.unusedVariables false
set_option linter.unusedSimpArgs false
theorem askD_eq (t:Str):askD (selParse termR) t = askD (selParse termB) t:=by
 have h:selParse termR = selParse termB:=funext fun s=>(sel_eq s).symm
 rw [h]
def askZ (t:Str):ReqD:=(askD (selParse termB) t).getD ReqD.zero
theorem askZ_sm {t:Str} (ht:t.length ≤ 1048576):ReqSm (askZ t):=by
 unfold askZ
 cases h:askD (selParse termB) t with
 | none=>exact flat_sm ⟨rfl,rfl,rfl,rfl,rfl⟩
 | some rq=>exact ask_sm termB ht h
theorem AkP.zed {rd:Str → Option (List Tm)} {t:Str} {w w' : World} {e:Ending} (hrd:askD rd t = askD (selParse termB) t) (h:AkP rd t w e w'):∃ cs,e = .returned (.tuple #[.agg cs,.bool (askD (selParse termB) t).isSome]) ∧ ReqV w.heap.size w' cs (askZ t) ∧ Below w.heap.size w w':=by
 obtain ⟨cs,b,rfl,hv,hb⟩:=h
 rw [hrd] at hv
 unfold askZ
 rcases hv with ⟨rfl,rq,h1,h2⟩ | ⟨rfl,h1,rfl⟩
 ·rw [h1];exact ⟨cs,rfl,h2,hb⟩
 ·rw [h1];exact ⟨zeroCells,rfl,ReqV.flat _ _ (r:=ReqD.zero) ⟨rfl,rfl,rfl,rfl,rfl⟩,hb⟩
def putReq (X:World) (cs:Array Value):World:=(X.alloc (.cells zeroCells 38)).setCells X.heap.size 0 cs.toList
theorem putReq_all {X:World} {cs:Array Value} (hs:cs.size = 29):(putReq X cs).heap[X.heap.size]? = some (.cells cs 38 (0,0)) ∧ Below X.heap.size X (putReq X cs) ∧ Fr (fun k=>k = X.heap.size) X (putReq X cs):=by
 obtain ⟨h1,h2⟩:=req_store (w:=X.alloc (.cells zeroCells 38)) (g:=X.heap.size) (blk_new X _) zeroCells_size hs
 refine ⟨h1,(bel_alloc X _).trans (h2.to_below (fun k hk=>by omega) (bel_alloc X _).size),?_⟩
 exact (Fr.of_below (bel_alloc X _) (fun k=>k = X.heap.size)).trans h2 (fun k hk=>.inl hk)
def isReq (W:World) (g:Nat):Bool:=match W.heap[g]? with
 | some (.cells cs t (0,0))=>t == 38 && cs.size == 29
 | _=>false
def reqC (W:World) (g:Nat):Array Value:=match W.heap[g]? with
 | some (.cells cs _ _)=>cs
 | _ => #[]
theorem isReq_of {W:World} {g:Nat} {cs:Array Value} (h:W.heap[g]? = some (.cells cs 38 (0,0))) (hs:cs.size = 29):isReq W g = true ∧ reqC W g = cs:=by
 unfold isReq reqC
 rw [h]
 simp [hs]
theorem isReq_row {W:World} {g:Nat} (h:isReq W g = true):W.heap[g]? = some (.cells (reqC W g) 38 (0,0)) ∧ (reqC W g).size = 29:=by
 unfold isReq at h
 unfold reqC
 split at h
 ·rename_i cs t he
  rw [he]
  simp only [Bool.and_eq_true,beq_iff_eq] at h
  obtain ⟨rfl,h2⟩:=h
  exact ⟨rfl,h2⟩
 ·cases h
theorem wp_load_rq {d:Option Tmp} {i:Tmp} {ty:TypeId} {pos:String} {after:Array Edge} {gd:Option (Nat × Bool)} {a:Act} {w:World} {K:Act → World → Prop} {Q:Exit → Act → World → Prop} (hi:a.eval (.tmp i) = .pointer (some ⟨ptrB (a.eval (.tmp i)),0,none⟩)) (hb:isReq w (ptrB (a.eval (.tmp i))) = true) :
  Oper.wp Tryz.prog ⟨d,.load 38 (.tmp i),ty,pos,after,gd⟩ a w K Q = K (a.put d (.agg (reqC w (ptrB (a.eval (.tmp i)))))) w:=by
 generalize ptrB (a.eval (.tmp i)) = g at hi hb
 obtain ⟨h1,h2⟩:=isReq_row hb
 unfold Oper.wp execOp
 simp only [hi,Instr.loadAt,Instr.sureAddr,Sem.run_bind,Sem.run_pure,Result.andThen_ok,run_loadVar_row (P:=Tryz.prog) w g 38 38 (reqC w g) (0,0) _ h1 reqU rfl (by rw [h2];exact infoReq)]
 rfl
attribute [local go_sem ↓] wp_load_rq
attribute [local go_sem] ptrB_at
set_option maxRecDepth 100000 in
set_option maxHeartbeats 6400000 in
theorem law_calls (w:World) (G:Glob w) (t:Str) (ht:t.length ≤ 1048576):Calls Tryz.prog 3 #[.string (sb t)] w (EqB w):=by
 have H1:Hid (Calls Tryz.prog 5 #[.string (sb t)] w fun e w' => ∃ cs,e = .returned (.tuple #[.agg cs,.bool (askD (selParse termB) t).isSome]) ∧ ReqV w.heap.size w' cs (askZ t) ∧ Below w.heap.size w w'):=(ask_calls w G t ht).mono fun e w' h=>h.zed rfl
 have H2:Hid (∀ W,Calls Tryz.prog 6 #[.string (sb t)] W fun e w' => ∃ cs,e = .returned (.tuple #[.agg cs,.bool (askD (selParse termB) t).isSome]) ∧ ReqV W.heap.size w' cs (askZ t) ∧ Below W.heap.size W w'):=fun W=>(rask_calls W t ht).mono fun e w' h=>h.zed (askD_eq t)
 have Hsm:=Lib.hid (askZ_sm ht)
 obtain ⟨B,hB⟩ : ∃ B,B = (askD (selParse termB) t).isSome:=⟨_,rfl⟩
 rw [← hB] at H1 H2
 generalize sb t = S at H1 H2
 have hbb:(B == B) = true:=by simp
 clear hB ht G
 go_enter Tryz.func3,Tryz.ntmps3
 go_wp2_with fail
 with_reducible refine H1.out.mono ?_
 rintro e X1 ⟨cs1,rfl,hv1,hb1⟩
 have Hv1:=Lib.hid hv1
 have Hb1:=Lib.hid hb1
 obtain ⟨g1,hg1⟩ : ∃ g1,g1 = X1.heap.size:=⟨_,rfl⟩
 have hgs1:X1.heap.size = g1:=hg1.symm
 have hqa:(X1.alloc (.cells zeroCells 38)).heap[g1]? = some (.cells zeroCells 38 (0,0)):=by rw [hg1];exact blk_new _ _
 have Hth1:Hid ((X1.alloc (.cells zeroCells 38)).there g1 0 cs1.size):=there_blk hqa (by rw [hv1.size,zeroCells_size];omega)
 have Hsz1:Hid ((Tryz.prog.info? 38).map (·.size) = some cs1.size):=by show _ = _;rw [hv1.size];exact infoReq
 have Hone1:=Lib.hid hv1.one
 obtain ⟨Y1,hY1⟩ : ∃ Y,Y = (X1.alloc (.cells zeroCells 38)).setCells g1 0 cs1.toList:=⟨_,rfl⟩
 have hpy:Y1 = putReq X1 cs1:=by rw [hY1,hg1];rfl
 have HY1:Hid (Y1.heap[g1]? = some (.cells cs1 38 (0,0)) ∧ Below w.heap.size w Y1 ∧ ReqV w.heap.size Y1 cs1 (askZ t) ∧ g1 < Y1.heap.size):=by
  obtain ⟨p1,p2,p3⟩:=putReq_all (X:=X1) (cs:=cs1) hv1.size
  rw [← hpy] at p1 p2 p3
  rw [hgs1] at p1
  exact ⟨p1,hb1.trans (p2.mono hb1.size),hv1.keep p3 (fun k hk e=>by omega),blk_lt p1⟩
 have HYe:=Lib.hid hY1
 clear hv1 hb1 hg1 hqa hY1 hpy
 go_upto_region 2 with (refine wpList_store_mid (op:=⟨none,.store 38 (.tmp 3) (.tmp 10),_,_,_,_⟩) rfl 38 (.tmp 3) (.tmp 10) rfl g1 0 cs1 rfl rfl Hth1.out Hsz1.out Hone1.out ?_)
 show Code.wp _ _ _ _ ((X1.alloc (.cells zeroCells 38)).setCells g1 0 cs1.toList)
 rw [← HYe.out]
 clear hgs1
 go_wp2_with fail
 with_reducible refine (H2.out _).mono ?_
 rintro e X2 ⟨cs2,rfl,hv2,hb2⟩
 obtain ⟨g2,hg2⟩ : ∃ g2,g2 = X2.heap.size:=⟨_,rfl⟩
 have hgs2:X2.heap.size = g2:=hg2.symm
 have hqa:(X2.alloc (.cells zeroCells 38)).heap[g2]? = some (.cells zeroCells 38 (0,0)):=by rw [hg2];exact blk_new _ _
 have Hth2:Hid ((X2.alloc (.cells zeroCells 38)).there g2 0 cs2.size):=there_blk hqa (by rw [hv2.size,zeroCells_size];omega)
 have Hsz2:Hid ((Tryz.prog.info? 38).map (·.size) = some cs2.size):=by show _ = _;rw [hv2.size];exact infoReq
 have Hone2:=Lib.hid hv2.one
 obtain ⟨Y2,hY2⟩ : ∃ Y,Y = (X2.alloc (.cells zeroCells 38)).setCells g2 0 cs2.toList:=⟨_,rfl⟩
 have hpy:Y2 = putReq X2 cs2:=by rw [hY2,hg2];rfl
 have HY2:Hid (Y2.heap[g1]? = some (.cells cs1 38 (0,0)) ∧ Y2.heap[g2]? = some (.cells cs2 38 (0,0)) ∧ Below w.heap.size w Y2 ∧ ReqV w.heap.size Y2 cs1 (askZ t) ∧ ReqV Y1.heap.size Y2 cs2 (askZ t)):=by
  obtain ⟨p1,p2,p3⟩:=putReq_all (X:=X2) (cs:=cs2) hv2.size
  rw [← hpy] at p1 p2 p3
  rw [hgs2] at p1
  have hbw:Below w.heap.size w X2:=HY1.out.2.1.trans (hb2.mono HY1.out.2.1.size)
  have hl:=hb2.size
  have hl1:=HY1.out.2.2.2
  exact ⟨p3.blk (blk_below HY1.out.1 hb2) (by omega),p1,hbw.trans (p2.mono hbw.size),(HY1.out.2.2.1.below hb2).keep p3 (fun k hk e=>by omega),hv2.keep p3 (fun k hk e=>by omega)⟩
 have HYe2:=Lib.hid hY2
 clear hv2 hb2 hg2 hqa hY2 hpy
 go_upto_region 3 with (refine wpList_store_mid (op:=⟨none,.store 38 (.tmp 5) (.tmp 15),_,_,_,_⟩) rfl 38 (.tmp 5) (.tmp 15) rfl g2 0 cs2 rfl rfl Hth2.out Hsz2.out Hone2.out ?_)
 show Code.wp _ _ _ _ ((X2.alloc (.cells zeroCells 38)).setCells g2 0 cs2.toList)
 rw [← HYe2.out]
 clear hgs2
 have Hc:=Lib.hid (eqReq_calls Y2 _ _ cs1 cs2 (askZ t) HY2.out.2.2.2.1 HY2.out.2.2.2.2 Hsm.out)
 obtain ⟨r1,r2⟩:=isReq_of HY2.out.1 HY2.out.2.2.2.1.size
 obtain ⟨r3,r4⟩:=isReq_of HY2.out.2.1 HY2.out.2.2.2.2.size
 go_wp2_with fail
 with_reducible refine Hc.out.mono ?_
 rintro e Z ⟨rfl,hbz⟩
 have Hz:Hid (Below w.heap.size w Z):=HY2.out.2.2.1.trans (hbz.mono HY2.out.2.2.1.size)
 clear hbz
 go_wp2
 go_ret
 exact ⟨rfl,Hz.out⟩
end Go.Proofs.YtpfkkagkbneilaaGreatDoor
