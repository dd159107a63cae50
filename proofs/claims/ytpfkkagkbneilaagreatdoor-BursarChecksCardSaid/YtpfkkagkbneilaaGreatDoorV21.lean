/- Texts M5 of the proof of BursarChecks, joined. -/
import Derived.Test.YtpfkkagkbneilaaGreatDoorV20
namespace Go.Proofs.YtpfkkagkbneilaaGreatDoor
open Go.RowKit
set_option linter.unusedVariables false
set_option linter.unusedSimpArgs false
set_option maxRecDepth 100000
set_option maxHeartbeats 25600000
section
theorem infoBin:(Tryz.prog.info? 35).map (·.size) = some 4:=by kernel_rfl
theorem wp_store_bin {i j:Tmp} {ty:TypeId} {pos:String} {after:Array Edge} {a:Act} {w:World} {K:Act → World → Prop} {Q:Exit → Act → World → Prop} (hi:a.eval (.tmp i) = .pointer (some ⟨ptrB (a.eval (.tmp i)),ptrO (a.eval (.tmp i)),none⟩)) (hj:a.eval (.tmp j) = .agg (aggC (a.eval (.tmp j)))) (hs:(aggC (a.eval (.tmp j))).size = 4) (h1:allOne (aggC (a.eval (.tmp j))).toList = true) (ht:w.there (ptrB (a.eval (.tmp i))) (ptrO (a.eval (.tmp i))) 4) :
  Oper.wp Tryz.prog ⟨none,.store 35 (.tmp i) (.tmp j),ty,pos,after,none⟩ a w K Q = K (a.put none undef) (w.setCells (ptrB (a.eval (.tmp i))) (ptrO (a.eval (.tmp i))) (aggC (a.eval (.tmp j))).toList):=wp_store_any _ 4 infoBin hi hj hs h1 ht
attribute [local go_sem ↓] wp_store_req wp_store_bin
attribute [local go_sem] ptrB_at ptrO_at allOne_cons allOne_nil aggC_agg oneI oneS oneL oneB
def vbN:List Str := [[114,101,97,100], [119,114,105,116,101], [103,111,118,101,114,110], [98,105,110,100]]
def vbC:Array Value := #[.string (ByteArray.mk #[114,101,97,100]),.string (ByteArray.mk #[119,114,105,116,101]),.string (ByteArray.mk #[103,111,118,101,114,110]),.string (ByteArray.mk #[98,105,110,100])]
theorem vb_cell {w:World} {vb:Nat} {T:TypeId} (h:w.heap[vb]? = some (.cells vbC T (0,0))) {i:Nat} (hi:i < 4):w.cell? ⟨vb,i,none⟩ = some (.string (sb (vbN.getD i []))):=by
 match i,hi with
 | 0,_=>exact (cellsN (i:=0) h (show _ < 4 by decide)).1
 | 1,_=>exact (cellsN (i:=1) h (show _ < 4 by decide)).1
 | 2,_=>exact (cellsN (i:=2) h (show _ < 4 by decide)).1
 | 3,_=>exact (cellsN (i:=3) h (show _ < 4 by decide)).1
theorem verbS_at {v:Str} {i:Nat} (hi:i < 4) (h:v = vbN.getD i []):verbS v = some i:=by
 subst h
 match i,hi with
 | 0,_=>rfl
 | 1,_=>rfl
 | 2,_=>rfl
 | 3,_=>rfl
theorem verbS_no {v:Str} (h:∀ i,i < 4 → v ≠ vbN.getD i []):verbS v = none:=by
 have h0:v ≠ [114,101,97,100]:=h 0 (by omega);have h1:v ≠ [119,114,105,116,101]:=h 1 (by omega);have h2:v ≠ [103,111,118,101,114,110]:=h 2 (by omega);have h3:v ≠ [98,105,110,100]:=h 3 (by omega);unfold verbS;rw [if_neg h0,if_neg h1,if_neg h2,if_neg h3]
def biR (p m s:Str) (k:Nat):ReqD:={ ReqD.zero with op:=14,path:=p,name:=m,bin:=⟨p,m,s,k⟩ }
theorem biR_cells (p m s:Str) (k:Nat):setAll (reqCells { ReqD.zero with op:=14,path:=p,name:=m } (.slice none 0 0) (.slice none 0 0) (.slice none 0 0) (.slice none 0 0) (.slice none 0 0)) 19 [.string (sb p),.string (sb m),.string (sb s),.int .i64 (k:Int)] = reqCells (biR p m s k) (.slice none 0 0) (.slice none 0 0) (.slice none 0 0) (.slice none 0 0) (.slice none 0 0):=by
 simp only [setAll,reqCells,List.setIfInBounds_toArray,List.set_cons_zero,List.set_cons_succ]
 rfl
def BiLoop (w2:World) (o:Option Str) (v14:Value) (wr:World):Prop := ∃ i:Nat,v14 = .int .i64 i ∧ i ≤ 4 ∧ (∃ k,wr = w2.drewN k) ∧ ∀ v,o = some v → ∀ j,j < i → v ≠ vbN.getD j []
theorem rrest_bind (w:World) (v:Value) (a:Str) (r:List Str) (h:RdT w v (a :: r)) (hsm:∀ t ∈ a :: r,t.length ≤ 1048576) (hln:(a :: r).length ≤ 1048577) (hr:r ≠ []) (ha:a = wBind):Calls Tryz.prog 36 #[v] w (ReP (restD a r) w):=by
 obtain ⟨b,off,c,rfl,hc,hb0,hcell⟩:=RdT.some h (by simp);obtain ⟨n,hn⟩ : ∃ n,n = (a :: r).length:=⟨_,rfl⟩;obtain ⟨O,hO⟩ : ∃ O,O = restD a r:=⟨_,rfl⟩;obtain ⟨g,hg⟩ : ∃ g,g = w.heap.size:=⟨_,rfl⟩;have hF:Tryz.f36.results = #[.cell 2 38,.tmp 3]:=rfl;have HF:=hIh hF;have Hg:=hIh hg;obtain ⟨w1,hw1⟩ : ∃ w1,w1 = w.alloc (.cells zeroCells 38):=⟨_,rfl⟩
 have H1:Hid (w1.heap[g]? = some (.cells zeroCells 38 (0,0)) ∧ Below w.heap.size w w1 ∧ w1.heap.size = g + 1):=by
  rw [hw1,hg];exact ⟨blk_new _ _,bel_alloc _ _,alloc_size _ _⟩
 have Hth:Hid (w1.there g 0 zeroCells.size):=there_blk H1.out.1 (Nat.le_refl _);have HW1:=hIh hw1;have hgs:w.heap.size = g:=hg.symm;rw [← hO,← hn];rw [← hn] at hc
 have hci:(n:Int) ≤ c:=by omega
 have hnb:(n:Int) ≤ 1048577:=by omega
 have Hn:=hIh hn
 have hn0:(0:Int) < n:=by rw [hn];simp only [List.length_cons];omega
 have Hb0:Hid (b < w.heap.size):=hb0
 obtain ⟨t1,r,rfl⟩ : ∃ t1 q,r = t1 :: q:=by
  cases r with
  | nil=>exact absurd rfl hr
  | cons t1 q=>exact ⟨t1,q,rfl⟩
 have hd:decide ((n:Int) < 2) = false:=decide_eq_false (by rw [hn];simp only [List.length_cons];omega)
 have hd2:¬ (n:Int) < 2:=by rw [hn];simp only [List.length_cons];omega
 have hn1:(1:Int) < n:=by rw [hn];simp only [List.length_cons];omega
 have h0:w1.cell? ⟨b,off,none⟩ = some (.string (sb a)):=bcell H1.out.2.1 (by have:=hcell 0 (by simp);simpa using this);have h1:w1.cell? ⟨b,off + 1,none⟩ = some (.string (sb t1)):=bcell H1.out.2.1 (hcell 1 (by simp));subst ha;have q1:((sb wBind).toList == [113,117,111,116,97]) = false:=eqLF (by decide);have q2:((sb wBind).toList == [108,105,109,105,116]) = false:=eqLF (by decide);have q3:((sb wBind).toList == [100,101,108,101,116,101]) = false:=eqLF (by decide);have q4:((sb wBind).toList == [119,97,116,99,104]) = false:=eqLF (by decide);have q5:((sb wBind).toList == [98,105,110,100]) = true:=eqLT rfl;obtain ⟨w2,hw2⟩ : ∃ w2,w2 = w1.alloc (.cells vbC 9):=⟨_,rfl⟩;have hs1:=H1.out.2.2
 have H2:Hid (w2.heap[g + 1]? = some (.cells vbC 9 (0,0)) ∧ Below w.heap.size w w2 ∧ w2.heap[g]? = some (.cells zeroCells 38 (0,0)) ∧ w2.heap.size = g + 2):=by
  rw [hw2];refine ⟨?_,H1.out.2.1.trans ((bel_alloc _ _).mono H1.out.2.1.size),blk_alloc H1.out.1 _,by rw [alloc_size,hs1]⟩;rw [← hs1];exact blk_new _ _
 have hO2:O = bindD (t1 :: r):=by
  rw [hO];simp [restD,show ¬ wBind = wQuota from by decide,show ¬ wBind = wLimit from by decide,show ¬ wBind = wDelete from by decide,show ¬ wBind = wWatch from by decide]
 have HO2:=hIh hO2;have Hcell:Hid (∀ i (hi:i < (wBind :: t1 :: r).length),w.cell? ⟨b,off + i,none⟩ = some (.string (sb (wBind :: t1 :: r)[i]))):=hcell
 have hOk:(n = 5 ∧ ∃ m s v,r = [m,s,v] ∧ O = (verbS v).map fun k=>biR t1 m s k) ∨ (n ≠ 5 ∧ O = none):=by
  rw [hO2]
  match r,hn with
  | [],hn=>exact .inr ⟨by simp at hn;omega,rfl⟩
  | [m],hn=>exact .inr ⟨by simp at hn;omega,rfl⟩
  | [m,s],hn=>exact .inr ⟨by simp at hn;omega,rfl⟩
  | [m,s,v],hn=>exact .inl ⟨by simp at hn;omega,m,s,v,rfl,rfl⟩
  | m :: s :: v :: x :: r,hn=>exact .inr ⟨by simp at hn;omega,rfl⟩
 have HW2:=hIh hw2;have Hth2:Hid (w2.there g 0 zeroCells.size):=there_blk H2.out.2.2.1 (Nat.le_refl _);generalize sb wBind = T0 at h0 q1 q2 q3 q4 q5;rcases hOk with ⟨h5,m,s,vv,rfl,hO3⟩ | ⟨h5,hno⟩
 case inr=>
  have Hno:=hIh hno
  have hb5:((n:Int) == 5) = false:=by simp;omega
  have hb6:(n == 5) = false:=by simp;omega
  clear hO h hsm hln hcell hF hg hn hw1 hc hb0 hr hO2 hw2 hno h5 HO2;go_enter Tryz.func36,Tryz.ntmps36;go_upto_region 1 with fail;show Code.wp _ _ _ _ (w.alloc (.cells zeroCells 38));rw [← HW1.out];go_upto_block 1 with fail;show Code.wp _ _ _ _ (w1.alloc (.cells vbC 9));rw [← HW2.out];go_wp2_with fail
  go_loopw [14] (fun v14 wr=>BiLoop w2 none v14 wr) (fun v14 _=>4 - (intOf v14).toNat)
  case atStart=>exact ⟨0,rfl,by omega,⟨0,rfl⟩,fun v hv=>by cases hv⟩
  case round=>
   obtain ⟨i,rfl,hi,hwk, -⟩:=hrel;have Hwk:=hIh hwk;clear hwk
   by_cases hlt:i < 4
   ·have hi1:decide ((i:Int) < 4) = true:=decide_eq_true (by omega)
    have hi2:(i:Int) < 4:=(by omega)
    have Hk:Hid (∀ q,BiLoop w2 none (.int .i64 ((i:Int) + 1)) (wr.drewN q)):=fun q=>by
     obtain ⟨k,hk⟩:=Hwk.out;exact ⟨i + 1,by simp,by omega,⟨k + q,by rw [hk];exact World.drewN_drewN _ _ _⟩,fun v hv=>by cases hv⟩
    go_wp2;go_quiet (fail);go_wp2;go_roundw
    case rel=>exact Hk.out _
    case measure=>simp [intOf];omega
   ·have hi1:decide ((i:Int) < 4) = false:=decide_eq_false (by omega)
    have hi2:¬ (i:Int) < 4:=(by omega)
    have Hrs:Hid (wr.heap[g]? = some (.cells zeroCells 38 (0,0)) ∧ Below w.heap.size w wr ∧ wr.there g 0 zeroCells.size):=by
     obtain ⟨k,hk⟩:=Hwk.out;rw [hk];exact ⟨H2.out.2.2.1,drewB H2.out.2.1 _,Hth2.out⟩
    go_wp2_with ((with_reducible refine wpList_store_mid (op:=⟨none,.store 38 (.tmp 2) (.tmp 143),_,_,_,_⟩) ?_ 38 (.tmp 2) (.tmp 143) ?_ g 0 zeroCells ?_ ?_ Hrs.out.2.2 infoZ zero_one ?_);exact rfl;exact rfl;exact rfl;exact rfl);exact re_no HF.out Hg.out Hrs.out.1 zeroCells_size Hrs.out.2.1 Hno.out rfl rfl
 case inl=>
  have hb5:((n:Int) == 5) = true:=by simp;omega
  have hb6:(n == 5) = true:=by simp;omega
  have HO3:=hIh hO3
  have hn4:(4:Int) < n:=by omega
  have hn3:(3:Int) < n:=by omega
  have hn2:(2:Int) < n:=by omega
  have HC:Hid (w2.cell? ⟨b,off + 1,none⟩ = some (.string (sb t1)) ∧ w2.cell? ⟨b,off + 2,none⟩ = some (.string (sb m)) ∧ w2.cell? ⟨b,off + 3,none⟩ = some (.string (sb s)) ∧ w2.cell? ⟨b,off + 4,none⟩ = some (.string (sb vv))):=⟨bcell H2.out.2.1 (hcell 1 (by simp)),bcell H2.out.2.1 (hcell 2 (by simp)),bcell H2.out.2.1 (hcell 3 (by simp)),bcell H2.out.2.1 (hcell 4 (by simp))⟩;clear hO h hsm hln hcell hF hg hn hw1 hc hb0 hr hO2 hw2 hO3 h5 HO2 Hcell Hn h1;go_enter Tryz.func36,Tryz.ntmps36;go_upto_region 1 with fail;show Code.wp _ _ _ _ (w.alloc (.cells zeroCells 38));rw [← HW1.out];go_upto_block 1 with fail;show Code.wp _ _ _ _ (w1.alloc (.cells vbC 9));rw [← HW2.out];go_wp2_with fail
  go_loopw [14] (fun v14 wr=>BiLoop w2 (some vv) v14 wr) (fun v14 _=>4 - (intOf v14).toNat)
  case atStart=>exact ⟨0,rfl,by omega,⟨0,rfl⟩,fun v hv j hj=>by omega⟩
  case round=>
   obtain ⟨i,rfl,hi,hwk,hno⟩:=hrel;have Hwk:=hIh hwk;have Hno:=hIh hno;clear hwk hno
   have Hrs:Hid (wr.heap[g]? = some (.cells zeroCells 38 (0,0)) ∧ Below w.heap.size w wr ∧ wr.there g 0 zeroCells.size ∧ wr.heap.size = g + 2 ∧ wr.heap[g + 1]? = some (.cells vbC 9 (0,0))):=by
    obtain ⟨k,hk⟩:=Hwk.out;rw [hk];exact ⟨H2.out.2.2.1,drewB H2.out.2.1 _,Hth2.out,H2.out.2.2.2,H2.out.1⟩
   have HC2:Hid (∀ q,(wr.drewN q).cell? ⟨b,off + 1,none⟩ = some (.string (sb t1)) ∧ (wr.drewN q).cell? ⟨b,off + 2,none⟩ = some (.string (sb m)) ∧ (wr.drewN q).cell? ⟨b,off + 3,none⟩ = some (.string (sb s)) ∧ (wr.drewN q).cell? ⟨b,off + 4,none⟩ = some (.string (sb vv))):=fun q=>by
    obtain ⟨k,hk⟩:=Hwk.out;rw [hk];exact HC.out
   by_cases hlt:i < 4
   ·have hi1:decide ((i:Int) < 4) = true:=decide_eq_true (by omega)
    have hi2:(i:Int) < 4:=(by omega);have c4:wr.cell? ⟨b,off + 4,none⟩ = some (.string (sb vv)):=(HC2.out 0).2.2.2;have cv:=vb_cell Hrs.out.2.2.2.2 hlt
    by_cases e:vv = vbN.getD i []
    case neg=>
     have hce:((sb vv).toList == (sb (vbN.getD i [])).toList) = false:=beqF' (fun e2=>e (sb_inj.1 e2))
     have Hk:Hid (∀ q,BiLoop w2 (some vv) (.int .i64 ((i:Int) + 1)) (wr.drewN q)):=fun q=>by
      obtain ⟨k,hk⟩:=Hwk.out;refine ⟨i + 1,by simp,by omega,⟨k + q,by rw [hk];exact World.drewN_drewN _ _ _⟩,fun v hv j hj=>?_⟩
      cases hv
      by_cases h3:j = i
      ·rw [h3];exact e
      ·exact Hno.out vv rfl j (by omega)
     generalize sb vv = VV at c4 hce;generalize sb (vbN.getD i []) = NN at cv hce;clear e hlt;go_wp2;go_quiet (fail);go_wp2;go_roundw
     case rel=>exact Hk.out _
     case measure=>simp [intOf];omega
    case pos=>
     have hce:((sb vv).toList == (sb (vbN.getD i [])).toList) = true:=(by rw [← e];exact beqT' _);have hO4:O = some (biR t1 m s i):=(by rw [HO3.out,verbS_at hlt e];rfl);have HO4:=hIh hO4;generalize sb vv = VV at c4 hce;generalize sb (vbN.getD i []) = NN at cv hce;clear e hlt hO4;go_wp2;go_quiet (fail);go_upto_region 30 with fail;obtain ⟨W3,hW3⟩ : ∃ W3,W3 = wr.drewN nq:=⟨_,rfl⟩;rw [← hW3];have y:=HC2.out nq;have H3:Hid (W3.heap[g]? = some (.cells zeroCells 38 (0,0)) ∧ Below w.heap.size w W3 ∧ W3.heap.size = g + 2):=(by rw [hW3];exact ⟨Hrs.out.1,drewB Hrs.out.2.1 _,Hrs.out.2.2.2.1⟩);rw [← hW3] at y;obtain ⟨y1,y2,y3, -⟩:=y;obtain ⟨gq,hgq⟩ : ∃ gq,gq = W3.heap.size:=⟨_,rfl⟩;have hgs3:W3.heap.size = gq:=hgq.symm;have Hgq:Hid (gq = g + 2):=(by show _ = _;rw [hgq,H3.out.2.2]);have HbN:Hid (b < W3.heap.size):=(by have:=Hb0.out;have:=H3.out.2.1.size;show _ < _;omega);obtain ⟨W5,hW5⟩ : ∃ W5,W5 = (W3.alloc (.cells #[.int .i64 14,.string ⟨#[]⟩,.string (sb t1),.string (sb m),.string ⟨#[]⟩,.string ⟨#[]⟩,.slice none 0 0,.int .i64 0,.int .i64 0,.slice none 0 0,.int .i64 0,.string ⟨#[]⟩,.string ⟨#[]⟩,.int .i64 0,.int .i64 0,.slice none 0 0,.string ⟨#[]⟩,.string ⟨#[]⟩,.slice none 0 0,.string ⟨#[]⟩,.string ⟨#[]⟩,.string ⟨#[]⟩,.int .i64 0,.slice none 0 0,.int .i64 0,.int .i64 0,.string ⟨#[]⟩,.bool false,.bool false] 38)).drew:=⟨_,rfl⟩
     have hb5' : W5.heap[gq]? = some (.cells (reqCells { ReqD.zero with op:=14,path:=t1,name:=m } (.slice none 0 0) (.slice none 0 0) (.slice none 0 0) (.slice none 0 0) (.slice none 0 0)) 38 (0,0)):=(by rw [hW5,hgq];exact blk_new _ _);have hbel5:Below W3.heap.size W3 W5:=(by rw [hW5];exact (bel_alloc _ _).drew);have HB5:=hIh hb5';have Hbel5:=hIh hbel5;have HW5:=hIh hW5;clear hgq hb5' hbel5 hW5 hW3 c4 cv hce hs1 hgs h0;go_region_held3 (fun W=>W.cell? ⟨b,off + 1,none⟩ = some (.string (sb t1)) ∧ W.cell? ⟨b,off + 2,none⟩ = some (.string (sb m))) (first | exact ⟨y1,y2⟩ | exact ⟨(drew_cell _ _).trans ((World.cell?_alloc_lt _ _ _ HbN.out).trans y1),(drew_cell _ _).trans ((World.cell?_alloc_lt _ _ _ HbN.out).trans y2)⟩) (fail);rw [← HW5.out];have z1:=bcell Hbel5.out y1;have z2:=bcell Hbel5.out y2;have z3:=bcell Hbel5.out y3;have hth5:W5.drew.there gq 19 4:=there_drew (there_mid HB5.out (by rw [reqCells_size];omega))
     have HZ:Hid (W5.drew.cell? ⟨b,off + 1,none⟩ = some (.string (sb t1)) ∧ W5.drew.cell? ⟨b,off + 2,none⟩ = some (.string (sb m)) ∧ W5.drew.cell? ⟨b,off + 3,none⟩ = some (.string (sb s))):=⟨z1,z2,z3⟩
     have HS5:Hid (∀ l:List Value,(W5.drew.setCells gq 19 l).cell? ⟨b,off + 1,none⟩ = some (.string (sb t1)) ∧ (W5.drew.setCells gq 19 l).cell? ⟨b,off + 2,none⟩ = some (.string (sb m)) ∧ (W5.drew.setCells gq 19 l).cell? ⟨b,off + 3,none⟩ = some (.string (sb s))):=fun l=>by
      have:=Hb0.out;have:=Hgq.out;have:=Hg.out;refine ⟨?_,?_,?_⟩ <;> rw [cell_setCells_far (by omega)]
      ·exact z1
      ·exact z2
      ·exact z3
     clear y1 y2 y3;go_wp2;go_region_held3 (fun W=>W.cell? ⟨b,off + 1,none⟩ = some (.string (sb t1)) ∧ W.cell? ⟨b,off + 2,none⟩ = some (.string (sb m)) ∧ W.cell? ⟨b,off + 3,none⟩ = some (.string (sb s))) (first | with_reducible exact ⟨z1,z2,z3⟩ | with_reducible exact HZ.out | with_reducible exact HS5.out _) (fail);obtain ⟨W8,hW8⟩ : ∃ W8,W8 = W5.drew.setCells gq 19 [.string (sb t1),.string (sb m),.string (sb s),.int .i64 (i:Int)]:=⟨_,rfl⟩
     have hf8:Fr (fun k=>k = gq) W3 W8:=by
      rw [hW8];exact (Fr.of_below (Hbel5.out.drew) (fun k=>k = gq)).trans (setCells_fr gq _ _ _) (fun k hk=>.inl hk)
     obtain ⟨CS,hCS⟩ : ∃ CS,CS = reqCells (biR t1 m s i) (.slice none 0 0) (.slice none 0 0) (.slice none 0 0) (.slice none 0 0) (.slice none 0 0):=⟨_,rfl⟩;have hsz:CS.size = 29:=(by rw [hCS];rfl)
     have hone:CS.all (·.oneCell') = true:=(by rw [hCS];simp [reqCells,Value.oneCell'])
     have H8:Hid (W8.heap[gq]? = some (.cells CS 38 (0,0)) ∧ W8.heap[g]? = some (.cells zeroCells 38 (0,0)) ∧ Below w.heap.size w W8 ∧ (CS.size = 29 ∧ CS.all (·.oneCell') = true)):=by
      have h1:=Hg.out;have h2:=Hgq.out;refine ⟨?_,hf8.blk H3.out.1 (by omega),H3.out.2.1.trans (hf8.to_below (fun k hk=>by omega) H3.out.2.1.size),hsz,hone⟩;rw [hW8,hCS,← biR_cells];exact setCells_blk _ 19 _ W5.drew HB5.out
     have Hth8:Hid (W8.there g 0 CS.size):=there_blk H8.out.2.1 (by rw [hsz,zeroCells_size];omega)
     have Hsz:Hid ((Tryz.prog.info? 38).map (·.size) = some CS.size):=(by show _ = _;rw [hsz];exact infoReq)
     have Hv:Hid (ReB O g W8 CS true):=.inl ⟨rfl,_,HO4.out,by rw [hCS];exact ReqV.flat (g + 1) W8 (r:=biR t1 m s i) ⟨rfl,rfl,rfl,rfl,rfl⟩⟩;rw [← hW8];clear hW8 hf8 hCS hsz hone z1 z2 z3 hth5;go_wp2_with (first | ((with_reducible refine wpList_load_row (o:=⟨some 142,.load 38 (.tmp 15),_,_,_,_⟩) ?_ 38 (.tmp 15) ?_ gq ?_ 38 CS (0,0) _ H8.out.1 reqU ?_ Hsz.out ?_);exact rfl;exact rfl;exact rfl;exact rfl) | ((with_reducible refine wpList_store_mid (op:=⟨none,.store 38 (.tmp 2) (.tmp 142),_,_,_,_⟩) ?_ 38 (.tmp 2) (.tmp 142) ?_ g 0 CS ?_ ?_ Hth8.out Hsz.out H8.out.2.2.2.2 ?_);exact rfl;exact rfl;exact rfl;exact rfl));exact re_any HF.out Hg.out H8.out.2.1 zeroCells_size H8.out.2.2.2 H8.out.2.2.1 Hv.out rfl rfl
   ·have hi1:decide ((i:Int) < 4) = false:=decide_eq_false (by omega)
    have hi2:¬ (i:Int) < 4:=(by omega);have HnoO:Hid (O = none):=(by show _ = _;rw [HO3.out,verbS_no (fun j hj=>Hno.out vv rfl j (by omega))];rfl);go_wp2_with ((with_reducible refine wpList_store_mid (op:=⟨none,.store 38 (.tmp 2) (.tmp 143),_,_,_,_⟩) ?_ 38 (.tmp 2) (.tmp 143) ?_ g 0 zeroCells ?_ ?_ Hrs.out.2.2.1 infoZ zero_one ?_);exact rfl;exact rfl;exact rfl;exact rfl);exact re_no HF.out Hg.out Hrs.out.1 zeroCells_size Hrs.out.2.1 HnoO.out rfl rfl
theorem rrest_calls (w:World) (v:Value) (a:Str) (r:List Str) (h:RdT w v (a :: r)) (hsm:∀ t ∈ a :: r,t.length ≤ 1048576) (hln:(a :: r).length ≤ 1048577):Calls Tryz.prog 36 #[v] w (ReP (restD a r) w):=by
 by_cases hr:r = []
 ·exact rrest_short w v a r h hsm hln hr
 by_cases k1:a = wQuota
 ·exact rrest_quota w v a r h hsm hln hr k1
 by_cases k2:a = wLimit
 ·exact rrest_limit w v a r h hsm hln hr k2
 by_cases k3:a = wDelete
 ·exact rrest_delete w v a r h hsm hln hr k3
 by_cases k4:a = wWatch
 ·exact rrest_watch w v a r h hsm hln hr k4
 by_cases k5:a = wBind
 ·exact rrest_bind w v a r h hsm hln hr k5
 exact rrest_other w v a r h hsm hln hr k1 k2 k3 k4 k5
end
end Go.Proofs.YtpfkkagkbneilaaGreatDoor
