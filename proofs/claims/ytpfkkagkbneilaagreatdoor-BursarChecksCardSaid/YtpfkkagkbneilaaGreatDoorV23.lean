/- Texts M7, Q1, Q2, Q3, Q4, Q5, Q6 of the proof of BursarChecks, joined. -/
import Derived.Test.YtpfkkagkbneilaaGreatDoorV12
import Derived.Test.YtpfkkagkbneilaaGreatDoorV16
import Derived.Test.YtpfkkagkbneilaaGreatDoorV22
import Derived.Test.YtpfkkagkbneilaaGreatDoorV3
import Derived.IntWalk
namespace Go.Proofs.YtpfkkagkbneilaaGreatDoor
open Go.RowKit
set_option linter.unusedVariables false
set_option linter.unusedSimpArgs false
set_option maxRecDepth 100000
set_option maxHeartbeats 25600000
def AkB (o:Option ReqD) (g:Nat) (W:World) (cs:Array Value) (b:Bool):Prop:=(b = true ∧ ∃ rq,o = some rq ∧ ReqV (g + 1) W cs rq) ∨ (b = false ∧ o = none ∧ cs = zeroCells)
theorem ak_any {F:Func} {i j:Tmp} (hF:F.results = #[.cell i 38,.tmp j]) {tmps:Array Value} {t:Str} {w W:World} {g:Nat} {C cs:Array Value} {b:Bool} (hg:g = w.heap.size) (hq:W.heap[g]? = some (.cells C 38 (0,0))) (hC:C.size = 29) (hs:cs.size = 29) (hb:Below w.heap.size w W)
  (hv:AkB (askD (selParse termR) t) g W cs b) (h2:tmps.getD i undef = .pointer (some ⟨g,0,none⟩)) (h3:tmps.getD j undef = .bool b) :
  bodyPost Tryz.prog F (AkP (selParse termR) t w) Exit.ret { tmps:=tmps,defers := [] } (W.setCells g 0 cs.toList):=by
 obtain ⟨s1,f1⟩:=req_store hq hC hs;refine bodyPost_ret (resultsR hF h2 h3 s1 hs) rfl ⟨cs,b,rfl,?_,hb.trans (f1.to_below (fun k hk=>by omega) hb.size)⟩;rcases hv with ⟨h,rq,h4,h5⟩ | h
 ·exact .inl ⟨h,rq,h4,(h5.fr f1 (fun k h6 h7=>by omega)).mono (by omega)⟩
 ·exact .inr h
theorem ReqV.keep {B:Nat} {w w1:World} {cs:Array Value} {r:ReqD} (h:ReqV B w cs r) {S:Nat → Prop} (hf:Fr S w w1) (hS:∀ k,k < w.heap.size → ¬ S k):ReqV B w1 cs r:=by
 obtain ⟨lv,pv,hv,rv,tv,pl,tl,h1,h2,⟨h3,h4⟩,h5,h6,⟨h7,h8⟩,h9⟩:=h
 refine ⟨lv,pv,hv,rv,tv,pl,tl,h1,RdS.keep lbC_len (by decide) h2 hf (fun hl k hk=>hS k (RdS.lt lbC_len (by decide) h2 hl k hk)),⟨⟨RdS.keep ptC_len (by decide) h3.1 hf (fun hl k hk=>hS k (RdS.lt ptC_len (by decide) h3.1 hl k hk)),fun e he=>⟨?_,?_⟩⟩,h4⟩,
  RdS.keep amtC_len (by decide) h5 hf (fun hl k hk=>hS k (RdS.lt amtC_len (by decide) h5 hl k hk)),RdS.keep ruC_len (by decide) h6 hf (fun hl k hk=>hS k (RdS.lt ruC_len (by decide) h6 hl k hk)),⟨⟨RdS.keep tmC_len (by decide) h7.1 hf (fun hl k hk=>hS k (RdS.lt tmC_len (by decide) h7.1 hl k hk)),fun e he=>?_⟩,h8⟩,h9⟩
 ·exact RdS.keep amtC_len (by decide) (h3.2 e he).1 hf (fun hl k hk=>hS k (RdS.lt amtC_len (by decide) (h3.2 e he).1 hl k hk))
 ·exact RdS.keep amtC_len (by decide) (h3.2 e he).2 hf (fun hl k hk=>hS k (RdS.lt amtC_len (by decide) (h3.2 e he).2 hl k hk))
 ·exact RdS.keep strC_len (by decide) (h7.2 e he) hf (fun hl k hk=>hS k (RdS.lt strC_len (by decide) (h7.2 e he) hl k hk))
def NlLoop (s:Str) (w1:World) (v4:Value) (wr:World):Prop := ∃ i:Nat,v4 = .int .i64 i ∧ i ≤ s.length ∧ (∀ j (h:j < s.length),j < i → s[j] ≠ 10) ∧ wr = w1
theorem dryS_len (u:Str):(dryS u).2.length ≤ u.length:=by
 unfold dryS
 split
 ·exact behindS_len u 1
 ·exact Nat.le_refl _
theorem rask_calls (w:World) (s:Str) (hs:s.length ≤ 1048576):Calls Tryz.prog 6 #[.string (sb s)] w (AkP (selParse termR) s w):=by
 obtain ⟨g,hg⟩ : ∃ g,g = w.heap.size:=⟨_,rfl⟩;have hF:Tryz.f6.results = #[.cell 2 38,.tmp 3]:=rfl;have HF:=hIh hF;have Hg:=hIh hg;obtain ⟨w1,hw1⟩ : ∃ w1,w1 = w.alloc (.cells zeroCells 38):=⟨_,rfl⟩
 have H1:Hid (w1.heap[g]? = some (.cells zeroCells 38 (0,0)) ∧ Below w.heap.size w w1 ∧ w1.heap.size = g + 1):=by
  rw [hw1,hg];exact ⟨blk_new _ _,bel_alloc _ _,alloc_size _ _⟩
 have HW1:=hIh hw1;have hgs:w.heap.size = g:=hg.symm;have Hth1:Hid (w1.there g 0 zeroCells.size):=there_blk H1.out.1 (Nat.le_refl _)
 obtain ⟨u,hu⟩ : ∃ u,u = s.takeWhile (· != 35):=⟨_,rfl⟩
 have hul:u.length ≤ 1048576:=by rw [hu];exact Nat.le_trans (takeWhile_len _ _) hs
 have Hbare:Hid (∀ W,Calls Tryz.prog 15 #[.string (sb s)] W fun e w'=>e = .returned (.string (sb u)) ∧ w' = W):=fun W=>by rw [hu];exact bare_calls W s hs
 have Hdry:Hid (∀ W,Calls Tryz.prog 14 #[.string (sb u)] W fun e w'=>e = .returned (.tuple #[.bool (dryS u).1,.string (sb (dryS u).2)]) ∧ Below W.heap.size W w'):=fun W=>rdryOf_calls W u hul;obtain ⟨x,hx⟩ : ∃ x,x = (dryS u).2:=⟨_,rfl⟩;obtain ⟨D,hD⟩ : ∃ D,D = (dryS u).1:=⟨_,rfl⟩
 have hxl:x.length ≤ 1048576:=by rw [hx];exact Nat.le_trans (dryS_len u) hul
 have Hreq:Hid (∀ W,Calls Tryz.prog 16 #[.string (sb x)] W (ReP (requestD (selParse termR) x) W)):=fun W=>rrequest_calls W x hxl
 have Hak1:Hid ((10:UInt8) ∈ s → askD (selParse termR) s = none):=fun h=>by unfold askD;rw [if_pos h]
 have Hak2:Hid (¬ (10:UInt8) ∈ s → askD (selParse termR) s = (requestD (selParse termR) x).map fun q=>{ q with dry:=D }):=fun h=>by unfold askD;rw [if_neg h,← hu,← hx,← hD]
 rw [← hx,← hD] at Hdry;have hst:(sb s).size = s.length:=sb_size s;have Hix:=hIh (fun W (i:Nat) (h:i < s.length)=>run_ix W s i s[i] (List.getElem?_eq_getElem h))
 have hnb:(s.length:Int) ≤ 1048576:=by omega
 obtain ⟨N,hN⟩ : ∃ N,N = s.length:=⟨_,rfl⟩;rw [← hN] at hst hnb;have HN:=hIh hN;have Hst:Hid (NlLoop s w1 (.int .i64 0) w1):=⟨0,rfl,by omega,fun j h1 h2=>by omega,rfl⟩;generalize sb s = S at hst Hix Hbare;generalize sb u = U at Hbare Hdry;generalize sb x = SX at Hdry Hreq;clear hF hg hw1 hs hu hul hx hD hxl hN;go_enter Tryz.func6,Tryz.ntmps6;go_upto_region 1 with fail;show Code.wp _ _ _ _ (w.alloc (.cells zeroCells 38));rw [← HW1.out];go_wp2_with fail
 go_loopw [4] (fun v4 wr=>NlLoop s w1 v4 wr) (fun v4 _=>N - (intOf v4).toNat)
 case atStart=>exact Hst.out
 case round=>
  clear Hst;obtain ⟨i,rfl,hi,hno,hwr⟩:=hrel;obtain rfl:=hwr;rw [← HN.out] at hi;have Hno:=hIh hno;clear hno
  by_cases hlt:i < N
  ·have hlt' : i < s.length:=by rw [← HN.out];exact hlt
   have hb:decide ((i:Int) < N) = true:=decide_eq_true (by omega);have hb2:(i:Int) < N:=(by omega);have hix:=fun W=>Hix.out W i hlt'
   by_cases hc:s[i] = 10
   ·have Hres:Hid (AkB (askD (selParse termR) s) g wr zeroCells false):=.inr ⟨rfl,Hak1.out (by rw [← hc];exact List.getElem_mem hlt'),rfl⟩
    have hcb:=byteT 10 rfl hc;generalize s[i].toNat = cn at hix hcb;clear hc hlt' Hix;go_wp2_with ((with_reducible refine wpList_store_mid (op:=⟨none,.store 38 (.tmp 2) (.tmp 19),_,_,_,_⟩) ?_ 38 (.tmp 2) (.tmp 19) ?_ g 0 zeroCells ?_ ?_ Hth1.out infoZ zero_one ?_);exact rfl;exact rfl;exact rfl;exact rfl);exact ak_any HF.out Hg.out H1.out.1 zeroCells_size zeroCells_size H1.out.2.1 Hres.out rfl rfl
   ·have hcb:=byteF 10 rfl hc
    have Hk:Hid (NlLoop s wr (.int .i64 ((i:Int) + 1)) wr):=⟨i + 1,by simp,by omega,fun j h1 h2=>by
     by_cases e:j = i
     ·subst e;exact hc
     ·exact Hno.out j h1 (by omega),rfl⟩
    generalize s[i].toNat = cn at hix hcb;clear hc hlt' Hix;go_wp2;go_roundw
    case rel=>exact Hk.out
    case measure=>simp [intOf];omega
  ·have hnin:¬ (10:UInt8) ∈ s:=fun hm=>by
    obtain ⟨j,hj,e⟩:=List.mem_iff_getElem.1 hm;exact Hno.out j hj (by have:=HN.out;omega) e
   have HA:=hIh (Hak2.out hnin);have hb:decide ((i:Int) < N) = false:=decide_eq_false (by omega);have hb2:¬ (i:Int) < N:=(by omega);clear hnin hlt hi Hix;go_wp2_with fail;(with_reducible refine (Hbare.out _).mono ?_);rintro e X ⟨rfl,hX⟩;obtain rfl:=hX.symm;go_wp2_with fail;(with_reducible refine (Hdry.out _).mono ?_);rintro e X2 ⟨rfl,hb2'⟩;have HB2:=hIh hb2';clear hb2';go_wp2_with fail;(with_reducible refine (Hreq.out _).mono ?_);rintro e Y ⟨cs,bb,rfl,hcs,hv,hb3⟩;have Hcs:=hIh hcs;have hY1:Below wr.heap.size wr Y:=HB2.out.trans (hb3.mono HB2.out.size);have Hv:=hIh hv;obtain ⟨gq,hgq⟩ : ∃ gq,gq = Y.heap.size:=⟨_,rfl⟩;have hqs:Y.heap.size = gq:=hgq.symm;have hqa:(Y.alloc (.cells zeroCells 38)).heap[gq]? = some (.cells zeroCells 38 (0,0)):=(by rw [hgq];exact blk_new _ _);have Hth2:Hid ((Y.alloc (.cells zeroCells 38)).there gq 0 cs.size):=there_blk hqa (by rw [hcs.1,zeroCells_size];omega)
   have Hsz:Hid ((Tryz.prog.info? 38).map (·.size) = some cs.size):=(by show _ = _;rw [hcs.1];exact infoReq)
   obtain ⟨Z,hZ⟩ : ∃ Z,Z = (Y.alloc (.cells zeroCells 38)).setCells gq 0 cs.toList:=⟨_,rfl⟩;obtain ⟨hs2,hf2⟩:=req_store hqa zeroCells_size hcs.1;rw [← hZ] at hs2 hf2;have hbZ:Below Y.heap.size Y Z:=(bel_alloc Y _).trans (hf2.to_below (fun k hk=>by omega) (bel_alloc Y _).size)
   have HZ:Hid (Z.heap[gq]? = some (.cells cs 38 (0,0)) ∧ Z.heap[g]? = some (.cells zeroCells 38 (0,0)) ∧ Below w.heap.size w Z ∧ Below Y.heap.size Y Z ∧ g + 1 ≤ X2.heap.size ∧ g < gq):=by
    have h1:=hY1.size;have h2:=H1.out.2.2;exact ⟨hs2,blk_below (blk_below H1.out.1 hY1) hbZ,H1.out.2.1.trans ((hY1.trans (hbZ.mono h1)).mono H1.out.2.1.size),hbZ,by have:=HB2.out.size;omega,by omega⟩
   have HZe:=hIh hZ;clear hcs hv hb3 hY1 hgq hqa hZ hs2 hf2 hbZ;go_upto_region 8 with (refine wpList_store_mid (op:=⟨none,.store 38 (.tmp 7) (.tmp 29),_,_,_,_⟩) rfl 38 (.tmp 7) (.tmp 29) rfl gq 0 cs rfl rfl Hth2.out Hsz.out Hcs.out.2 ?_);show Code.wp _ _ _ _ ((Y.alloc (.cells zeroCells 38)).setCells gq 0 cs.toList);rw [← HZe.out]
   cases bb with
   | false=>
    have Hres:Hid (AkB (askD (selParse termR) s) g Z zeroCells false):=by
     rcases Hv.out with ⟨h1, -⟩ | ⟨-,h2⟩
     ·cases h1
     ·exact .inr ⟨rfl,by rw [HA.out,h2];rfl,rfl⟩
    have HthZ:Hid (Z.there g 0 zeroCells.size):=there_blk HZ.out.2.1 (Nat.le_refl _);go_wp2_with ((with_reducible refine wpList_store_mid (op:=⟨none,.store 38 (.tmp 2) (.tmp 33),_,_,_,_⟩) ?_ 38 (.tmp 2) (.tmp 33) ?_ g 0 zeroCells ?_ ?_ HthZ.out infoZ zero_one ?_);exact rfl;exact rfl;exact rfl;exact rfl);exact ak_any HF.out Hg.out HZ.out.2.1 zeroCells_size zeroCells_size HZ.out.2.2.1 Hres.out rfl rfl
   | true=>
    obtain ⟨rq,hrq,hrv⟩ : ∃ rq,requestD (selParse termR) x = some rq ∧ ReqV X2.heap.size Y cs rq:=by
     rcases Hv.out with ⟨-,rq,h1,h2⟩ | ⟨h1, -⟩
     ·exact ⟨rq,h1,h2⟩
     ·cases h1
    obtain ⟨c28,f28⟩:=cellsN (i:=28) HZ.out.1 (show 28 < cs.size by rw [Hcs.out.1];omega);generalize cs[28]'_ = V28 at c28;obtain ⟨V,hV⟩ : ∃ V,V = Z.setCell ⟨gq,28,none⟩ (.bool D):=⟨_,rfl⟩;have hfV:Fr (fun k=>k = gq) Z V:=(by rw [hV];exact (Fr.refl (fun k=>k = gq) _).setCell (p:=⟨gq,28,none⟩) (.inl rfl) _);obtain ⟨CT,hCT⟩ : ∃ CT,CT = cs.setIfInBounds 28 (.bool D):=⟨_,rfl⟩;have hgl:=HZ.out.2.2.2.2.2;have hgw:=Hg.out
    have hvV:ReqV (g + 1) V CT { rq with dry:=D }:=by
     rw [hCT];have h2:Fr (fun k=>k = gq) Y V:=(Fr.of_below HZ.out.2.2.2.1 (fun k=>k = gq)).trans hfV (fun k hk=>.inl hk);exact ((hrv.keep h2 (fun k hk e=>by omega)).dry D).mono HZ.out.2.2.2.2.1
    have HV:Hid (V.heap[gq]? = some (.cells CT 38 (0,0)) ∧ V.heap[g]? = some (.cells zeroCells 38 (0,0)) ∧ Below w.heap.size w V ∧ AkB (askD (selParse termR) s) g V CT true ∧ CT.all (·.oneCell') = true):=
     ⟨by rw [hV,hCT];exact blk_setCell HZ.out.1 28 _,hfV.blk HZ.out.2.1 (by omega),HZ.out.2.2.1.trans (hfV.to_below (fun k hk=>by omega) HZ.out.2.2.1.size),.inl ⟨rfl,_,by rw [HA.out,hrq];rfl,hvV⟩,hvV.one⟩
    have Hct:Hid (CT.size = 29):=hvV.size;have HthV:Hid (V.there g 0 CT.size):=there_blk HV.out.2.1 (by rw [Hct.out,zeroCells_size];omega)
    have HszV:Hid ((Tryz.prog.info? 38).map (·.size) = some CT.size):=(by show _ = _;rw [Hct.out];exact infoReq)
    have HVe:=hIh hV;clear hrq hrv hV hfV hCT hgl hgw hvV;go_upto_region 11 with fail;rw [← HVe.out];clear c28 f28;go_wp2_with (first | ((with_reducible refine wpList_load_row (o:=⟨some 36,.load 38 (.tmp 7),_,_,_,_⟩) ?_ 38 (.tmp 7) ?_ gq ?_ 38 CT (0,0) _ HV.out.1 reqU ?_ HszV.out ?_);exact rfl;exact rfl;exact rfl;exact rfl) | ((with_reducible refine wpList_store_mid (op:=⟨none,.store 38 (.tmp 2) (.tmp 36),_,_,_,_⟩) ?_ 38 (.tmp 2) (.tmp 36) ?_ g 0 CT ?_ ?_ HthV.out HszV.out HV.out.2.2.2.2 ?_);exact rfl;exact rfl;exact rfl;exact rfl));exact ak_any HF.out Hg.out HV.out.2.1 zeroCells_size Hct.out HV.out.2.2.1 HV.out.2.2.2.1 rfl rfl
def linesS (s:Str):List Str:=
 match s with
 | [] => []
 | a :: r=>(a :: r).takeWhile (· != 10) :: linesS (((a :: r).dropWhile (· != 10)).drop 1)
 termination_by s.length
 decreasing_by
  have h:=dropWhile_len (· != (10:UInt8)) (a :: r)
  simp only [List.length_drop,List.length_cons] at h ⊢;omega
theorem linesS_cut {u r:Str} (hu:(10:UInt8) ∉ u):linesS (u ++ 10 :: r) = u :: linesS r:=by
 have h1:∀ u:Str,(10:UInt8) ∉ u → (u ++ 10 :: r).takeWhile (· != 10) = u ∧ (u ++ 10 :: r).dropWhile (· != 10) = 10 :: r:=by
  intro u
  induction u with
  | nil=>intro _;simp [List.takeWhile_cons,List.dropWhile_cons]
  | cons a q ih=>
   intro h;have ha:(a != 10) = true:=(by simp at h;simp [Ne.symm h.1]);obtain ⟨i1,i2⟩:=ih (fun hm=>h (List.mem_cons_of_mem _ hm));simp [List.takeWhile_cons,List.dropWhile_cons,ha,i1,i2]
 obtain ⟨i1,i2⟩:=h1 u hu
 cases hs:u ++ 10 :: r with
 | nil=>simp at hs
 | cons a q=>
  rw [linesS,← hs,i1,i2]
  rfl
theorem linesS_last {u:Str} (hu:(10:UInt8) ∉ u) (hne:u ≠ []):linesS u = [u]:=by
 have h1:∀ u:Str,(10:UInt8) ∉ u → u.takeWhile (· != 10) = u ∧ u.dropWhile (· != 10) = []:=by
  intro u
  induction u with
  | nil=>intro _;simp
  | cons a q ih=>
   intro h;have ha:(a != 10) = true:=(by simp at h;simp [Ne.symm h.1]);obtain ⟨i1,i2⟩:=ih (fun hm=>h (List.mem_cons_of_mem _ hm));simp [List.takeWhile_cons,List.dropWhile_cons,ha,i1,i2]
 obtain ⟨i1,i2⟩:=h1 u hu
 cases hs:u with
 | nil=>exact absurd hs hne
 | cons a q=>rw [linesS,← hs,i1,i2];simp [linesS]
theorem linesS_cons {s:Str} (h:s ≠ []):linesS s = s.takeWhile (· != 10) :: linesS ((s.dropWhile (· != 10)).drop 1):=by
 cases s with
 | nil=>exact absurd rfl h
 | cons a r=>rw [linesS]
theorem linesS_small (s:Str):∀ t ∈ linesS s,t.length ≤ s.length:=by
 have key:∀ (n:Nat) (s:Str),s.length ≤ n → ∀ t ∈ linesS s,t.length ≤ s.length:=by
  intro n
  induction n with
  | zero=>
   intro s h;have:s = []:=List.eq_nil_of_length_eq_zero (by omega);subst this;simp [linesS]
  | succ n ih=>
   intro s h t ht
   cases s with
   | nil=>simp [linesS] at ht
   | cons a r=>
    rw [linesS] at ht
    have h1:=dropWhile_len (· != (10:UInt8)) (a :: r)
    rcases List.mem_cons.1 ht with rfl | ht
    ·have:=congrArg List.length (List.takeWhile_append_dropWhile (p:=(· != (10:UInt8))) (l:=a :: r))
     rw [List.length_append] at this;omega
    ·have:=ih (((a :: r).dropWhile (· != 10)).drop 1) (by simp only [List.length_drop,List.length_cons] at h h1 ⊢;omega) t ht
     simp only [List.length_drop,List.length_cons] at this h1 ⊢;omega
 exact key s.length s (Nat.le_refl _)
def isHx (b:UInt8):Bool:=(48 ≤ b && b ≤ 57) || (97 ≤ b && b ≤ 102)
def hexS (s:Str):Bool:=s.head? == some 58 && s.length % 2 == 1 && decide (s.length ≤ 4097) && (s.drop 1).all isHx
def fateS (p:Str):Bool:=if p = [107] then true else if p = [100] then true else match p with
 | 116 :: r=>(match digitsS r 10 with
  | some n=>decide (n ≤ 512)
  | none=>false)
 | _=>false
def fatesS (s:Str):Bool:=if s = [45] then true else (pieces 44 s).all fateS && decide ((pieces 44 s).length ≤ 512)
def kindS (k:Str):Option Nat:=
 if k = [111,112,101,110] ∨ k = [99,111,117,110,116,115] ∨ k = [100,117,109,112] ∨ k = [101,120,112,111,114,116] ∨ k = [115,119,97,112] then some 0
 else if k = [97,114,109] ∨ k = [102,115,99,107] then some 1
 else if k = [110,101,119] ∨ k = [105,109,112,111,114,116] then some 2 else none
def numsS (n:Nat) (l:List Str):Bool:=l.length == n && l.all fun t=>(numS t).isSome
def wAs:Str := [97,115]
def wRaw:Str := [114,97,119]
def wCrash:Str := [99,114,97,115,104]
def wEdit:Str := [101,100,105,116]
def asS (rd:Str → Option (List Tm)) (u:Str) (r:List Str):Bool:=decide (2 ≤ r.length) && (requestD rd (dryS (behindS u 2)).2).isSome
def rawS:List Str → Bool
 | [t]=>hexS t
 | _=>false
def crashS:List Str → Bool
 | [t]=>fatesS t
 | _=>false
def editS:List Str → Bool
 | [a,b,t]=>(numS a).isSome && (numS b).isSome && hexS t
 | _=>false
def cmdS (rd:Str → Option (List Tm)) (u k:Str) (r:List Str):Bool:=match kindS k with
 | some n=>numsS n r
 | none=>if k = wAs then asS rd u r else if k = wRaw then rawS r else if k = wCrash then crashS r else if k = wEdit then editS r else false
def lineS (rd:Str → Option (List Tm)) (t:Str):Bool:=
 if 4096 < t.length then false else if (10:UInt8) ∈ t then false else
 match words (t.takeWhile (· != 35)) with
 | []=>true
 | k :: r=>cmdS rd (t.takeWhile (· != 35)) k r
def badS (p:Str → Bool) (i:Nat):List Str → Nat × Bool
 | []=>(0,false)
 | t :: r=>if p t then badS p (i + 1) r else (i + 1,true)
def checkS (rd:Str → Option (List Tm)) (s:Str):Nat × Bool:=
 if 65536 < s.length then (0,true) else if 1024 < (linesS s).length then (0,true) else badS (lineS rd) 0 (linesS s)
theorem badS_at {p:Str → Bool}:∀ {l:List Str} {i j:Nat} (h:j < l.length),(∀ k (h:k < l.length),k < j → p l[k] = true) → p l[j] = false → badS p i l = (i + j + 1,true)
 | a :: r,i,0,h,_,hc=>by
  have:p a = false:=hc;simp [badS,this]
 | a :: r,i,j + 1,h,hk,hc=>by
  have ha:p a = true:=hk 0 (by simp) (by omega);have:=badS_at (p:=p) (l:=r) (i:=i + 1) (j:=j) (by simpa using h) (fun k hk' hkj=>by have:=hk (k + 1) (by simpa using hk') (by omega);simpa using this) (by simpa using hc);simp only [badS,ha,if_true,this]
  congr 1;omega
theorem badS_none {p:Str → Bool}:∀ {l:List Str} {i:Nat},(∀ k (h:k < l.length),p l[k] = true) → badS p i l = (0,false)
 | [],_,_=>rfl
 | a :: r,i,h=>by
  have ha:p a = true:=h 0 (by simp);have:=badS_none (p:=p) (l:=r) (i:=i + 1) (fun k hk=>by have:=h (k + 1) (by simpa using hk);simpa using this);simp only [badS,ha,if_true,this]
theorem ask_req {rd:Str → Option (List Tm)} {t:Str} (h1:(10:UInt8) ∉ t) (h2:(35:UInt8) ∉ t):(askD rd t).isSome = (requestD rd (dryS t).2).isSome:=by
 have:t.takeWhile (· != 35) = t:=by
  clear h1
  induction t with
  | nil=>rfl
  | cons a r ih=>
   have ha:(a != 35) = true:=(by simp at h2;simp [Ne.symm h2.1]);rw [List.takeWhile_cons,if_pos ha,ih (fun hm=>h2 (List.mem_cons_of_mem _ hm))]
 unfold askD;rw [if_neg h1,this]
 cases requestD rd (dryS t).2 <;> rfl
theorem dropWhile_mem {p:UInt8 → Bool} {s:Str} {b:UInt8} (h:b ∈ s.dropWhile p):b ∈ s:=(List.dropWhile_sublist p).subset h
theorem takeWhile_mem {p:UInt8 → Bool} {s:Str} {b:UInt8} (h:b ∈ s.takeWhile p):b ∈ s:=(List.takeWhile_sublist p).subset h
theorem behindS_mem {s:Str} {b:UInt8}:∀ {n:Nat},b ∈ behindS s n → b ∈ s
 | 0,h=>dropWhile_mem h
 | n + 1,h=>behindS_mem (n:=n) (dropWhile_mem (dropWhile_mem h))
theorem takeWhile_not {s:Str} {c:UInt8}:c ∉ s.takeWhile (· != c):=by
 intro h
 induction s with
 | nil=>simp at h
 | cons a r ih=>
  by_cases e:(a != c) = true
  ·rw [List.takeWhile_cons,if_pos e,List.mem_cons] at h
   rcases h with rfl | h
   ·simp at e
   ·exact ih h
  ·rw [List.takeWhile_cons,if_neg e] at h;cases h
structure GrT (w0:World) (e:TypeId) (sz:Nat) (v:Value) (n:Nat) (xs:List Value) (w:World):Prop where
 own:w.ownsRow 0 e sz v n xs
 new:∀ k,v.ownBlock = some k → w0.heap.size ≤ k
 bel:Below w0.heap.size w0 w
theorem GrT.nil (w0:World) (e:TypeId) (sz:Nat) {w:World} (h:Below w0.heap.size w0 w):GrT w0 e sz (.slice none 0 0) 0 [] w:=⟨World.ownsRow_nil _ _ _ _,(fun k hk=>by cases hk),h⟩
theorem GrT.slice {w0 w:World} {e:TypeId} {sz n:Nat} {v:Value} {xs:List Value} (h:GrT w0 e sz v n xs w):∃ A c,v = .slice A n c:=own_slice h.own
theorem GrT.below {w0 w w1:World} {e:TypeId} {sz n:Nat} {v:Value} {xs:List Value} (h:GrT w0 e sz v n xs w) (hb:Below w.heap.size w w1):GrT w0 e sz v n xs w1:=
 ⟨(Fr.of_below hb (fun _=>False)).owns h.own (fun _ _ h=>h),h.new,h.bel.trans (hb.mono h.bel.size)⟩
section
variable {P:Program}
theorem wpList_app1k {ops:Array Oper} {rest:List Oper} {o:Oper} {a:Act} {Q:Exit → Act → World → Prop} {w0 w:World} {e:TypeId} {sz n:Nat} {v:Value} {xs:List Value} (H:Hid (GrT w0 e sz v n xs w)) (hgd:o.guard = none) (s x:Operand) (t:TypeId)
  (ho:o.op = .call { callee:=.builtin .append,args := #[s,x],argTypes := #[t,t] }) (z:Value) (bytes:Nat) (ht:P.underlying t = some (.slice e)) (hinfo:(P.info? e).map (fun i=>(i.zero,i.size,i.bytes)) = some (some z,sz,bytes)) (hz:z.cells.size = sz) (h0:0 < sz)
  (us:List Value) (hl:us.length = sz) (hu:∀ u ∈ us,u.oneCell' = true) (ty:TypeId) (hs:a.eval s = v) (hx:a.eval x = .slice (some ⟨w.heap.size,0,none⟩) 1 1) (hn:n ≤ 4194304) (hby:bytes ≤ 64)
  (h:∀ v' w',GrT w0 e sz v' (n + 1) (xs ++ us) w' → (w.alloc (.cells us.toArray ty)).grownBy w' v.ownBlock → wpList P ops Q rest (a.put o.dst v') w'):wpList P ops Q (o :: rest) a (w.alloc (.cells us.toArray ty)):=by
 obtain ⟨ho1,hn1,hb1⟩:=H.out;have hs1:=hb1.size;have hb2:n * bytes + bytes ≤ 4194304 * 64 + 64:=Nat.add_le_add (Nat.mul_le_mul hn hby) hby;refine wpList_append2 _ hgd s x t ho e z sz bytes ht hinfo hz h0 v n xs hs (ho1.alloc _) _ 1 us hx ?_ hu (by unfold maxLen;omega) (by rw [Nat.add_mul,Nat.one_mul];omega) ?_
 ·refine ⟨by rw [hl,Nat.one_mul],_,_,rfl,Nat.le_refl _,(fun h=>by cases h),fun ad hA j y hy=>?_⟩
  cases hA
  have e1:(Addr.mk w.heap.size 0 none).add j = Addr.mk w.heap.size j none:=by unfold Addr.add;split <;> simp_all
  rw [e1];simp only [World.cell?,blk_new]
  simpa using hy
 ·intro v' w' ho2 hg2 hn2 _
  refine h v' w' ⟨ho2,fun k hk=>?_,(hb1.alloc hs1 _).grown hg2 (by simp;omega) (fun k hk=>hn1 k hk)⟩ hg2;rcases hn2 k hk with h1 | h1
  ·exact hn1 k h1
  ·have h2:w.heap.size + 1 ≤ k:=by simpa using h1
   omega
theorem wpList_app1 {ops:Array Oper} {rest:List Oper} {o:Oper} {a:Act} {Q:Exit → Act → World → Prop} {w0 w:World} {e:TypeId} {sz n:Nat} {v:Value} {xs:List Value} (H:Hid (GrT w0 e sz v n xs w)) (hgd:o.guard = none) (s x:Operand) (t:TypeId)
  (ho:o.op = .call { callee:=.builtin .append,args := #[s,x],argTypes := #[t,t] }) (z:Value) (bytes:Nat) (ht:P.underlying t = some (.slice e)) (hinfo:(P.info? e).map (fun i=>(i.zero,i.size,i.bytes)) = some (some z,sz,bytes)) (hz:z.cells.size = sz) (h0:0 < sz)
  (us:List Value) (hl:us.length = sz) (hu:∀ u ∈ us,u.oneCell' = true) (ty:TypeId) (hs:a.eval s = v) (hx:a.eval x = .slice (some ⟨w.heap.size,0,none⟩) 1 1) (hn:n ≤ 4194304) (hby:bytes ≤ 64)
  (h:∀ v' w',GrT w0 e sz v' (n + 1) (xs ++ us) w' → wpList P ops Q rest (a.put o.dst v') w'):wpList P ops Q (o :: rest) a (w.alloc (.cells us.toArray ty)):=
 wpList_app1k H hgd s x t ho z bytes ht hinfo hz h0 us hl hu ty hs hx hn hby fun v' w' hg _=>h v' w' hg
end
theorem flat_str (l:List Str):l.flatMap strC = l.map fun s=>Value.string (sb s):=by
 induction l with
 | nil=>rfl
 | cons a r ih=>rw [List.flatMap_cons,ih];rfl
theorem GrT.rdT {w0 w:World} {e:TypeId} {v:Value} {l:List Str} (h:GrT w0 e 1 v l.length (l.map fun s=>Value.string (sb s)) w):RdT w v l:=by
 have:=h.own;rw [← flat_str] at this;exact RdS.of_own this
theorem cutR_one (c:UInt8) (s:Str):(cutR [c] s).1 = s.takeWhile (· != c) ∧ (cutR [c] s).2.1 = (s.dropWhile (· != c)).drop 1:=by
 have key:∀ s:Str,match cutAt [c] s with
   | some x=>x.1 = s.takeWhile (· != c) ∧ x.2 = (s.dropWhile (· != c)).drop 1
   | none=>s = s.takeWhile (· != c) ∧ (s.dropWhile (· != c)).drop 1 = []:=by
  intro s
  induction s with
  | nil=>simp [cutAt]
  | cons a r ih=>
   unfold cutAt
   by_cases h:a = c
   ·subst h;simp [List.isPrefixOf]
   ·have h1:([c] : Str).isPrefixOf (a :: r) = false:=by simp [List.isPrefixOf];exact fun e=>h e.symm
    rw [h1];have h2:(a != c) = true:=(by simpa using h);simp only [List.takeWhile_cons,List.dropWhile_cons,h2,if_true]
    cases hc:cutAt [c] r with
    | none=>rw [hc] at ih;simpa using ih
    | some x=>rw [hc] at ih;simpa using ih
 have h:=key s;unfold cutR
 cases hc:cutAt [c] s with
 | none=>rw [hc] at h;exact ⟨h.1,h.2.symm⟩
 | some x=>rw [hc] at h;exact h
def strSz:Value → Nat
 | .string b=>b.size
 | _=>0
def strs (l:List Str):List Value:=l.map fun s=>Value.string (sb s)
def LnLoop (w:World) (s:Str) (v0 v3:Value) (w1:World):Prop := ∃ (done:List Str) (r:Str),v0 = .string (sb r) ∧ done ++ linesS r = linesS s ∧ done.length ≤ 1025 ∧ r.length ≤ s.length ∧ GrT w 9 1 v3 done.length (strs done) w1
def LnP (w:World) (s:Str) (e:Ending) (w' : World):Prop := ∃ v l,e = .returned v ∧ RdT w' v l ∧ (l = linesS s ∨ 1024 < l.length ∧ 1024 < (linesS s).length) ∧ Below w.heap.size w w'
theorem lines_calls (w:World) (G:Glob w) (s:Str) (hs:s.length ≤ 1048576):Calls Tryz.prog 20 #[.string (sb s)] w (LnP w s):=by
 have Hcut:Hid (∀ W (r:Str),Below w.heap.size w W → r.length ≤ s.length → Calls Tryz.prog 11 #[.string (sb r),.string (ByteArray.mk #[10])] W fun e w' => ∃ B,e = .returned (.tuple #[.string (sb (r.takeWhile (· != 10))),.string (sb ((r.dropWhile (· != 10)).drop 1)),.bool B]) ∧ Below W.heap.size W w'):=fun W r hb hr=>by
  refine (lcut_calls W (G.below hb) r [10] (by omega) (by decide)).mono ?_;rintro e w' ⟨rfl,h⟩;rw [(cutR_one 10 r).1,(cutR_one 10 r).2];exact ⟨_,rfl,h⟩
 have Hst:Hid (LnLoop w s (.string (sb s)) (.slice none 0 0) w):=⟨[],s,rfl,rfl,by simp,Nat.le_refl _,GrT.nil _ _ _ (Below.refl _ _)⟩;generalize sb s = S at Hst;clear G hs;go_enter Tryz.func20,Tryz.ntmps20;go_wp2
 go_loopw [0,3] (fun v0 v3 w1=>LnLoop w s v0 v3 w1) (fun v0 _ _=>strSz v0)
 case atStart=>exact Hst.out
 case round=>
  clear Hst;obtain ⟨done,r,rfl,heq,hdl,hrl,hG⟩:=hrel;obtain ⟨A0,c0,rfl⟩:=hG.slice;have HG:=hIh hG;have Heq:=hIh heq;have hsz:(sb r).size = r.length:=sb_size r;clear hG heq
  by_cases hr:r = []
  ·subst hr
   have hz:¬ (0:Int) < (([] : Str).length:Int):=(by simp);have hzb:decide ((0:Int) < (([] : Str).length:Int)) = false:=decide_eq_false hz;have hl0:([] : Str).length = 0:=rfl
   have Hfin:Hid (LnP w s (.returned (.slice A0 done.length c0)) wr):=by
    have h1:=Heq.out;simp only [linesS,List.append_nil] at h1;exact ⟨_,done,rfl,HG.out.rdT,.inl h1,HG.out.bel⟩
   rw [hl0] at hz hzb hsz;generalize sb [] = R at hsz
   have hR0:R.toList = []:=by
    rw [toL,← List.length_eq_zero_iff];exact hsz
   clear hdl hrl;go_wp2;go_ret;exact Hfin.out
  ·have hrp:0 < r.length:=List.length_pos_iff.2 hr
   have hz:(0:Int) < (r.length:Int):=(by omega);have hzb:decide ((0:Int) < (r.length:Int)) = true:=decide_eq_true hz
   by_cases hd:done.length ≤ 1024
   ·have hdb:(done.length:Int) ≤ 1024:=by omega
    have Hc:=hIh (Hcut.out wr r HG.out.bel hrl)
    have Hnext:Hid (∀ v' w',GrT w 9 1 v' (done.length + 1) (strs done ++ [.string (sb (r.takeWhile (· != 10)))]) w' → LnLoop w s (.string (sb ((r.dropWhile (· != 10)).drop 1))) v' w'):=fun v' w' h=>by
     have h1:=Heq.out;rw [linesS_cons hr] at h1
     have h2:=dropWhile_len (· != (10:UInt8)) r
     refine ⟨done ++ [r.takeWhile (· != 10)],_,rfl,by rw [List.append_assoc];exact h1,by simp;omega,by rw [List.length_drop];omega,?_⟩
     have e:strs (done ++ [r.takeWhile (· != 10)]) = strs done ++ [.string (sb (r.takeWhile (· != 10)))]:=(by simp [strs])
     rw [e,List.length_append];exact h
    have hms:(sb ((r.dropWhile (· != 10)).drop 1)).size < r.length:=by
     have h2:=dropWhile_len (· != (10:UInt8)) r
     rw [sb_size,List.length_drop];omega
    have Hms:=hIh hms;have hdl2:done.length ≤ 4194304:=(by omega)
    generalize sb (r.takeWhile (· != 10)) = L at Hc Hnext
    generalize sb ((r.dropWhile (· != 10)).drop 1) = R2 at Hc Hnext Hms
    generalize sb r = R at hsz Hc;clear hr hrl hdl hms;go_wp2_with fail;(with_reducible refine Hc.out.mono ?_);rintro e w2 ⟨B,rfl,hw2⟩;have HG2:=hIh (HG.out.below hw2);clear hw2;go_wp2_with (at_builtin;refine wpList_app1 HG2 rfl (.tmp 21) (.tmp 23) 59 rfl (.string ⟨#[]⟩) 16 Tryz.underlying59 infoStr rfl (by decide) [.string L] rfl (fun u h=>by rw [List.mem_singleton.1 h];rfl) _ rfl rfl hdl2 (by decide) ?_);intro v' w3 hg3;have Hk:=hIh (Hnext.out v' w3 hg3);obtain ⟨A3,c3,rfl⟩:=hg3.slice;clear hg3;go_wp2;go_roundw
    case rel=>exact Hk.out
    case measure=>simp only [strSz];rw [hsz];exact Hms.out
   ·have hdb:¬ (done.length:Int) ≤ 1024:=by omega
    have Hfin:Hid (LnP w s (.returned (.slice A0 done.length c0)) wr):=by
     refine ⟨_,done,rfl,HG.out.rdT,.inr ⟨by omega,?_⟩,HG.out.bel⟩;have h1:=congrArg List.length Heq.out;rw [List.length_append] at h1;omega
    generalize sb r = R at hsz;clear hr hrl hdl hd;go_wp2;go_ret;exact Hfin.out
def intVs (l:List Int):List Value:=l.map fun n=>Value.int .i64 n
def NsP (w:World) (n:Nat) (l:List Str) (e:Ending) (w' : World):Prop := ∃ (v:Value) (ok:Bool),e = .returned (.tuple #[v,.bool ok]) ∧ ok = numsS n l ∧ (ok = true → ∃ zs:List Int,zs.length = n ∧ Rd w' 1 v n (intVs zs)) ∧ Below w.heap.size w w'
theorem NsP.no {w w' : World} {n:Nat} {l:List Str} {e:Ending} {v:Value} (h:e = .returned (.tuple #[v,.bool false])) (h2:numsS n l = false) (hb:Below w.heap.size w w'):NsP w n l e w':=⟨v,false,h,h2.symm,(fun h=>by cases h),hb⟩
def NsLoop (w:World) (l:List Str) (v6 v17:Value) (w1:World):Prop := ∃ (i:Nat) (zs:List Int),v17 = .int .i64 i ∧ i ≤ l.length ∧ zs.length = i ∧ (∀ j (h:j < l.length),j < i → (numS l[j]).isSome = true) ∧ GrT w 3 1 v6 i (intVs zs) w1
theorem numbers_calls (w:World) (v:Value) (l:List Str) (h:RdT w v l) (hln:l.length ≤ 1048577) (n:Nat):Calls Tryz.prog 113 #[v,.int .i64 (n:Int)] w (NsP w n l):=by
 obtain ⟨A,c,rfl⟩:=h.slice;obtain ⟨N,hN⟩ : ∃ N,N = l.length:=⟨_,rfl⟩;rw [← hN]
 by_cases hne:l.length = n
 case neg=>
  have hb:((N:Int) == (n:Int)) = false:=by rw [beq_eq_false_iff_ne];omega
  have hb2:((N:Int) != (n:Int)) = true:=by rw [bne,hb];rfl
  have Hres:Hid (numsS n l = false):=by show _ = _;unfold numsS;rw [Bool.and_eq_false_iff];left;rw [beq_eq_false_iff_ne];exact hne
  clear h hN hne;go_enter Tryz.func113,Tryz.ntmps113;go_wp2;go_ret2;exact NsP.no rfl Hres.out (Below.refl _ _)
 have hNn:n = N:=by omega
 subst hNn
 have hb:((n:Int) == (n:Int)) = true:=by simp
 have hb2:((n:Int) != (n:Int)) = false:=by simp
 have HN:=hIh hN
 have Hcell:Hid (∀ i (hi:i < l.length), ∃ b off,A = some ⟨b,off,none⟩ ∧ l.length ≤ c ∧ b < w.heap.size ∧ w.cell? ⟨b,off + i,none⟩ = some (.string (sb l[i]))):=fun i hi=>by
  obtain ⟨b,off,c2,hv,hc,hb0,hcell⟩:=RdT.some h (by intro e;rw [e] at hi;simp at hi)
  cases hv
  exact ⟨b,off,rfl,hc,hb0,hcell i hi⟩
 have Hst:Hid (NsLoop w l (.slice none 0 0) (.int .i64 0) w):=⟨0, [],rfl,by omega,rfl,fun j _ h=>by omega,GrT.nil _ _ _ (Below.refl _ _)⟩
 have hnb:(n:Int) ≤ 1048577:=by omega
 clear h hln hN hne;go_enter Tryz.func113,Tryz.ntmps113;go_wp2
 go_loopw [6,17] (fun v6 v17 w1=>NsLoop w l v6 v17 w1) (fun _ v17 _=>n - (intOf v17).toNat)
 case atStart=>exact Hst.out
 case round=>
  clear Hst;obtain ⟨i,zs,rfl,hi,hzi,hall,hG⟩:=hrel;obtain ⟨A0,c0,rfl⟩:=hG.slice;have HG:=hIh hG;have Hall:=hIh hall;rw [← HN.out] at hi;clear hG hall
  by_cases hlt:i < n
  ·have hlt' : i < l.length:=by rw [← HN.out];exact hlt
   obtain ⟨b,off,hA,hcl,hbl,hcell⟩:=Hcell.out i hlt';subst hA
   have hcell2:wr.cell? ⟨b,off + i,none⟩ = some (.string (sb l[i])):=by
    rw [HG.out.bel.cell (p:=⟨b,off + i,none⟩) hbl];exact hcell
   have Hnum:=hIh (number_calls wr l[i]);have hb3:(i:Int) < n:=(by omega);have hb3b:decide ((i:Int) < n) = true:=decide_eq_true hb3;have hcapi:(n:Int) ≤ c:=(by have:=HN.out;omega)
   have Hbad:Hid (numS l[i] = none → numsS n l = false):=fun hq=>by
    unfold numsS;rw [Bool.and_eq_false_iff];right;rw [← Bool.not_eq_true,List.all_eq_true];intro ha;have:=ha l[i] (List.getElem_mem hlt');rw [hq] at this;cases this
   have Hgood:Hid (∀ (z:Int) v' w',(numS l[i]).isSome = true → GrT w 3 1 v' (i + 1) (intVs zs ++ [.int .i64 z]) w' → NsLoop w l v' (.int .i64 ((i:Int) + 1)) w'):=fun z v' w' hq hg=>by
    refine ⟨i + 1,zs ++ [z],by simp,hlt',by simp [hzi],fun j hj hji=>?_,by simpa [intVs] using hg⟩
    by_cases e:j = i
    ·subst e;exact hq
    ·exact Hall.out j hj (by omega)
   have hdl2:i ≤ 4194304:=(by omega);generalize numS l[i] = o at Hnum Hbad Hgood;generalize sb l[i] = T at hcell2 Hnum;clear hcell hlt' Hcell hcl hbl hzi;go_wp2_with fail;(with_reducible refine Hnum.out.mono ?_);rintro e w2 ⟨z,ok,rfl,hr,hw2⟩;have HG2:=hIh (HG.out.below hw2);clear hw2
   cases ok with
   | false=>
    have Hres:Hid (numsS n l = false):=by
     rcases hr with ⟨_,_,_,h⟩ | ⟨h, -⟩
     ·cases h
     ·exact Hbad.out h
    clear hr hcell2;go_wp2;go_ret2;exact NsP.no rfl Hres.out HG2.out.bel
   | true=>
    have Hg:=hIh (Hgood.out z)
    have Hq:Hid (o.isSome = true):=by
     rcases hr with ⟨n',h, -, -⟩ | ⟨-,h⟩
     ·show _ = _;rw [h];rfl
     ·cases h
    clear hr hcell2;go_wp2_with (at_builtin;refine wpList_app1 HG2 rfl (.tmp 28) (.tmp 30) 65 rfl (.int .i64 0) 8 Tryz.underlying65 infoInt rfl (by decide) [.int .i64 z] rfl (fun u h=>by rw [List.mem_singleton.1 h];rfl) _ rfl rfl hdl2 (by decide) ?_);intro v' w3 hg3;have Hk:=hIh (Hg.out v' w3 Hq.out hg3);obtain ⟨A3,c3,rfl⟩:=hg3.slice;clear hg3;go_wp2;go_roundw
    case rel=>exact Hk.out
    case measure=>simp [intOf];omega
  ·obtain rfl:i = n:=by omega
   have hb3:¬ (i:Int) < i:=(by omega);have hb3b:decide ((i:Int) < i) = false:=decide_eq_false hb3
   have Hfin:Hid (NsP w i l (.returned (.tuple #[.slice A0 i c0,.bool true])) wr):=by
    refine ⟨_,true,rfl,?_,fun _=>⟨zs,hzi,Rd.of_own HG.out.own⟩,HG.out.bel⟩
    ·unfold numsS
     have h1:l.length = i:=HN.out.symm;rw [h1,beq_self_eq_true,Bool.true_and];symm;rw [List.all_eq_true];intro t ht;obtain ⟨j,hj,rfl⟩:=List.mem_iff_getElem.1 ht;exact Hall.out j hj (by omega)
   clear hzi Hcell;go_wp2;go_ret2;exact Hfin.out
theorem infoU8' : (Tryz.prog.info? 5).map (fun i=>(i.zero,i.size,i.bytes)) = some (some (.int .u8 0),1,1):=by kernel_rfl
def hexT:Str := [48,49,50,51,52,53,54,55,56,57,97,98,99,100,101,102]
theorem hx_fact (c:UInt8):(isHx c = true → 0 ≤ Lib.indexByte hexT c ∧ Lib.indexByte hexT c ≤ 15) ∧ (isHx c = false → Lib.indexByte hexT c = -1):=by
 have key:∀ n:Fin 256,(isHx (UInt8.ofFin n) = true → 0 ≤ Lib.indexByte hexT (UInt8.ofFin n) ∧ Lib.indexByte hexT (UInt8.ofFin n) ≤ 15) ∧ (isHx (UInt8.ofFin n) = false → Lib.indexByte hexT (UInt8.ofFin n) = -1):=by decide +kernel
 exact key c.toFin
theorem lixb_calls (w:World) (c:UInt8):Calls Tryz.prog 122 #[.string (ByteArray.mk #[48,49,50,51,52,53,54,55,56,57,97,98,99,100,101,102]),.int .u8 (c.toNat:Int)] w fun e w'=>e = .returned (.int .i64 (Lib.indexByte hexT c)) ∧ w' = w:=by
 refine (Tryz.strings_IndexByte (sb hexT) (c.toNat:Int) w).mono ?_;rintro e w' ⟨rfl,rfl⟩;refine ⟨?_,rfl⟩;rw [sb_toList,Int.toNat_natCast,show c.toNat.toUInt8 = c from by simp]
def BvP (w:World) (r:Bool) (e:Ending) (w' : World):Prop := ∃ (v:Value) (ok:Bool),e = .returned (.tuple #[v,.bool ok]) ∧ ok = r ∧ Below w.heap.size w w'
theorem BvP.mk {w w' : World} {r:Bool} {e:Ending} (v:Value) (h:e = .returned (.tuple #[v,.bool r])) (hb:Below w.heap.size w w'):BvP w r e w':=⟨v,r,h,rfl,hb⟩
def BsP (w:World) (r:Bool) (e:Ending) (w' : World):Prop := ∃ (A:Option Addr) (n c:Nat) (ok:Bool),e = .returned (.tuple #[.slice A n c,.bool ok]) ∧ ok = r ∧ Below w.heap.size w w'
theorem BsP.mk {w w' : World} {r:Bool} {e:Ending} (A:Option Addr) (n c:Nat) (h:e = .returned (.tuple #[.slice A n c,.bool r])) (hb:Below w.heap.size w w'):BsP w r e w':=⟨A,n,c,r,h,rfl,hb⟩
theorem hex_no1 {s:Str} (h:([58] : Str).isPrefixOf s = false):hexS s = false:=by
 unfold hexS
 cases s with
 | nil=>rfl
 | cons a r=>
  have:a ≠ 58:=by
   intro e;rw [e] at h;simp [List.isPrefixOf] at h
  simp [this]
theorem hex_no2 {s:Str} (h:¬ s.length % 2 = 1):hexS s = false:=by
 unfold hexS
 have:(s.length % 2 == 1) = false:=by rw [beq_eq_false_iff_ne];exact h
 rw [this];simp
theorem hex_no3 {s:Str} (h:4097 < s.length):hexS s = false:=by
 unfold hexS;have:decide (s.length ≤ 4097) = false:=decide_eq_false (by omega);rw [this];simp
theorem hex_no4 {s:Str} {i:Nat} (h:i < s.length) (h1:1 ≤ i) (hc:isHx s[i] = false):hexS s = false:=by
 unfold hexS
 have:(s.drop 1).all isHx = false:=by
  rw [← Bool.not_eq_true,List.all_eq_true];intro ha
  have h2:s[i] ∈ s.drop 1:=by
   rw [List.mem_iff_getElem];exact ⟨i - 1,by rw [List.length_drop];omega,by rw [List.getElem_drop];congr 1;omega⟩
  rw [ha _ h2] at hc;cases hc
 rw [this];simp
theorem hex_yes {s:Str} (h1:([58] : Str).isPrefixOf s = true) (h2:s.length % 2 = 1) (h3:s.length ≤ 4097) (h4:∀ i (h:i < s.length),1 ≤ i → isHx s[i] = true):hexS s = true:=by
 unfold hexS
 have e1:(s.head? == some 58) = true:=by
  cases s with
  | nil=>simp [List.isPrefixOf] at h1
  | cons a r=>simp [List.isPrefixOf] at h1;simp [h1]
 have e4:(s.drop 1).all isHx = true:=by
  rw [List.all_eq_true];intro b hb;obtain ⟨j,hj,rfl⟩:=List.mem_iff_getElem.1 hb;rw [List.getElem_drop];rw [List.length_drop] at hj;exact h4 (1 + j) (by omega) (by omega)
 rw [e1,h2,e4,decide_eq_true h3];rfl
def ByLoop (w:World) (s:Str) (v4 v5:Value) (w1:World):Prop := ∃ (i n:Nat) (xs:List Value),v5 = .int .i64 i ∧ i ≤ s.length ∧ i % 2 = 1 ∧ n ≤ i ∧ (∀ j (h:j < s.length),1 ≤ j → j < i → isHx s[j] = true) ∧ GrT w 5 1 v4 n xs w1
theorem bytes_calls (w:World) (s:Str):Calls Tryz.prog 115 #[.string (sb s)] w (BsP w (hexS s)):=by
 have hsz:(sb s).size = s.length:=sb_size s;obtain ⟨r,hr⟩ : ∃ r,r = hexS s:=⟨_,rfl⟩;rw [← hr];have Hpre:Hid (∀ W,Calls Tryz.prog 141 #[.string (sb s),.string (ByteArray.mk #[58])] W fun e w'=>e = .returned (.bool (([58] : Str).isPrefixOf s)) ∧ Below W.heap.size W w'):=fun W=>lhaspre_calls W s [58];have Hix:=hIh (fun W (i:Nat) (h:i < s.length)=>run_ix W s i s[i] (List.getElem?_eq_getElem h));obtain ⟨N,hN⟩ : ∃ N,N = s.length:=⟨_,rfl⟩;rw [← hN] at hsz;have HN:=hIh hN
 cases hp:([58] : Str).isPrefixOf s with
 | false=>
  rw [hp] at Hpre;have hrr:=hex_no1 hp;rw [hrr] at hr;have Hr:=hIh hr;generalize sb s = S at hsz Hpre;clear hrr hr hp hN Hix;go_enter Tryz.func115,Tryz.ntmps115;go_wp2_with (go_at_call 141;with_reducible refine (Hpre.out _).mono ?_;rintro e w1 ⟨rfl,hw1⟩);go_ret2;exact BsP.mk _ _ _ (by rw [Hr.out];rfl) hw1
 | true=>
  rw [hp] at Hpre
  by_cases hodd:s.length % 2 = 1
  case neg=>
   have hrr:=hex_no2 hodd;rw [hrr] at hr;have Hr:=hIh hr;have hm:(N:Int) % 2 = 0:=(by omega);have hmb:((N:Int) % 2 == 0) = true:=(by rw [hm];rfl);generalize sb s = S at hsz Hpre;clear hrr hr hp hN Hix hodd;go_enter Tryz.func115,Tryz.ntmps115;go_wp2_with (go_at_call 141;with_reducible refine (Hpre.out _).mono ?_;rintro e w1 ⟨rfl,hw1⟩);go_ret2;exact BsP.mk _ _ _ (by rw [Hr.out];rfl) hw1
  have hm:(N:Int) % 2 = 1:=by omega
  by_cases hlen:s.length ≤ 4097
  case neg=>
   have hrr:=hex_no3 (s:=s) (by omega);rw [hrr] at hr;have Hr:=hIh hr;have hm4:(4097:Int) < N:=(by omega);have hm4b:decide ((4097:Int) < N) = true:=decide_eq_true hm4;generalize sb s = S at hsz Hpre;clear hrr hr hp hN Hix hodd hlen;go_enter Tryz.func115,Tryz.ntmps115;go_wp2_with (go_at_call 141;with_reducible refine (Hpre.out _).mono ?_;rintro e w1 ⟨rfl,hw1⟩);go_ret2;exact BsP.mk _ _ _ (by rw [Hr.out];rfl) hw1
  have hm4:¬ (4097:Int) < N:=by omega
  have hm4b:decide ((4097:Int) < N) = false:=decide_eq_false hm4
  have hN4:(N:Int) ≤ 4097:=by omega
  have Hyes:Hid ((∀ i (h:i < s.length),1 ≤ i → isHx s[i] = true) → r = true):=fun h=>by rw [hr];exact hex_yes hp hodd hlen h
  have Hno:Hid (∀ i (h:i < s.length),1 ≤ i → isHx s[i] = false → r = false):=fun i h h1 hc=>by rw [hr];exact hex_no4 h h1 hc
  have Hodd:=hIh hodd
  have hNp:1 ≤ N:=by omega
  have Hst:Hid (∀ W c (A:Option Addr),W = w.alloc (.cells #[] 5) → GrT w 5 1 (.slice A 0 c) 0 [] W → ByLoop w s (.slice A 0 c) (.int .i64 1) W):=fun W c A _ hg=>⟨1,0, [],rfl,by omega,rfl,by omega,fun j _ h1 h2=>by omega,hg⟩;generalize sb s = S at hsz Hpre Hix;clear hr hp hN hodd hlen;go_enter Tryz.func115,Tryz.ntmps115;go_wp2_with (go_at_call 141;with_reducible refine (Hpre.out _).mono ?_;rintro e w1 ⟨rfl,hw1⟩)
  have Hs2:Hid (ByLoop w s (.slice (some ⟨w1.heap.size,0,none⟩) 0 0) (.int .i64 1) (w1.alloc (.cells #[] 5))):=
   ⟨1,0, [],rfl,by have:=HN.out;omega,rfl,by omega,fun j _ h1 h2=>by omega,World.ownsRow_made _ #[] 0 (Nat.zero_le _) (Nat.zero_le _) rfl,fun k hk=>by cases hk;exact hw1.size,hw1.alloc hw1.size _⟩
  clear Hst hw1 hm
  go_loopw [4,5] (fun v4 v5 wr=>ByLoop w s v4 v5 wr) (fun _ v5 _=>N - (intOf v5).toNat)
  case atStart=>exact Hs2.out
  case round=>
   clear Hs2;obtain ⟨i,n,xs,rfl,hi,hi2,hni,hall,hG⟩:=hrel;obtain ⟨A0,c0,rfl⟩:=hG.slice;have HG:=hIh hG;have Hall:=hIh hall;rw [← HN.out] at hi;clear hG hall
   by_cases hlt:i < N
   ·have hN1:=HN.out
    have hod:=Hodd.out;have hlt2:i + 1 < s.length:=(by omega);have hlt1:i < s.length:=(by omega);have hix1:=fun W=>Hix.out W i hlt1;have hix2:∀ W,(Instr.index 9 (.string S) (.int .i64 ((i:Int) + 1))).run Tryz.prog W = .ok (.int .u8 (s[i + 1].toNat:Int)) W:=fun W=>Hix.out W (i + 1) hlt2;have hb:decide ((i:Int) < N) = true:=decide_eq_true (by omega);have hb2:(i:Int) < N:=(by omega);have hw1' : IntKind.i64.wrap ((i:Int) + 1) = (i:Int) + 1:=IntWalk.i64_in _ (by omega);have ha0:(0:Int) ≤ (i:Int) + 1:=(by omega);have hat:((i:Int) + 1).toNat = i + 1:=(by omega);have hal:(i:Int) + 1 < N:=(by omega);have C1:Hid (∀ W,Calls Tryz.prog 122 #[.string (ByteArray.mk #[48,49,50,51,52,53,54,55,56,57,97,98,99,100,101,102]),.int .u8 (s[i].toNat:Int)] W fun e w'=>e = .returned (.int .i64 (Lib.indexByte hexT s[i])) ∧ w' = W):=fun W=>lixb_calls W s[i];have C2:Hid (∀ W,Calls Tryz.prog 122 #[.string (ByteArray.mk #[48,49,50,51,52,53,54,55,56,57,97,98,99,100,101,102]),.int .u8 (s[i + 1].toNat:Int)] W fun e w'=>e = .returned (.int .i64 (Lib.indexByte hexT s[i + 1])) ∧ w' = W):=fun W=>lixb_calls W s[i + 1]
    have F1:=hx_fact s[i];have F2:=hx_fact s[i + 1];have Hb1:Hid (isHx s[i] = false → r = false):=fun h=>Hno.out i hlt1 (by omega) h;have Hb2:Hid (isHx s[i + 1] = false → r = false):=fun h=>Hno.out (i + 1) hlt2 (by omega) h
    have Hgood:Hid (isHx s[i] = true → isHx s[i + 1] = true → ∀ v' n' xs' w',n' = n + 1 → GrT w 5 1 v' n' xs' w' → ByLoop w s v' (.int .i64 ((i:Int) + 2)) w'):=fun h1 h2 v' n' xs' w' hn hg=>
     ⟨i + 2,n',xs',by simp,by omega,by omega,by omega,fun j hj hj1 hji=>by
      by_cases e:j = i
      ·subst e;exact h1
      ·by_cases e2:j = i + 1
       ·subst e2;exact h2
       ·exact Hall.out j hj hj1 (by omega),hg⟩
    generalize isHx s[i] = p1 at F1 Hb1 Hgood;generalize isHx s[i + 1] = p2 at F2 Hb2 Hgood;generalize Lib.indexByte hexT s[i] = z1 at C1 F1;generalize Lib.indexByte hexT s[i + 1] = z2 at C2 F2;generalize s[i].toNat = c1 at hix1 C1;generalize s[i + 1].toNat = c2 at hix2 C2;clear Hix hN1 hod hlt2 hlt1 Hno;go_upto_region 7 with fail;go_quiet ((go_at_call 122;(first | with_reducible exact Calls.quiet_of_same (C1.out _) | with_reducible exact Calls.quiet_of_same (C2.out _))))
    clear hix1 hix2 hw1' ha0 hat
    cases p1 with
    | false=>
     have hz1:=F1.2 rfl;have Hres:=hIh (Hb1.out rfl);subst hz1;clear F1 F2 C1 C2 Hgood Hb1 Hb2;go_wp2;go_ret2;exact BsP.mk _ _ _ (by rw [Hres.out];rfl) (drewB HG.out.bel _)
    | true=>
     obtain ⟨q1,q2⟩:=F1.1 rfl;have q3:¬ z1 < 0:=(by omega)
     cases p2 with
     | false=>
      have hz2:=F2.2 rfl;have Hres:=hIh (Hb2.out rfl);subst hz2;clear F1 F2 C1 C2 Hgood Hb1 Hb2;go_wp2;go_ret2;exact BsP.mk _ _ _ (by rw [Hres.out];rfl) (drewB HG.out.bel _)
     | true=>
      obtain ⟨q4,q5⟩:=F2.1 rfl;have q6:¬ z2 < 0:=(by omega);have Hgo:=hIh (Hgood.out rfl rfl);have hn9:n ≤ 4194304:=(by omega);clear F1 F2 C1 C2 Hgood Hb1 Hb2;have HG2:Hid (GrT w 5 1 (.slice A0 n c0) n xs (wr.drewN nq)):=HG.out.below (drewB (Below.refl _ _) nq);go_wp2_with (at_builtin;refine wpList_app1 HG2 rfl (.tmp 44) (.tmp 50) 66 rfl (.int .u8 0) 1 Tryz.underlying66 infoU8' rfl (by decide) [_] rfl (fun u h=>by rw [List.mem_singleton.1 h];rfl) _ rfl rfl hn9 (by decide) ?_);intro v' w3 hg3;have Hk:=hIh (Hgo.out v' _ _ w3 rfl hg3);obtain ⟨A3,c3,rfl⟩:=hg3.slice;clear hg3;go_wp2;go_roundw
      case rel=>exact Hk.out
      case measure=>simp [intOf];omega
   ·have hb:decide ((i:Int) < N) = false:=decide_eq_false (by omega)
    have hb2:¬ (i:Int) < N:=(by omega);have Hres:=hIh (Hyes.out fun j hj h1=>Hall.out j hj h1 (by have:=HN.out;omega));go_wp2;go_ret2;exact BsP.mk _ _ _ (by rw [Hres.out];rfl) HG.out.bel
theorem infoFate:(Tryz.prog.info? 211).map (fun i=>(i.zero,i.size,i.bytes)) = some (some (.agg #[.int .i64 0,.int .i64 0]),2,16):=by kernel_rfl
def FtLoop (W1:World) (l:List Str) (v4 v14:Value) (w1:World):Prop := ∃ (i:Nat) (xs:List Value),v14 = .int .i64 i ∧ i ≤ l.length ∧ (∀ j (h:j < l.length),j < i → fateS l[j] = true) ∧ GrT W1 211 2 v4 i xs w1
theorem fates_no {s:Str} (h:s ≠ [45]) {i:Nat} (hi:i < (pieces 44 s).length) (hc:fateS (pieces 44 s)[i] = false):fatesS s = false:=by
 unfold fatesS;rw [if_neg h]
 have:(pieces 44 s).all fateS = false:=by
  rw [← Bool.not_eq_true,List.all_eq_true];intro ha;rw [ha _ (List.getElem_mem hi)] at hc;cases hc
 rw [this];rfl
theorem fates_all {s:Str} (h:s ≠ [45]) (ha:∀ j (h:j < (pieces 44 s).length),fateS (pieces 44 s)[j] = true):fatesS s = decide ((pieces 44 s).length ≤ 512):=by
 unfold fatesS;rw [if_neg h]
 have:(pieces 44 s).all fateS = true:=by
  rw [List.all_eq_true];intro t ht;obtain ⟨j,hj,rfl⟩:=List.mem_iff_getElem.1 ht;exact ha j hj
 rw [this];rfl
theorem fates_calls (w:World) (G:Glob w) (s:Str) (hs:s.length ≤ 1048576):Calls Tryz.prog 117 #[.string (sb s)] w (BsP w (fatesS s)):=by
 by_cases h45:s = [45]
 ·have hr:fatesS s = true:=by unfold fatesS;rw [if_pos h45]
  rw [hr]
  have hk:(sb s).toList = [45]:=by rw [sb_toL,h45]
  have hkb:((sb s).toList == [45]) = true:=by rw [hk];rfl
  generalize sb s = S at hk hkb;clear hr h45 hs G;go_enter Tryz.func117,Tryz.ntmps117;go_wp2;go_ret2;exact BsP.mk _ _ _ rfl (Below.refl _ _)
 have hk:¬ (sb s).toList = [45]:=by rw [sb_toL];exact h45
 have hkb:((sb s).toList == [45]) = false:=by rw [beq_eq_false_iff_ne];exact hk
 obtain ⟨l,hl⟩ : ∃ l,l = pieces 44 s:=⟨_,rfl⟩;obtain ⟨r,hr⟩ : ∃ r,r = fatesS s:=⟨_,rfl⟩;rw [← hr];obtain ⟨g,hg⟩ : ∃ g,g = w.heap.size:=⟨_,rfl⟩;obtain ⟨W1,hW1⟩ : ∃ W1,W1 = w.alloc (.cells (l.map fun s=>Value.string (sb s)).toArray 9):=⟨_,rfl⟩;obtain ⟨N,hN⟩ : ∃ N,N = l.length:=⟨_,rfl⟩
 have Hsp:Hid (Calls Tryz.prog 127 #[.string (sb s),.string (ByteArray.mk #[44])] w fun e w'=>e = .returned (.slice (some ⟨g,0,none⟩) N N) ∧ w' = W1):=by
  rw [hg,hW1,hN,hl];exact lsplit_calls w G s 44 (by omega)
 have Hno:Hid (∀ i (hi:i < l.length),fateS l[i] = false → r = false):=by rw [hr,hl];exact fun i hi hc=>fates_no h45 hi hc
 have Hall0:Hid ((∀ j (h:j < l.length),fateS l[j] = true) → r = decide ((N:Int) ≤ 512)):=fun h=>by
  rw [hr,fates_all h45 (by rw [← hl];exact h),← hl,← hN];exact decide_eq_decide.2 (by omega)
 have hNl:N ≤ 1048577:=by
  have:=pieces_small 44 s;rw [hN,hl];omega
 have Hcell:Hid (∀ W i (hi:i < l.length),Below W1.heap.size W1 W → W.cell? ⟨g,i,none⟩ = some (.string (sb l[i]))):=fun W i hi hb=>by
  have h1:W1.cell? ⟨g,i,none⟩ = some (.string (sb l[i])):=by
   rw [hW1,hg];simp only [World.cell?,blk_new];simp [hi]
  have hlt:g < W1.heap.size:=World.block_lt_of_cell? W1 _ h1;rw [hb.cell (p:=⟨g,i,none⟩) hlt];exact h1
 have Hst:Hid (FtLoop W1 l (.slice none 0 0) (.int .i64 0) W1):=⟨0, [],rfl,by omega,fun j _ h=>by omega,GrT.nil _ _ _ (Below.refl _ _)⟩
 have HbW:Hid (Below w.heap.size w W1):=by rw [hW1];exact bel_alloc _ _
 have HN:=hIh hN;generalize sb s = S at hk hkb Hsp;clear hl hr hg hW1 hN h45 hs G;go_enter Tryz.func117,Tryz.ntmps117;go_wp2_with fail
 with_reducible refine Hsp.out.mono ?_
 rintro e w1 ⟨rfl,hw1⟩;obtain rfl:=hw1.symm;go_wp2_with fail
 go_loopw [4,14] (fun v4 v14 wr=>FtLoop W1 l v4 v14 wr) (fun _ v14 _=>N - (intOf v14).toNat)
 case atStart=>exact Hst.out
 case round=>
  clear Hst;obtain ⟨i,xs,rfl,hi,hall,hG⟩:=hrel;obtain ⟨A0,c0,rfl⟩:=hG.slice;have HG:=hIh hG;have Hall:=hIh hall;rw [← HN.out] at hi;clear hG hall
  by_cases hlt:i < N
  ·have hlt' : i < l.length:=by rw [← HN.out];exact hlt
   have hcell:=Hcell.out wr i hlt' HG.out.bel;have hb:decide ((i:Int) < N) = true:=decide_eq_true (by omega);have hb2:(i:Int) < N:=(by omega);have Hbad:=hIh (Hno.out i hlt')
   have Hgood:Hid (fateS l[i] = true → ∀ v' xs' w',GrT W1 211 2 v' (i + 1) xs' w' → FtLoop W1 l v' (.int .i64 ((i:Int) + 1)) w'):=fun h v' xs' w' hg=>
    ⟨i + 1,xs',by simp,hlt',fun j hj hji=>by
     by_cases e:j = i
     ·subst e;exact h
     ·exact Hall.out j hj (by omega),hg⟩
   have Hpre:Hid (∀ W,Calls Tryz.prog 141 #[.string (sb l[i]),.string (ByteArray.mk #[116])] W fun e w'=>e = .returned (.bool (([116] : Str).isPrefixOf l[i])) ∧ Below W.heap.size W w'):=fun W=>lhaspre_calls W l[i] [116];have hn9:i ≤ 4194304:=(by omega);generalize l[i] = p at hcell Hbad Hgood Hpre;clear hlt' Hall Hall0 Hno Hcell
   by_cases hp1:p = [107]
   ·have Hgo:=hIh (Hgood.out (by rw [hp1];rfl))
    have k1:(sb p).toList = [107]:=(by rw [sb_toL,hp1]);have k1b:((sb p).toList == [107]) = true:=(by rw [k1];rfl);generalize sb p = T at hcell k1 k1b;clear hp1 Hgood Hbad Hpre;go_wp2_with (at_builtin;refine wpList_app1 HG rfl (.tmp 21) (.tmp 23) 181 rfl (.agg #[.int .i64 0,.int .i64 0]) 16 Tryz.underlying181 infoFate rfl (by decide) [_,_] rfl ?c1 _ rfl rfl hn9 (by decide) ?_)
    case c1=>intro u hu;simp only [List.mem_cons,List.not_mem_nil,or_false] at hu;rcases hu with rfl | rfl <;> rfl
    intro v' w3 hg3;have Hk:=hIh (Hgo.out v' _ w3 hg3);obtain ⟨A3,c3,rfl⟩:=hg3.slice;clear hg3;go_wp2;go_roundw
    case rel=>exact Hk.out
    case measure=>simp [intOf];omega
   have k1:¬ (sb p).toList = [107]:=(by rw [sb_toL];exact hp1);have k1b:((sb p).toList == [107]) = false:=(by rw [beq_eq_false_iff_ne];exact k1)
   by_cases hp2:p = [100]
   ·have Hgo:=hIh (Hgood.out (by rw [hp2];rfl))
    have k2:(sb p).toList = [100]:=(by rw [sb_toL,hp2]);have k2b:((sb p).toList == [100]) = true:=(by rw [k2];rfl);generalize sb p = T at hcell k1 k1b k2 k2b;clear hp1 hp2 Hgood Hbad Hpre;go_wp2_with (at_builtin;refine wpList_app1 HG rfl (.tmp 28) (.tmp 30) 181 rfl (.agg #[.int .i64 0,.int .i64 0]) 16 Tryz.underlying181 infoFate rfl (by decide) [_,_] rfl ?c1 _ rfl rfl hn9 (by decide) ?_)
    case c1=>intro u hu;simp only [List.mem_cons,List.not_mem_nil,or_false] at hu;rcases hu with rfl | rfl <;> rfl
    intro v' w3 hg3;have Hk:=hIh (Hgo.out v' _ w3 hg3);obtain ⟨A3,c3,rfl⟩:=hg3.slice;clear hg3;go_wp2;go_roundw
    case rel=>exact Hk.out
    case measure=>simp [intOf];omega
   have k2:¬ (sb p).toList = [100]:=(by rw [sb_toL];exact hp2);have k2b:((sb p).toList == [100]) = false:=(by rw [beq_eq_false_iff_ne];exact k2)
   cases ht:([116] : Str).isPrefixOf p with
   | false=>
    rw [ht] at Hpre
    have hf:fateS p = false:=by
     unfold fateS;rw [if_neg hp1,if_neg hp2]
     split
     ·simp [List.isPrefixOf] at ht
     ·rfl
    have Hres:=hIh (Hbad.out hf);generalize sb p = T at hcell k1 k1b k2 k2b Hpre;clear hp1 hp2 Hgood Hbad ht hf;go_wp2_with (go_at_call 141;with_reducible refine (Hpre.out _).mono ?_;rintro e w2 ⟨rfl,hw2⟩);go_ret2;exact BsP.mk _ _ _ (by rw [Hres.out];rfl) (HbW.out.trans ((HG.out.below hw2).bel.mono HbW.out.size))
   | true=>
    rw [ht] at Hpre
    obtain ⟨q,hq⟩ : ∃ q,p = 116 :: q:=by
     cases p with
     | nil=>simp [List.isPrefixOf] at ht
     | cons a q=>simp [List.isPrefixOf] at ht;exact ⟨q,by rw [← ht]⟩
    have hsl:∀ W,(Instr.slice 9 (.string (sb p)) (some (.int .i64 1)) none none).run Tryz.prog W = .ok (.string (sb q)) W:=fun W=>by
     have:=run_slF W p 1 (by rw [hq];simp);rw [hq] at this ⊢;exact this
    have Hdg:Hid (∀ W,Calls Tryz.prog 105 #[.string (sb q),.int .i64 10] W (NuPost W (dgI q 10))):=fun W=>digits_calls W q 10 (by omega)
    have hf:fateS p = (match digitsS q 10 with
      | some n=>decide (n ≤ 512)
      | none=>false):=by
     unfold fateS;rw [if_neg hp1,if_neg hp2,hq];rfl
    have hf2:fateS p = (match dgI q 10 with
      | some n=>decide (n ≤ 512)
      | none=>false):=by
     rw [hf];unfold dgI
     cases digitsS q 10 with
     | none=>rfl
     | some n=>show decide (n ≤ 512) = decide ((n:Int) ≤ 512);exact decide_eq_decide.2 (by omega)
    rw [hf2] at Hgood Hbad;generalize sb p = T at hcell k1 k1b k2 k2b Hpre hsl;generalize sb q = U at hsl Hdg;generalize dgI q 10 = o at Hdg Hgood Hbad;clear hp1 hp2 ht hf hf2 hq;go_wp2_with (go_at_call 141;with_reducible refine (Hpre.out _).mono ?_;rintro e w2 ⟨rfl,hw2⟩);have HG2:=hIh (HG.out.below hw2);clear hw2;(with_reducible refine (Hdg.out _).mono ?_);rintro e w3 ⟨z,ok,rfl,hr,hw3⟩;have HG3:=hIh (HG2.out.below hw3);clear hw3;rcases hr with ⟨n,rfl,rfl,rfl⟩ | ⟨rfl,rfl⟩
    ·by_cases hz:z ≤ 512
     ·have hz2:¬ 512 < z:=by omega
      have hz2b:decide (512 < z) = false:=decide_eq_false hz2;have Hgo:=hIh (Hgood.out (decide_eq_true hz));clear Hgood Hbad hz;go_wp2_with (at_builtin;refine wpList_app1 HG3 rfl (.tmp 47) (.tmp 50) 181 rfl (.agg #[.int .i64 0,.int .i64 0]) 16 Tryz.underlying181 infoFate rfl (by decide) [_,_] rfl ?c1 _ rfl rfl hn9 (by decide) ?_)
      case c1=>intro u hu;simp only [List.mem_cons,List.not_mem_nil,or_false] at hu;rcases hu with rfl | rfl <;> rfl
      intro v' w3 hg3;have Hk:=hIh (Hgo.out v' _ w3 hg3);obtain ⟨A3,c3,rfl⟩:=hg3.slice;clear hg3;go_wp2;go_roundw
      case rel=>exact Hk.out
      case measure=>simp [intOf];omega
     ·have hz2:512 < z:=by omega
      have hz2b:decide (512 < z) = true:=decide_eq_true hz2;have Hres:=hIh (Hbad.out (decide_eq_false hz));clear Hgood Hbad hz;go_wp2;go_ret2;exact BsP.mk _ _ _ (by rw [Hres.out];rfl) (HbW.out.trans (HG3.out.bel.mono HbW.out.size))
    ·have Hres:=hIh (Hbad.out rfl)
     clear Hgood Hbad;go_wp2;go_ret2;exact BsP.mk _ _ _ (by rw [Hres.out];rfl) (HbW.out.trans (HG3.out.bel.mono HbW.out.size))
  ·have hb:decide ((i:Int) < N) = false:=decide_eq_false (by omega)
   have hb2:¬ (i:Int) < N:=(by omega);obtain rfl:i = N:=(by omega);have Hres:=hIh (Hall0.out fun j hj=>Hall.out j hj (by have:=HN.out;omega))
   by_cases h5:(i:Int) ≤ 512
   ·have h5b:decide ((i:Int) ≤ 512) = true:=decide_eq_true h5
    rw [h5b] at Hres;go_wp2;go_ret2;exact BsP.mk _ _ _ (by rw [Hres.out];rfl) (HbW.out.trans (HG.out.bel.mono HbW.out.size))
   ·have h5b:decide ((i:Int) ≤ 512) = false:=decide_eq_false h5
    rw [h5b] at Hres;go_wp2;go_ret2;exact BsP.mk _ _ _ (by rw [Hres.out];rfl) (HbW.out.trans (HG.out.bel.mono HbW.out.size))
theorem kinds1_calls (W:World) (a b:Int):Calls Tryz.prog 75 #[.int .i64 a,.int .i64 b] W fun e w'=>e = .returned (.iface 129 (.agg #[.int .i64 a,.int .i64 b])) ∧ w' = W:=by
 go_enter Tryz.func75,Tryz.ntmps75;go_wp2;go_ret;exact ⟨rfl,rfl⟩
theorem kinds4_calls (W:World) (a b:Int):Calls Tryz.prog 84 #[.int .i64 a,.int .i64 b] W fun e w'=>e = .returned (.iface 142 (.agg #[.int .i64 a,.int .i64 b])) ∧ w' = W:=by
 go_enter Tryz.func84,Tryz.ntmps84;go_wp2;go_ret;exact ⟨rfl,rfl⟩
theorem kinds2_calls (W:World) (a:Int):Calls Tryz.prog 80 #[.int .i64 a] W fun e w'=>e = .returned (.iface 135 (.agg #[.int .i64 a])) ∧ w' = W:=by
 go_enter Tryz.func80,Tryz.ntmps80;go_wp2;go_ret;exact ⟨rfl,rfl⟩
theorem kinds3_calls (W:World) (a:Int):Calls Tryz.prog 83 #[.int .i64 a] W fun e w'=>e = .returned (.iface 140 (.agg #[.int .i64 a])) ∧ w' = W:=by
 go_enter Tryz.func83,Tryz.ntmps83;go_wp2;go_ret;exact ⟨rfl,rfl⟩
theorem none1_calls (w:World) (g:Nat) (c sv:Value) (hc:w.cell? ⟨g,0,none⟩ = some c) (v:Value) (l:List Str) (h:RdT w v l):Calls Tryz.prog 114 #[v,sv,.pointer (some ⟨g,0,none⟩)] w (BvP w (numsS 0 l)):=by
 obtain ⟨A,k,rfl⟩:=h.slice;clear h
 cases l with
 | nil=>
  have hl:([] : List Str).length = 0:=rfl;go_enter Tryz.func114,Tryz.ntmps114;go_wp2;go_ret2;exact BvP.mk _ rfl (Below.refl _ _)
 | cons a r=>
  have hr:numsS 0 (a :: r) = false:=rfl
  have hz:(((a :: r).length:Int) == 0) = false:=by rw [beq_eq_false_iff_ne];simp only [List.length_cons];omega
  rw [hr];generalize (a :: r).length = N at hz;clear hr;go_enter Tryz.func114,Tryz.ntmps114;go_wp2;go_ret2;exact BvP.mk _ rfl (Below.refl _ _)
theorem rd_int {w:World} {v:Value} {n:Nat} {zs:List Int} (h:Rd w 1 v n (intVs zs)) (hz:zs ≠ []):∃ b off c,v = .slice (some ⟨b,off,none⟩) n c ∧ n ≤ c ∧ ∀ i (hi:i < zs.length),w.cell? ⟨b,off + i,none⟩ = some (.int .i64 zs[i]):=by
 obtain ⟨b,off,c,hv,hc, -,hcell⟩:=Rd.some h (by intro e;unfold intVs at e;exact hz (List.map_eq_nil_iff.1 e));exact ⟨b,off,c,hv,hc,fun i hi=>hcell i _ (by simp [intVs,hi])⟩
theorem one1_calls (fn:Nat) (mk:Int → Value) (hcf:∀ (args:Array Value) (w:World),(callFunc fn args).run Tryz.prog w = .ok (.enter fn args) w) (Hf:∀ W z,Calls Tryz.prog fn #[.int .i64 z] W fun e w'=>e = .returned (mk z) ∧ w' = W)
  (w:World) (g:Nat) (sv:Value) (hc:w.cell? ⟨g,0,none⟩ = some (.func (.func fn) #[] #[])) (v:Value) (l:List Str) (h:RdT w v l) (hl:l.length ≤ 1048577):Calls Tryz.prog 116 #[v,sv,.pointer (some ⟨g,0,none⟩)] w (BvP w (numsS 1 l)):=by
 have Hns:Hid (Calls Tryz.prog 113 #[v,.int .i64 1] w (NsP w 1 l)):=numbers_calls w v l h hl 1;have HF:=hIh Hf;have Hg:Hid (g < w.heap.size):=World.block_lt_of_cell? w _ hc;obtain ⟨r,hr⟩ : ∃ r,r = numsS 1 l:=⟨_,rfl⟩;rw [← hr];have Hr:=hIh hr;clear h hl hr Hf;go_enter Tryz.func116,Tryz.ntmps116;go_wp2_with fail
 with_reducible refine Hns.out.mono ?_
 rintro e w2 ⟨u,ok,rfl,hok,hrd,hw2⟩;rw [← Hr.out] at hok;have HB:=hIh hw2
 have hc2:w2.cell? ⟨g,0,none⟩ = some (.func (.func fn) #[] #[]):=by rw [hw2.cell (p:=⟨g,0,none⟩) Hg.out];exact hc
 cases ok with
 | false=>
  have Hok:=hIh hok;clear hrd hok hw2 hc hc2;go_wp2;go_ret2;exact BvP.mk _ (by rw [← Hok.out];rfl) HB.out
 | true=>
  have Hok:=hIh hok;obtain ⟨zs,hz,hrd⟩:=hrd rfl;obtain ⟨b,off,c,rfl,hcap,hcell⟩:=rd_int hrd (by intro e;rw [e] at hz;simp at hz);have h0:=hcell 0 (by omega);rw [Nat.add_zero] at h0;generalize zs[0]'_ = z at h0
  have hcap1:(1:Int) ≤ c:=by omega
  clear hrd hok hw2 hc hcell hz;go_upto_region 4 with fail;go_quiet ((with_reducible exact Calls.quiet_of_same (HF.out _ z)));go_wp2;go_ret2;exact BvP.mk _ (by rw [← Hok.out];rfl) (drewB HB.out _)
theorem two1_calls (fn:Nat) (mk:Int → Int → Value) (hcf:∀ (args:Array Value) (w:World),(callFunc fn args).run Tryz.prog w = .ok (.enter fn args) w) (Hf:∀ W y z,Calls Tryz.prog fn #[.int .i64 y,.int .i64 z] W fun e w'=>e = .returned (mk y z) ∧ w' = W)
  (w:World) (g:Nat) (sv:Value) (hc:w.cell? ⟨g,0,none⟩ = some (.func (.func fn) #[] #[])) (v:Value) (l:List Str) (h:RdT w v l) (hl:l.length ≤ 1048577):Calls Tryz.prog 112 #[v,sv,.pointer (some ⟨g,0,none⟩)] w (BvP w (numsS 2 l)):=by
 have Hns:Hid (Calls Tryz.prog 113 #[v,.int .i64 2] w (NsP w 2 l)):=numbers_calls w v l h hl 2;have HF:=hIh Hf;have Hg:Hid (g < w.heap.size):=World.block_lt_of_cell? w _ hc;obtain ⟨r,hr⟩ : ∃ r,r = numsS 2 l:=⟨_,rfl⟩;rw [← hr];have Hr:=hIh hr;clear h hl hr Hf;go_enter Tryz.func112,Tryz.ntmps112;go_wp2_with fail
 with_reducible refine Hns.out.mono ?_
 rintro e w2 ⟨u,ok,rfl,hok,hrd,hw2⟩;rw [← Hr.out] at hok;have HB:=hIh hw2
 have hc2:w2.cell? ⟨g,0,none⟩ = some (.func (.func fn) #[] #[]):=by rw [hw2.cell (p:=⟨g,0,none⟩) Hg.out];exact hc
 cases ok with
 | false=>
  have Hok:=hIh hok;clear hrd hok hw2 hc hc2;go_wp2;go_ret2;exact BvP.mk _ (by rw [← Hok.out];rfl) HB.out
 | true=>
  have Hok:=hIh hok;obtain ⟨zs,hz,hrd⟩:=hrd rfl;obtain ⟨b,off,c,rfl,hcap,hcell⟩:=rd_int hrd (by intro e;rw [e] at hz;simp at hz);have h0:=hcell 0 (by omega);have h1:=hcell 1 (by omega);rw [Nat.add_zero] at h0;generalize zs[0]'_ = y at h0;generalize zs[1]'_ = z at h1
  have hcap1:(2:Int) ≤ c:=by omega
  clear hrd hok hw2 hc hcell hz;go_upto_region 4 with fail;go_quiet ((with_reducible exact Calls.quiet_of_same (HF.out _ y z)));go_wp2;go_ret2;exact BvP.mk _ (by rw [← Hok.out];rfl) (drewB HB.out _)
theorem one_cell {w:World} {v:Value} {t:Str} (h:RdT w v [t]):∃ b off c,v = .slice (some ⟨b,off,none⟩) 1 c ∧ (1:Int) ≤ c ∧ w.cell? ⟨b,off,none⟩ = some (.string (sb t)):=by
 obtain ⟨b,off,c,hv,hc, -,hcell⟩:=RdT.some h (by simp);have h0:=hcell 0 (by simp);rw [Nat.add_zero] at h0;exact ⟨b,off,c,hv,by simp only [List.length_singleton] at hc;omega,h0⟩
theorem len_ne {l:List Str} {n:Nat} (h:l.length ≠ n):(((l.length:Nat):Int) != (n:Int)) = true:=by
 rw [bne_iff_ne];omega
theorem raw_calls (w:World) (v sv:Value) (l:List Str) (h:RdT w v l):Calls Tryz.prog 78 #[v,sv] w (BvP w (rawS l)):=by
 by_cases h1:l.length = 1
 ·obtain ⟨t,rfl⟩ : ∃ t,l = [t]:=by
   match l,h1 with
   | [t],_=>exact ⟨t,rfl⟩
  obtain ⟨b,off,c,rfl,hcap,hcell⟩:=one_cell h;have Hb:Hid (∀ W,Calls Tryz.prog 115 #[.string (sb t)] W (BsP W (rawS [t]))):=fun W=>bytes_calls W t;generalize rawS [t] = r at Hb;generalize sb t = T at hcell Hb;clear h h1;go_enter Tryz.func78,Tryz.ntmps78;go_wp2_with fail
  with_reducible refine (Hb.out _).mono ?_
  rintro e w2 ⟨u,un,uc,ok,rfl,rfl,hw2⟩;go_wp2;go_ret2;exact BvP.mk _ rfl hw2
 ·have hr:rawS l = false:=by
   match l,h1 with
   | [],_=>rfl
   | [t],h1=>exact absurd rfl h1
   | _ :: _ :: _,_=>rfl
  have hb:=len_ne h1;obtain ⟨A,c,rfl⟩:=h.slice;rw [hr];generalize l.length = N at hb;clear h hr h1;go_enter Tryz.func78,Tryz.ntmps78;go_wp2;go_ret2;exact BvP.mk _ rfl (Below.refl _ _)
theorem crash_calls (w:World) (G:Glob w) (v sv:Value) (l:List Str) (h:RdT w v l) (hsm:∀ t ∈ l,t.length ≤ 1048576):Calls Tryz.prog 81 #[v,sv] w (BvP w (crashS l)):=by
 by_cases h1:l.length = 1
 ·obtain ⟨t,rfl⟩ : ∃ t,l = [t]:=by
   match l,h1 with
   | [t],_=>exact ⟨t,rfl⟩
  obtain ⟨b,off,c,rfl,hcap,hcell⟩:=one_cell h;have Hb:Hid (Calls Tryz.prog 117 #[.string (sb t)] w (BsP w (crashS [t]))):=fates_calls w G t (hsm t (by simp));generalize crashS [t] = r at Hb;generalize sb t = T at hcell Hb;clear h h1 G hsm;go_enter Tryz.func81,Tryz.ntmps81;go_wp2_with fail
  with_reducible refine Hb.out.mono ?_
  rintro e w2 ⟨u,un,uc,ok,rfl,rfl,hw2⟩;go_wp2;go_ret2;exact BvP.mk _ rfl hw2
 ·have hr:crashS l = false:=by
   match l,h1 with
   | [],_=>rfl
   | [t],h1=>exact absurd rfl h1
   | _ :: _ :: _,_=>rfl
  have hb:=len_ne h1;obtain ⟨A,c,rfl⟩:=h.slice;rw [hr];generalize l.length = N at hb;clear h hr h1 G hsm;go_enter Tryz.func81,Tryz.ntmps81;go_wp2;go_ret2;exact BvP.mk _ rfl (Below.refl _ _)
theorem edit_calls (w:World) (v sv:Value) (l:List Str) (h:RdT w v l):Calls Tryz.prog 82 #[v,sv] w (BvP w (editS l)):=by
 by_cases h1:l.length = 3
 ·obtain ⟨x,y,t,rfl⟩ : ∃ x y t,l = [x,y,t]:=by
   match l,h1 with
   | [x,y,t],_=>exact ⟨x,y,t,rfl⟩
  obtain ⟨b,off,c,rfl,hc,hbl,hcell⟩:=RdT.some h (by simp);have hc2:w.cell? ⟨b,off + 2,none⟩ = some (.string (sb t)):=hcell 2 (by simp)
  have hcap:(3:Int) ≤ c:=by simp only [List.length_cons,List.length_nil] at hc;omega
  have hrd:RdT w (.slice (some ⟨b,off,none⟩) 2 c) [x,y]:=by
   obtain ⟨g1,A,c',hv,g2,g3,g4⟩:=h
   cases hv
   refine ⟨rfl,_,_,rfl,by simp only [List.length_cons,List.length_nil] at g2 ⊢;omega,(fun h=>by cases h),fun ad hA j u hu=>g4 ad hA j u ?_⟩
   match j,hu with
   | 0,hu=>exact hu
   | 1,hu=>exact hu
  have Hn:Hid (Calls Tryz.prog 113 #[.slice (some ⟨b,off,none⟩) 2 c,.int .i64 2] w (NsP w 2 [x,y])):=numbers_calls w _ _ hrd (by simp) 2;have Hb:Hid (∀ W,Calls Tryz.prog 115 #[.string (sb t)] W (BsP W (hexS t))):=fun W=>bytes_calls W t
  have Hr:Hid (editS [x,y,t] = (numsS 2 [x,y] && hexS t)):=by
   show _ = _;simp [editS,numsS]
  generalize editS [x,y,t] = r at Hr;have Hbl:=hIh hbl;generalize hexS t = r2 at Hb Hr;generalize sb t = T at hc2 Hb;have hl3:(([x,y,t] : List Str).length) = 3:=rfl;rw [hl3];have Hr1:Hid (∀ e w',NsP w 2 [x,y] e w' → NsP w 2 [x,y] e w'):=fun _ _ h=>h;clear h h1 hcell hrd hc hl3 Hr1;go_enter Tryz.func82,Tryz.ntmps82;go_wp2_with fail
  with_reducible refine Hn.out.mono ?_
  rintro e w2 ⟨u,ok,rfl,hok,hz,hw2⟩
  have hc3:w2.cell? ⟨b,off + 2,none⟩ = some (.string T):=by rw [hw2.cell (p:=⟨b,off + 2,none⟩) Hbl.out];exact hc2
  have HB:=hIh hw2;have Hz:=hIh hz;rw [← hok] at Hr;clear hw2 hz hok hc2;go_wp2_with fail
  with_reducible refine (Hb.out _).mono ?_
  rintro e w3 ⟨un,ul,uc,ok2,rfl,hok2,hw3⟩;rw [← hok2] at Hr;have HB3:Hid (Below w.heap.size w w3):=HB.out.trans (hw3.mono HB.out.size)
  cases ok with
  | false=>
   clear hw3 hok2 hc3 Hb Hn;have Hres:Hid (r = false):=Hr.out;go_wp2;go_ret2;exact BvP.mk _ (by rw [Hres.out];rfl) HB3.out
  | true=>
   cases ok2 with
   | false=>
    clear hw3 hok2 hc3 Hb Hn;have Hres:Hid (r = false):=Hr.out;go_wp2;go_ret2;exact BvP.mk _ (by rw [Hres.out];rfl) HB3.out
   | true=>
    have Hres:Hid (r = true):=Hr.out;obtain ⟨zs,hz,hrd⟩:=Hz.out rfl;obtain ⟨b4,off4,c4,rfl,hcap4,hcell⟩:=rd_int (Rd.below hrd hw3) (by intro e;rw [e] at hz;simp at hz);have h0:=hcell 0 (by omega);have h1:=hcell 1 (by omega);rw [Nat.add_zero] at h0;generalize zs[0]'_ = y0 at h0;generalize zs[1]'_ = z0 at h1;have hcap1:(2:Int) ≤ c4:=(by omega);clear hw3 hok2 hc3 Hb Hn hrd hcell hz Hz Hr;go_upto_region 7 with fail;go_quiet (fail);go_wp2;go_ret2;exact BvP.mk _ (by rw [Hres.out];rfl) (drewB HB3.out _)
 ·have hr:editS l = false:=by
   match l,h1 with
   | [],_=>rfl
   | [_],_=>rfl
   | [_,_],_=>rfl
   | [_,_,_],h1=>exact absurd rfl h1
   | _ :: _ :: _ :: _ :: _,_=>rfl
  have hb:=len_ne h1;obtain ⟨A,c,rfl⟩:=h.slice;rw [hr];generalize l.length = N at hb;clear h hr h1;go_enter Tryz.func82,Tryz.ntmps82;go_wp2;go_ret2;exact BvP.mk _ rfl (Below.refl _ _)
end Go.Proofs.YtpfkkagkbneilaaGreatDoor
