/- Texts Q13, Q14, Q15 of the proof of BursarChecks, joined. -/
import Derived.Test.YtpfkkagkbneilaaGreatDoorV24
namespace Go.Proofs.YtpfkkagkbneilaaGreatDoor
open Go.RowKit
set_option linter.unusedVariables false
set_option linter.unusedSimpArgs false
set_option maxRecDepth 100000
set_option maxHeartbeats 25600000
theorem zcmd_one:One zcmd:=kcmd_one _ none 0 0
def RdnLoop (w:World) (g qq:Nat) (K:ByteArray) (X:World) (q:List Str) (v9:Value) (wr:World):Prop := ∃ (j:Nat) (zs:List Int) (v:Value),v9 = .int .i64 ((j:Int) + 1) ∧ j ≤ q.length ∧ (∀ i (h:i < q.length),i < j → (numS q[i]).isSome = true) ∧ (∃ A n c,v = .slice A n c) ∧ RT w g qq wr (kcmd K v) ∧ GrT X 3 1 v j (intVs zs) wr
theorem rread_calls (w:World) (t:Str) (ht:t.length ≤ 1048576):Calls Tryz.prog 23 #[.string (sb t)] w (RdP (lineS rdR t) w):=by
 have hsz:(sb t).size = t.length:=sb_size t;obtain ⟨r,hr⟩ : ∃ r,r = lineS rdR t:=⟨_,rfl⟩;rw [← hr];obtain ⟨g,hg⟩ : ∃ g,g = w.heap.size:=⟨_,rfl⟩;have hF:Tryz.f23.results = #[.cell 2 68,.tmp 3]:=rfl;have HF:=hIh hF;have Hg:=hIh hg;obtain ⟨w1,hw1⟩ : ∃ w1,w1 = w.alloc (.cells zcmd 68):=⟨_,rfl⟩
 have H1:Hid (w1.heap[g]? = some (.cells zcmd 68 (0,0)) ∧ Below w.heap.size w w1 ∧ w1.heap.size = g + 1):=by
  rw [hw1,hg];exact ⟨blk_new _ _,bel_alloc _ _,alloc_size _ _⟩
 have HW1:=hIh hw1;have hgs:w.heap.size = g:=hg.symm;have HA1:Hid (w1.heap[g]? = some (.cells zcmd 68 (0,0)) ∧ zcmd.size = 33):=⟨H1.out.1,rfl⟩
 by_cases hlen:4096 < t.length
 ·have hrr:=line_long (rd:=rdR) hlen
  rw [hrr] at hr;have Hr:=hIh hr
  have hb:(4096:Int) < t.length:=by omega
  have hb2:decide ((4096:Int) < t.length) = true:=decide_eq_true hb;generalize t.length = N at hb hb2 hsz;generalize sb t = S at hsz;clear hrr hr hF hg hw1 hlen ht;go_enter Tryz.func23,Tryz.ntmps23;go_upto_region 1 with fail;show Code.wp _ _ _ _ (w.alloc (.cells zcmd 68));rw [← HW1.out];go_wp2_with ((with_reducible refine wpList_storeC (cs:=zcmd) HA1 ?_ ?_ rfl zcmd_one ?_);exact rfl;exact rfl);exact rd_any HF.out Hg.out H1.out.1 rfl rfl zcmd_one H1.out.2.1 Hr.out.symm rfl rfl
 have hb:¬ (4096:Int) < t.length:=by omega
 have hb2:decide ((4096:Int) < t.length) = false:=decide_eq_false hb
 have Hnl:Hid ((10:UInt8) ∈ t → r = false):=fun h=>by rw [hr];exact line_nl hlen h
 obtain ⟨u,hu⟩ : ∃ u,u = t.takeWhile (· != 35):=⟨_,rfl⟩
 have hul:u.length ≤ 1048576:=by rw [hu];exact Nat.le_trans (takeWhile_len _ _) ht
 have Hbare:Hid (∀ W,Calls Tryz.prog 15 #[.string (sb t)] W fun e w'=>e = .returned (.string (sb u)) ∧ w' = W):=fun W=>by rw [hu];exact bare_calls W t ht
 have Hcut:Hid (∀ W,Calls Tryz.prog 32 #[.string (sb u)] W fun e w' => ∃ A1 c1 A2 c2,e = .returned (.tuple #[.slice A1 (words u).length c1,.slice A2 (words u).length c2]) ∧ RdT w' (.slice A1 (words u).length c1) (words u) ∧ RdS atC 1 w' (.slice A2 (words u).length c2) ((cutW 0 u).map Prod.fst) ∧ Below W.heap.size W w'):=fun W=>by
  have:=rcut_calls W u hul;rw [cutW_len] at this;exact this
 have Hc0:Hid ((10:UInt8) ∉ t → words u = [] → r = true):=fun h1 h2=>by rw [hr];exact line_nil hlen h1 (by rw [← hu];exact h2)
 have Hc1:Hid ((10:UInt8) ∉ t → ∀ k q,words u = k :: q → r = cmdS rdR u k q):=fun h1 k q h2=>by rw [hr,line_cons hlen h1 (by rw [← hu];exact h2),← hu]
 have H10:Hid ((10:UInt8) ∉ t → (10:UInt8) ∉ u ∧ (35:UInt8) ∉ u):=fun h=>by
  rw [hu];exact ⟨fun hm=>h (takeWhile_mem hm),takeWhile_not⟩
 have Hix:=hIh (fun W (i:Nat) (h:i < t.length)=>run_ix W t i t[i] (List.getElem?_eq_getElem h));obtain ⟨N,hN⟩ : ∃ N,N = t.length:=⟨_,rfl⟩;rw [← hN] at hsz hb hb2;have HN:=hIh hN
 have hN4:(N:Int) ≤ 1048576:=by omega
 have Hst:Hid (NlLoop t w1 (.int .i64 0) w1):=⟨0,rfl,by omega,fun j h1 h2=>by omega,rfl⟩;have Hul:=hIh hul;obtain ⟨U,hU⟩ : ∃ U,U = sb u:=⟨_,rfl⟩;rw [← hU] at Hbare Hcut;have HU:=hIh hU;generalize sb t = S at hsz Hix Hbare;clear hr hF hg hw1 hlen ht hu hul hN hU;go_enter Tryz.func23,Tryz.ntmps23;go_upto_region 1 with fail;show Code.wp _ _ _ _ (w.alloc (.cells zcmd 68));rw [← HW1.out];go_wp2_with fail
 go_loopw [4] (fun v4 wr=>NlLoop t w1 v4 wr) (fun v4 _=>N - (intOf v4).toNat)
 case atStart=>exact Hst.out
 case round=>
  clear Hst;obtain ⟨i,rfl,hi,hno,hwr⟩:=hrel;obtain rfl:=hwr;rw [← HN.out] at hi;have Hno:=hIh hno;clear hno
  by_cases hlt:i < N
  ·have hlt' : i < t.length:=by rw [← HN.out];exact hlt
   have hbi:decide ((i:Int) < N) = true:=decide_eq_true (by omega);have hbi2:(i:Int) < N:=(by omega);have hix:=fun W=>Hix.out W i hlt'
   by_cases hc:t[i] = 10
   ·have Hr:Hid (false = r):=(Hnl.out (by rw [← hc];exact List.getElem_mem hlt')).symm
    have hcb:(((t[i].toNat:Nat):Int) == 10) = true:=byteT 10 rfl hc;generalize t[i].toNat = cn at hix hcb;clear hc hlt' Hix;go_wp2_with ((with_reducible refine wpList_storeC (cs:=zcmd) HA1 ?_ ?_ rfl zcmd_one ?_);exact rfl;exact rfl);exact rd_any HF.out Hg.out H1.out.1 rfl rfl zcmd_one H1.out.2.1 Hr.out rfl rfl
   ·have hcb:(((t[i].toNat:Nat):Int) == 10) = false:=byteF 10 rfl hc
    have Hk:Hid (NlLoop t wr (.int .i64 ((i:Int) + 1)) wr):=⟨i + 1,by simp,by have:=HN.out;omega,fun j h1 h2=>by
     by_cases e:j = i
     ·subst e;exact hc
     ·exact Hno.out j h1 (by omega),rfl⟩
    generalize t[i].toNat = cn at hix hcb;clear hc hlt' Hix;go_wp2;go_roundw
    case rel=>exact Hk.out
    case measure=>simp [intOf];omega
  ·have hnin:¬ (10:UInt8) ∈ t:=fun hm=>by
    obtain ⟨j,hj,e⟩:=List.mem_iff_getElem.1 hm;exact Hno.out j hj (by have:=HN.out;omega) e
   have HE0:=hIh (Hc0.out hnin);have HE1:=hIh (Hc1.out hnin);have HE10:=hIh (H10.out hnin);have hbi:decide ((i:Int) < N) = false:=decide_eq_false (by omega);have hbi2:¬ (i:Int) < N:=(by omega);clear hnin hlt hi Hix Hc0 Hc1 H10 Hnl Hno;go_wp2_with fail;(with_reducible refine (Hbare.out _).mono ?_);rintro e X ⟨rfl,hX⟩;obtain rfl:=hX.symm;go_wp2_with fail;(with_reducible refine (Hcut.out _).mono ?_);rintro e X ⟨A1,c1,A2,c2,rfl,h1,h2,hbX⟩;have HX1:Hid (X.heap[g]? = some (.cells zcmd 68 (0,0)) ∧ zcmd.size = 33):=⟨blk_below H1.out.1 hbX,rfl⟩;have HXb:Hid (Below w.heap.size w X):=H1.out.2.1.trans (hbX.mono H1.out.2.1.size);have HgX:Hid (g < X.heap.size):=(by have:=hbX.size;have:=H1.out.2.2;show _ < _;omega);clear hbX Hbare Hcut
   cases hwd:words u with
   | nil=>
    have Hr:Hid (true = r):=(HE0.out hwd).symm;have hl0:(([] : List Str).length:Int) = 0:=rfl;clear h1 h2 hwd;go_wp2_with ((with_reducible refine wpList_storeC (cs:=zcmd) HX1 ?_ ?_ rfl zcmd_one ?_);exact rfl;exact rfl);exact rd_any HF.out Hg.out HX1.out.1 rfl rfl zcmd_one HXb.out Hr.out rfl rfl
   | cons k q=>
    have Hres:=hIh (HE1.out k q hwd);rw [hwd] at h1;have hw2:(cutW 0 u).length = (k :: q).length:=(by rw [cutW_len,hwd]);have Hwd:=hIh hwd;have H2:=hIh h2;obtain ⟨b,off,c',hv,hc,hbl,hcell⟩:=RdT.some h1 (by simp)
    cases hv
    have Hrd:=hIh h1;have Hc:=hIh hc;have Hbl:=hIh hbl;obtain ⟨m,hm⟩ : ∃ m,m = q.length:=⟨_,rfl⟩;have hl1:(k :: q).length = m + 1:=(by simp [hm]);have Hm:=hIh hm;have Hcell:Hid (∀ W,Below X.heap.size X W → ∀ i (hi:i < (k :: q).length),W.cell? ⟨b,off + i,none⟩ = some (.string (sb (k :: q)[i]))):=fun W h i hi=>(by rw [h.cell (p:=⟨b,off + i,none⟩) Hbl.out];exact hcell i hi);have h0:X.cell? ⟨b,off,none⟩ = some (.string (sb k)):=hcell 0 (by simp);rw [hl1] at hc ⊢;have hz:(((m:Int) + 1) == 0) = false:=(by rw [beq_eq_false_iff_ne];omega);have hzp:(0:Int) < (m:Int) + 1:=(by omega);have hcapi:(m:Int) + 1 ≤ c1:=(by omega);obtain ⟨K,hK⟩ : ∃ K,K = sb k:=⟨_,rfl⟩;rw [← hK] at h0;have HK:=hIh hK;obtain ⟨qq,hqq⟩ : ∃ qq,qq = X.heap.size:=⟨_,rfl⟩;have hqs:X.heap.size = qq:=hqq.symm;obtain ⟨Y,hY⟩ : ∃ Y,Y = (X.alloc (.cells zcmd 68)).setCells qq 0 (kcmd K (.slice none 0 0)).toList:=⟨_,rfl⟩
    have hA:(X.alloc (.cells zcmd 68)).heap[qq]? = some (.cells zcmd 68 (0,0)):=(by rw [hqq];exact blk_new _ _);have HA:Hid ((X.alloc (.cells zcmd 68)).heap[qq]? = some (.cells zcmd 68 (0,0)) ∧ zcmd.size = 33):=⟨hA,rfl⟩;have hYX:Below X.heap.size X Y:=(by rw [hY];exact (bel_alloc _ _).trans ((setCells_fr qq _ 0 _).to_below (fun k hk=>by omega) (bel_alloc _ _).size))
    have hrow:Y.heap[qq]? = some (.cells (kcmd K (.slice none 0 0)) 68 (0,0)):=by
     have:=setCells_blk (kcmd K (.slice none 0 0)).toList 0 zcmd _ hA;rw [setAll_full zcmd (kcmd K (.slice none 0 0)) rfl] at this;rw [hY];exact this
    have HRT:Hid (RT w g qq Y (kcmd K (.slice none 0 0))):=⟨hrow,rfl,kcmd_one K none 0 0,blk_below HX1.out.1 hYX,HXb.out.trans (hYX.mono HXb.out.size),by have:=HgX.out;omega,by have:=HXb.out.size;omega,Hg.out⟩;have HYX:=hIh hYX;have HY:=hIh hY;have cc0:Y.cell? ⟨qq,0,none⟩ = some (.string K):=(cellsN (i:=0) HRT.out.row (show 0 < 33 by omega)).1;have Hcnt:Hid (∀ W,Calls Tryz.prog 39 #[.string K] W fun e w'=>e = .returned (.int .i64 (kindI k)) ∧ w' = W):=fun W=>(by rw [HK.out];exact counted_calls W k);clear hwd h1 h2 hbl hcell hm hc hl1 hK hqq hY hA hYX hrow HE0 HE1;go_upto_region 13 with (refine wpList_storeC (cs:=kcmd K (.slice none 0 0)) HA rfl rfl rfl (kcmd_one K none 0 0) ?_);show Code.wp _ _ _ _ ((X.alloc (.cells zcmd 68)).setCells qq 0 (kcmd K (.slice none 0 0)).toList);rw [← HY.out];clear h0;go_wp2_with fail;(with_reducible refine (Hcnt.out _).mono ?_);rintro e Y2 ⟨rfl,hY2⟩;obtain rfl:=hY2.symm
    clear Hcnt
    cases hkd:kindS k with
    | some n=>
     have hn2:n ≤ 2:=by
      unfold kindS at hkd
      split at hkd
      ·cases hkd;omega
      ·split at hkd
       ·cases hkd;omega
       ·split at hkd
        ·cases hkd;omega
        ·cases hkd
     have hki:kindI k = (n:Int):=(by unfold kindI;rw [hkd]);have Hns:Hid (r = numsS n q):=(by show _ = _;rw [Hres.out,cmd_kind hkd]);rw [hki];have hn0:(0:Int) ≤ (n:Int):=(by omega);clear hki hkd hz Hres
     by_cases hmn:m = n
     case neg=>
      have Hr:Hid (false = r):=by
       show _ = _;rw [Hns.out];unfold numsS;have:(q.length == n) = false:=(by rw [beq_eq_false_iff_ne,← Hm.out];exact hmn);rw [this];rfl
      have hb1:((m:Int) == n) = false:=(by rw [beq_eq_false_iff_ne];omega);have hb2:(((m:Int) + 1) == (n:Int) + 1) = false:=(by rw [beq_eq_false_iff_ne];omega);have hb3:(((m:Int) + 1) != (n:Int) + 1) = true:=(by rw [bne,hb2];rfl);clear cc0;go_wp2_with (first | ((with_reducible refine wpList_loadC HRT ?_ ?_);exact rfl) | (refine wpList_storeC (RT.hA HRT) rfl rfl HRT.out.size HRT.out.one ?_));exact RT.fin HF.out HRT.out Hr.out rfl rfl
     case pos=>
      subst hmn;have hb2:(((m:Int) + 1) == (m:Int) + 1) = true:=(by simp);have hb3:(((m:Int) + 1) != (m:Int) + 1) = false:=(by simp);have Hst2:Hid (RdnLoop w g qq K X q (.int .i64 1) Y):=⟨0, [],.slice none 0 0,rfl,by omega,fun j _ h=>by omega,⟨none,0,0,rfl⟩,HRT.out,GrT.nil _ _ _ HYX.out⟩;clear cc0;go_wp2_with fail
      go_loopw [9] (fun v9 wr=>RdnLoop w g qq K X q v9 wr) (fun v9 _=>m + 1 - (intOf v9).toNat)
      case atStart=>exact Hst2.out
      case round=>
       clear Hst2 HRT;obtain ⟨j,zs,v,rfl,hj,hall,⟨A0,n0,c0,rfl⟩,hR,hG⟩:=hrel;have HRT:=hIh hR;have HG:=hIh hG;have Hall:=hIh hall;rw [← Hm.out] at hj;clear hR hG hall
       by_cases hlt:j < m
       ·have hjq:j < q.length:=by rw [← Hm.out];exact hlt
        have hcell:=Hcell.out wr HG.out.bel (j + 1) (by simp only [List.length_cons];omega);rw [List.getElem_cons_succ] at hcell;have hb5:(j:Int) + 1 < (m:Int) + 1:=(by omega);have hb5b:decide ((j:Int) + 1 < (m:Int) + 1) = true:=decide_eq_true hb5;have hj0:(0:Int) ≤ (j:Int) + 1:=(by omega);have hjn:((j:Int) + 1).toNat = j + 1:=(by omega);have Hnum:Hid (Calls Tryz.prog 40 #[.string (sb q[j])] wr (NuPost wr (numS q[j]))):=rnum_calls wr q[j] (Nat.le_trans (words_mem (by rw [Hwd.out];exact List.mem_cons_of_mem _ (List.getElem_mem hjq))) Hul.out)
        have Hbad:Hid (numS q[j] = none → false = r):=fun h=>by
         rw [Hns.out];unfold numsS;symm;rw [Bool.and_eq_false_iff];right;rw [← Bool.not_eq_true,List.all_eq_true];intro ha;have:=ha q[j] (List.getElem_mem hjq);rw [h] at this;cases this
        have Hgood:Hid (∀ (z:Int) (A:Option Addr) (x y:Nat) w',(numS q[j]).isSome = true → RT w g qq w' (kcmd K (.slice A x y)) → GrT X 3 1 (.slice A x y) (j + 1) (intVs zs ++ [.int .i64 z]) w' → RdnLoop w g qq K X q (.int .i64 ((j:Int) + 1 + 1)) w'):=fun z A x y w' hq hr hg=>by
         refine ⟨j + 1,zs ++ [z],.slice A x y,by simp,hjq,fun i hi hij=>?_,⟨A,x,y,rfl⟩,hr,by simpa [intVs] using hg⟩
         by_cases e:i = j
         ·subst e;exact hq
         ·exact Hall.out i hi (by omega)
        have cc1:wr.cell? ⟨qq,1,none⟩ = some (.slice A0 n0 c0):=(cellsN (i:=1) HRT.out.row (show 1 < 33 by omega)).1;have hj9:j ≤ 4194304:=(by omega);generalize numS q[j] = o at Hnum Hbad Hgood;generalize sb q[j] = T at hcell Hnum;clear hjq Hcell Hall;go_wp2_with fail;(with_reducible refine Hnum.out.mono ?_);rintro e w2 ⟨z,ok,rfl,hr,hw2⟩;have HR2:=hIh (HRT.out.below hw2);have HG2:=hIh (HG.out.below hw2);have cc2:w2.cell? ⟨qq,1,none⟩ = some (.slice A0 n0 c0):=(cellsN (i:=1) HR2.out.row (show 1 < 33 by omega)).1;clear hw2 cc1 hcell
        cases ok with
        | false=>
         have Hr:Hid (false = r):=by
          rcases hr with ⟨_,_,_,h⟩ | ⟨h, -⟩
          ·cases h
          ·exact Hbad.out h
         clear hr cc2;go_wp2_with (first | ((with_reducible refine wpList_loadC HR2 ?_ ?_);exact rfl) | (refine wpList_storeC (RT.hA HR2) rfl rfl HR2.out.size HR2.out.one ?_));exact RT.fin HF.out HR2.out Hr.out rfl rfl
        | true=>
         have Hq:Hid (o.isSome = true):=by
          rcases hr with ⟨n',h, -, -⟩ | ⟨-,h⟩
          ·show _ = _;rw [h];rfl
          ·cases h
         clear hr;have Hg:=hIh (Hgood.out z);go_wp2_with (at_builtin;refine wpList_app1k HG2 rfl (.tmp 81) (.tmp 83) 65 rfl (.int .i64 0) 8 Tryz.underlying65 infoInt rfl (by decide) [.int .i64 z] rfl (fun u h=>by rw [List.mem_singleton.1 h];rfl) _ rfl rfl hj9 (by decide) ?_);intro v' w3 hg3 hgr;obtain ⟨A3,c3,rfl⟩:=hg3.slice
         have hR3:RT w g qq w3 (kcmd K (.slice A0 n0 c0)):=(HR2.out.below (bel_alloc _ _)).grow hgr (fun k' hk'=>by
          have h1:=HG2.out.new k' hk';have h2:=own_ne_blk HG2.out.own HR2.out.row (by decide);have h3:k' ≠ qq:=fun e=>h2 (by rw [hk',e]);have h4:=HgX.out;have h5:=HXb.out.size
          exact ⟨by omega,h3,by omega⟩)
         obtain ⟨x1, -,d1,e1⟩:=hR3.cell 1 (by omega);have hRn:RT w g qq (w3.setCell ⟨qq,1,none⟩ (.slice A3 (j + 1) c3)) (kcmd K (.slice A3 (j + 1) c3)):=hR3.setC 1 rfl;have hne3:(Value.slice A3 (j + 1) c3).ownBlock ≠ some qq:=own_ne_blk hg3.own hR3.row (by decide)
         have hGn:GrT X 3 1 (.slice A3 (j + 1) c3) (j + 1) (intVs zs ++ [.int .i64 z]) (w3.setCell ⟨qq,1,none⟩ (.slice A3 (j + 1) c3)):=
          ⟨((Fr.refl (fun k=>k = qq) w3).setCell (p:=⟨qq,1,none⟩) (.inl rfl) _).owns hg3.own (fun k' hk' e=>hne3 (by rw [hk',e])),hg3.new,hg3.bel.setCell (by show _ ≤ qq;omega) _⟩
         have Hk:=hIh (Hg.out A3 (j + 1) c3 _ Hq.out hRn hGn);clear hg3 hgr hR3 hRn hne3 hGn cc2;go_wp2;go_roundw
         case rel=>exact Hk.out
         case measure=>simp [intOf];omega
       ·have hjm:j = m:=by omega
        have hb5:¬ (j:Int) + 1 < (m:Int) + 1:=(by omega);have hb5b:decide ((j:Int) + 1 < (m:Int) + 1) = false:=decide_eq_false hb5
        have Hr:Hid (true = r):=by
         show _ = _;rw [Hns.out];unfold numsS;have h1:(q.length == m) = true:=(by rw [← Hm.out];simp);rw [h1,Bool.true_and];symm;rw [List.all_eq_true];intro t ht;obtain ⟨i,hi,rfl⟩:=List.mem_iff_getElem.1 ht;exact Hall.out i hi (by have:=Hm.out;omega)
        clear hjm hlt hj;go_wp2_with (first | ((with_reducible refine wpList_loadC HRT ?_ ?_);exact rfl) | (refine wpList_storeC (RT.hA HRT) rfl rfl HRT.out.size HRT.out.one ?_));exact RT.fin HF.out HRT.out Hr.out rfl rfl
    | none=>
     have hki:kindI k = -1:=(by unfold kindI;rw [hkd]);rw [hki];have kt:K.toList = k:=(by rw [HK.out,sb_toL])
     have Hcd:Hid (r = if k = wAs then asS rdR u q else if k = wRaw then rawS q else if k = wCrash then crashS q else if k = wEdit then editS q else false):=by
      show _ = _;rw [Hres.out];unfold cmdS;rw [hkd]
     clear hki hkd hz Hres;have hc1:∀ i (hi:i < q.length),Y.cell? ⟨b,off + (i + 1),none⟩ = some (.string (sb q[i])):=fun i hi=>Hcell.out Y HYX.out (i + 1) (by simp only [List.length_cons];omega);have HC1:=hIh hc1;have Hqs:Hid (∀ i (hi:i < q.length),q[i].length ≤ 1048576):=fun i hi=>Nat.le_trans (words_mem (by rw [Hwd.out];exact List.mem_cons_of_mem _ (List.getElem_mem hi))) Hul.out;clear hc1
     by_cases hAs:k = wAs
     ·have Hr0:Hid (r = asS rdR u q):=by show _ = _;rw [Hcd.out,if_pos hAs]
      have k1:K.toList = [97,115]:=(by rw [kt,hAs];rfl);have k1b:(K.toList == [97,115]) = true:=(by rw [k1];rfl);clear kt Hcd hAs
      by_cases hm2:2 ≤ m
      case neg=>
       have Hr:Hid (false = r):=(by show _ = _;rw [Hr0.out,as_no (by rw [← Hm.out];exact hm2)]);have hb3:(m:Int) + 1 < 3:=(by omega);have hb3b:decide ((m:Int) + 1 < 3) = true:=decide_eq_true hb3;clear hm2;go_wp2_with (first | ((with_reducible refine wpList_loadC HRT ?_ ?_);exact rfl) | (refine wpList_storeC (RT.hA HRT) rfl rfl HRT.out.size HRT.out.one ?_));exact RT.fin HF.out HRT.out Hr.out rfl rfl
      have Hr1:Hid (r = (requestD rdR (dryS (behindS u 2)).2).isSome):=(by show _ = _;rw [Hr0.out,as_yes (by rw [← Hm.out];exact hm2)]);have hq0:0 < q.length:=(by rw [← Hm.out];omega);have hcw:2 < (cutW 0 u).length:=(by rw [hw2];simp only [List.length_cons];have:=Hm.out;omega);have hcp:(cutW 0 u)[2]? = some (((cutW 0 u)[2]'hcw).1,((cutW 0 u)[2]'hcw).2):=(by rw [List.getElem?_eq_getElem hcw]);obtain ⟨hd1, -, -, -,hd5⟩:=behind_word hcp;obtain ⟨b2,off2,cc2,hv2,hlc2,hbl2,hcl2⟩:=RdS.cells atC_len (by decide) H2.out 2 (by rw [List.length_map];exact hcw);have hA2:A2 = some ⟨b2,off2,none⟩:=(by injection hv2);have hcc:c2 = cc2:=(by injection hv2);subst hA2;subst hcc
      have hp2:X.cell? ⟨b2,off2 + 2,none⟩ = some (.int .i64 ((((cutW 0 u)[2]'hcw).1:Nat):Int)):=by
       have:=hcl2 0 (.int .i64 ((((cutW 0 u)[2]'hcw).1:Nat):Int)) (by decide) (by simp [atC]);exact this
      have hp2Y:=bcell HYX.out hp2
      have hcap2:(m:Int) + 1 ≤ c2:=by
       rw [List.length_map,hw2] at hlc2;simp only [List.length_cons,← Hm.out] at hlc2;omega
      obtain ⟨p2,hpe⟩ : ∃ p2,p2 = ((cutW 0 u)[2]'hcw).1:=⟨_,rfl⟩;rw [← hpe] at hd1 hd5 hp2Y
      have hsl:∀ W,(Instr.slice 9 (.string U) (some (.int .i64 (p2:Int))) none none).run Tryz.prog W = .ok (.string (sb (behindS u 2))) W:=fun W=>by
       rw [HU.out,run_slF W u p2 (by omega),hd1]
      have Hask:Hid (Calls Tryz.prog 6 #[.string (sb (behindS u 2))] Y (AkP rdR (behindS u 2) Y)):=rask_calls Y (behindS u 2) (Nat.le_trans (behind_len u 2) Hul.out)
      have Hr2:Hid (r = (askD rdR (behindS u 2)).isSome):=by
       show _ = _;rw [Hr1.out,ask_req (fun h=>HE10.out.1 (behindS_mem h)) (fun h=>HE10.out.2 (behindS_mem h))]
      have hcq:=HC1.out 0 hq0;generalize sb (q[0]'hq0) = T0 at hcq;generalize sb (behindS u 2) = BT at hsl Hask;have hb3:¬ (m:Int) + 1 < 3:=(by omega);have hb3b:decide ((m:Int) + 1 < 3) = false:=decide_eq_false hb3;have hi2:(2:Int) < (m:Int) + 1:=(by omega);have hi1:(1:Int) < (m:Int) + 1:=(by omega);clear hq0 hcp hd1 hd5 hv2 hlc2 hbl2 hcl2 hp2 hpe hm2 Hr0 hw2 hcw;go_wp2_with fail;(with_reducible refine Hask.out.mono ?_);rintro e w5 ⟨cs,ok,rfl,hcase,hw5⟩
      have hcs:cs.size = 29 ∧ cs.all (·.oneCell') = true ∧ ok = r:=by
       rcases hcase with ⟨h1,rq,h2,hv⟩ | ⟨h1,h2,rfl⟩
       ·exact ⟨hv.size,hv.one,by rw [h1,Hr2.out,h2];rfl⟩
       ·exact ⟨rfl,zero_one,by rw [h1,Hr2.out,h2];rfl⟩
      obtain ⟨hcs1,hcs2,hok⟩:=hcs;have Hr:=hIh hok;have HR5:=hIh (HRT.out.below hw5);obtain ⟨q5,hq5⟩ : ∃ q5,q5 = w5.heap.size:=⟨_,rfl⟩;obtain ⟨W6,hW6⟩ : ∃ W6,W6 = w5.alloc (.cells zeroCells 38):=⟨_,rfl⟩;have hn6:W6.heap[q5]? = some (.cells zeroCells 38 (0,0)):=(by rw [hW6,hq5];exact blk_new _ _);obtain ⟨hs7,hf7⟩:=req_store hn6 zeroCells_size hcs1;have Hth6:Hid (W6.there q5 0 cs.size):=there_blk hn6 (by rw [hcs1];decide)
      have Hsz:Hid ((Tryz.prog.info? 38).map (·.size) = some cs.size):=(by show _ = _;rw [hcs1];exact infoReq)
      have Hone:=hIh hcs2;obtain ⟨W7,hW7⟩ : ∃ W7,W7 = W6.setCells q5 0 cs.toList:=⟨_,rfl⟩;rw [← hW7] at hs7 hf7;have hb6:Below w5.heap.size w5 W6:=(by rw [hW6];exact bel_alloc _ _);have hb7:Below w5.heap.size w5 W7:=hb6.trans (hf7.to_below (fun k hk=>by omega) hb6.size);have HR7:=hIh (HR5.out.below hb7);have Hs7:=hIh hs7;have Hth6e:Hid ((w5.alloc (.cells zeroCells 38)).there q5 0 cs.size):=(by rw [← hW6];exact Hth6.out);have HW7e:Hid (W7 = (w5.alloc (.cells zeroCells 38)).setCells q5 0 cs.toList):=(by rw [← hW6];exact hW7);have hq5s:w5.heap.size = q5:=hq5.symm;have hlqq:qq < w5.heap.size:=blk_lt HR5.out.row;have Hth7:Hid (W7.there qq 3 cs.size):=there_mid HR7.out.row (by rw [HR7.out.size,hcs1];decide);obtain ⟨W8,hW8⟩ : ∃ W8,W8 = W7.setCells qq 3 cs.toList:=⟨_,rfl⟩
      have HR8:Hid (RT w g qq W8 (setAll (kcmd K (.slice none 0 0)) 3 cs.toList)):=by
       rw [hW8];refine HR7.out.setR 3 (fun v hv=>?_) (by rw [Array.length_toList,hcs1];decide);obtain ⟨i,hi⟩:=List.mem_iff_getElem?.1 hv;exact One.of_all hcs2 i v (by rw [← Array.getElem?_toList];exact hi)
      have hc8:W8.cell? ⟨b,off + 1,none⟩ = some (.string T0):=by
       have h1:=bcell (hw5.trans (hb7.mono hw5.size)) hcq;have h2:b < X.heap.size:=Hbl.out;rw [hW8];exact (setCells_fr qq _ 3 _).cell h1 (by show ¬ b = qq;omega)
      obtain ⟨x4, -,d4,e4⟩:=HR8.out.cell 4 (by omega);obtain ⟨CT,HR9⟩ : ∃ CT,Hid (RT w g qq (W8.setCell ⟨qq,4,none⟩ (.string T0)) CT):=⟨_,HR8.out.setC 4 (v:=.string T0) rfl⟩;have HW8:=hIh hW8;clear hcase hw5 hcs1 hcs2 hs7 hf7 hb6 hb7 hW6 hW7 hq5 hn6 hok hlqq hW8 hcq hp2Y cc0;go_upto_region 30 with ((refine wpList_store_mid (op:=⟨none,.store 38 (.tmp 12) (.tmp 102),_,_,_,_⟩) rfl 38 (.tmp 12) (.tmp 102) rfl q5 0 cs rfl rfl Hth6e.out Hsz.out Hone.out ?_));show Code.wp _ _ _ _ ((w5.alloc (.cells zeroCells 38)).setCells q5 0 cs.toList);rw [← HW7e.out];go_upto_region 31 with (first | ((with_reducible refine wpList_load_row (o:=⟨some 104,.load 38 (.tmp 12),_,_,_,_⟩) ?_ 38 (.tmp 12) ?_ q5 ?_ 38 cs (0,0) _ Hs7.out reqU ?_ Hsz.out ?_);exact rfl;exact rfl;exact rfl;exact rfl) | (refine wpList_store_mid (op:=⟨none,.store 38 (.tmp 105) (.tmp 104),_,_,_,_⟩) rfl 38 (.tmp 105) (.tmp 104) rfl qq 3 cs rfl rfl Hth7.out Hsz.out Hone.out ?_))
      rw [← HW8.out];go_wp2_with (first | ((with_reducible refine wpList_loadC HR9 ?_ ?_);exact rfl) | (refine wpList_storeC (RT.hA HR9) rfl rfl HR9.out.size HR9.out.one ?_));exact RT.fin HF.out HR9.out Hr.out rfl rfl
     have k1:¬ K.toList = [97,115]:=(by rw [kt];exact hAs);have k1b:(K.toList == [97,115]) = false:=(by rw [beq_eq_false_iff_ne];exact k1)
     by_cases hRaw:k = wRaw
     ·have Hr0:Hid (r = rawS q):=by show _ = _;rw [Hcd.out,if_neg hAs,if_pos hRaw]
      have k2:K.toList = [114,97,119]:=(by rw [kt,hRaw];rfl);have k2b:(K.toList == [114,97,119]) = true:=(by rw [k2];rfl);clear kt Hcd hAs hRaw
      by_cases hm1:m = 1
      case neg=>
       have Hr:Hid (false = r):=by
        show _ = _;rw [Hr0.out];have:=Hm.out
        match q,this with
        | [],_=>rfl
        | [_],h=>exact absurd h hm1
        | _ :: _ :: _,_=>rfl
       have hb3:(((m:Int) + 1) == 2) = false:=(by rw [beq_eq_false_iff_ne];omega);have hb3b:(((m:Int) + 1) != 2) = true:=(by rw [bne,hb3];rfl);clear hm1;go_wp2_with (first | ((with_reducible refine wpList_loadC HRT ?_ ?_);exact rfl) | (refine wpList_storeC (RT.hA HRT) rfl rfl HRT.out.size HRT.out.one ?_));exact RT.fin HF.out HRT.out Hr.out rfl rfl
      obtain ⟨x,hx⟩ : ∃ x,q = [x]:=by
       have:=Hm.out
       match q,this with
       | [x],_=>exact ⟨x,rfl⟩
       | [],h=>simp at h;omega
       | _ :: _ :: _,h=>simp at h;omega
      subst hm1
      have hcx:Y.cell? ⟨b,off + 1,none⟩ = some (.string (sb x)):=by
       have:=HC1.out 0 (by rw [hx];simp);simp only [hx,List.getElem_cons_zero] at this;exact this
      have Hh:Hid (Calls Tryz.prog 41 #[.string (sb x)] Y (BsP Y (hexS x))):=hexOf_calls Y x;have Hr1:Hid (r = hexS x):=(by show _ = _;rw [Hr0.out,hx];rfl);generalize sb x = T at hcx Hh;clear hx;go_wp2_with fail;(with_reducible refine Hh.out.mono ?_);rintro e w2 ⟨A3,n3,c3,ok,rfl,hok,hw2⟩;have Hr:Hid (ok = r):=(by show _ = _;rw [hok,Hr1.out]);have hR2:=HRT.out.below hw2;obtain ⟨x1, -,d1,e1⟩:=hR2.cell 2 (by omega);have HR3:=hIh (hR2.setC 2 (v:=.slice A3 n3 c3) rfl);clear hok hw2 hR2 cc0 hcx;go_wp2_with (first | ((with_reducible refine wpList_loadC HR3 ?_ ?_);exact rfl) | (refine wpList_storeC (RT.hA HR3) rfl rfl HR3.out.size HR3.out.one ?_));exact RT.fin HF.out HR3.out Hr.out rfl rfl
     have k2:¬ K.toList = [114,97,119]:=(by rw [kt];exact hRaw);have k2b:(K.toList == [114,97,119]) = false:=(by rw [beq_eq_false_iff_ne];exact k2)
     by_cases hCr:k = wCrash
     ·have Hr0:Hid (r = crashS q):=by show _ = _;rw [Hcd.out,if_neg hAs,if_neg hRaw,if_pos hCr]
      have k3:K.toList = [99,114,97,115,104]:=(by rw [kt,hCr];rfl);have k3b:(K.toList == [99,114,97,115,104]) = true:=(by rw [k3];rfl);clear kt Hcd hAs hRaw hCr
      by_cases hm1:m = 1
      case neg=>
       have Hr:Hid (false = r):=by
        show _ = _;rw [Hr0.out];have:=Hm.out
        match q,this with
        | [],_=>rfl
        | [_],h=>exact absurd h hm1
        | _ :: _ :: _,_=>rfl
       have hb3:(((m:Int) + 1) == 2) = false:=(by rw [beq_eq_false_iff_ne];omega);have hb3b:(((m:Int) + 1) != 2) = true:=(by rw [bne,hb3];rfl);clear hm1;go_wp2_with (first | ((with_reducible refine wpList_loadC HRT ?_ ?_);exact rfl) | (refine wpList_storeC (RT.hA HRT) rfl rfl HRT.out.size HRT.out.one ?_));exact RT.fin HF.out HRT.out Hr.out rfl rfl
      obtain ⟨x,hx⟩ : ∃ x,q = [x]:=by
       have:=Hm.out
       match q,this with
       | [x],_=>exact ⟨x,rfl⟩
       | [],h=>simp at h;omega
       | _ :: _ :: _,h=>simp at h;omega
      subst hm1
      have hcx:Y.cell? ⟨b,off + 1,none⟩ = some (.string (sb x)):=by
       have:=HC1.out 0 (by rw [hx];simp);simp only [hx,List.getElem_cons_zero] at this;exact this
      have Hh:Hid (Calls Tryz.prog 42 #[.string (sb x)] Y (FoI Y (fatesS x))):=fatesOf_calls Y x (by have:=Hqs.out 0 (by rw [hx];simp);simpa [hx] using this);have Hr1:Hid (r = fatesS x):=(by show _ = _;rw [Hr0.out,hx];rfl);generalize sb x = T at hcx Hh;clear hx;go_wp2_with fail;(with_reducible refine Hh.out.mono ?_);rintro e w2 ⟨z,rfl,hok,hw2⟩;have Hz:Hid (decide (0 ≤ z) = r):=(by show _ = _;rw [hok,Hr1.out]);have hR2:=HRT.out.below hw2;obtain ⟨x1, -,d1,e1⟩:=hR2.cell 32 (by omega);have HR3:=hIh (hR2.setC 32 (v:=.int .i64 z) rfl);clear hok hw2 hR2 cc0 hcx;go_upto_region 43 with fail;obtain ⟨cs3,hcs3⟩ : ∃ cs3,cs3 = (kcmd K (.slice none 0 0)).setIfInBounds 32 (.int .i64 z):=⟨_,rfl⟩;obtain ⟨W3,hW3⟩ : ∃ W3,W3 = w2.setCell ⟨qq,32,none⟩ (.int .i64 z):=⟨_,rfl⟩;rw [← hcs3,← hW3] at HR3;rw [← hW3];have HR4:Hid (RT w g qq W3.drew cs3):=HR3.out.below (drewB (Below.refl _ _) 1)
      have hc32:W3.drew.cell? ⟨qq,32,none⟩ = some (.int .i64 z):=by
       have:=(cellsN (i:=32) HR3.out.row (by rw [HR3.out.size];omega)).1;rw [show cs3[32]'(by rw [HR3.out.size];omega) = .int .i64 z by simp [hcs3]] at this;exact this
      have HZ:Hid (W3.drew.heap[qq]? = some (.cells cs3 68 (0,0)) ∧ W3.drew.cell? ⟨qq,32,none⟩ = some (.int .i64 z)):=⟨HR4.out.row,hc32⟩
      have HZ2:Hid ((W3.drew.setCells g 0 cs3.toList).heap[qq]? = some (.cells cs3 68 (0,0)) ∧ (W3.drew.setCells g 0 cs3.toList).cell? ⟨qq,32,none⟩ = some (.int .i64 z)):=by
       have hne:¬ qq = g:=fun e=>HR4.out.ne e.symm;exact ⟨(setCells_fr g _ 0 _).blk HR4.out.row hne,(setCells_fr g _ 0 _).cell hc32 hne⟩
      clear hcs3 hW3 d1 e1 hc32;refine wp_region_held_drew (S:=fun W=>W.heap[qq]? = some (.cells cs3 68 (0,0)) ∧ W.cell? ⟨qq,32,none⟩ = some (.int .i64 z)) (by kernel_rfl) ?_ (fun hHeld=>?_)
      ·exact HZ.out
      refine wpAnyH_take (i:=0) (oi:=⟨some 141,.load 68 (.tmp 7),_,_,_,_⟩) (v:=.agg cs3) rfl (by kernel_rfl) (by kernel_rfl) (by kernel_rfl) (fun _ _ _ h=>h) (Or.inl ⟨by rfl,?_⟩) hHeld ?_
      ·intro w9 hSw
       have hl:=run_loadC hSw.1 HR4.out.size;unfold execOp;simp only [Sem.run_bind];change Result.andThen ((Instr.loadAt 68 (.pointer (some ⟨qq,0,none⟩))).run Tryz.prog w9) _ = _;rw [hl]
       rfl
      try simp only [Act.put,List.setIfInBounds_toArray,List.set_cons_zero,List.set_cons_succ]
      refine wpAnyH_take (i:=1) (oi:=⟨some 142,_,_,_,_,_⟩) (v:=?_) rfl (by kernel_rfl) (by kernel_rfl) (by kernel_rfl) (fun _ _ _ h=>h) (Or.inl ⟨by rfl,?_⟩) hHeld ?_
      rotate_left
      ·(intro w hSw;(try dsimp only at hSw);go_simp);all_goals with_reducible rfl
      try simp only [Act.put,List.setIfInBounds_toArray,List.set_cons_zero,List.set_cons_succ]
      refine wpAnyH_take (i:=2) (oi:=⟨some 143,_,_,_,_,_⟩) (v:=?_) rfl (by kernel_rfl) (by kernel_rfl) (by kernel_rfl) (fun _ _ _ h=>h) (Or.inl ⟨by rfl,?_⟩) hHeld ?_
      rotate_left
      ·(intro w hSw;(try dsimp only at hSw);go_simp);all_goals with_reducible rfl
      try simp only [Act.put,List.setIfInBounds_toArray,List.set_cons_zero,List.set_cons_succ]
      refine wpAnyH_take (i:=3) (oi:=⟨some 144,_,_,_,_,_⟩) (v:=?_) rfl (by kernel_rfl) (by kernel_rfl) (by kernel_rfl) (fun _ _ _ h=>h) (Or.inl ⟨by rfl,?_⟩) hHeld ?_
      rotate_left
      ·(intro w hSw;(try dsimp only at hSw);go_simp);all_goals with_reducible rfl
      try simp only [Act.put,List.setIfInBounds_toArray,List.set_cons_zero,List.set_cons_succ]
      refine wpAnyH_ready (rs := [4]) (by kernel_rfl) (by simp) ?_;refine AllReadyH.cons (o:=⟨none,.store 68 (.tmp 2) (.tmp 141),_,_,_,_⟩) rfl (fun K hK=>?_) AllReadyH.nil;refine step_storeC (RT.hA HR4) rfl rfl HR4.out.size HR4.out.one ?_;refine hK.out _ _ ?_ (fun hHeld2=>?_)
      ·exact HZ2.out
      clear hK K
      try simp only [Act.put,List.setIfInBounds_toArray,List.set_cons_zero,List.set_cons_succ]
      refine wpAnyH_take (i:=5) (oi:=⟨some 3,.assign (.tmp 144),_,_,_,_⟩) (v:=?_) rfl (by kernel_rfl) (by kernel_rfl) (by kernel_rfl) (fun _ _ _ h=>h) (Or.inl ⟨by rfl,?_⟩) hHeld2 ?_
      rotate_left
      ·(intro w hSw;(try dsimp only at hSw);go_simp);all_goals with_reducible rfl
      try simp only [Act.put,List.setIfInBounds_toArray,List.set_cons_zero,List.set_cons_succ]
      refine wpAnyH_done (by kernel_rfl) ?_ _;go_wp2;exact RT.fin HF.out HR4.out Hz.out rfl rfl
     have k3:¬ K.toList = [99,114,97,115,104]:=(by rw [kt];exact hCr);have k3b:(K.toList == [99,114,97,115,104]) = false:=(by rw [beq_eq_false_iff_ne];exact k3)
     by_cases hEd:k = wEdit
     ·have Hr0:Hid (r = editS q):=by show _ = _;rw [Hcd.out,if_neg hAs,if_neg hRaw,if_neg hCr,if_pos hEd]
      have k4:K.toList = [101,100,105,116]:=(by rw [kt,hEd];rfl);have k4b:(K.toList == [101,100,105,116]) = true:=(by rw [k4];rfl);clear kt Hcd hAs hRaw hCr hEd
      by_cases hm1:m = 3
      case neg=>
       have Hr:Hid (false = r):=by
        show _ = _;rw [Hr0.out];have:=Hm.out
        match q,this with
        | [],_=>rfl
        | [_],_=>rfl
        | [_,_],_=>rfl
        | [_,_,_],h=>exact absurd h hm1
        | _ :: _ :: _ :: _ :: _,_=>rfl
       have hb3:(((m:Int) + 1) == 4) = false:=(by rw [beq_eq_false_iff_ne];omega);have hb3b:(((m:Int) + 1) != 4) = true:=(by rw [bne,hb3];rfl);clear hm1;go_wp2_with (first | ((with_reducible refine wpList_loadC HRT ?_ ?_);exact rfl) | (refine wpList_storeC (RT.hA HRT) rfl rfl HRT.out.size HRT.out.one ?_));exact RT.fin HF.out HRT.out Hr.out rfl rfl
      obtain ⟨x,y,z,hx⟩ : ∃ x y z,q = [x,y,z]:=by
       have:=Hm.out
       match q,this with
       | [x,y,z],_=>exact ⟨x,y,z,rfl⟩
       | [],h=>simp at h;omega
       | [_],h=>simp at h;omega
       | [_,_],h=>simp at h;omega
       | _ :: _ :: _ :: _ :: _,h=>simp at h;omega
      subst hm1
      have hcell:∀ W,Below Y.heap.size Y W → W.cell? ⟨b,off + 1,none⟩ = some (.string (sb x)) ∧ W.cell? ⟨b,off + 2,none⟩ = some (.string (sb y)) ∧ W.cell? ⟨b,off + 3,none⟩ = some (.string (sb z)):=fun W hW=>by
       have h0:=HC1.out 0 (by rw [hx];simp);have h1:=HC1.out 1 (by rw [hx];simp);have h2:=HC1.out 2 (by rw [hx];simp);simp only [hx,List.getElem_cons_zero,List.getElem_cons_succ] at h0 h1 h2;exact ⟨bcell hW h0,bcell hW h1,bcell hW h2⟩
      have hxs:x.length ≤ 1048576 ∧ y.length ≤ 1048576:=by
       have h0:=Hqs.out 0 (by rw [hx];simp);have h1:=Hqs.out 1 (by rw [hx];simp);simp only [hx,List.getElem_cons_zero,List.getElem_cons_succ] at h0 h1;exact ⟨h0,h1⟩
      have N1:Hid (∀ W,Calls Tryz.prog 40 #[.string (sb x)] W (NuPost W (numS x))):=fun W=>rnum_calls W x hxs.1;have N2:Hid (∀ W,Calls Tryz.prog 40 #[.string (sb y)] W (NuPost W (numS y))):=fun W=>rnum_calls W y hxs.2;have N3:Hid (∀ W,Calls Tryz.prog 41 #[.string (sb z)] W (BsP W (hexS z))):=fun W=>hexOf_calls W z;have Hr1:Hid (r = ((numS x).isSome && (numS y).isSome && hexS z)):=(by show _ = _;rw [Hr0.out,hx];rfl);generalize numS x = o1 at N1 Hr1;generalize numS y = o2 at N2 Hr1;generalize hexS z = o3 at N3 Hr1;generalize sb x = T1 at hcell N1;generalize sb y = T2 at hcell N2;generalize sb z = T3 at hcell N3;have HCl:=hIh hcell;obtain ⟨q1,q2,q3⟩:=hcell Y (Below.refl _ _);clear hx hxs hcell Hr0 q2 q3;go_wp2_with fail;(with_reducible refine (N1.out _).mono ?_);rintro e w2 ⟨z1,ok1,rfl,hr1,hw2⟩;have HB2:=hIh hw2;obtain ⟨-,q2, -⟩:=HCl.out w2 hw2;clear hw2 q1 cc0;go_wp2_with fail;(with_reducible refine (N2.out _).mono ?_)
      rintro e w3 ⟨z2,ok2,rfl,hr2,hw3⟩;have HB3:Hid (Below Y.heap.size Y w3):=HB2.out.trans (hw3.mono HB2.out.size);obtain ⟨-, -,q3⟩:=HCl.out w3 HB3.out;clear hw3 q2;go_wp2_with fail;(with_reducible refine (N3.out _).mono ?_);rintro e w4 ⟨A3,n3,c3,ok3,rfl,hr3,hw4⟩;have HB4:Hid (Below Y.heap.size Y w4):=HB3.out.trans (hw4.mono HB3.out.size)
      have Hr3:Hid ((ok1 && ok2 && ok3) = r):=by
       show _ = _
       have e1:ok1 = o1.isSome:=by rcases hr1 with ⟨n,h1,h2,h3⟩ | ⟨h1,h3⟩ <;> rw [h1,h3] <;> rfl
       have e2:ok2 = o2.isSome:=by rcases hr2 with ⟨n,h1,h2,h3⟩ | ⟨h1,h3⟩ <;> rw [h1,h3] <;> rfl
       rw [Hr1.out,e1,e2,hr3]
      have hR5:RT w g qq (w4.alloc (.cells #[.int .i64 z1,.int .i64 z2] 3)) (kcmd K (.slice none 0 0)):=(HRT.out.below HB4.out).below (bel_alloc _ _);obtain ⟨x1, -,d1,e1⟩:=hR5.cell 1 (by omega);have hR6:=hR5.setC 1 (v:=.slice (some ⟨w4.heap.size,0,none⟩) 2 2) rfl;obtain ⟨x2, -,d2,e2⟩:=hR6.cell 2 (by omega);have HR7:=hIh (hR6.setC 2 (v:=.slice A3 n3 c3) rfl);clear hr1 hr2 hr3 hw4 q3 hR5 hR6;go_upto_region 52 with fail
      cases ok1 <;> cases ok2 <;> cases ok3
      all_goals
       have Hr:=Hr3;go_wp2_with (first | ((with_reducible refine wpList_loadC HR7 ?_ ?_);exact rfl) | (refine wpList_storeC (RT.hA HR7) rfl rfl HR7.out.size HR7.out.one ?_));exact RT.fin HF.out HR7.out Hr.out rfl rfl
     have k4:¬ K.toList = [101,100,105,116]:=(by rw [kt];exact hEd);have k4b:(K.toList == [101,100,105,116]) = false:=(by rw [beq_eq_false_iff_ne];exact k4);have Hr:Hid (false = r):=(by show _ = _;rw [Hcd.out,if_neg hAs,if_neg hRaw,if_neg hCr,if_neg hEd]);clear kt Hcd hAs hRaw hCr hEd;go_wp2_with (first | ((with_reducible refine wpList_loadC HRT ?_ ?_);exact rfl) | (refine wpList_storeC (RT.hA HRT) rfl rfl HRT.out.size HRT.out.one ?_));exact RT.fin HF.out HRT.out Hr.out rfl rfl
structure LSt (s:Str) (i f:Nat) (done:List Str):Prop where
 hi:i ≤ s.length
 hf:f ≤ i
 hd:done.length ≤ i
 mid:(10:UInt8) ∉ (s.drop f).take (i - f) ∧ linesS s = done ++ linesS (s.drop f)
theorem LSt.skip {s:Str} {i f:Nat} {done:List Str} (h:LSt s i f done) (hlt:i < s.length) (hc:s[i] ≠ 10):LSt s (i + 1) f done:=by
 have hf:=h.hf;refine ⟨hlt,by omega,by have:=h.hd;omega,?_,h.mid.2⟩
 have e:(s.drop f).take (i + 1 - f) = (s.drop f).take (i - f) ++ [s[i]]:=by
  rw [show i + 1 - f = i - f + 1 by omega,List.take_add_one,List.getElem?_drop,show f + (i - f) = i by omega,List.getElem?_eq_getElem hlt]
  rfl
 rw [e,List.mem_append];rintro (h3 | h3)
 ·exact h.mid.1 h3
 ·exact hc (List.mem_singleton.1 h3).symm
theorem LSt.hit {s:Str} {i f:Nat} {done:List Str} (h:LSt s i f done) (hlt:i < s.length) (hc:s[i] = 10):LSt s (i + 1) (i + 1) (done ++ [(s.drop f).take (i - f)]):=by
 have hf:=h.hf;refine ⟨hlt,Nat.le_refl _,by have:=h.hd;simp;omega,by simp,?_⟩
 have e:s.drop f = (s.drop f).take (i - f) ++ 10 :: s.drop (i + 1):=by
  have e1:s.drop f = (s.drop f).take (i - f) ++ (s.drop f).drop (i - f):=(List.take_append_drop _ _).symm;rw [List.drop_drop,show f + (i - f) = i by omega,List.drop_eq_getElem_cons hlt,hc] at e1;exact e1
 rw [h.mid.2]
 conv=>lhs;rw [e,linesS_cut h.mid.1]
 simp
theorem LSt.last {s:Str} {f:Nat} {done:List Str} (h:LSt s s.length f done) (hf:f < s.length):done ++ [s.drop f] = linesS s:=by
 have e:(s.drop f).take (s.length - f) = s.drop f:=List.take_of_length_le (by rw [List.length_drop];exact Nat.le_refl _);have h1:=h.mid.1;rw [e] at h1;rw [h.mid.2,linesS_last h1 (by intro e2;have:=congrArg List.length e2;rw [List.length_drop] at this;simp at this;omega)]
theorem LSt.end {s:Str} {f:Nat} {done:List Str} (h:LSt s s.length f done) (hf:¬ f < s.length):done = linesS s:=by
 rw [h.mid.2,List.drop_eq_nil_of_le (by omega)];simp [linesS]
def LsLoop' (w:World) (s:Str) (v3 v4 v5:Value) (w1:World):Prop := ∃ (i f:Nat) (done:List Str),v5 = .int .i64 i ∧ v4 = .int .i64 f ∧ LSt s i f done ∧ GrT w 9 1 v3 done.length (strs done) w1
def LnR (w:World) (s:Str) (e:Ending) (w' : World):Prop := ∃ v,e = .returned v ∧ RdT w' v (linesS s) ∧ Below w.heap.size w w'
theorem strs_snoc (l:List Str) (x:Str):strs (l ++ [x]) = strs l ++ [.string (sb x)]:=by simp [strs]
theorem rlines_calls (w:World) (s:Str) (hs:s.length ≤ 1048576):Calls Tryz.prog 22 #[.string (sb s)] w (LnR w s):=by
 have hsz:(sb s).size = s.length:=sb_size s;have Hix:=hIh (fun W (i:Nat) (h:i < s.length)=>run_ix W s i s[i] (List.getElem?_eq_getElem h));have Hsl:Hid (∀ i j,i ≤ j → j ≤ s.length → ∀ W,(Instr.slice 9 (.string (sb s)) (some (.int .i64 (i:Int))) (some (.int .i64 (j:Int))) none).run Tryz.prog W = .ok (.string (sb ((s.drop i).take (j - i)))) W):=fun i j h1 h2 W=>run_sl W s i j h1 h2;have HslF:Hid (∀ i,i ≤ s.length → ∀ W,(Instr.slice 9 (.string (sb s)) (some (.int .i64 (i:Int))) none none).run Tryz.prog W = .ok (.string (sb (s.drop i))) W):=fun i h1 W=>run_slF W s i h1;obtain ⟨N,hN⟩ : ∃ N,N = s.length:=⟨_,rfl⟩;rw [← hN] at hsz;have HN:=hIh hN
 have hN4:(N:Int) ≤ 1048576:=by omega
 have Hst:Hid (LsLoop' w s (.slice none 0 0) (.int .i64 0) (.int .i64 0) w):=⟨0,0, [],rfl,rfl,⟨by omega,by omega,by simp,by simp⟩,GrT.nil _ _ _ (Below.refl _ _)⟩;generalize sb s = S at hsz Hix Hsl HslF;clear hN hs;go_enter Tryz.func22,Tryz.ntmps22;go_wp2
 go_loopw [3,4,5] (fun v3 v4 v5 wr=>LsLoop' w s v3 v4 v5 wr) (fun _ _ v5 _=>N - (intOf v5).toNat)
 case atStart=>exact Hst.out
 case round=>
  clear Hst;obtain ⟨i,f,done,rfl,rfl,hL,hG⟩:=hrel;obtain ⟨A0,c0,rfl⟩:=hG.slice;have hi:=hL.hi;have hf:=hL.hf;have hd:=hL.hd;rw [← HN.out] at hi;have HL:=hIh hL;have HG:=hIh hG;clear hL hG
  have hd9:done.length ≤ 4194304:=by omega
  by_cases hlt:i < N
  ·have hlt' : i < s.length:=by rw [← HN.out];exact hlt
   have hix:=fun W=>Hix.out W i hlt';have hb:decide ((i:Int) < N) = true:=decide_eq_true (by omega);have hb2:(i:Int) < N:=(by omega)
   by_cases hc:s[i] = 10
   ·have hcb:(((s[i].toNat:Nat):Int) == 10) = true:=byteT 10 rfl hc
    have hL2:=HL.out.hit hlt' hc;have hsl:=Hsl.out f i hf (Nat.le_of_lt hlt');have Hgo:Hid (∀ v' w',GrT w 9 1 v' (done.length + 1) (strs done ++ [.string (sb ((s.drop f).take (i - f)))]) w' → LsLoop' w s v' (.int .i64 ((i:Int) + 1)) (.int .i64 ((i:Int) + 1)) w'):=fun v' w' hg=>⟨i + 1,i + 1,_,by simp,by simp,hL2,by rw [strs_snoc,List.length_append];exact hg⟩;generalize sb ((s.drop f).take (i - f)) = X at hsl Hgo;generalize s[i].toNat = cn at hix hcb;clear hc hlt' Hix hL2 Hsl HslF;go_wp2_with (at_builtin;refine wpList_app1 HG rfl (.tmp 16) (.tmp 21) 59 rfl (.string ⟨#[]⟩) 16 Tryz.underlying59 infoStr rfl (by decide) [.string X] rfl (fun u h=>by rw [List.mem_singleton.1 h];rfl) _ rfl rfl hd9 (by decide) ?_);intro v' w3 hg3;have Hk:=hIh (Hgo.out v' w3 hg3);obtain ⟨A3,c3,rfl⟩:=hg3.slice;clear hg3;go_wp2;go_roundw
    case rel=>exact Hk.out
    case measure=>simp [intOf];omega
   ·have hcb:(((s[i].toNat:Nat):Int) == 10) = false:=byteF 10 rfl hc
    have Hk:Hid (LsLoop' w s (.slice A0 done.length c0) (.int .i64 f) (.int .i64 ((i:Int) + 1)) wr):=⟨i + 1,f,done,by simp,rfl,HL.out.skip hlt' hc,HG.out⟩;generalize s[i].toNat = cn at hix hcb;clear hc hlt' Hix Hsl HslF;go_wp2;go_roundw
    case rel=>exact Hk.out
    case measure=>simp [intOf];omega
  ·have hb:decide ((i:Int) < N) = false:=decide_eq_false (by omega)
   have hb2:¬ (i:Int) < N:=(by omega);have hiN:i = s.length:=(by have:=HN.out;omega);have hLe:=HL.out;rw [hiN] at hLe
   by_cases hfl:f < N
   ·have hb3:(f:Int) < N:=by omega
    have hb3b:decide ((f:Int) < N) = true:=decide_eq_true hb3;have hl:=hLe.last (by have:=HN.out;omega);have hsl:=HslF.out f (by have:=HN.out;omega);have Hgo:Hid (∀ v' w',GrT w 9 1 v' (done.length + 1) (strs done ++ [.string (sb (s.drop f))]) w' → LnR w s (.returned v') w'):=fun v' w' hg=>⟨v',rfl,by rw [← hl];rw [← strs_snoc] at hg;exact GrT.rdT (by rw [List.length_append];exact hg),hg.bel⟩;generalize sb (s.drop f) = X at hsl Hgo;clear hLe hl hiN Hix Hsl HslF;go_wp2_with (at_builtin;refine wpList_app1 HG rfl (.tmp 29) (.tmp 33) 59 rfl (.string ⟨#[]⟩) 16 Tryz.underlying59 infoStr rfl (by decide) [.string X] rfl (fun u h=>by rw [List.mem_singleton.1 h];rfl) _ rfl rfl hd9 (by decide) ?_);intro v' w3 hg3;have Hk:=hIh (Hgo.out v' w3 hg3);clear hg3;go_wp2;go_ret;exact Hk.out
   ·have hb3:¬ (f:Int) < N:=by omega
    have hb3b:decide ((f:Int) < N) = false:=decide_eq_false hb3;have hl:=hLe.end (by have:=HN.out;omega);have Hres:Hid (LnR w s (.returned (.slice A0 done.length c0)) wr):=⟨_,rfl,by rw [← hl];exact HG.out.rdT,HG.out.bel⟩;clear hLe hl hiN Hix Hsl HslF;go_wp2;go_ret;exact Hres.out
def errI (b:Bool):Int:=if b then 270 else 0
def ChP (c:Nat × Bool) (w:World) (e:Ending) (w' : World):Prop:=e = .returned (.tuple #[.int .i64 (c.1:Int),.int .i64 (errI c.2)]) ∧ Below w.heap.size w w'
theorem check_long {rd:Str → Option (List Tm)} {s:Str} (h:65536 < s.length):checkS rd s = (0,true):=by unfold checkS;rw [if_pos h]
theorem check_many {rd:Str → Option (List Tm)} {s:Str} (h:¬ 65536 < s.length) (h2:1024 < (linesS s).length):checkS rd s = (0,true):=by unfold checkS;rw [if_neg h,if_pos h2]
theorem check_else {rd:Str → Option (List Tm)} {s:Str} (h:¬ 65536 < s.length) (h2:¬ 1024 < (linesS s).length):checkS rd s = badS (lineS rd) 0 (linesS s):=by unfold checkS;rw [if_neg h,if_neg h2]
def CkLoop (p:Str → Bool) (w:World) (l:List Str) (v:Value) (w1:World):Prop := ∃ i:Nat,v = .int .i64 i ∧ i ≤ l.length ∧ (∀ j (h:j < l.length),j < i → p l[j] = true) ∧ Below w.heap.size w w1
theorem rcheck_calls (w:World) (s:Str):Calls Tryz.prog 9 #[.string (sb s)] w (ChP (checkS rdR s) w):=by
 have hsz:(sb s).size = s.length:=sb_size s;obtain ⟨c,hc⟩ : ∃ c,c = checkS rdR s:=⟨_,rfl⟩;rw [← hc]
 by_cases hl:65536 < s.length
 ·rw [check_long hl] at hc
  have Hc:=hIh hc
  have hb:(65536:Int) < s.length:=by omega
  have hb2:decide ((65536:Int) < s.length) = true:=decide_eq_true hb;generalize s.length = N at hsz hb hb2;generalize sb s = S at hsz;clear hc hl;go_enter Tryz.func9,Tryz.ntmps9;go_wp2;go_ret2;exact ⟨by rw [Hc.out];rfl,Below.refl _ _⟩
 have hb:¬ (65536:Int) < s.length:=by omega
 have hb2:decide ((65536:Int) < s.length) = false:=decide_eq_false hb;have Hln:Hid (Calls Tryz.prog 22 #[.string (sb s)] w (LnR w s)):=rlines_calls w s (by omega)
 have Hsm:Hid (∀ t ∈ linesS s,t.length ≤ 1048576):=fun t ht=>by have:=linesS_small s t ht;omega
 have Hmany:Hid (1024 < (linesS s).length → c = (0,true)):=fun h=>by rw [hc,check_many hl h]
 have Helse:Hid (¬ 1024 < (linesS s).length → c = badS (lineS rdR) 0 (linesS s)):=fun h=>by rw [hc,check_else hl h]
 generalize s.length = N at hsz hb hb2;generalize sb s = S at hsz Hln;clear hc hl;go_enter Tryz.func9,Tryz.ntmps9;go_wp2_with fail
 with_reducible refine Hln.out.mono ?_
 rintro e X ⟨v,rfl,hrd,hX⟩;obtain ⟨A,cc,rfl⟩:=hrd.slice;generalize linesS s = l at hrd Hsm Hmany Helse;have HX:=hIh hX;obtain ⟨L,hL⟩ : ∃ L,L = l.length:=⟨_,rfl⟩;rw [← hL];have HL:=hIh hL
 by_cases hm:1024 < L
 ·have Hc:=hIh (Hmany.out (by rw [← hL];exact hm))
  have hb3:(1024:Int) < L:=by omega
  have hb3b:decide ((1024:Int) < L) = true:=decide_eq_true hb3;clear hrd hX hL hm;go_wp2;go_ret2;exact ⟨by rw [Hc.out];rfl,HX.out⟩
 have hb3:¬ (1024:Int) < L:=by omega
 have hb3b:decide ((1024:Int) < L) = false:=decide_eq_false hb3;have Hc:=hIh (Helse.out (by rw [← hL];exact hm))
 have Hcell:Hid (∀ W i (hi:i < l.length),Below X.heap.size X W → ∃ b off,A = some ⟨b,off,none⟩ ∧ l.length ≤ cc ∧ W.cell? ⟨b,off + i,none⟩ = some (.string (sb l[i]))):=fun W i hi hW=>by
  obtain ⟨b,off,c2,hv,hc,hb0,hcell⟩:=RdT.some hrd (by intro e;rw [e] at hi;simp at hi)
  cases hv
  exact ⟨b,off,rfl,hc,bcell hW (hcell i hi)⟩
 have Hst:Hid (CkLoop (lineS rdR) X l (.int .i64 0) X):=⟨0,rfl,by omega,fun j _ h=>by omega,Below.refl _ _⟩
 have hL4:(L:Int) ≤ 1024:=by omega
 clear hrd hX hL hm;go_wp2_with fail
 go_loopw [5] (fun v5 wr=>CkLoop (lineS rdR) X l v5 wr) (fun v5 _=>L - (intOf v5).toNat)
 case atStart=>exact Hst.out
 case round=>
  clear Hst;obtain ⟨i,rfl,hi,hall,hB⟩:=hrel;have HB:=hIh hB;have Hall:=hIh hall;rw [← HL.out] at hi;clear hB hall
  by_cases hlt:i < L
  ·have hlt' : i < l.length:=by rw [← HL.out];exact hlt
   obtain ⟨b,off,hA,hcap,hcell⟩:=Hcell.out wr i hlt' HB.out;subst hA;have hb5:(i:Int) < L:=(by omega);have hb5b:decide ((i:Int) < L) = true:=decide_eq_true hb5;have hcapi:(L:Int) ≤ cc:=(by have:=HL.out;omega);have Hrd:Hid (Calls Tryz.prog 23 #[.string (sb l[i])] wr (RdP (lineS rdR l[i]) wr)):=rread_calls wr l[i] (Hsm.out _ (List.getElem_mem hlt'))
   have Hbad:Hid (lineS rdR l[i] = false → c = (i + 1,true)):=fun h=>by
    rw [Hc.out,badS_at hlt' Hall.out h];simp
   have Hgood:Hid (lineS rdR l[i] = true → ∀ W,Below X.heap.size X W → CkLoop (lineS rdR) X l (.int .i64 ((i:Int) + 1)) W):=fun h W hW=>⟨i + 1,by simp,hlt',fun j hj hji=>by
    by_cases e:j = i
    ·subst e;exact h
    ·exact Hall.out j hj (by omega),hW⟩
   generalize lineS rdR l[i] = p at Hrd Hbad Hgood;generalize sb l[i] = T at hcell Hrd;clear hlt' Hcell hcap Hall;go_wp2_with fail;(with_reducible refine Hrd.out.mono ?_);rintro e w2 ⟨cs,ok,rfl,hs1,hs2,rfl,hw2⟩;obtain ⟨q5,hq5⟩ : ∃ q5,q5 = w2.heap.size:=⟨_,rfl⟩;have hq5s:w2.heap.size = q5:=hq5.symm;have hA6:(w2.alloc (.cells zcmd 68)).heap[q5]? = some (.cells zcmd 68 (0,0)):=(by rw [hq5];exact blk_new _ _);have HA6:Hid ((w2.alloc (.cells zcmd 68)).heap[q5]? = some (.cells zcmd 68 (0,0)) ∧ zcmd.size = 33):=⟨hA6,rfl⟩;obtain ⟨W7,hW7⟩ : ∃ W7,W7 = (w2.alloc (.cells zcmd 68)).setCells q5 0 cs.toList:=⟨_,rfl⟩
   have HB7:Hid (Below X.heap.size X W7):=by
    have h1:Below X.heap.size X w2:=HB.out.trans (hw2.mono HB.out.size);have h2:Below w2.heap.size w2 W7:=(by rw [hW7];exact (bel_alloc _ _).trans ((setCells_fr q5 _ 0 _).to_below (fun k hk=>by omega) (bel_alloc _ _).size));exact h1.trans (h2.mono h1.size)
   have HW7:=hIh hW7;have Hs1:=hIh hs1;have Hs2:=hIh hs2;clear hw2 hs1 hs2 hq5 hA6 hW7 hcell;go_upto_region 10 with (refine wpList_storeC (cs:=cs) HA6 rfl rfl Hs1.out Hs2.out ?_);show Code.wp _ _ _ _ ((w2.alloc (.cells zcmd 68)).setCells q5 0 cs.toList);rw [← HW7.out]
   cases ok with
   | false=>
    have Hr:=hIh (Hbad.out rfl);go_wp2;go_ret2;exact ⟨by rw [Hr.out];rfl,HX.out.trans (HB7.out.mono HX.out.size)⟩
   | true=>
    have Hk:=hIh (Hgood.out rfl W7 HB7.out);go_wp2;go_roundw
    case rel=>exact Hk.out
    case measure=>simp [intOf];omega
  ·have hb5:¬ (i:Int) < L:=by omega
   have hb5b:decide ((i:Int) < L) = false:=decide_eq_false hb5;have Hr:Hid (c = (0,false)):=(by show _ = _;rw [Hc.out,badS_none (fun j hj=>Hall.out j hj (by have:=HL.out;omega))]);clear Hcell;go_wp2;go_ret2;exact ⟨by rw [Hr.out];rfl,HX.out.trans (HB.out.mono HX.out.size)⟩
theorem check_calls (w:World) (G:Glob w) (s:Str):Calls Tryz.prog 8 #[.string (sb s)] w (ChP (checkS rdB s) w):=by
 have hsz:(sb s).size = s.length:=sb_size s;obtain ⟨c,hc⟩ : ∃ c,c = checkS rdB s:=⟨_,rfl⟩;rw [← hc]
 by_cases hl:65536 < s.length
 ·rw [check_long hl] at hc
  have Hc:=hIh hc
  have hb:(65536:Int) < s.length:=by omega
  have hb2:decide ((65536:Int) < s.length) = true:=decide_eq_true hb;generalize s.length = N at hsz hb hb2;generalize sb s = S at hsz;clear hc hl G;go_enter Tryz.func8,Tryz.ntmps8;go_wp2;go_ret2;exact ⟨by rw [Hc.out];rfl,Below.refl _ _⟩
 have hb:¬ (65536:Int) < s.length:=by omega
 have hb2:decide ((65536:Int) < s.length) = false:=decide_eq_false hb;have Hln:Hid (Calls Tryz.prog 20 #[.string (sb s)] w (LnP w s)):=lines_calls w G s (by omega);have HG:Hid (∀ W,Below w.heap.size w W → Glob W):=fun W h=>G.below h
 have Hsm:Hid (∀ t ∈ linesS s,t.length ≤ 1048576):=fun t ht=>by have:=linesS_small s t ht;omega
 have Hmany:Hid (1024 < (linesS s).length → c = (0,true)):=fun h=>by rw [hc,check_many hl h]
 have Helse:Hid (¬ 1024 < (linesS s).length → c = badS (lineS rdB) 0 (linesS s)):=fun h=>by rw [hc,check_else hl h]
 generalize s.length = N at hsz hb hb2;generalize sb s = S at hsz Hln;clear hc hl G;go_enter Tryz.func8,Tryz.ntmps8;go_wp2_with fail
 with_reducible refine Hln.out.mono ?_
 rintro e X ⟨v,l,rfl,hrd,hll,hX⟩;obtain ⟨A,cc,rfl⟩:=hrd.slice;have HX:=hIh hX;obtain ⟨L,hL⟩ : ∃ L,L = l.length:=⟨_,rfl⟩;rw [← hL];have HL:=hIh hL
 by_cases hm:1024 < L
 ·have Hc:Hid (c = (0,true)):=Hmany.out (by
   rcases hll with h | ⟨-,h⟩
   ·rw [← h,← hL];exact hm
   ·exact h)
  have hb3:(1024:Int) < L:=by omega
  have hb3b:decide ((1024:Int) < L) = true:=decide_eq_true hb3;clear hrd hX hL hm hll;go_wp2;go_ret2;exact ⟨by rw [Hc.out];rfl,HX.out⟩
 have hb3:¬ (1024:Int) < L:=by omega
 have hb3b:decide ((1024:Int) < L) = false:=decide_eq_false hb3
 have hle:l = linesS s:=by
  rcases hll with h | ⟨h, -⟩
  ·exact h
  ·exact absurd (by rw [hL];exact h) hm
 rw [← hle] at Hsm Hmany Helse;have Hc:=hIh (Helse.out (by rw [← hL];exact hm))
 have Hcell:Hid (∀ W i (hi:i < l.length),Below X.heap.size X W → ∃ b off,A = some ⟨b,off,none⟩ ∧ l.length ≤ cc ∧ W.cell? ⟨b,off + i,none⟩ = some (.string (sb l[i]))):=fun W i hi hW=>by
  obtain ⟨b,off,c2,hv,hc,hb0,hcell⟩:=RdT.some hrd (by intro e;rw [e] at hi;simp at hi)
  cases hv
  exact ⟨b,off,rfl,hc,bcell hW (hcell i hi)⟩
 have Hst:Hid (CkLoop (lineS rdB) X l (.int .i64 0) X):=⟨0,rfl,by omega,fun j _ h=>by omega,Below.refl _ _⟩
 have hL4:(L:Int) ≤ 1024:=by omega
 clear hrd hX hL hm hll hle;go_wp2_with fail
 go_loopw [19] (fun v19 wr=>CkLoop (lineS rdB) X l v19 wr) (fun v19 _=>L - (intOf v19).toNat)
 case atStart=>exact Hst.out
 case round=>
  clear Hst;obtain ⟨i,rfl,hi,hall,hB⟩:=hrel;have HB:=hIh hB;have Hall:=hIh hall;rw [← HL.out] at hi;clear hB hall
  by_cases hlt:i < L
  ·have hlt' : i < l.length:=by rw [← HL.out];exact hlt
   obtain ⟨b,off,hA,hcap,hcell⟩:=Hcell.out wr i hlt' HB.out;subst hA;have hb5:(i:Int) < L:=(by omega);have hb5b:decide ((i:Int) < L) = true:=decide_eq_true hb5;have hcapi:(L:Int) ≤ cc:=(by have:=HL.out;omega);have Hrd:Hid (Calls Tryz.prog 21 #[.string (sb l[i])] wr (BvP wr (lineS rdB l[i]))):=parse_calls wr (HG.out wr (HX.out.trans (HB.out.mono HX.out.size))) l[i] (Hsm.out _ (List.getElem_mem hlt'))
   have Hbad:Hid (lineS rdB l[i] = false → c = (i + 1,true)):=fun h=>by
    rw [Hc.out,badS_at hlt' Hall.out h];simp
   have Hgood:Hid (lineS rdB l[i] = true → ∀ W,Below X.heap.size X W → CkLoop (lineS rdB) X l (.int .i64 ((i:Int) + 1)) W):=fun h W hW=>⟨i + 1,by simp,hlt',fun j hj hji=>by
    by_cases e:j = i
    ·subst e;exact h
    ·exact Hall.out j hj (by omega),hW⟩
   generalize lineS rdB l[i] = p at Hrd Hbad Hgood;generalize sb l[i] = T at hcell Hrd;clear hlt' Hcell hcap Hall;go_wp2_with fail;(with_reducible refine Hrd.out.mono ?_);rintro e w2 ⟨vv,ok,rfl,rfl,hw2⟩;have HB7:Hid (Below X.heap.size X w2):=HB.out.trans (hw2.mono HB.out.size);clear hw2 hcell
   cases ok with
   | false=>
    have Hr:=hIh (Hbad.out rfl);go_wp2;go_ret2;exact ⟨by rw [Hr.out];rfl,HX.out.trans (HB7.out.mono HX.out.size)⟩
   | true=>
    have Hk:=hIh (Hgood.out rfl w2 HB7.out);go_wp2;go_roundw
    case rel=>exact Hk.out
    case measure=>simp [intOf];omega
  ·have hb5:¬ (i:Int) < L:=by omega
   have hb5b:decide ((i:Int) < L) = false:=decide_eq_false hb5;have Hr:Hid (c = (0,false)):=(by show _ = _;rw [Hc.out,badS_none (fun j hj=>Hall.out j hj (by have:=HL.out;omega))]);clear Hcell;go_wp2;go_ret2;exact ⟨by rw [Hr.out];rfl,HX.out.trans (HB.out.mono HX.out.size)⟩
theorem rd_same:rdR = rdB:=funext fun s=>(sel_eq s).symm
theorem lawC_calls (w:World) (G:Glob w) (t:Str):Calls Tryz.prog 4 #[.string (sb t)] w fun e w'=>e = .returned (.bool true) ∧ Below w.heap.size w w':=by
 have H1:=hIh (check_calls w G t)
 have H2:Hid (∀ W,Calls Tryz.prog 9 #[.string (sb t)] W (ChP (checkS rdB t) W)):=fun W=>by rw [← rd_same];exact rcheck_calls W t
 generalize checkS rdB t = c at H1 H2;generalize sb t = S at H1 H2;obtain ⟨n,z⟩:=c
 have hb1:((n:Int) == (n:Int)) = true:=by simp
 have hb2:(errI z == errI z) = true:=by simp
 clear G;go_enter Tryz.func4,Tryz.ntmps4;go_wp2_with fail
 with_reducible refine H1.out.mono ?_
 rintro e X1 ⟨rfl,hx1⟩;have HX1:=hIh hx1;clear hx1;go_wp2_with fail
 with_reducible refine (H2.out _).mono ?_
 rintro e X2 ⟨rfl,hx2⟩;have HX2:Hid (Below w.heap.size w X2):=HX1.out.trans (hx2.mono HX1.out.size);clear hx2;go_wp2;go_ret;exact ⟨rfl,HX2.out⟩
end Go.Proofs.YtpfkkagkbneilaaGreatDoor
