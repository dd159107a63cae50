/- Texts M6 of the proof of BursarChecks, joined. -/
import Derived.Test.YtpfkkagkbneilaaGreatDoorV21
namespace Go.Proofs.YtpfkkagkbneilaaGreatDoor
open Go.RowKit
set_option linter.unusedVariables false
set_option linter.unusedSimpArgs false
set_option maxRecDepth 100000
set_option maxHeartbeats 25600000
section
def selR (line:Str) (k:Nat):Option (List Tm):=selParse termR (selText line ((words line).length - k))
def nmCells (op:Nat) (p m:Str):Array Value := #[.int .i64 (op:Int),.string (sb []),.string (sb p),.string (sb m),
 .string (sb []),.string (sb []),.slice none 0 0,.int .i64 0,.int .i64 0,.slice none 0 0,.int .i64 0,
 .string (sb []),.string (sb []),.int .i64 0,.int .i64 0,.slice none 0 0,
 .string (sb []),.string (sb []),.slice none 0 0,
 .string (sb []),.string (sb []),.string (sb []),.int .i64 0,
 .slice none 0 0,.int .i64 0,.int .i64 0,.string (sb []),.bool false,.bool false]
theorem infoN (op:Nat) (p m:Str):(Tryz.prog.info? 38).map (·.size) = some (nmCells op p m).size:=infoReq
theorem oneN (op:Nat) (p m:Str):(nmCells op p m).all (·.oneCell') = true:=by simp [nmCells,Value.oneCell']
theorem nm_flat (B:Nat) (w:World) (op:Nat) (p m:Str):ReqV B w (nmCells op p m) { ReqD.zero with op:=op,path:=p,name:=m }:=ReqV.flat B w (r:={ ReqD.zero with op:=op,path:=p,name:=m }) ⟨rfl,rfl,rfl,rfl,rfl⟩
theorem namedI_ways (sel:Nat → Option (List Tm)) (a:Str) (r:List Str):namedI (a :: r) = (0,0) ∨ ∃ op i,namedI (a :: r) = (op,i) ∧ op ≠ 0 ∧ 1 ≤ i ∧ i ≤ 2 ∧ formD sel a r = namedD op ((a :: r).drop i):=by
 by_cases k1:a = wGet
 ·subst k1
  exact .inr ⟨10,1,rfl,by decide,by decide,by decide,rfl⟩
 by_cases k2:a = wStatus
 ·subst k2
  exact .inr ⟨12,1,rfl,by decide,by decide,by decide,rfl⟩
 by_cases k3:a = wUnbind
 ·subst k3
  exact .inr ⟨15,1,rfl,by decide,by decide,by decide,rfl⟩
 by_cases k4:a = wQuota ∧ r.head? = some wDrop
 ·obtain ⟨rfl,h⟩:=k4
  obtain ⟨q,rfl⟩ : ∃ q,r = wDrop :: q:=by cases r with
   | nil=>cases h
   | cons t q=>exact ⟨q,by cases h;rfl⟩
  exact .inr ⟨4,2,rfl,by decide,by decide,by decide,rfl⟩
 by_cases k5:a = wLimit ∧ r.head? = some wDrop
 ·obtain ⟨rfl,h⟩:=k5
  obtain ⟨q,rfl⟩ : ∃ q,r = wDrop :: q:=by cases r with
   | nil=>cases h
   | cons t q=>exact ⟨q,by cases h;rfl⟩
  exact .inr ⟨6,2,rfl,by decide,by decide,by decide,rfl⟩
 ·left
  show (if a = wGet then _ else _) = _;rw [if_neg k1,if_neg k2,if_neg k3,if_neg k4,if_neg k5]
theorem namedD_ways (op:Nat) (l:List Str) (i:Nat) (hi:i ≤ l.length):(∃ (h:i + 1 < l.length),l.length = i + 2 ∧ namedD op (l.drop i) = some { ReqD.zero with op:=op,path:=l[i],name:=l[i + 1] }) ∨ (l.length ≠ i + 2 ∧ namedD op (l.drop i) = none):=by
 have hl:(l.drop i).length = l.length - i:=List.length_drop
 by_cases h:l.length = i + 2
 ·left
  refine ⟨by omega,h,?_⟩;rw [List.drop_eq_getElem_cons (by omega),List.drop_eq_getElem_cons (by omega),List.drop_eq_nil_of_le (by omega)]
  rfl
 ·right
  refine ⟨h,?_⟩
  match hd:l.drop i with
  | []=>rfl
  | [p]=>rfl
  | [p,n]=>rw [hd] at hl;simp at hl;omega
  | p :: n :: t :: r=>rfl
theorem zero_str {v:ByteArray} (h:Value.string v ∈ zeroCells.toList):v = sb []:=by
 simp only [zeroCells,reqCells,ReqD.zero,ObD.zero,QuD.zero,LiD.zero,BiD.zero,List.mem_cons,List.not_mem_nil,or_false,false_or,Value.string.injEq,reduceCtorEq,or_self] at h;exact h
theorem not_zero {X:World} {g b k:Nat} {t:Str} (h:X.heap[g]? = some (.cells zeroCells 38 (0,0))) (hc:X.cell? ⟨b,k,none⟩ = some (.string (sb t))) (ht:t ≠ []):b ≠ g:=by
 intro e;subst e;simp only [World.cell?,h] at hc
 have h2:zeroCells[k]? = some (.string (sb t)):=by simpa using hc
 obtain ⟨h3,h4⟩:=Array.getElem?_eq_some_iff.1 h2
 have h5:Value.string (sb t) ∈ zeroCells.toList:=by rw [← h4];simp
 exact ht (sb_inj.1 (zero_str h5))
theorem words_ne {s:Str} {a:Str} {r:List Str} (h:words s = a :: r):a ≠ []:=by
 have h1:0 < (cutW 0 s).length:=by rw [cutW_len,h];simp
 have h2:=(behind_word (cutW_get h1 (by rw [h];simp))).2.2.1
 have h3:(words s)[0]'(by rw [h];simp) = a:=by simp [h]
 rw [h3] at h2;exact h2
attribute [local go_sem ↓] wp_store_rq
attribute [local go_sem] ptrB_at ptrO_at allOne_cons allOne_nil aggC_agg oneI oneS oneL oneB
def vwSync:Str := [115,121,110,99]
def vwCheck:Str := [99,104,101,99,107,112,111,105,110,116]
def vwStat:Str := [115,116,97,116]
def vwNodes:Str := [110,111,100,101,115]
def vwNode:Str := [110,111,100,101]
def vwCreate:Str := [99,114,101,97,116,101]
def vwUpdate:Str := [117,112,100,97,116,101]
def vwEvict:Str := [101,118,105,99,116]
def vwList:Str := [108,105,115,116]
theorem rreq_named (w:World) (line:Str) (hll:line.length ≤ 1048576) (a:Str) (r:List Str) (hw:words line = a :: r) (op i:Nat) (hI:namedI (a :: r) = (op,i)) (hop:op ≠ 0) (hi1:1 ≤ i) (hi2:i ≤ 2) (hD:formD (selR line) a r = namedD op ((a :: r).drop i)):Calls Tryz.prog 16 #[.string (sb line)] w (ReP (formD (selR line) a r) w):=by
 obtain ⟨O,hO⟩ : ∃ O,O = formD (selR line) a r:=⟨_,rfl⟩;obtain ⟨g,hg⟩ : ∃ g,g = w.heap.size:=⟨_,rfl⟩;have hF:Tryz.f16.results = #[.cell 2 38,.tmp 3]:=rfl;have HF:=hIh hF;have Hg:=hIh hg;obtain ⟨w1,hw1⟩ : ∃ w1,w1 = w.alloc (.cells zeroCells 38):=⟨_,rfl⟩
 have H1:Hid (w1.heap[g]? = some (.cells zeroCells 38 (0,0)) ∧ Below w.heap.size w w1 ∧ w1.heap.size = g + 1):=by
  rw [hw1,hg];exact ⟨blk_new _ _,bel_alloc _ _,alloc_size _ _⟩
 have HW1:=hIh hw1;have hgs:w.heap.size = g:=hg.symm;have hsm:∀ t ∈ words line,t.length ≤ 1048576:=fun t ht=>Nat.le_trans (words_mem ht) hll
 have hln:(words line).length ≤ 1048577:=by have:=words_len line;omega
 have Hcut:Hid (Calls Tryz.prog 32 #[.string (sb line)] w1 fun e w' => ∃ A1 c1 A2 c2,e = .returned (.tuple #[.slice A1 (words line).length c1,.slice A2 (words line).length c2]) ∧ RdT w' (.slice A1 (words line).length c1) (words line) ∧ RdS atC 1 w' (.slice A2 (words line).length c2) ((cutW 0 line).map Prod.fst) ∧ Below w1.heap.size w1 w'):=by
  have:=rcut_calls w1 line hll;rw [cutW_len] at this;exact this
 obtain ⟨n,hn⟩ : ∃ n,n = (words line).length:=⟨_,rfl⟩;rw [← hO];rw [← hn] at Hcut hln
 have hnb:(n:Int) ≤ 1048577:=by omega
 have hn0:(0:Int) < n:=by rw [hn,hw];simp only [List.length_cons];omega
 have hnz:((n:Int) == 0) = false:=by simp;omega
 have hnz2:(n == 0) = false:=by simp;omega
 have Hn:=hIh hn;have Hw:=hIh hw;have Hsm:=hIh hsm;have Hln:=hIh hln;have Hll:=hIh hll;have HO:=hIh hO;obtain ⟨S,hS⟩ : ∃ S,S = sb line:=⟨_,rfl⟩;rw [← hS] at Hcut;rw [← hS];have HS:=hIh hS;clear hF hg hw1 hsm hln hn hw hll hO hS;go_enter Tryz.func16,Tryz.ntmps16;go_upto_region 1 with fail;show Code.wp _ _ _ _ (w.alloc (.cells zeroCells 38));rw [← HW1.out];go_wp2_with fail
 with_reducible refine Hcut.out.mono ?_
 rintro e X ⟨A1,c,A2,c2,rfl,h,hat,hb⟩;have H2:Hid (X.heap[g]? = some (.cells zeroCells 38 (0,0)) ∧ Below w.heap.size w X ∧ g + 1 ≤ X.heap.size):=⟨blk_below H1.out.1 hb,H1.out.2.1.trans (hb.mono H1.out.2.1.size),by have:=hb.size;have:=H1.out.2.2;omega⟩;have Hth:Hid (X.there g 0 zeroCells.size):=there_blk H2.out.1 (Nat.le_refl _);have Hth29:Hid (∀ (op:Nat) (p m:Str),X.there g 0 (nmCells op p m).size):=fun _ _ _=>Hth.out
 rw [Hn.out] at h hat
 obtain ⟨b,off,c',hv,hc,hb0,hcell⟩:=RdT.some h (by rw [Hw.out];simp)
 cases hv
 have H:=hIh h
 have Hat:=hIh hat
 rw [← Hn.out] at hc
 have hci:(n:Int) ≤ c:=by omega
 have Hcell:Hid (∀ i (hi:i < (words line).length),X.cell? ⟨b,off + i,none⟩ = some (.string (sb (words line)[i]))):=hcell;have Hb0:Hid (b < X.heap.size):=hb0
 have h0:X.cell? ⟨b,off,none⟩ = some (.string (sb a)):=by
  have h1:=hcell 0 (by rw [Hw.out];simp);rw [Nat.add_zero] at h1
  have h2:(words line)[0]'(by rw [Hw.out];simp) = a:=by simp [Hw.out]
  rw [h2] at h1;exact h1
 have Hnm:Hid (Calls Tryz.prog 33 #[.slice (some ⟨b,off,none⟩) n c] X fun e w'=>e = .returned (.tuple #[.int .i64 ((namedI (a :: r)).1:Int),.int .i64 ((namedI (a :: r)).2:Int)]) ∧ w' = X):=by
  have hl:=Hln.out;have:=rnamed_calls X (.slice (some ⟨b,off,none⟩) n c) a r (by rw [Hn.out,← Hw.out];exact h) (by rw [Hn.out,Hw.out] at hl;simp only [List.length_cons] at hl;omega);exact this
 have Hbg:Hid (b ≠ g):=not_zero H2.out.1 h0 (words_ne Hw.out);clear h hat hb hc hb0 hcell Hcut;rw [hI] at Hnm
 have hz1:((op:Int) != 0) = true:=by simp;omega
 have hz2:((op:Int) == 0) = false:=by simp;omega
 have hO2:O = namedD op ((words line).drop i):=by rw [HO.out,hD,Hw.out]
 have hil:i ≤ (words line).length ∨ (words line).length < i:=by omega
 have hib:(i:Int) ≤ 2:=by omega
 have hways:(∃ p m,n = i + 2 ∧ X.cell? ⟨b,off + i,none⟩ = some (.string (sb p)) ∧ X.cell? ⟨b,off + (i + 1),none⟩ = some (.string (sb m)) ∧ O = some { ReqD.zero with op:=op,path:=p,name:=m }) ∨ (n ≠ i + 2 ∧ O = none):=by
  have hnl:=Hn.out;rcases hil with h | h
  ·rcases namedD_ways op (words line) i h with ⟨h1,h2,h3⟩ | ⟨h2,h3⟩
   ·exact .inl ⟨_,_,by omega,Hcell.out i (by omega),Hcell.out (i + 1) h1,by rw [hO2,h3]⟩
   ·exact .inr ⟨by omega,by rw [hO2,h3]⟩
  ·exact .inr ⟨by omega,by rw [hO2,List.drop_eq_nil_of_le (by omega)];rfl⟩
 clear hI hop hD hO2 hil;generalize sb a = TA at h0;rcases hways with ⟨p,m,h1,h2,h3,h4⟩ | ⟨h1,h4⟩
 case inr=>
  have Hno:=hIh h4
  have hb1:((n:Int) != (i:Int) + 2) = true:=by simp;omega
  have hb2:((n:Int) == (i:Int) + 2) = false:=by simp;omega
  clear h1 h4;go_wp2_with fail
  with_reducible refine Hnm.out.mono ?_
  rintro e X2 ⟨rfl,hx2⟩;obtain rfl:=hx2.symm;go_wp2_with ((with_reducible refine wpList_store_mid (op:=⟨none,.store 38 (.tmp 2) (.tmp 30),_,_,_,_⟩) ?_ 38 (.tmp 2) (.tmp 30) ?_ g 0 zeroCells ?_ ?_ Hth.out infoZ zero_one ?_);exact rfl;exact rfl;exact rfl;exact rfl);exact re_no HF.out Hg.out H2.out.1 zeroCells_size H2.out.2.1 Hno.out rfl rfl
 case inl=>
  have HY:=hIh h4
  have hb1:((n:Int) != (i:Int) + 2) = false:=by simp;omega
  have hb2:((n:Int) == (i:Int) + 2) = true:=by simp;omega
  have hx1:((i:Int) + 1).toNat = i + 1:=by omega
  have hw1:IntKind.i64.wrap ((i:Int) + 1) = (i:Int) + 1:=IntWalk.i64_in _ (by omega)
  have hlt1:(i:Int) + 1 < n:=by omega
  have hlt0:(i:Int) < n:=by omega
  have hx0:(0:Int) ≤ (i:Int) + 1:=by omega
  have hbg:b ≠ g:=Hbg.out;have hth5:X.drew.there g 0 29:=there_drew (Hth29.out 0 [] []);have HZ:Hid (X.drew.cell? ⟨b,off + i,none⟩ = some (.string (sb p)) ∧ X.drew.cell? ⟨b,off + (i + 1),none⟩ = some (.string (sb m))):=⟨h2,h3⟩
  have HS5:Hid (∀ q:List Value,(X.drew.setCells g 0 q).cell? ⟨b,off + i,none⟩ = some (.string (sb p)) ∧ (X.drew.setCells g 0 q).cell? ⟨b,off + (i + 1),none⟩ = some (.string (sb m))):=fun q=>by
   refine ⟨?_,?_⟩ <;> rw [cell_setCells_far hbg]
   ·exact h2
   ·exact h3
  clear h1 h4 hbg;go_wp2_with fail
  with_reducible refine Hnm.out.mono ?_
  rintro e X2 ⟨rfl,hx2⟩;obtain rfl:=hx2.symm;go_wp2;go_region_held3 (fun W=>W.cell? ⟨b,off + i,none⟩ = some (.string (sb p)) ∧ W.cell? ⟨b,off + (i + 1),none⟩ = some (.string (sb m))) (first | with_reducible exact ⟨h2,h3⟩ | with_reducible exact HZ.out | with_reducible exact HS5.out _) (fail);go_wp2;have Hv:Hid (ReB O g X.drew (nmCells op p m) true):=.inl ⟨rfl,_,HY.out,nm_flat _ _ _ _ _⟩;exact re_any HF.out Hg.out (W:=X.drew) (cs:=nmCells op p m) H2.out.1 zeroCells_size ⟨rfl,oneN op p m⟩ H2.out.2.1.drew Hv.out rfl rfl
theorem rreq_Sync (w:World) (line:Str) (hll:line.length ≤ 1048576) (a:Str) (r:List Str) (hw:words line = a :: r) (hI:namedI (a :: r) = (0,0)) (ha:a = vwSync):Calls Tryz.prog 16 #[.string (sb line)] w (ReP (formD (selR line) a r) w):=by
 obtain ⟨O,hO⟩ : ∃ O,O = formD (selR line) a r:=⟨_,rfl⟩;obtain ⟨g,hg⟩ : ∃ g,g = w.heap.size:=⟨_,rfl⟩;have hF:Tryz.f16.results = #[.cell 2 38,.tmp 3]:=rfl;have HF:=hIh hF;have Hg:=hIh hg;obtain ⟨w1,hw1⟩ : ∃ w1,w1 = w.alloc (.cells zeroCells 38):=⟨_,rfl⟩
 have H1:Hid (w1.heap[g]? = some (.cells zeroCells 38 (0,0)) ∧ Below w.heap.size w w1 ∧ w1.heap.size = g + 1):=by
  rw [hw1,hg];exact ⟨blk_new _ _,bel_alloc _ _,alloc_size _ _⟩
 have HW1:=hIh hw1;have hgs:w.heap.size = g:=hg.symm;have hsm:∀ t ∈ words line,t.length ≤ 1048576:=fun t ht=>Nat.le_trans (words_mem ht) hll
 have hln:(words line).length ≤ 1048577:=by have:=words_len line;omega
 have Hcut:Hid (Calls Tryz.prog 32 #[.string (sb line)] w1 fun e w' => ∃ A1 c1 A2 c2,e = .returned (.tuple #[.slice A1 (words line).length c1,.slice A2 (words line).length c2]) ∧ RdT w' (.slice A1 (words line).length c1) (words line) ∧ RdS atC 1 w' (.slice A2 (words line).length c2) ((cutW 0 line).map Prod.fst) ∧ Below w1.heap.size w1 w'):=by
  have:=rcut_calls w1 line hll;rw [cutW_len] at this;exact this
 obtain ⟨n,hn⟩ : ∃ n,n = (words line).length:=⟨_,rfl⟩;rw [← hO];rw [← hn] at Hcut hln
 have hnb:(n:Int) ≤ 1048577:=by omega
 have hn0:(0:Int) < n:=by rw [hn,hw];simp only [List.length_cons];omega
 have hnz:((n:Int) == 0) = false:=by simp;omega
 have hnz2:(n == 0) = false:=by simp;omega
 have Hn:=hIh hn;have Hw:=hIh hw;have Hsm:=hIh hsm;have Hln:=hIh hln;have Hll:=hIh hll;have HO:=hIh hO;obtain ⟨S,hS⟩ : ∃ S,S = sb line:=⟨_,rfl⟩;rw [← hS] at Hcut;rw [← hS];have HS:=hIh hS;clear hF hg hw1 hsm hln hn hw hll hO hS;go_enter Tryz.func16,Tryz.ntmps16;go_upto_region 1 with fail;show Code.wp _ _ _ _ (w.alloc (.cells zeroCells 38));rw [← HW1.out];go_wp2_with fail
 with_reducible refine Hcut.out.mono ?_
 rintro e X ⟨A1,c,A2,c2,rfl,h,hat,hb⟩;have H2:Hid (X.heap[g]? = some (.cells zeroCells 38 (0,0)) ∧ Below w.heap.size w X ∧ g + 1 ≤ X.heap.size):=⟨blk_below H1.out.1 hb,H1.out.2.1.trans (hb.mono H1.out.2.1.size),by have:=hb.size;have:=H1.out.2.2;omega⟩;have Hth:Hid (X.there g 0 zeroCells.size):=there_blk H2.out.1 (Nat.le_refl _);have Hth29:Hid (∀ (op:Nat) (p m:Str),X.there g 0 (nmCells op p m).size):=fun _ _ _=>Hth.out
 rw [Hn.out] at h hat
 obtain ⟨b,off,c',hv,hc,hb0,hcell⟩:=RdT.some h (by rw [Hw.out];simp)
 cases hv
 have H:=hIh h
 have Hat:=hIh hat
 rw [← Hn.out] at hc
 have hci:(n:Int) ≤ c:=by omega
 have Hcell:Hid (∀ i (hi:i < (words line).length),X.cell? ⟨b,off + i,none⟩ = some (.string (sb (words line)[i]))):=hcell;have Hb0:Hid (b < X.heap.size):=hb0
 have h0:X.cell? ⟨b,off,none⟩ = some (.string (sb a)):=by
  have h1:=hcell 0 (by rw [Hw.out];simp);rw [Nat.add_zero] at h1
  have h2:(words line)[0]'(by rw [Hw.out];simp) = a:=by simp [Hw.out]
  rw [h2] at h1;exact h1
 have Hnm:Hid (Calls Tryz.prog 33 #[.slice (some ⟨b,off,none⟩) n c] X fun e w'=>e = .returned (.tuple #[.int .i64 ((namedI (a :: r)).1:Int),.int .i64 ((namedI (a :: r)).2:Int)]) ∧ w' = X):=by
  have hl:=Hln.out;have:=rnamed_calls X (.slice (some ⟨b,off,none⟩) n c) a r (by rw [Hn.out,← Hw.out];exact h) (by rw [Hn.out,Hw.out] at hl;simp only [List.length_cons] at hl;omega);exact this
 have Hbg:Hid (b ≠ g):=not_zero H2.out.1 h0 (words_ne Hw.out);clear h hat hb hc hb0 hcell Hcut;rw [hI] at Hnm;subst ha;have q1:((sb vwSync).toList == [115,121,110,99]) = true:=eqLT rfl
 have hways:(n = 1 ∧ ReB O g X (nmCells 17 [] []) true) ∨ (n ≠ 1 ∧ ReB O g X (nmCells 17 [] []) false):=by
  have h1:O = ended { ReqD.zero with op:=17 } r:=by rw [HO.out];rfl
  have h2:=Hn.out;rw [Hw.out] at h2
  cases r with
  | nil=>exact .inl ⟨h2,.inl ⟨rfl,_,h1,nm_flat _ _ _ _ _⟩⟩
  | cons t q=>exact .inr ⟨by simp only [List.length_cons] at h2;omega,.inr ⟨rfl,h1⟩⟩
 generalize sb vwSync = TA at h0 q1;clear hI;rcases hways with ⟨h1,hv⟩ | ⟨h1,hv⟩
 case' inl=>
  have hb1:((n:Int) == 1) = true:=by simp;omega
  have hb2:(n == 1) = true:=by simp;omega
 case' inr=>
  have hb1:((n:Int) == 1) = false:=by simp;omega
  have hb2:(n == 1) = false:=by simp;omega
 all_goals
  have Hv:=hIh hv;clear hv h1;go_wp2_with fail
  with_reducible refine Hnm.out.mono ?_
  rintro e X2 ⟨rfl,hx2⟩;obtain rfl:=hx2.symm;go_wp2_with ((with_reducible refine wpList_store_mid (op:=⟨none,.store 38 (.tmp 2) (.tmp 47),_,_,_,_⟩) ?_ 38 (.tmp 2) (.tmp 47) ?_ g 0 (nmCells 17 [] []) ?_ ?_ (Hth29.out _ _ _) (infoN 17 [] []) (oneN 17 [] []) ?_);exact rfl;exact rfl;exact rfl;exact rfl);exact re_any HF.out Hg.out (W:=X) (cs:=nmCells 17 [] []) H2.out.1 zeroCells_size ⟨rfl,oneN 17 [] []⟩ H2.out.2.1 Hv.out rfl rfl
theorem rreq_Check (w:World) (line:Str) (hll:line.length ≤ 1048576) (a:Str) (r:List Str) (hw:words line = a :: r) (hI:namedI (a :: r) = (0,0)) (ha:a = vwCheck):Calls Tryz.prog 16 #[.string (sb line)] w (ReP (formD (selR line) a r) w):=by
 obtain ⟨O,hO⟩ : ∃ O,O = formD (selR line) a r:=⟨_,rfl⟩;obtain ⟨g,hg⟩ : ∃ g,g = w.heap.size:=⟨_,rfl⟩;have hF:Tryz.f16.results = #[.cell 2 38,.tmp 3]:=rfl;have HF:=hIh hF;have Hg:=hIh hg;obtain ⟨w1,hw1⟩ : ∃ w1,w1 = w.alloc (.cells zeroCells 38):=⟨_,rfl⟩
 have H1:Hid (w1.heap[g]? = some (.cells zeroCells 38 (0,0)) ∧ Below w.heap.size w w1 ∧ w1.heap.size = g + 1):=by
  rw [hw1,hg];exact ⟨blk_new _ _,bel_alloc _ _,alloc_size _ _⟩
 have HW1:=hIh hw1;have hgs:w.heap.size = g:=hg.symm;have hsm:∀ t ∈ words line,t.length ≤ 1048576:=fun t ht=>Nat.le_trans (words_mem ht) hll
 have hln:(words line).length ≤ 1048577:=by have:=words_len line;omega
 have Hcut:Hid (Calls Tryz.prog 32 #[.string (sb line)] w1 fun e w' => ∃ A1 c1 A2 c2,e = .returned (.tuple #[.slice A1 (words line).length c1,.slice A2 (words line).length c2]) ∧ RdT w' (.slice A1 (words line).length c1) (words line) ∧ RdS atC 1 w' (.slice A2 (words line).length c2) ((cutW 0 line).map Prod.fst) ∧ Below w1.heap.size w1 w'):=by
  have:=rcut_calls w1 line hll;rw [cutW_len] at this;exact this
 obtain ⟨n,hn⟩ : ∃ n,n = (words line).length:=⟨_,rfl⟩;rw [← hO];rw [← hn] at Hcut hln
 have hnb:(n:Int) ≤ 1048577:=by omega
 have hn0:(0:Int) < n:=by rw [hn,hw];simp only [List.length_cons];omega
 have hnz:((n:Int) == 0) = false:=by simp;omega
 have hnz2:(n == 0) = false:=by simp;omega
 have Hn:=hIh hn;have Hw:=hIh hw;have Hsm:=hIh hsm;have Hln:=hIh hln;have Hll:=hIh hll;have HO:=hIh hO;obtain ⟨S,hS⟩ : ∃ S,S = sb line:=⟨_,rfl⟩;rw [← hS] at Hcut;rw [← hS];have HS:=hIh hS;clear hF hg hw1 hsm hln hn hw hll hO hS;go_enter Tryz.func16,Tryz.ntmps16;go_upto_region 1 with fail;show Code.wp _ _ _ _ (w.alloc (.cells zeroCells 38));rw [← HW1.out];go_wp2_with fail
 with_reducible refine Hcut.out.mono ?_
 rintro e X ⟨A1,c,A2,c2,rfl,h,hat,hb⟩;have H2:Hid (X.heap[g]? = some (.cells zeroCells 38 (0,0)) ∧ Below w.heap.size w X ∧ g + 1 ≤ X.heap.size):=⟨blk_below H1.out.1 hb,H1.out.2.1.trans (hb.mono H1.out.2.1.size),by have:=hb.size;have:=H1.out.2.2;omega⟩;have Hth:Hid (X.there g 0 zeroCells.size):=there_blk H2.out.1 (Nat.le_refl _);have Hth29:Hid (∀ (op:Nat) (p m:Str),X.there g 0 (nmCells op p m).size):=fun _ _ _=>Hth.out
 rw [Hn.out] at h hat
 obtain ⟨b,off,c',hv,hc,hb0,hcell⟩:=RdT.some h (by rw [Hw.out];simp)
 cases hv
 have H:=hIh h
 have Hat:=hIh hat
 rw [← Hn.out] at hc
 have hci:(n:Int) ≤ c:=by omega
 have Hcell:Hid (∀ i (hi:i < (words line).length),X.cell? ⟨b,off + i,none⟩ = some (.string (sb (words line)[i]))):=hcell;have Hb0:Hid (b < X.heap.size):=hb0
 have h0:X.cell? ⟨b,off,none⟩ = some (.string (sb a)):=by
  have h1:=hcell 0 (by rw [Hw.out];simp);rw [Nat.add_zero] at h1
  have h2:(words line)[0]'(by rw [Hw.out];simp) = a:=by simp [Hw.out]
  rw [h2] at h1;exact h1
 have Hnm:Hid (Calls Tryz.prog 33 #[.slice (some ⟨b,off,none⟩) n c] X fun e w'=>e = .returned (.tuple #[.int .i64 ((namedI (a :: r)).1:Int),.int .i64 ((namedI (a :: r)).2:Int)]) ∧ w' = X):=by
  have hl:=Hln.out;have:=rnamed_calls X (.slice (some ⟨b,off,none⟩) n c) a r (by rw [Hn.out,← Hw.out];exact h) (by rw [Hn.out,Hw.out] at hl;simp only [List.length_cons] at hl;omega);exact this
 have Hbg:Hid (b ≠ g):=not_zero H2.out.1 h0 (words_ne Hw.out);clear h hat hb hc hb0 hcell Hcut;rw [hI] at Hnm;subst ha;have q1:((sb vwCheck).toList == [115,121,110,99]) = false:=eqLF (by decide);have q2:((sb vwCheck).toList == [99,104,101,99,107,112,111,105,110,116]) = true:=eqLT rfl
 have hways:(n = 1 ∧ ReB O g X (nmCells 18 [] []) true) ∨ (n ≠ 1 ∧ ReB O g X (nmCells 18 [] []) false):=by
  have h1:O = ended { ReqD.zero with op:=18 } r:=by rw [HO.out];rfl
  have h2:=Hn.out;rw [Hw.out] at h2
  cases r with
  | nil=>exact .inl ⟨h2,.inl ⟨rfl,_,h1,nm_flat _ _ _ _ _⟩⟩
  | cons t q=>exact .inr ⟨by simp only [List.length_cons] at h2;omega,.inr ⟨rfl,h1⟩⟩
 generalize sb vwCheck = TA at h0 q1 q2;clear hI;rcases hways with ⟨h1,hv⟩ | ⟨h1,hv⟩
 case' inl=>
  have hb1:((n:Int) == 1) = true:=by simp;omega
  have hb2:(n == 1) = true:=by simp;omega
 case' inr=>
  have hb1:((n:Int) == 1) = false:=by simp;omega
  have hb2:(n == 1) = false:=by simp;omega
 all_goals
  have Hv:=hIh hv;clear hv h1;go_wp2_with fail
  with_reducible refine Hnm.out.mono ?_
  rintro e X2 ⟨rfl,hx2⟩;obtain rfl:=hx2.symm;go_wp2_with ((with_reducible refine wpList_store_mid (op:=⟨none,.store 38 (.tmp 2) (.tmp 52),_,_,_,_⟩) ?_ 38 (.tmp 2) (.tmp 52) ?_ g 0 (nmCells 18 [] []) ?_ ?_ (Hth29.out _ _ _) (infoN 18 [] []) (oneN 18 [] []) ?_);exact rfl;exact rfl;exact rfl;exact rfl);exact re_any HF.out Hg.out (W:=X) (cs:=nmCells 18 [] []) H2.out.1 zeroCells_size ⟨rfl,oneN 18 [] []⟩ H2.out.2.1 Hv.out rfl rfl
theorem rreq_Stat (w:World) (line:Str) (hll:line.length ≤ 1048576) (a:Str) (r:List Str) (hw:words line = a :: r) (hI:namedI (a :: r) = (0,0)) (ha:a = vwStat):Calls Tryz.prog 16 #[.string (sb line)] w (ReP (formD (selR line) a r) w):=by
 obtain ⟨O,hO⟩ : ∃ O,O = formD (selR line) a r:=⟨_,rfl⟩;obtain ⟨g,hg⟩ : ∃ g,g = w.heap.size:=⟨_,rfl⟩;have hF:Tryz.f16.results = #[.cell 2 38,.tmp 3]:=rfl;have HF:=hIh hF;have Hg:=hIh hg;obtain ⟨w1,hw1⟩ : ∃ w1,w1 = w.alloc (.cells zeroCells 38):=⟨_,rfl⟩
 have H1:Hid (w1.heap[g]? = some (.cells zeroCells 38 (0,0)) ∧ Below w.heap.size w w1 ∧ w1.heap.size = g + 1):=by
  rw [hw1,hg];exact ⟨blk_new _ _,bel_alloc _ _,alloc_size _ _⟩
 have HW1:=hIh hw1;have hgs:w.heap.size = g:=hg.symm;have hsm:∀ t ∈ words line,t.length ≤ 1048576:=fun t ht=>Nat.le_trans (words_mem ht) hll
 have hln:(words line).length ≤ 1048577:=by have:=words_len line;omega
 have Hcut:Hid (Calls Tryz.prog 32 #[.string (sb line)] w1 fun e w' => ∃ A1 c1 A2 c2,e = .returned (.tuple #[.slice A1 (words line).length c1,.slice A2 (words line).length c2]) ∧ RdT w' (.slice A1 (words line).length c1) (words line) ∧ RdS atC 1 w' (.slice A2 (words line).length c2) ((cutW 0 line).map Prod.fst) ∧ Below w1.heap.size w1 w'):=by
  have:=rcut_calls w1 line hll;rw [cutW_len] at this;exact this
 obtain ⟨n,hn⟩ : ∃ n,n = (words line).length:=⟨_,rfl⟩;rw [← hO];rw [← hn] at Hcut hln
 have hnb:(n:Int) ≤ 1048577:=by omega
 have hn0:(0:Int) < n:=by rw [hn,hw];simp only [List.length_cons];omega
 have hnz:((n:Int) == 0) = false:=by simp;omega
 have hnz2:(n == 0) = false:=by simp;omega
 have Hn:=hIh hn;have Hw:=hIh hw;have Hsm:=hIh hsm;have Hln:=hIh hln;have Hll:=hIh hll;have HO:=hIh hO;obtain ⟨S,hS⟩ : ∃ S,S = sb line:=⟨_,rfl⟩;rw [← hS] at Hcut;rw [← hS];have HS:=hIh hS;clear hF hg hw1 hsm hln hn hw hll hO hS;go_enter Tryz.func16,Tryz.ntmps16;go_upto_region 1 with fail;show Code.wp _ _ _ _ (w.alloc (.cells zeroCells 38));rw [← HW1.out];go_wp2_with fail
 with_reducible refine Hcut.out.mono ?_
 rintro e X ⟨A1,c,A2,c2,rfl,h,hat,hb⟩;have H2:Hid (X.heap[g]? = some (.cells zeroCells 38 (0,0)) ∧ Below w.heap.size w X ∧ g + 1 ≤ X.heap.size):=⟨blk_below H1.out.1 hb,H1.out.2.1.trans (hb.mono H1.out.2.1.size),by have:=hb.size;have:=H1.out.2.2;omega⟩;have Hth:Hid (X.there g 0 zeroCells.size):=there_blk H2.out.1 (Nat.le_refl _);have Hth29:Hid (∀ (op:Nat) (p m:Str),X.there g 0 (nmCells op p m).size):=fun _ _ _=>Hth.out
 rw [Hn.out] at h hat
 obtain ⟨b,off,c',hv,hc,hb0,hcell⟩:=RdT.some h (by rw [Hw.out];simp)
 cases hv
 have H:=hIh h
 have Hat:=hIh hat
 rw [← Hn.out] at hc
 have hci:(n:Int) ≤ c:=by omega
 have Hcell:Hid (∀ i (hi:i < (words line).length),X.cell? ⟨b,off + i,none⟩ = some (.string (sb (words line)[i]))):=hcell;have Hb0:Hid (b < X.heap.size):=hb0
 have h0:X.cell? ⟨b,off,none⟩ = some (.string (sb a)):=by
  have h1:=hcell 0 (by rw [Hw.out];simp);rw [Nat.add_zero] at h1
  have h2:(words line)[0]'(by rw [Hw.out];simp) = a:=by simp [Hw.out]
  rw [h2] at h1;exact h1
 have Hnm:Hid (Calls Tryz.prog 33 #[.slice (some ⟨b,off,none⟩) n c] X fun e w'=>e = .returned (.tuple #[.int .i64 ((namedI (a :: r)).1:Int),.int .i64 ((namedI (a :: r)).2:Int)]) ∧ w' = X):=by
  have hl:=Hln.out;have:=rnamed_calls X (.slice (some ⟨b,off,none⟩) n c) a r (by rw [Hn.out,← Hw.out];exact h) (by rw [Hn.out,Hw.out] at hl;simp only [List.length_cons] at hl;omega);exact this
 have Hbg:Hid (b ≠ g):=not_zero H2.out.1 h0 (words_ne Hw.out);clear h hat hb hc hb0 hcell Hcut;rw [hI] at Hnm;subst ha;have q1:((sb vwStat).toList == [115,121,110,99]) = false:=eqLF (by decide);have q2:((sb vwStat).toList == [99,104,101,99,107,112,111,105,110,116]) = false:=eqLF (by decide);have q3:((sb vwStat).toList == [115,116,97,116]) = true:=eqLT rfl
 have hways:(n = 1 ∧ ReB O g X (nmCells 19 [] []) true) ∨ (n ≠ 1 ∧ ReB O g X (nmCells 19 [] []) false):=by
  have h1:O = ended { ReqD.zero with op:=19 } r:=by rw [HO.out];rfl
  have h2:=Hn.out;rw [Hw.out] at h2
  cases r with
  | nil=>exact .inl ⟨h2,.inl ⟨rfl,_,h1,nm_flat _ _ _ _ _⟩⟩
  | cons t q=>exact .inr ⟨by simp only [List.length_cons] at h2;omega,.inr ⟨rfl,h1⟩⟩
 generalize sb vwStat = TA at h0 q1 q2 q3;clear hI;rcases hways with ⟨h1,hv⟩ | ⟨h1,hv⟩
 case' inl=>
  have hb1:((n:Int) == 1) = true:=by simp;omega
  have hb2:(n == 1) = true:=by simp;omega
 case' inr=>
  have hb1:((n:Int) == 1) = false:=by simp;omega
  have hb2:(n == 1) = false:=by simp;omega
 all_goals
  have Hv:=hIh hv;clear hv h1;go_wp2_with fail
  with_reducible refine Hnm.out.mono ?_
  rintro e X2 ⟨rfl,hx2⟩;obtain rfl:=hx2.symm;go_wp2_with ((with_reducible refine wpList_store_mid (op:=⟨none,.store 38 (.tmp 2) (.tmp 57),_,_,_,_⟩) ?_ 38 (.tmp 2) (.tmp 57) ?_ g 0 (nmCells 19 [] []) ?_ ?_ (Hth29.out _ _ _) (infoN 19 [] []) (oneN 19 [] []) ?_);exact rfl;exact rfl;exact rfl;exact rfl);exact re_any HF.out Hg.out (W:=X) (cs:=nmCells 19 [] []) H2.out.1 zeroCells_size ⟨rfl,oneN 19 [] []⟩ H2.out.2.1 Hv.out rfl rfl
theorem rreq_Nodes (w:World) (line:Str) (hll:line.length ≤ 1048576) (a:Str) (r:List Str) (hw:words line = a :: r) (hI:namedI (a :: r) = (0,0)) (ha:a = vwNodes):Calls Tryz.prog 16 #[.string (sb line)] w (ReP (formD (selR line) a r) w):=by
 obtain ⟨O,hO⟩ : ∃ O,O = formD (selR line) a r:=⟨_,rfl⟩;obtain ⟨g,hg⟩ : ∃ g,g = w.heap.size:=⟨_,rfl⟩;have hF:Tryz.f16.results = #[.cell 2 38,.tmp 3]:=rfl;have HF:=hIh hF;have Hg:=hIh hg;obtain ⟨w1,hw1⟩ : ∃ w1,w1 = w.alloc (.cells zeroCells 38):=⟨_,rfl⟩
 have H1:Hid (w1.heap[g]? = some (.cells zeroCells 38 (0,0)) ∧ Below w.heap.size w w1 ∧ w1.heap.size = g + 1):=by
  rw [hw1,hg];exact ⟨blk_new _ _,bel_alloc _ _,alloc_size _ _⟩
 have HW1:=hIh hw1;have hgs:w.heap.size = g:=hg.symm;have hsm:∀ t ∈ words line,t.length ≤ 1048576:=fun t ht=>Nat.le_trans (words_mem ht) hll
 have hln:(words line).length ≤ 1048577:=by have:=words_len line;omega
 have Hcut:Hid (Calls Tryz.prog 32 #[.string (sb line)] w1 fun e w' => ∃ A1 c1 A2 c2,e = .returned (.tuple #[.slice A1 (words line).length c1,.slice A2 (words line).length c2]) ∧ RdT w' (.slice A1 (words line).length c1) (words line) ∧ RdS atC 1 w' (.slice A2 (words line).length c2) ((cutW 0 line).map Prod.fst) ∧ Below w1.heap.size w1 w'):=by
  have:=rcut_calls w1 line hll;rw [cutW_len] at this;exact this
 obtain ⟨n,hn⟩ : ∃ n,n = (words line).length:=⟨_,rfl⟩;rw [← hO];rw [← hn] at Hcut hln
 have hnb:(n:Int) ≤ 1048577:=by omega
 have hn0:(0:Int) < n:=by rw [hn,hw];simp only [List.length_cons];omega
 have hnz:((n:Int) == 0) = false:=by simp;omega
 have hnz2:(n == 0) = false:=by simp;omega
 have Hn:=hIh hn;have Hw:=hIh hw;have Hsm:=hIh hsm;have Hln:=hIh hln;have Hll:=hIh hll;have HO:=hIh hO;obtain ⟨S,hS⟩ : ∃ S,S = sb line:=⟨_,rfl⟩;rw [← hS] at Hcut;rw [← hS];have HS:=hIh hS;clear hF hg hw1 hsm hln hn hw hll hO hS;go_enter Tryz.func16,Tryz.ntmps16;go_upto_region 1 with fail;show Code.wp _ _ _ _ (w.alloc (.cells zeroCells 38));rw [← HW1.out];go_wp2_with fail
 with_reducible refine Hcut.out.mono ?_
 rintro e X ⟨A1,c,A2,c2,rfl,h,hat,hb⟩;have H2:Hid (X.heap[g]? = some (.cells zeroCells 38 (0,0)) ∧ Below w.heap.size w X ∧ g + 1 ≤ X.heap.size):=⟨blk_below H1.out.1 hb,H1.out.2.1.trans (hb.mono H1.out.2.1.size),by have:=hb.size;have:=H1.out.2.2;omega⟩;have Hth:Hid (X.there g 0 zeroCells.size):=there_blk H2.out.1 (Nat.le_refl _);have Hth29:Hid (∀ (op:Nat) (p m:Str),X.there g 0 (nmCells op p m).size):=fun _ _ _=>Hth.out
 rw [Hn.out] at h hat
 obtain ⟨b,off,c',hv,hc,hb0,hcell⟩:=RdT.some h (by rw [Hw.out];simp)
 cases hv
 have H:=hIh h
 have Hat:=hIh hat
 rw [← Hn.out] at hc
 have hci:(n:Int) ≤ c:=by omega
 have Hcell:Hid (∀ i (hi:i < (words line).length),X.cell? ⟨b,off + i,none⟩ = some (.string (sb (words line)[i]))):=hcell;have Hb0:Hid (b < X.heap.size):=hb0
 have h0:X.cell? ⟨b,off,none⟩ = some (.string (sb a)):=by
  have h1:=hcell 0 (by rw [Hw.out];simp);rw [Nat.add_zero] at h1
  have h2:(words line)[0]'(by rw [Hw.out];simp) = a:=by simp [Hw.out]
  rw [h2] at h1;exact h1
 have Hnm:Hid (Calls Tryz.prog 33 #[.slice (some ⟨b,off,none⟩) n c] X fun e w'=>e = .returned (.tuple #[.int .i64 ((namedI (a :: r)).1:Int),.int .i64 ((namedI (a :: r)).2:Int)]) ∧ w' = X):=by
  have hl:=Hln.out;have:=rnamed_calls X (.slice (some ⟨b,off,none⟩) n c) a r (by rw [Hn.out,← Hw.out];exact h) (by rw [Hn.out,Hw.out] at hl;simp only [List.length_cons] at hl;omega);exact this
 have Hbg:Hid (b ≠ g):=not_zero H2.out.1 h0 (words_ne Hw.out);clear h hat hb hc hb0 hcell Hcut;rw [hI] at Hnm;subst ha;have q1:((sb vwNodes).toList == [115,121,110,99]) = false:=eqLF (by decide);have q2:((sb vwNodes).toList == [99,104,101,99,107,112,111,105,110,116]) = false:=eqLF (by decide);have q3:((sb vwNodes).toList == [115,116,97,116]) = false:=eqLF (by decide);have q4:((sb vwNodes).toList == [110,111,100,101,115]) = true:=eqLT rfl
 have h1:O = nodesD r:=by rw [HO.out];rfl
 have h2:=Hn.out;rw [Hw.out] at h2
 have hways:(∃ p,n = 2 ∧ X.cell? ⟨b,off + 1,none⟩ = some (.string (sb p)) ∧ O = some { ReqD.zero with op:=10,path:=p }) ∨ (n ≠ 2 ∧ O = none):=by
  match r,h1,h2,Hw with
  | [],h1,h2,_=>exact .inr ⟨by simp at h2;omega,h1⟩
  | [p],h1,h2,Hw=>
   have h3:=Hcell.out 1 (by rw [Hw.out];simp);have h4:(words line)[1]'(by rw [Hw.out];simp) = p:=(by simp [Hw.out]);rw [h4] at h3;exact .inl ⟨p,h2,h3,h1⟩
  | p :: q :: r,h1,h2,_=>exact .inr ⟨by simp at h2;omega,h1⟩
 generalize sb vwNodes = TA at h0 q1 q2 q3 q4;clear hI h1 h2;rcases hways with ⟨p,h1,h2,h4⟩ | ⟨h1,h4⟩
 case inr=>
  have Hno:=hIh h4
  have hb1:((n:Int) != 2) = true:=by simp;omega
  have hb2:((n:Int) == 2) = false:=by simp;omega
  have hb3:(n == 2) = false:=by simp;omega
  have hb4:(n != 2) = true:=by simp;omega
  clear h1 h4;go_wp2_with fail
  with_reducible refine Hnm.out.mono ?_
  rintro e X2 ⟨rfl,hx2⟩;obtain rfl:=hx2.symm;go_wp2_with ((with_reducible refine wpList_store_mid (op:=⟨none,.store 38 (.tmp 2) (.tmp 64),_,_,_,_⟩) ?_ 38 (.tmp 2) (.tmp 64) ?_ g 0 zeroCells ?_ ?_ Hth.out infoZ zero_one ?_);exact rfl;exact rfl;exact rfl;exact rfl);exact re_no HF.out Hg.out H2.out.1 zeroCells_size H2.out.2.1 Hno.out rfl rfl
 case inl=>
  have Hv:Hid (ReB O g X (nmCells 10 p []) true):=.inl ⟨rfl,_,h4,nm_flat _ _ _ _ _⟩
  have hb1:((n:Int) != 2) = false:=by simp;omega
  have hb2:((n:Int) == 2) = true:=by simp;omega
  have hb3:(n == 2) = true:=by simp;omega
  have hb4:(n != 2) = false:=by simp;omega
  have hn1:(1:Int) < n:=by omega
  clear h1 h4;go_wp2_with fail
  with_reducible refine Hnm.out.mono ?_
  rintro e X2 ⟨rfl,hx2⟩;obtain rfl:=hx2.symm;go_wp2_with ((with_reducible refine wpList_store_mid (op:=⟨none,.store 38 (.tmp 2) (.tmp 68),_,_,_,_⟩) ?_ 38 (.tmp 2) (.tmp 68) ?_ g 0 (nmCells 10 p []) ?_ ?_ (Hth29.out _ _ _) (infoN 10 p []) (oneN 10 p []) ?_);exact rfl;exact rfl;exact rfl;exact rfl);exact re_any HF.out Hg.out (W:=X) (cs:=nmCells 10 p []) H2.out.1 zeroCells_size ⟨rfl,oneN 10 p []⟩ H2.out.2.1 Hv.out rfl rfl
theorem rreq_Node (w:World) (line:Str) (hll:line.length ≤ 1048576) (a:Str) (r:List Str) (hw:words line = a :: r) (hI:namedI (a :: r) = (0,0)) (ha:a = vwNode):Calls Tryz.prog 16 #[.string (sb line)] w (ReP (formD (selR line) a r) w):=by
 obtain ⟨O,hO⟩ : ∃ O,O = formD (selR line) a r:=⟨_,rfl⟩;obtain ⟨g,hg⟩ : ∃ g,g = w.heap.size:=⟨_,rfl⟩;have hF:Tryz.f16.results = #[.cell 2 38,.tmp 3]:=rfl;have HF:=hIh hF;have Hg:=hIh hg;obtain ⟨w1,hw1⟩ : ∃ w1,w1 = w.alloc (.cells zeroCells 38):=⟨_,rfl⟩
 have H1:Hid (w1.heap[g]? = some (.cells zeroCells 38 (0,0)) ∧ Below w.heap.size w w1 ∧ w1.heap.size = g + 1):=by
  rw [hw1,hg];exact ⟨blk_new _ _,bel_alloc _ _,alloc_size _ _⟩
 have HW1:=hIh hw1;have hgs:w.heap.size = g:=hg.symm;have hsm:∀ t ∈ words line,t.length ≤ 1048576:=fun t ht=>Nat.le_trans (words_mem ht) hll
 have hln:(words line).length ≤ 1048577:=by have:=words_len line;omega
 have Hcut:Hid (Calls Tryz.prog 32 #[.string (sb line)] w1 fun e w' => ∃ A1 c1 A2 c2,e = .returned (.tuple #[.slice A1 (words line).length c1,.slice A2 (words line).length c2]) ∧ RdT w' (.slice A1 (words line).length c1) (words line) ∧ RdS atC 1 w' (.slice A2 (words line).length c2) ((cutW 0 line).map Prod.fst) ∧ Below w1.heap.size w1 w'):=by
  have:=rcut_calls w1 line hll;rw [cutW_len] at this;exact this
 obtain ⟨n,hn⟩ : ∃ n,n = (words line).length:=⟨_,rfl⟩;rw [← hO];rw [← hn] at Hcut hln
 have hnb:(n:Int) ≤ 1048577:=by omega
 have hn0:(0:Int) < n:=by rw [hn,hw];simp only [List.length_cons];omega
 have hnz:((n:Int) == 0) = false:=by simp;omega
 have hnz2:(n == 0) = false:=by simp;omega
 have Hn:=hIh hn;have Hw:=hIh hw;have Hsm:=hIh hsm;have Hln:=hIh hln;have Hll:=hIh hll;have HO:=hIh hO;obtain ⟨S,hS⟩ : ∃ S,S = sb line:=⟨_,rfl⟩;rw [← hS] at Hcut;rw [← hS];have HS:=hIh hS;clear hF hg hw1 hsm hln hn hw hll hO hS;go_enter Tryz.func16,Tryz.ntmps16;go_upto_region 1 with fail;show Code.wp _ _ _ _ (w.alloc (.cells zeroCells 38));rw [← HW1.out];go_wp2_with fail
 with_reducible refine Hcut.out.mono ?_
 rintro e X ⟨A1,c,A2,c2,rfl,h,hat,hb⟩;have H2:Hid (X.heap[g]? = some (.cells zeroCells 38 (0,0)) ∧ Below w.heap.size w X ∧ g + 1 ≤ X.heap.size):=⟨blk_below H1.out.1 hb,H1.out.2.1.trans (hb.mono H1.out.2.1.size),by have:=hb.size;have:=H1.out.2.2;omega⟩;have Hth:Hid (X.there g 0 zeroCells.size):=there_blk H2.out.1 (Nat.le_refl _);have Hth29:Hid (∀ (op:Nat) (p m:Str),X.there g 0 (nmCells op p m).size):=fun _ _ _=>Hth.out
 rw [Hn.out] at h hat
 obtain ⟨b,off,c',hv,hc,hb0,hcell⟩:=RdT.some h (by rw [Hw.out];simp)
 cases hv
 have H:=hIh h
 have Hat:=hIh hat
 rw [← Hn.out] at hc
 have hci:(n:Int) ≤ c:=by omega
 have Hcell:Hid (∀ i (hi:i < (words line).length),X.cell? ⟨b,off + i,none⟩ = some (.string (sb (words line)[i]))):=hcell;have Hb0:Hid (b < X.heap.size):=hb0
 have h0:X.cell? ⟨b,off,none⟩ = some (.string (sb a)):=by
  have h1:=hcell 0 (by rw [Hw.out];simp);rw [Nat.add_zero] at h1
  have h2:(words line)[0]'(by rw [Hw.out];simp) = a:=by simp [Hw.out]
  rw [h2] at h1;exact h1
 have Hnm:Hid (Calls Tryz.prog 33 #[.slice (some ⟨b,off,none⟩) n c] X fun e w'=>e = .returned (.tuple #[.int .i64 ((namedI (a :: r)).1:Int),.int .i64 ((namedI (a :: r)).2:Int)]) ∧ w' = X):=by
  have hl:=Hln.out;have:=rnamed_calls X (.slice (some ⟨b,off,none⟩) n c) a r (by rw [Hn.out,← Hw.out];exact h) (by rw [Hn.out,Hw.out] at hl;simp only [List.length_cons] at hl;omega);exact this
 have Hbg:Hid (b ≠ g):=not_zero H2.out.1 h0 (words_ne Hw.out);clear h hat hb hc hb0 hcell Hcut;rw [hI] at Hnm;subst ha;have q1:((sb vwNode).toList == [115,121,110,99]) = false:=eqLF (by decide);have q2:((sb vwNode).toList == [99,104,101,99,107,112,111,105,110,116]) = false:=eqLF (by decide);have q3:((sb vwNode).toList == [115,116,97,116]) = false:=eqLF (by decide);have q4:((sb vwNode).toList == [110,111,100,101,115]) = false:=eqLF (by decide);have q5:((sb vwNode).toList == [110,111,100,101]) = true:=eqLT rfl
 have h1:O = nodeD r:=by rw [HO.out];rfl
 have h2:=Hn.out;rw [Hw.out] at h2
 have hways:(n ≠ 3 ∧ O = none) ∨ (n = 3 ∧ ∃ u p,X.cell? ⟨b,off + 1,none⟩ = some (.string (sb u)) ∧ X.cell? ⟨b,off + 2,none⟩ = some (.string (sb p)) ∧ O = nodeD [u,p]):=by
  match r,h1,h2,Hw with
  | [],h1,h2,_=>exact .inl ⟨by simp at h2;omega,h1⟩
  | [p],h1,h2,_=>exact .inl ⟨by simp at h2;omega,h1⟩
  | [u,p],h1,h2,Hw=>
   have h3:=Hcell.out 1 (by rw [Hw.out];simp);have h4:(words line)[1]'(by rw [Hw.out];simp) = u:=(by simp [Hw.out]);rw [h4] at h3;have h5:=Hcell.out 2 (by rw [Hw.out];simp);have h6:(words line)[2]'(by rw [Hw.out];simp) = p:=(by simp [Hw.out]);rw [h6] at h5;exact .inr ⟨h2,u,p,h3,h5,h1⟩
  | p :: q :: s :: r,h1,h2,_=>exact .inl ⟨by simp at h2;omega,h1⟩
 generalize sb vwNode = TA at h0 q1 q2 q3 q4 q5;clear hI h1 h2;rcases hways with ⟨h1,h4⟩ | ⟨h1,u,p,c1,c2,h4⟩
 case inl=>
  have Hno:=hIh h4
  have hb1:((n:Int) != 3) = true:=by simp;omega
  have hb2:((n:Int) == 3) = false:=by simp;omega
  clear h1 h4;go_wp2_with fail
  with_reducible refine Hnm.out.mono ?_
  rintro e X2 ⟨rfl,hx2⟩;obtain rfl:=hx2.symm;go_wp2_with ((with_reducible refine wpList_store_mid (op:=⟨none,.store 38 (.tmp 2) (.tmp 85),_,_,_,_⟩) ?_ 38 (.tmp 2) (.tmp 85) ?_ g 0 zeroCells ?_ ?_ Hth.out infoZ zero_one ?_);exact rfl;exact rfl;exact rfl;exact rfl);exact re_no HF.out Hg.out H2.out.1 zeroCells_size H2.out.2.1 Hno.out rfl rfl
 case inr=>
 have hb1:((n:Int) != 3) = false:=by simp;omega
 have hb2:((n:Int) == 3) = true:=by simp;omega
 have hn1:(1:Int) < n:=by omega
 have hn2:(2:Int) < n:=by omega
 have h5:O = if u = [97,100,100] then some { ReqD.zero with op:=1,path:=p } else if u = [100,114,111,112] then some { ReqD.zero with op:=2,path:=p } else none:=h4
 by_cases u1:u = [97,100,100]
 ·rw [if_pos u1] at h5
  have e1:=eqLT u1;have e2:=neLF u1;have Hv:Hid (ReB O g X (nmCells 1 p []) true):=.inl ⟨rfl,_,h5,nm_flat _ _ _ _ _⟩;generalize sb u = U at c1 e1 e2;clear h1 h4 h5 u1;go_wp2_with fail
  with_reducible refine Hnm.out.mono ?_
  rintro e X2 ⟨rfl,hx2⟩;obtain rfl:=hx2.symm;go_wp2_with ((with_reducible refine wpList_store_mid (op:=⟨none,.store 38 (.tmp 2) (.tmp 93),_,_,_,_⟩) ?_ 38 (.tmp 2) (.tmp 93) ?_ g 0 (nmCells 1 p []) ?_ ?_ (Hth29.out _ _ _) (infoN 1 p []) (oneN 1 p []) ?_);exact rfl;exact rfl;exact rfl;exact rfl);exact re_any HF.out Hg.out (W:=X) (cs:=nmCells 1 p []) H2.out.1 zeroCells_size ⟨rfl,oneN 1 p []⟩ H2.out.2.1 Hv.out rfl rfl
 ·rw [if_neg u1] at h5
  have e1:=eqLF u1;have e2:=neLT u1
  by_cases u2:u = [100,114,111,112]
  ·rw [if_pos u2] at h5
   have e3:=eqLT u2;have e4:=neLF u2;have Hv:Hid (ReB O g X (nmCells 2 p []) true):=.inl ⟨rfl,_,h5,nm_flat _ _ _ _ _⟩;generalize sb u = U at c1 e1 e2 e3 e4;clear h1 h4 h5 u1 u2;go_wp2_with fail;(with_reducible refine Hnm.out.mono ?_);rintro e X2 ⟨rfl,hx2⟩;obtain rfl:=hx2.symm;go_wp2_with ((with_reducible refine wpList_store_mid (op:=⟨none,.store 38 (.tmp 2) (.tmp 97),_,_,_,_⟩) ?_ 38 (.tmp 2) (.tmp 97) ?_ g 0 (nmCells 2 p []) ?_ ?_ (Hth29.out _ _ _) (infoN 2 p []) (oneN 2 p []) ?_);exact rfl;exact rfl;exact rfl;exact rfl);exact re_any HF.out Hg.out (W:=X) (cs:=nmCells 2 p []) H2.out.1 zeroCells_size ⟨rfl,oneN 2 p []⟩ H2.out.2.1 Hv.out rfl rfl
  ·rw [if_neg u2] at h5
   have e3:=eqLF u2;have e4:=neLT u2;have Hno:=hIh h5;generalize sb u = U at c1 e1 e2 e3 e4;clear h1 h4 h5 u1 u2;go_wp2_with fail;(with_reducible refine Hnm.out.mono ?_);rintro e X2 ⟨rfl,hx2⟩;obtain rfl:=hx2.symm;go_wp2_with ((with_reducible refine wpList_store_mid (op:=⟨none,.store 38 (.tmp 2) (.tmp 85),_,_,_,_⟩) ?_ 38 (.tmp 2) (.tmp 85) ?_ g 0 zeroCells ?_ ?_ Hth.out infoZ zero_one ?_);exact rfl;exact rfl;exact rfl;exact rfl);exact re_no HF.out Hg.out H2.out.1 zeroCells_size H2.out.2.1 Hno.out rfl rfl
theorem rreq_Create (w:World) (line:Str) (hll:line.length ≤ 1048576) (a:Str) (r:List Str) (hw:words line = a :: r) (hI:namedI (a :: r) = (0,0)) (ha:a = vwCreate):Calls Tryz.prog 16 #[.string (sb line)] w (ReP (formD (selR line) a r) w):=by
 obtain ⟨O,hO⟩ : ∃ O,O = formD (selR line) a r:=⟨_,rfl⟩;obtain ⟨g,hg⟩ : ∃ g,g = w.heap.size:=⟨_,rfl⟩;have hF:Tryz.f16.results = #[.cell 2 38,.tmp 3]:=rfl;have HF:=hIh hF;have Hg:=hIh hg;obtain ⟨w1,hw1⟩ : ∃ w1,w1 = w.alloc (.cells zeroCells 38):=⟨_,rfl⟩
 have H1:Hid (w1.heap[g]? = some (.cells zeroCells 38 (0,0)) ∧ Below w.heap.size w w1 ∧ w1.heap.size = g + 1):=by
  rw [hw1,hg];exact ⟨blk_new _ _,bel_alloc _ _,alloc_size _ _⟩
 have HW1:=hIh hw1;have hgs:w.heap.size = g:=hg.symm;have hsm:∀ t ∈ words line,t.length ≤ 1048576:=fun t ht=>Nat.le_trans (words_mem ht) hll
 have hln:(words line).length ≤ 1048577:=by have:=words_len line;omega
 have Hcut:Hid (Calls Tryz.prog 32 #[.string (sb line)] w1 fun e w' => ∃ A1 c1 A2 c2,e = .returned (.tuple #[.slice A1 (words line).length c1,.slice A2 (words line).length c2]) ∧ RdT w' (.slice A1 (words line).length c1) (words line) ∧ RdS atC 1 w' (.slice A2 (words line).length c2) ((cutW 0 line).map Prod.fst) ∧ Below w1.heap.size w1 w'):=by
  have:=rcut_calls w1 line hll;rw [cutW_len] at this;exact this
 obtain ⟨n,hn⟩ : ∃ n,n = (words line).length:=⟨_,rfl⟩;rw [← hO];rw [← hn] at Hcut hln
 have hnb:(n:Int) ≤ 1048577:=by omega
 have hn0:(0:Int) < n:=by rw [hn,hw];simp only [List.length_cons];omega
 have hnz:((n:Int) == 0) = false:=by simp;omega
 have hnz2:(n == 0) = false:=by simp;omega
 have Hn:=hIh hn;have Hw:=hIh hw;have Hsm:=hIh hsm;have Hln:=hIh hln;have Hll:=hIh hll;have HO:=hIh hO;obtain ⟨S,hS⟩ : ∃ S,S = sb line:=⟨_,rfl⟩;rw [← hS] at Hcut;rw [← hS];have HS:=hIh hS;clear hF hg hw1 hsm hln hn hw hll hO hS;go_enter Tryz.func16,Tryz.ntmps16;go_upto_region 1 with fail;show Code.wp _ _ _ _ (w.alloc (.cells zeroCells 38));rw [← HW1.out];go_wp2_with fail
 with_reducible refine Hcut.out.mono ?_
 rintro e X ⟨A1,c,A2,c2,rfl,h,hat,hb⟩;have H2:Hid (X.heap[g]? = some (.cells zeroCells 38 (0,0)) ∧ Below w.heap.size w X ∧ g + 1 ≤ X.heap.size):=⟨blk_below H1.out.1 hb,H1.out.2.1.trans (hb.mono H1.out.2.1.size),by have:=hb.size;have:=H1.out.2.2;omega⟩;have Hth:Hid (X.there g 0 zeroCells.size):=there_blk H2.out.1 (Nat.le_refl _);have Hth29:Hid (∀ (op:Nat) (p m:Str),X.there g 0 (nmCells op p m).size):=fun _ _ _=>Hth.out
 rw [Hn.out] at h hat
 obtain ⟨b,off,c',hv,hc,hb0,hcell⟩:=RdT.some h (by rw [Hw.out];simp)
 cases hv
 have H:=hIh h
 have Hat:=hIh hat
 rw [← Hn.out] at hc
 have hci:(n:Int) ≤ c:=by omega
 have Hcell:Hid (∀ i (hi:i < (words line).length),X.cell? ⟨b,off + i,none⟩ = some (.string (sb (words line)[i]))):=hcell;have Hb0:Hid (b < X.heap.size):=hb0
 have h0:X.cell? ⟨b,off,none⟩ = some (.string (sb a)):=by
  have h1:=hcell 0 (by rw [Hw.out];simp);rw [Nat.add_zero] at h1
  have h2:(words line)[0]'(by rw [Hw.out];simp) = a:=by simp [Hw.out]
  rw [h2] at h1;exact h1
 have Hnm:Hid (Calls Tryz.prog 33 #[.slice (some ⟨b,off,none⟩) n c] X fun e w'=>e = .returned (.tuple #[.int .i64 ((namedI (a :: r)).1:Int),.int .i64 ((namedI (a :: r)).2:Int)]) ∧ w' = X):=by
  have hl:=Hln.out;have:=rnamed_calls X (.slice (some ⟨b,off,none⟩) n c) a r (by rw [Hn.out,← Hw.out];exact h) (by rw [Hn.out,Hw.out] at hl;simp only [List.length_cons] at hl;omega);exact this
 have Hbg:Hid (b ≠ g):=not_zero H2.out.1 h0 (words_ne Hw.out);clear h hat hb hc hb0 hcell Hcut;rw [hI] at Hnm;subst ha;have q1:((sb vwCreate).toList == [115,121,110,99]) = false:=eqLF (by decide);have q2:((sb vwCreate).toList == [99,104,101,99,107,112,111,105,110,116]) = false:=eqLF (by decide);have q3:((sb vwCreate).toList == [115,116,97,116]) = false:=eqLF (by decide);have q4:((sb vwCreate).toList == [110,111,100,101,115]) = false:=eqLF (by decide);have q5:((sb vwCreate).toList == [110,111,100,101]) = false:=eqLF (by decide);have q6:((sb vwCreate).toList == [99,114,101,97,116,101]) = true:=eqLT rfl
 have HO2:Hid (O = objectD 7 r):=by show _ = _;rw [HO.out];rfl
 have Hc:Hid (Calls Tryz.prog 34 #[.int .i64 7,.slice (some ⟨b,off,none⟩) n c] X (ReP (objectD 7 r) X)):=by
  have hr:=H.out;have hs:=Hsm.out;have hl:=Hln.out;rw [Hn.out] at hl;rw [← Hn.out,Hw.out] at hr;rw [Hw.out] at hs hl;exact robject_calls X 7 (.slice (some ⟨b,off,none⟩) n c) vwCreate r hr hs hl
 generalize sb vwCreate = TA at h0 q1 q2 q3 q4 q5 q6;clear hI;go_wp2_with fail
 with_reducible refine Hnm.out.mono ?_
 rintro e X2 ⟨rfl,hx2⟩;obtain rfl:=hx2.symm;go_wp2_with fail
 with_reducible refine Hc.out.mono ?_
 rintro e Y ⟨cs,bb,rfl,hcs,hv,hb⟩;have Hcs:=hIh hcs;have Hres:Hid (Y.heap[g]? = some (.cells zeroCells 38 (0,0)) ∧ Below w.heap.size w Y):=⟨blk_below H2.out.1 hb,H2.out.2.1.trans (hb.mono H2.out.2.1.size)⟩;have Hth2:Hid (Y.there g 0 cs.size):=there_blk Hres.out.1 (by rw [hcs.1,zeroCells_size];omega)
 have Hsz:Hid ((Tryz.prog.info? 38).map (·.size) = some cs.size):=by show _ = _;rw [hcs.1];exact infoReq
 have Hv:Hid (ReB O g Y cs bb):=by
  rcases hv with ⟨h1,rq,h2,h3⟩ | ⟨h1,h2⟩
  ·exact .inl ⟨h1,rq,by rw [HO2.out];exact h2,h3.mono H2.out.2.2⟩
  ·exact .inr ⟨h1,by rw [HO2.out];exact h2⟩
 clear hv hb hcs;go_wp2_with ((with_reducible refine wpList_store_mid (op:=⟨none,.store 38 (.tmp 2) (.tmp 102),_,_,_,_⟩) ?_ 38 (.tmp 2) (.tmp 102) ?_ g 0 cs ?_ ?_ Hth2.out Hsz.out Hcs.out.2 ?_);exact rfl;exact rfl;exact rfl;exact rfl);exact re_any HF.out Hg.out Hres.out.1 zeroCells_size Hcs.out Hres.out.2 Hv.out rfl rfl
theorem rreq_Update (w:World) (line:Str) (hll:line.length ≤ 1048576) (a:Str) (r:List Str) (hw:words line = a :: r) (hI:namedI (a :: r) = (0,0)) (ha:a = vwUpdate):Calls Tryz.prog 16 #[.string (sb line)] w (ReP (formD (selR line) a r) w):=by
 obtain ⟨O,hO⟩ : ∃ O,O = formD (selR line) a r:=⟨_,rfl⟩;obtain ⟨g,hg⟩ : ∃ g,g = w.heap.size:=⟨_,rfl⟩;have hF:Tryz.f16.results = #[.cell 2 38,.tmp 3]:=rfl;have HF:=hIh hF;have Hg:=hIh hg;obtain ⟨w1,hw1⟩ : ∃ w1,w1 = w.alloc (.cells zeroCells 38):=⟨_,rfl⟩
 have H1:Hid (w1.heap[g]? = some (.cells zeroCells 38 (0,0)) ∧ Below w.heap.size w w1 ∧ w1.heap.size = g + 1):=by
  rw [hw1,hg];exact ⟨blk_new _ _,bel_alloc _ _,alloc_size _ _⟩
 have HW1:=hIh hw1;have hgs:w.heap.size = g:=hg.symm;have hsm:∀ t ∈ words line,t.length ≤ 1048576:=fun t ht=>Nat.le_trans (words_mem ht) hll
 have hln:(words line).length ≤ 1048577:=by have:=words_len line;omega
 have Hcut:Hid (Calls Tryz.prog 32 #[.string (sb line)] w1 fun e w' => ∃ A1 c1 A2 c2,e = .returned (.tuple #[.slice A1 (words line).length c1,.slice A2 (words line).length c2]) ∧ RdT w' (.slice A1 (words line).length c1) (words line) ∧ RdS atC 1 w' (.slice A2 (words line).length c2) ((cutW 0 line).map Prod.fst) ∧ Below w1.heap.size w1 w'):=by
  have:=rcut_calls w1 line hll;rw [cutW_len] at this;exact this
 obtain ⟨n,hn⟩ : ∃ n,n = (words line).length:=⟨_,rfl⟩;rw [← hO];rw [← hn] at Hcut hln
 have hnb:(n:Int) ≤ 1048577:=by omega
 have hn0:(0:Int) < n:=by rw [hn,hw];simp only [List.length_cons];omega
 have hnz:((n:Int) == 0) = false:=by simp;omega
 have hnz2:(n == 0) = false:=by simp;omega
 have Hn:=hIh hn;have Hw:=hIh hw;have Hsm:=hIh hsm;have Hln:=hIh hln;have Hll:=hIh hll;have HO:=hIh hO;obtain ⟨S,hS⟩ : ∃ S,S = sb line:=⟨_,rfl⟩;rw [← hS] at Hcut;rw [← hS];have HS:=hIh hS;clear hF hg hw1 hsm hln hn hw hll hO hS;go_enter Tryz.func16,Tryz.ntmps16;go_upto_region 1 with fail;show Code.wp _ _ _ _ (w.alloc (.cells zeroCells 38));rw [← HW1.out];go_wp2_with fail
 with_reducible refine Hcut.out.mono ?_
 rintro e X ⟨A1,c,A2,c2,rfl,h,hat,hb⟩;have H2:Hid (X.heap[g]? = some (.cells zeroCells 38 (0,0)) ∧ Below w.heap.size w X ∧ g + 1 ≤ X.heap.size):=⟨blk_below H1.out.1 hb,H1.out.2.1.trans (hb.mono H1.out.2.1.size),by have:=hb.size;have:=H1.out.2.2;omega⟩;have Hth:Hid (X.there g 0 zeroCells.size):=there_blk H2.out.1 (Nat.le_refl _);have Hth29:Hid (∀ (op:Nat) (p m:Str),X.there g 0 (nmCells op p m).size):=fun _ _ _=>Hth.out
 rw [Hn.out] at h hat
 obtain ⟨b,off,c',hv,hc,hb0,hcell⟩:=RdT.some h (by rw [Hw.out];simp)
 cases hv
 have H:=hIh h
 have Hat:=hIh hat
 rw [← Hn.out] at hc
 have hci:(n:Int) ≤ c:=by omega
 have Hcell:Hid (∀ i (hi:i < (words line).length),X.cell? ⟨b,off + i,none⟩ = some (.string (sb (words line)[i]))):=hcell;have Hb0:Hid (b < X.heap.size):=hb0
 have h0:X.cell? ⟨b,off,none⟩ = some (.string (sb a)):=by
  have h1:=hcell 0 (by rw [Hw.out];simp);rw [Nat.add_zero] at h1
  have h2:(words line)[0]'(by rw [Hw.out];simp) = a:=by simp [Hw.out]
  rw [h2] at h1;exact h1
 have Hnm:Hid (Calls Tryz.prog 33 #[.slice (some ⟨b,off,none⟩) n c] X fun e w'=>e = .returned (.tuple #[.int .i64 ((namedI (a :: r)).1:Int),.int .i64 ((namedI (a :: r)).2:Int)]) ∧ w' = X):=by
  have hl:=Hln.out;have:=rnamed_calls X (.slice (some ⟨b,off,none⟩) n c) a r (by rw [Hn.out,← Hw.out];exact h) (by rw [Hn.out,Hw.out] at hl;simp only [List.length_cons] at hl;omega);exact this
 have Hbg:Hid (b ≠ g):=not_zero H2.out.1 h0 (words_ne Hw.out);clear h hat hb hc hb0 hcell Hcut;rw [hI] at Hnm;subst ha;have q1:((sb vwUpdate).toList == [115,121,110,99]) = false:=eqLF (by decide);have q2:((sb vwUpdate).toList == [99,104,101,99,107,112,111,105,110,116]) = false:=eqLF (by decide);have q3:((sb vwUpdate).toList == [115,116,97,116]) = false:=eqLF (by decide);have q4:((sb vwUpdate).toList == [110,111,100,101,115]) = false:=eqLF (by decide);have q5:((sb vwUpdate).toList == [110,111,100,101]) = false:=eqLF (by decide);have q6:((sb vwUpdate).toList == [99,114,101,97,116,101]) = false:=eqLF (by decide);have q7:((sb vwUpdate).toList == [117,112,100,97,116,101]) = true:=eqLT rfl
 have HO2:Hid (O = objectD 8 r):=by show _ = _;rw [HO.out];rfl
 have Hc:Hid (Calls Tryz.prog 34 #[.int .i64 8,.slice (some ⟨b,off,none⟩) n c] X (ReP (objectD 8 r) X)):=by
  have hr:=H.out;have hs:=Hsm.out;have hl:=Hln.out;rw [Hn.out] at hl;rw [← Hn.out,Hw.out] at hr;rw [Hw.out] at hs hl;exact robject_calls X 8 (.slice (some ⟨b,off,none⟩) n c) vwUpdate r hr hs hl
 generalize sb vwUpdate = TA at h0 q1 q2 q3 q4 q5 q6 q7;clear hI;go_wp2_with fail
 with_reducible refine Hnm.out.mono ?_
 rintro e X2 ⟨rfl,hx2⟩;obtain rfl:=hx2.symm;go_wp2_with fail
 with_reducible refine Hc.out.mono ?_
 rintro e Y ⟨cs,bb,rfl,hcs,hv,hb⟩;have Hcs:=hIh hcs;have Hres:Hid (Y.heap[g]? = some (.cells zeroCells 38 (0,0)) ∧ Below w.heap.size w Y):=⟨blk_below H2.out.1 hb,H2.out.2.1.trans (hb.mono H2.out.2.1.size)⟩;have Hth2:Hid (Y.there g 0 cs.size):=there_blk Hres.out.1 (by rw [hcs.1,zeroCells_size];omega)
 have Hsz:Hid ((Tryz.prog.info? 38).map (·.size) = some cs.size):=by show _ = _;rw [hcs.1];exact infoReq
 have Hv:Hid (ReB O g Y cs bb):=by
  rcases hv with ⟨h1,rq,h2,h3⟩ | ⟨h1,h2⟩
  ·exact .inl ⟨h1,rq,by rw [HO2.out];exact h2,h3.mono H2.out.2.2⟩
  ·exact .inr ⟨h1,by rw [HO2.out];exact h2⟩
 clear hv hb hcs;go_wp2_with ((with_reducible refine wpList_store_mid (op:=⟨none,.store 38 (.tmp 2) (.tmp 108),_,_,_,_⟩) ?_ 38 (.tmp 2) (.tmp 108) ?_ g 0 cs ?_ ?_ Hth2.out Hsz.out Hcs.out.2 ?_);exact rfl;exact rfl;exact rfl;exact rfl);exact re_any HF.out Hg.out Hres.out.1 zeroCells_size Hcs.out Hres.out.2 Hv.out rfl rfl
theorem rreq_Evict (w:World) (line:Str) (hll:line.length ≤ 1048576) (a:Str) (r:List Str) (hw:words line = a :: r) (hI:namedI (a :: r) = (0,0)) (ha:a = vwEvict):Calls Tryz.prog 16 #[.string (sb line)] w (ReP (formD (selR line) a r) w):=by
 obtain ⟨O,hO⟩ : ∃ O,O = formD (selR line) a r:=⟨_,rfl⟩;obtain ⟨g,hg⟩ : ∃ g,g = w.heap.size:=⟨_,rfl⟩;have hF:Tryz.f16.results = #[.cell 2 38,.tmp 3]:=rfl;have HF:=hIh hF;have Hg:=hIh hg;obtain ⟨w1,hw1⟩ : ∃ w1,w1 = w.alloc (.cells zeroCells 38):=⟨_,rfl⟩
 have H1:Hid (w1.heap[g]? = some (.cells zeroCells 38 (0,0)) ∧ Below w.heap.size w w1 ∧ w1.heap.size = g + 1):=by
  rw [hw1,hg];exact ⟨blk_new _ _,bel_alloc _ _,alloc_size _ _⟩
 have HW1:=hIh hw1;have hgs:w.heap.size = g:=hg.symm;have hsm:∀ t ∈ words line,t.length ≤ 1048576:=fun t ht=>Nat.le_trans (words_mem ht) hll
 have hln:(words line).length ≤ 1048577:=by have:=words_len line;omega
 have Hcut:Hid (Calls Tryz.prog 32 #[.string (sb line)] w1 fun e w' => ∃ A1 c1 A2 c2,e = .returned (.tuple #[.slice A1 (words line).length c1,.slice A2 (words line).length c2]) ∧ RdT w' (.slice A1 (words line).length c1) (words line) ∧ RdS atC 1 w' (.slice A2 (words line).length c2) ((cutW 0 line).map Prod.fst) ∧ Below w1.heap.size w1 w'):=by
  have:=rcut_calls w1 line hll;rw [cutW_len] at this;exact this
 obtain ⟨n,hn⟩ : ∃ n,n = (words line).length:=⟨_,rfl⟩;rw [← hO];rw [← hn] at Hcut hln
 have hnb:(n:Int) ≤ 1048577:=by omega
 have hn0:(0:Int) < n:=by rw [hn,hw];simp only [List.length_cons];omega
 have hnz:((n:Int) == 0) = false:=by simp;omega
 have hnz2:(n == 0) = false:=by simp;omega
 have Hn:=hIh hn;have Hw:=hIh hw;have Hsm:=hIh hsm;have Hln:=hIh hln;have Hll:=hIh hll;have HO:=hIh hO;obtain ⟨S,hS⟩ : ∃ S,S = sb line:=⟨_,rfl⟩;rw [← hS] at Hcut;rw [← hS];have HS:=hIh hS;clear hF hg hw1 hsm hln hn hw hll hO hS;go_enter Tryz.func16,Tryz.ntmps16;go_upto_region 1 with fail;show Code.wp _ _ _ _ (w.alloc (.cells zeroCells 38));rw [← HW1.out];go_wp2_with fail
 with_reducible refine Hcut.out.mono ?_
 rintro e X ⟨A1,c,A2,c2,rfl,h,hat,hb⟩;have H2:Hid (X.heap[g]? = some (.cells zeroCells 38 (0,0)) ∧ Below w.heap.size w X ∧ g + 1 ≤ X.heap.size):=⟨blk_below H1.out.1 hb,H1.out.2.1.trans (hb.mono H1.out.2.1.size),by have:=hb.size;have:=H1.out.2.2;omega⟩;have Hth:Hid (X.there g 0 zeroCells.size):=there_blk H2.out.1 (Nat.le_refl _);have Hth29:Hid (∀ (op:Nat) (p m:Str),X.there g 0 (nmCells op p m).size):=fun _ _ _=>Hth.out
 rw [Hn.out] at h hat
 obtain ⟨b,off,c',hv,hc,hb0,hcell⟩:=RdT.some h (by rw [Hw.out];simp)
 cases hv
 have H:=hIh h
 have Hat:=hIh hat
 rw [← Hn.out] at hc
 have hci:(n:Int) ≤ c:=by omega
 have Hcell:Hid (∀ i (hi:i < (words line).length),X.cell? ⟨b,off + i,none⟩ = some (.string (sb (words line)[i]))):=hcell;have Hb0:Hid (b < X.heap.size):=hb0
 have h0:X.cell? ⟨b,off,none⟩ = some (.string (sb a)):=by
  have h1:=hcell 0 (by rw [Hw.out];simp);rw [Nat.add_zero] at h1
  have h2:(words line)[0]'(by rw [Hw.out];simp) = a:=by simp [Hw.out]
  rw [h2] at h1;exact h1
 have Hnm:Hid (Calls Tryz.prog 33 #[.slice (some ⟨b,off,none⟩) n c] X fun e w'=>e = .returned (.tuple #[.int .i64 ((namedI (a :: r)).1:Int),.int .i64 ((namedI (a :: r)).2:Int)]) ∧ w' = X):=by
  have hl:=Hln.out;have:=rnamed_calls X (.slice (some ⟨b,off,none⟩) n c) a r (by rw [Hn.out,← Hw.out];exact h) (by rw [Hn.out,Hw.out] at hl;simp only [List.length_cons] at hl;omega);exact this
 have Hbg:Hid (b ≠ g):=not_zero H2.out.1 h0 (words_ne Hw.out);clear h hat hb hc hb0 hcell Hcut;rw [hI] at Hnm;subst ha;have q1:((sb vwEvict).toList == [115,121,110,99]) = false:=eqLF (by decide);have q2:((sb vwEvict).toList == [99,104,101,99,107,112,111,105,110,116]) = false:=eqLF (by decide);have q3:((sb vwEvict).toList == [115,116,97,116]) = false:=eqLF (by decide);have q4:((sb vwEvict).toList == [110,111,100,101,115]) = false:=eqLF (by decide);have q5:((sb vwEvict).toList == [110,111,100,101]) = false:=eqLF (by decide);have q6:((sb vwEvict).toList == [99,114,101,97,116,101]) = false:=eqLF (by decide);have q7:((sb vwEvict).toList == [117,112,100,97,116,101]) = false:=eqLF (by decide);have q8:((sb vwEvict).toList == [101,118,105,99,116]) = true:=eqLT rfl
 have HO2:Hid (O = objectD 16 r):=by show _ = _;rw [HO.out];rfl
 have Hc:Hid (Calls Tryz.prog 34 #[.int .i64 16,.slice (some ⟨b,off,none⟩) n c] X (ReP (objectD 16 r) X)):=by
  have hr:=H.out;have hs:=Hsm.out;have hl:=Hln.out;rw [Hn.out] at hl;rw [← Hn.out,Hw.out] at hr;rw [Hw.out] at hs hl;exact robject_calls X 16 (.slice (some ⟨b,off,none⟩) n c) vwEvict r hr hs hl
 generalize sb vwEvict = TA at h0 q1 q2 q3 q4 q5 q6 q7 q8;clear hI;go_wp2_with fail
 with_reducible refine Hnm.out.mono ?_
 rintro e X2 ⟨rfl,hx2⟩;obtain rfl:=hx2.symm;go_wp2_with fail
 with_reducible refine Hc.out.mono ?_
 rintro e Y ⟨cs,bb,rfl,hcs,hv,hb⟩;have Hcs:=hIh hcs;have Hres:Hid (Y.heap[g]? = some (.cells zeroCells 38 (0,0)) ∧ Below w.heap.size w Y):=⟨blk_below H2.out.1 hb,H2.out.2.1.trans (hb.mono H2.out.2.1.size)⟩;have Hth2:Hid (Y.there g 0 cs.size):=there_blk Hres.out.1 (by rw [hcs.1,zeroCells_size];omega)
 have Hsz:Hid ((Tryz.prog.info? 38).map (·.size) = some cs.size):=by show _ = _;rw [hcs.1];exact infoReq
 have Hv:Hid (ReB O g Y cs bb):=by
  rcases hv with ⟨h1,rq,h2,h3⟩ | ⟨h1,h2⟩
  ·exact .inl ⟨h1,rq,by rw [HO2.out];exact h2,h3.mono H2.out.2.2⟩
  ·exact .inr ⟨h1,by rw [HO2.out];exact h2⟩
 clear hv hb hcs;go_wp2_with ((with_reducible refine wpList_store_mid (op:=⟨none,.store 38 (.tmp 2) (.tmp 114),_,_,_,_⟩) ?_ 38 (.tmp 2) (.tmp 114) ?_ g 0 cs ?_ ?_ Hth2.out Hsz.out Hcs.out.2 ?_);exact rfl;exact rfl;exact rfl;exact rfl);exact re_any HF.out Hg.out Hres.out.1 zeroCells_size Hcs.out Hres.out.2 Hv.out rfl rfl
theorem rreq_List (w:World) (line:Str) (hll:line.length ≤ 1048576) (a:Str) (r:List Str) (hw:words line = a :: r) (hI:namedI (a :: r) = (0,0)) (ha:a = vwList):Calls Tryz.prog 16 #[.string (sb line)] w (ReP (formD (selR line) a r) w):=by
 obtain ⟨O,hO⟩ : ∃ O,O = formD (selR line) a r:=⟨_,rfl⟩;obtain ⟨g,hg⟩ : ∃ g,g = w.heap.size:=⟨_,rfl⟩;have hF:Tryz.f16.results = #[.cell 2 38,.tmp 3]:=rfl;have HF:=hIh hF;have Hg:=hIh hg;obtain ⟨w1,hw1⟩ : ∃ w1,w1 = w.alloc (.cells zeroCells 38):=⟨_,rfl⟩
 have H1:Hid (w1.heap[g]? = some (.cells zeroCells 38 (0,0)) ∧ Below w.heap.size w w1 ∧ w1.heap.size = g + 1):=by
  rw [hw1,hg];exact ⟨blk_new _ _,bel_alloc _ _,alloc_size _ _⟩
 have HW1:=hIh hw1;have hgs:w.heap.size = g:=hg.symm;have hsm:∀ t ∈ words line,t.length ≤ 1048576:=fun t ht=>Nat.le_trans (words_mem ht) hll
 have hln:(words line).length ≤ 1048577:=by have:=words_len line;omega
 have Hcut:Hid (Calls Tryz.prog 32 #[.string (sb line)] w1 fun e w' => ∃ A1 c1 A2 c2,e = .returned (.tuple #[.slice A1 (words line).length c1,.slice A2 (words line).length c2]) ∧ RdT w' (.slice A1 (words line).length c1) (words line) ∧ RdS atC 1 w' (.slice A2 (words line).length c2) ((cutW 0 line).map Prod.fst) ∧ Below w1.heap.size w1 w'):=by
  have:=rcut_calls w1 line hll;rw [cutW_len] at this;exact this
 obtain ⟨n,hn⟩ : ∃ n,n = (words line).length:=⟨_,rfl⟩;rw [← hO];rw [← hn] at Hcut hln
 have hnb:(n:Int) ≤ 1048577:=by omega
 have hn0:(0:Int) < n:=by rw [hn,hw];simp only [List.length_cons];omega
 have hnz:((n:Int) == 0) = false:=by simp;omega
 have hnz2:(n == 0) = false:=by simp;omega
 have Hn:=hIh hn;have Hw:=hIh hw;have Hsm:=hIh hsm;have Hln:=hIh hln;have Hll:=hIh hll;have HO:=hIh hO;obtain ⟨S,hS⟩ : ∃ S,S = sb line:=⟨_,rfl⟩;rw [← hS] at Hcut;rw [← hS];have HS:=hIh hS;clear hF hg hw1 hsm hln hn hw hll hO hS;go_enter Tryz.func16,Tryz.ntmps16;go_upto_region 1 with fail;show Code.wp _ _ _ _ (w.alloc (.cells zeroCells 38));rw [← HW1.out];go_wp2_with fail
 with_reducible refine Hcut.out.mono ?_
 rintro e X ⟨A1,c,A2,c2,rfl,h,hat,hb⟩;have H2:Hid (X.heap[g]? = some (.cells zeroCells 38 (0,0)) ∧ Below w.heap.size w X ∧ g + 1 ≤ X.heap.size):=⟨blk_below H1.out.1 hb,H1.out.2.1.trans (hb.mono H1.out.2.1.size),by have:=hb.size;have:=H1.out.2.2;omega⟩;have Hth:Hid (X.there g 0 zeroCells.size):=there_blk H2.out.1 (Nat.le_refl _);have Hth29:Hid (∀ (op:Nat) (p m:Str),X.there g 0 (nmCells op p m).size):=fun _ _ _=>Hth.out
 rw [Hn.out] at h hat
 obtain ⟨b,off,c',hv,hc,hb0,hcell⟩:=RdT.some h (by rw [Hw.out];simp)
 cases hv
 have H:=hIh h
 have Hat:=hIh hat
 rw [← Hn.out] at hc
 have hci:(n:Int) ≤ c:=by omega
 have Hcell:Hid (∀ i (hi:i < (words line).length),X.cell? ⟨b,off + i,none⟩ = some (.string (sb (words line)[i]))):=hcell;have Hb0:Hid (b < X.heap.size):=hb0
 have h0:X.cell? ⟨b,off,none⟩ = some (.string (sb a)):=by
  have h1:=hcell 0 (by rw [Hw.out];simp);rw [Nat.add_zero] at h1
  have h2:(words line)[0]'(by rw [Hw.out];simp) = a:=by simp [Hw.out]
  rw [h2] at h1;exact h1
 have Hnm:Hid (Calls Tryz.prog 33 #[.slice (some ⟨b,off,none⟩) n c] X fun e w'=>e = .returned (.tuple #[.int .i64 ((namedI (a :: r)).1:Int),.int .i64 ((namedI (a :: r)).2:Int)]) ∧ w' = X):=by
  have hl:=Hln.out;have:=rnamed_calls X (.slice (some ⟨b,off,none⟩) n c) a r (by rw [Hn.out,← Hw.out];exact h) (by rw [Hn.out,Hw.out] at hl;simp only [List.length_cons] at hl;omega);exact this
 have Hbg:Hid (b ≠ g):=not_zero H2.out.1 h0 (words_ne Hw.out);clear h hat hb hc hb0 hcell Hcut;rw [hI] at Hnm;subst ha;have q1:((sb vwList).toList == [115,121,110,99]) = false:=eqLF (by decide);have q2:((sb vwList).toList == [99,104,101,99,107,112,111,105,110,116]) = false:=eqLF (by decide);have q3:((sb vwList).toList == [115,116,97,116]) = false:=eqLF (by decide);have q4:((sb vwList).toList == [110,111,100,101,115]) = false:=eqLF (by decide);have q5:((sb vwList).toList == [110,111,100,101]) = false:=eqLF (by decide);have q6:((sb vwList).toList == [99,114,101,97,116,101]) = false:=eqLF (by decide);have q7:((sb vwList).toList == [117,112,100,97,116,101]) = false:=eqLF (by decide);have q8:((sb vwList).toList == [101,118,105,99,116]) = false:=eqLF (by decide);have q9:((sb vwList).toList == [108,105,115,116]) = true:=eqLT rfl
 have HO2:Hid (O = listD (fun k=>selParse termR (selText line ((words line).length - k))) r):=by show _ = _;rw [HO.out];rfl
 have Hc:Hid (Calls Tryz.prog 35 #[.string S,.slice (some ⟨b,off,none⟩) n c,.slice A2 n c2] X (ReP (listD (fun k=>selParse termR (selText line ((words line).length - k))) r) X)):=by
  have hr:=H.out;have ha:=Hat.out;rw [← Hn.out] at hr ha;rw [HS.out];exact rlist_calls X line (.slice (some ⟨b,off,none⟩) n c) (.slice A2 n c2) vwList r Hw.out hr ha Hll.out
 generalize sb vwList = TA at h0 q1 q2 q3 q4 q5 q6 q7 q8 q9;clear hI;go_wp2_with fail
 with_reducible refine Hnm.out.mono ?_
 rintro e X2 ⟨rfl,hx2⟩;obtain rfl:=hx2.symm;go_wp2_with fail
 with_reducible refine Hc.out.mono ?_
 rintro e Y ⟨cs,bb,rfl,hcs,hv,hb⟩;have Hcs:=hIh hcs;have Hres:Hid (Y.heap[g]? = some (.cells zeroCells 38 (0,0)) ∧ Below w.heap.size w Y):=⟨blk_below H2.out.1 hb,H2.out.2.1.trans (hb.mono H2.out.2.1.size)⟩;have Hth2:Hid (Y.there g 0 cs.size):=there_blk Hres.out.1 (by rw [hcs.1,zeroCells_size];omega)
 have Hsz:Hid ((Tryz.prog.info? 38).map (·.size) = some cs.size):=by show _ = _;rw [hcs.1];exact infoReq
 have Hv:Hid (ReB O g Y cs bb):=by
  rcases hv with ⟨h1,rq,h2,h3⟩ | ⟨h1,h2⟩
  ·exact .inl ⟨h1,rq,by rw [HO2.out];exact h2,h3.mono H2.out.2.2⟩
  ·exact .inr ⟨h1,by rw [HO2.out];exact h2⟩
 clear hv hb hcs;go_wp2_with ((with_reducible refine wpList_store_mid (op:=⟨none,.store 38 (.tmp 2) (.tmp 122),_,_,_,_⟩) ?_ 38 (.tmp 2) (.tmp 122) ?_ g 0 cs ?_ ?_ Hth2.out Hsz.out Hcs.out.2 ?_);exact rfl;exact rfl;exact rfl;exact rfl);exact re_any HF.out Hg.out Hres.out.1 zeroCells_size Hcs.out Hres.out.2 Hv.out rfl rfl
theorem form_rest (sel:Nat → Option (List Tm)) (a:Str) (r:List Str) (hI:namedI (a :: r) = (0,0)) (k1:a ≠ vwSync) (k2:a ≠ vwCheck) (k3:a ≠ vwStat) (k4:a ≠ vwNodes) (k5:a ≠ vwNode) (k6:a ≠ vwCreate) (k7:a ≠ vwUpdate) (k8:a ≠ vwEvict) (k9:a ≠ vwList):formD sel a r = restD a r:=by
 have g1:¬ a = wGet:=by rintro rfl;cases hI
 have g2:¬ a = wStatus:=by rintro rfl;cases hI
 have g3:¬ a = wUnbind:=by rintro rfl;cases hI
 by_cases q:a = wQuota
 ·subst q
  cases r with
  | nil=>rfl
  | cons t q=>
   have ht:¬ t = wDrop:=(by rintro rfl;cases hI);show quotaD (t :: q) = setD quSet (t :: q)
   by_cases hs:t = wSet
   ·subst hs
    rw [quotaD_set];simp [setD]
   ·simp [quotaD,setD,hs,ht]
 by_cases q2:a = wLimit
 ·subst q2
  cases r with
  | nil=>rfl
  | cons t q=>
   have ht:¬ t = wDrop:=(by rintro rfl;cases hI);show limitD (t :: q) = setD liSet (t :: q)
   by_cases hs:t = wSet
   ·subst hs
    rw [limitD_set];simp [setD]
   ·simp [limitD,setD,hs,ht]
 unfold formD restD;rw [if_neg (show ¬ a = [110,111,100,101] from k5),if_neg (show ¬ a = [113,117,111,116,97] from q),if_neg (show ¬ a = [108,105,109,105,116] from q2),if_neg (show ¬ a = [99,114,101,97,116,101] from k6),if_neg (show ¬ a = [117,112,100,97,116,101] from k7),if_neg (show ¬ a = [101,118,105,99,116] from k8),if_neg q,if_neg q2]
 by_cases q3:a = wDelete
 ·rw [if_pos (show a = [100,101,108,101,116,101] from q3),if_pos q3]
 rw [if_neg (show ¬ a = [100,101,108,101,116,101] from q3),if_neg q3,if_neg (show ¬ a = [103,101,116] from g1),if_neg (show ¬ a = [110,111,100,101,115] from k4),if_neg (show ¬ a = [108,105,115,116] from k9),if_neg (show ¬ a = [115,116,97,116,117,115] from g2)]
 by_cases q4:a = wWatch
 ·rw [if_pos (show a = [119,97,116,99,104] from q4),if_pos q4]
 rw [if_neg (show ¬ a = [119,97,116,99,104] from q4),if_neg q4]
 by_cases q5:a = wBind
 ·rw [if_pos (show a = [98,105,110,100] from q5),if_pos q5]
 rw [if_neg (show ¬ a = [98,105,110,100] from q5),if_neg q5,if_neg (show ¬ a = [117,110,98,105,110,100] from g3),if_neg (show ¬ a = [115,121,110,99] from k1),if_neg (show ¬ a = [99,104,101,99,107,112,111,105,110,116] from k2),if_neg (show ¬ a = [115,116,97,116] from k3)]
theorem rreq_Rest (w:World) (line:Str) (hll:line.length ≤ 1048576) (a:Str) (r:List Str) (hw:words line = a :: r) (hI:namedI (a :: r) = (0,0)) (k1:a ≠ vwSync) (k2:a ≠ vwCheck) (k3:a ≠ vwStat) (k4:a ≠ vwNodes) (k5:a ≠ vwNode) (k6:a ≠ vwCreate) (k7:a ≠ vwUpdate) (k8:a ≠ vwEvict) (k9:a ≠ vwList):Calls Tryz.prog 16 #[.string (sb line)] w (ReP (formD (selR line) a r) w):=by
 obtain ⟨O,hO⟩ : ∃ O,O = formD (selR line) a r:=⟨_,rfl⟩;obtain ⟨g,hg⟩ : ∃ g,g = w.heap.size:=⟨_,rfl⟩;have hF:Tryz.f16.results = #[.cell 2 38,.tmp 3]:=rfl;have HF:=hIh hF;have Hg:=hIh hg;obtain ⟨w1,hw1⟩ : ∃ w1,w1 = w.alloc (.cells zeroCells 38):=⟨_,rfl⟩
 have H1:Hid (w1.heap[g]? = some (.cells zeroCells 38 (0,0)) ∧ Below w.heap.size w w1 ∧ w1.heap.size = g + 1):=by
  rw [hw1,hg];exact ⟨blk_new _ _,bel_alloc _ _,alloc_size _ _⟩
 have HW1:=hIh hw1;have hgs:w.heap.size = g:=hg.symm;have hsm:∀ t ∈ words line,t.length ≤ 1048576:=fun t ht=>Nat.le_trans (words_mem ht) hll
 have hln:(words line).length ≤ 1048577:=by have:=words_len line;omega
 have Hcut:Hid (Calls Tryz.prog 32 #[.string (sb line)] w1 fun e w' => ∃ A1 c1 A2 c2,e = .returned (.tuple #[.slice A1 (words line).length c1,.slice A2 (words line).length c2]) ∧ RdT w' (.slice A1 (words line).length c1) (words line) ∧ RdS atC 1 w' (.slice A2 (words line).length c2) ((cutW 0 line).map Prod.fst) ∧ Below w1.heap.size w1 w'):=by
  have:=rcut_calls w1 line hll;rw [cutW_len] at this;exact this
 obtain ⟨n,hn⟩ : ∃ n,n = (words line).length:=⟨_,rfl⟩;rw [← hO];rw [← hn] at Hcut hln
 have hnb:(n:Int) ≤ 1048577:=by omega
 have hn0:(0:Int) < n:=by rw [hn,hw];simp only [List.length_cons];omega
 have hnz:((n:Int) == 0) = false:=by simp;omega
 have hnz2:(n == 0) = false:=by simp;omega
 have Hn:=hIh hn;have Hw:=hIh hw;have Hsm:=hIh hsm;have Hln:=hIh hln;have Hll:=hIh hll;have HO:=hIh hO;obtain ⟨S,hS⟩ : ∃ S,S = sb line:=⟨_,rfl⟩;rw [← hS] at Hcut;rw [← hS];have HS:=hIh hS;clear hF hg hw1 hsm hln hn hw hll hO hS;go_enter Tryz.func16,Tryz.ntmps16;go_upto_region 1 with fail;show Code.wp _ _ _ _ (w.alloc (.cells zeroCells 38));rw [← HW1.out];go_wp2_with fail
 with_reducible refine Hcut.out.mono ?_
 rintro e X ⟨A1,c,A2,c2,rfl,h,hat,hb⟩;have H2:Hid (X.heap[g]? = some (.cells zeroCells 38 (0,0)) ∧ Below w.heap.size w X ∧ g + 1 ≤ X.heap.size):=⟨blk_below H1.out.1 hb,H1.out.2.1.trans (hb.mono H1.out.2.1.size),by have:=hb.size;have:=H1.out.2.2;omega⟩;have Hth:Hid (X.there g 0 zeroCells.size):=there_blk H2.out.1 (Nat.le_refl _);have Hth29:Hid (∀ (op:Nat) (p m:Str),X.there g 0 (nmCells op p m).size):=fun _ _ _=>Hth.out
 rw [Hn.out] at h hat
 obtain ⟨b,off,c',hv,hc,hb0,hcell⟩:=RdT.some h (by rw [Hw.out];simp)
 cases hv
 have H:=hIh h
 have Hat:=hIh hat
 rw [← Hn.out] at hc
 have hci:(n:Int) ≤ c:=by omega
 have Hcell:Hid (∀ i (hi:i < (words line).length),X.cell? ⟨b,off + i,none⟩ = some (.string (sb (words line)[i]))):=hcell;have Hb0:Hid (b < X.heap.size):=hb0
 have h0:X.cell? ⟨b,off,none⟩ = some (.string (sb a)):=by
  have h1:=hcell 0 (by rw [Hw.out];simp);rw [Nat.add_zero] at h1
  have h2:(words line)[0]'(by rw [Hw.out];simp) = a:=by simp [Hw.out]
  rw [h2] at h1;exact h1
 have Hnm:Hid (Calls Tryz.prog 33 #[.slice (some ⟨b,off,none⟩) n c] X fun e w'=>e = .returned (.tuple #[.int .i64 ((namedI (a :: r)).1:Int),.int .i64 ((namedI (a :: r)).2:Int)]) ∧ w' = X):=by
  have hl:=Hln.out;have:=rnamed_calls X (.slice (some ⟨b,off,none⟩) n c) a r (by rw [Hn.out,← Hw.out];exact h) (by rw [Hn.out,Hw.out] at hl;simp only [List.length_cons] at hl;omega);exact this
 have Hbg:Hid (b ≠ g):=not_zero H2.out.1 h0 (words_ne Hw.out);clear h hat hb hc hb0 hcell Hcut;rw [hI] at Hnm;have q1:((sb a).toList == [115,121,110,99]) = false:=eqLF k1;have q2:((sb a).toList == [99,104,101,99,107,112,111,105,110,116]) = false:=eqLF k2;have q3:((sb a).toList == [115,116,97,116]) = false:=eqLF k3;have q4:((sb a).toList == [110,111,100,101,115]) = false:=eqLF k4;have q5:((sb a).toList == [110,111,100,101]) = false:=eqLF k5;have q6:((sb a).toList == [99,114,101,97,116,101]) = false:=eqLF k6;have q7:((sb a).toList == [117,112,100,97,116,101]) = false:=eqLF k7;have q8:((sb a).toList == [101,118,105,99,116]) = false:=eqLF k8;have q9:((sb a).toList == [108,105,115,116]) = false:=eqLF k9
 have HO2:Hid (O = restD a r):=by show _ = _;rw [HO.out];exact form_rest _ a r hI k1 k2 k3 k4 k5 k6 k7 k8 k9
 have Hc:Hid (Calls Tryz.prog 36 #[.slice (some ⟨b,off,none⟩) n c] X (ReP (restD a r) X)):=by
  have hr:=H.out;have hs:=Hsm.out;have hl:=Hln.out;rw [Hn.out] at hl;rw [← Hn.out,Hw.out] at hr;rw [Hw.out] at hs hl;exact rrest_calls X (.slice (some ⟨b,off,none⟩) n c) a r hr hs hl
 generalize sb a = TA at h0 q1 q2 q3 q4 q5 q6 q7 q8 q9;clear hI k1 k2 k3 k4 k5 k6 k7 k8 k9;go_wp2_with fail
 with_reducible refine Hnm.out.mono ?_
 rintro e X2 ⟨rfl,hx2⟩;obtain rfl:=hx2.symm;go_wp2_with fail
 with_reducible refine Hc.out.mono ?_
 rintro e Y ⟨cs,bb,rfl,hcs,hv,hb⟩;have Hcs:=hIh hcs;have Hres:Hid (Y.heap[g]? = some (.cells zeroCells 38 (0,0)) ∧ Below w.heap.size w Y):=⟨blk_below H2.out.1 hb,H2.out.2.1.trans (hb.mono H2.out.2.1.size)⟩;have Hth2:Hid (Y.there g 0 cs.size):=there_blk Hres.out.1 (by rw [hcs.1,zeroCells_size];omega)
 have Hsz:Hid ((Tryz.prog.info? 38).map (·.size) = some cs.size):=by show _ = _;rw [hcs.1];exact infoReq
 have Hv:Hid (ReB O g Y cs bb):=by
  rcases hv with ⟨h1,rq,h2,h3⟩ | ⟨h1,h2⟩
  ·exact .inl ⟨h1,rq,by rw [HO2.out];exact h2,h3.mono H2.out.2.2⟩
  ·exact .inr ⟨h1,by rw [HO2.out];exact h2⟩
 clear hv hb hcs;go_wp2_with ((with_reducible refine wpList_store_mid (op:=⟨none,.store 38 (.tmp 2) (.tmp 126),_,_,_,_⟩) ?_ 38 (.tmp 2) (.tmp 126) ?_ g 0 cs ?_ ?_ Hth2.out Hsz.out Hcs.out.2 ?_);exact rfl;exact rfl;exact rfl;exact rfl);exact re_any HF.out Hg.out Hres.out.1 zeroCells_size Hcs.out Hres.out.2 Hv.out rfl rfl
theorem rreq_none (w:World) (line:Str) (hll:line.length ≤ 1048576) (hw:words line = []):Calls Tryz.prog 16 #[.string (sb line)] w (ReP none w):=by
 obtain ⟨g,hg⟩ : ∃ g,g = w.heap.size:=⟨_,rfl⟩;have hF:Tryz.f16.results = #[.cell 2 38,.tmp 3]:=rfl;have HF:=hIh hF;have Hg:=hIh hg;obtain ⟨w1,hw1⟩ : ∃ w1,w1 = w.alloc (.cells zeroCells 38):=⟨_,rfl⟩
 have H1:Hid (w1.heap[g]? = some (.cells zeroCells 38 (0,0)) ∧ Below w.heap.size w w1):=by
  rw [hw1,hg];exact ⟨blk_new _ _,bel_alloc _ _⟩
 have HW1:=hIh hw1;have hgs:w.heap.size = g:=hg.symm
 have Hcut:Hid (Calls Tryz.prog 32 #[.string (sb line)] w1 fun e w' => ∃ A1 c1 A2 c2,e = .returned (.tuple #[.slice A1 0 c1,.slice A2 0 c2]) ∧ Below w1.heap.size w1 w'):=by
  refine (rcut_calls w1 line hll).mono ?_;rintro e w' ⟨A1,c1,A2,c2,rfl, -, -,hb⟩;rw [cutW_len,hw];exact ⟨A1,c1,A2,c2,rfl,hb⟩
 generalize sb line = S at Hcut;clear hF hg hw1 hll hw;go_enter Tryz.func16,Tryz.ntmps16;go_upto_region 1 with fail;show Code.wp _ _ _ _ (w.alloc (.cells zeroCells 38));rw [← HW1.out];go_wp2_with fail
 with_reducible refine Hcut.out.mono ?_
 rintro e X ⟨A1,c,A2,c2,rfl,hb⟩;have H2:Hid (X.heap[g]? = some (.cells zeroCells 38 (0,0)) ∧ Below w.heap.size w X):=⟨blk_below H1.out.1 hb,H1.out.2.trans (hb.mono H1.out.2.size)⟩;have Hth:Hid (X.there g 0 zeroCells.size):=there_blk H2.out.1 (Nat.le_refl _);clear hb;go_wp2_with ((with_reducible refine wpList_store_mid (op:=⟨none,.store 38 (.tmp 2) (.tmp 18),_,_,_,_⟩) ?_ 38 (.tmp 2) (.tmp 18) ?_ g 0 zeroCells ?_ ?_ Hth.out infoZ zero_one ?_);exact rfl;exact rfl;exact rfl;exact rfl);exact re_no HF.out Hg.out H2.out.1 zeroCells_size H2.out.2 rfl rfl rfl
theorem rrequest_calls (w:World) (line:Str) (hll:line.length ≤ 1048576):Calls Tryz.prog 16 #[.string (sb line)] w (ReP (requestD (selParse termR) line) w):=by
 cases hw:words line with
 | nil=>
  have e:requestD (selParse termR) line = none:=by unfold requestD;rw [hw]
  rw [e];exact rreq_none w line hll hw
 | cons a r=>
  have e:requestD (selParse termR) line = formD (selR line) a r:=by
   unfold requestD;rw [hw];show formD _ a r = formD _ a r;unfold selR;rw [hw]
  rw [e];rcases namedI_ways (selR line) a r with hI | ⟨op,i,hI,h1,h2,h3,h4⟩
  case inr=>exact rreq_named w line hll a r hw op i hI h1 h2 h3 h4
  by_cases k1:a = vwSync
  ·exact rreq_Sync w line hll a r hw hI k1
  by_cases k2:a = vwCheck
  ·exact rreq_Check w line hll a r hw hI k2
  by_cases k3:a = vwStat
  ·exact rreq_Stat w line hll a r hw hI k3
  by_cases k4:a = vwNodes
  ·exact rreq_Nodes w line hll a r hw hI k4
  by_cases k5:a = vwNode
  ·exact rreq_Node w line hll a r hw hI k5
  by_cases k6:a = vwCreate
  ·exact rreq_Create w line hll a r hw hI k6
  by_cases k7:a = vwUpdate
  ·exact rreq_Update w line hll a r hw hI k7
  by_cases k8:a = vwEvict
  ·exact rreq_Evict w line hll a r hw hI k8
  by_cases k9:a = vwList
  ·exact rreq_List w line hll a r hw hI k9
  exact rreq_Rest w line hll a r hw hI k1 k2 k3 k4 k5 k6 k7 k8 k9
end
end Go.Proofs.YtpfkkagkbneilaaGreatDoor
