/- Texts L6, M1 of the proof of BursarChecks, joined. -/
import Derived.Test.YtpfkkagkbneilaaGreatDoorV16
import Derived.Test.YtpfkkagkbneilaaGreatDoorV17
import Derived.Deep.WholeRow
namespace Go.Proofs.YtpfkkagkbneilaaGreatDoor
open Go.RowKit
set_option linter.unusedVariables false
set_option linter.unusedSimpArgs false
set_option maxRecDepth 100000
set_option maxHeartbeats 25600000
section
def ReP (o:Option ReqD) (w:World) (e:Ending) (w' : World):Prop := ∃ cs b,e = .returned (.tuple #[.agg cs,.bool b]) ∧ (cs.size = 29 ∧ cs.all (·.oneCell') = true) ∧ ((b = true ∧ ∃ rq,o = some rq ∧ ReqV w.heap.size w' cs rq) ∨ (b = false ∧ o = none)) ∧ Below w.heap.size w w'
theorem resultsR {F:Func} {i j:Tmp} (hF:F.results = #[.cell i 38,.tmp j]) {tmps:Array Value} {w:World} {g:Nat} {cs:Array Value} {b:Bool} (h2:tmps.getD i undef = .pointer (some ⟨g,0,none⟩)) (h3:tmps.getD j undef = .bool b) (hq:w.heap[g]? = some (.cells cs 38 (0,0))) (hs:cs.size = 29) :
  (results F tmps).run Tryz.prog w = .ok (.tuple #[.agg cs,.bool b]) w:=by
 have h2' : tmps[i]?.getD undef = .pointer (some ⟨g,0,none⟩):=by simpa using h2
 have h3' : tmps[j]?.getD undef = .bool b:=by simpa using h3
 have hl:=run_loadVar_row (P:=Tryz.prog) w g 38 38 cs (0,0) _ hq reqU rfl (by rw [hs];exact infoReq);simp [results,hF,h2',h3',asAddr,hl,Result.andThen]
def ReB (o:Option ReqD) (g:Nat) (W:World) (cs:Array Value) (b:Bool):Prop:=(b = true ∧ ∃ rq,o = some rq ∧ ReqV (g + 1) W cs rq) ∨ (b = false ∧ o = none)
theorem re_any {F:Func} {i j:Tmp} (hF:F.results = #[.cell i 38,.tmp j]) {tmps:Array Value} {o:Option ReqD} {w W:World} {g:Nat} {C cs:Array Value} {b:Bool} (hg:g = w.heap.size) (hq:W.heap[g]? = some (.cells C 38 (0,0))) (hC:C.size = 29) (hs:cs.size = 29 ∧ cs.all (·.oneCell') = true) (hb:Below w.heap.size w W)
  (hv:(b = true ∧ ∃ rq,o = some rq ∧ ReqV (g + 1) W cs rq) ∨ (b = false ∧ o = none)) (h2:tmps.getD i undef = .pointer (some ⟨g,0,none⟩)) (h3:tmps.getD j undef = .bool b) :
  bodyPost Tryz.prog F (ReP o w) Exit.ret { tmps:=tmps,defers := [] } (W.setCells g 0 cs.toList):=by
 obtain ⟨s1,f1⟩:=req_store hq hC hs.1;refine bodyPost_ret (resultsR hF h2 h3 s1 hs.1) rfl ⟨cs,b,rfl,hs,?_,hb.trans (f1.to_below (fun k hk=>by omega) hb.size)⟩;rcases hv with ⟨h,rq,h4,h5⟩ | h
 ·exact .inl ⟨h,rq,h4,(h5.fr f1 (fun k h6 h7=>by omega)).mono (by omega)⟩
 ·exact .inr h
theorem re_no {F:Func} {i j:Tmp} (hF:F.results = #[.cell i 38,.tmp j]) {tmps:Array Value} {o:Option ReqD} {w W:World} {g:Nat} {C:Array Value} (hg:g = w.heap.size) (hq:W.heap[g]? = some (.cells C 38 (0,0))) (hC:C.size = 29) (hb:Below w.heap.size w W) (hv:o = none) (h2:tmps.getD i undef = .pointer (some ⟨g,0,none⟩)) (h3:tmps.getD j undef = .bool false) :
  bodyPost Tryz.prog F (ReP o w) Exit.ret { tmps:=tmps,defers := [] } (W.setCells g 0 zeroCells.toList):=re_any hF hg hq hC ⟨zeroCells_size,zero_one⟩ hb (.inr ⟨rfl,hv⟩) h2 h3
def aggC:Value → Array Value
 | .agg cs=>cs
 | _ => #[]
theorem aggC_agg (cs:Array Value):aggC (.agg cs) = cs:=rfl
def allOne:List Value → Bool
 | []=>true
 | v :: r=>v.oneCell' && allOne r
theorem allOne_cons (v:Value) (r:List Value):allOne (v :: r) = (v.oneCell' && allOne r):=rfl
theorem allOne_nil:allOne [] = true:=rfl
theorem allOne_all:∀ l:List Value,allOne l = l.all (·.oneCell')
 | []=>rfl
 | v :: r=>by rw [allOne_cons,allOne_all r];rfl
theorem oneI (k:IntKind) (i:Int):(Value.int k i).oneCell' = true:=rfl
theorem oneS (s:ByteArray):(Value.string s).oneCell' = true:=rfl
theorem oneL (a:Option Addr) (n c:Nat):(Value.slice a n c).oneCell' = true:=rfl
theorem oneB (b:Bool):(Value.bool b).oneCell' = true:=rfl
theorem wp_store_req {i j:Tmp} {ty:TypeId} {pos:String} {after:Array Edge} {a:Act} {w:World} {z:Array Value} {K:Act → World → Prop} {Q:Exit → Act → World → Prop} (hi:a.eval (.tmp i) = .pointer (some ⟨w.heap.size,0,none⟩)) (hj:a.eval (.tmp j) = .agg (aggC (a.eval (.tmp j)))) (hz:z.size = 29) (hs:(aggC (a.eval (.tmp j))).size = 29) (h1:allOne (aggC (a.eval (.tmp j))).toList = true) :
  Oper.wp Tryz.prog ⟨none,.store 38 (.tmp i) (.tmp j),ty,pos,after,none⟩ a ((w.alloc (.cells z 38)).drew) K Q = K (a.put none undef) ((w.alloc (.cells (aggC (a.eval (.tmp j))) 38)).drew):=by
 generalize aggC (a.eval (.tmp j)) = cs at hj hs h1;rw [allOne_all,Array.all_toList] at h1
 have hst:(storeVar 38 ⟨w.heap.size,0,none⟩ (.agg cs)).run Tryz.prog ((w.alloc (.cells z 38)).drew) = .ok () ((w.alloc (.cells cs 38)).drew):=by
  rw [run_storeVar_row (P:=Tryz.prog) ((w.alloc (.cells z 38)).drew) w.heap.size 38 38 z cs (heap_alloc_last w _) (by rw [hs];exact infoReq) (by omega) h1];exact congrArg (fun W=>Result.ok () (World.drew W)) (World.setRow_alloc_new w z cs 38)
 unfold Oper.wp execOp;simp only [hi,hj,Instr.storeAt,Instr.sureAddr,Sem.run_bind,Sem.run_pure,Result.andThen_ok,hst]
 rfl
attribute [local go_sem ↓] wp_store_req
attribute [local go_sem] allOne_cons allOne_nil aggC_agg oneI oneS oneL oneB
def ptrB:Value → Nat
 | .pointer (some p)=>p.block
 | _=>0
def ptrO:Value → Nat
 | .pointer (some p)=>p.off
 | _=>0
theorem ptrB_at (b o:Nat) (x:Option Nat):ptrB (.pointer (some ⟨b,o,x⟩)) = b:=rfl
theorem ptrO_at (b o:Nat) (x:Option Nat):ptrO (.pointer (some ⟨b,o,x⟩)) = o:=rfl
theorem wp_store_any (t:TypeId) (n:Nat) (hinf:(Tryz.prog.info? t).map (·.size) = some n) {i j:Tmp} {ty:TypeId} {pos:String} {after:Array Edge} {a:Act} {w:World} {K:Act → World → Prop} {Q:Exit → Act → World → Prop} (hi:a.eval (.tmp i) = .pointer (some ⟨ptrB (a.eval (.tmp i)),ptrO (a.eval (.tmp i)),none⟩)) (hj:a.eval (.tmp j) = .agg (aggC (a.eval (.tmp j)))) (hs:(aggC (a.eval (.tmp j))).size = n) (h1:allOne (aggC (a.eval (.tmp j))).toList = true) (ht:w.there (ptrB (a.eval (.tmp i))) (ptrO (a.eval (.tmp i))) n) :
  Oper.wp Tryz.prog ⟨none,.store t (.tmp i) (.tmp j),ty,pos,after,none⟩ a w K Q = K (a.put none undef) (w.setCells (ptrB (a.eval (.tmp i))) (ptrO (a.eval (.tmp i))) (aggC (a.eval (.tmp j))).toList):=by
 generalize aggC (a.eval (.tmp j)) = cs at hj hs h1;generalize ptrB (a.eval (.tmp i)) = b at hi ht;generalize ptrO (a.eval (.tmp i)) = o at hi ht;rw [allOne_all,Array.all_toList] at h1;subst hs;unfold Oper.wp execOp;simp only [hi,hj,Instr.storeAt,Instr.sureAddr,Sem.run_bind,Sem.run_pure,Result.andThen_ok,run_storeVar_mid w b o t cs ht hinf h1]
 rfl
theorem infoQuo:(Tryz.prog.info? 30).map (·.size) = some 5:=by kernel_rfl
theorem infoLim:(Tryz.prog.info? 33).map (·.size) = some 3:=by kernel_rfl
theorem infoObj:(Tryz.prog.info? 25).map (·.size) = some 7:=by kernel_rfl
theorem wp_store_quo {i j:Tmp} {ty:TypeId} {pos:String} {after:Array Edge} {a:Act} {w:World} {K:Act → World → Prop} {Q:Exit → Act → World → Prop} (hi:a.eval (.tmp i) = .pointer (some ⟨ptrB (a.eval (.tmp i)),ptrO (a.eval (.tmp i)),none⟩)) (hj:a.eval (.tmp j) = .agg (aggC (a.eval (.tmp j)))) (hs:(aggC (a.eval (.tmp j))).size = 5) (h1:allOne (aggC (a.eval (.tmp j))).toList = true) (ht:w.there (ptrB (a.eval (.tmp i))) (ptrO (a.eval (.tmp i))) 5) :
  Oper.wp Tryz.prog ⟨none,.store 30 (.tmp i) (.tmp j),ty,pos,after,none⟩ a w K Q = K (a.put none undef) (w.setCells (ptrB (a.eval (.tmp i))) (ptrO (a.eval (.tmp i))) (aggC (a.eval (.tmp j))).toList):=wp_store_any _ 5 infoQuo hi hj hs h1 ht
theorem wp_store_lim {i j:Tmp} {ty:TypeId} {pos:String} {after:Array Edge} {a:Act} {w:World} {K:Act → World → Prop} {Q:Exit → Act → World → Prop} (hi:a.eval (.tmp i) = .pointer (some ⟨ptrB (a.eval (.tmp i)),ptrO (a.eval (.tmp i)),none⟩)) (hj:a.eval (.tmp j) = .agg (aggC (a.eval (.tmp j)))) (hs:(aggC (a.eval (.tmp j))).size = 3) (h1:allOne (aggC (a.eval (.tmp j))).toList = true) (ht:w.there (ptrB (a.eval (.tmp i))) (ptrO (a.eval (.tmp i))) 3) :
  Oper.wp Tryz.prog ⟨none,.store 33 (.tmp i) (.tmp j),ty,pos,after,none⟩ a w K Q = K (a.put none undef) (w.setCells (ptrB (a.eval (.tmp i))) (ptrO (a.eval (.tmp i))) (aggC (a.eval (.tmp j))).toList):=wp_store_any _ 3 infoLim hi hj hs h1 ht
theorem cell_setCells_far {w:World} {g o b i:Nat} {vs:List Value} (h:b ≠ g):(w.setCells g o vs).cell? ⟨b,i,none⟩ = w.cell? ⟨b,i,none⟩:=by
 induction vs generalizing w o with
 | nil=>rfl
 | cons v r ih=>rw [show w.setCells g o (v :: r) = (w.setCell ⟨g,o,none⟩ v).setCells g (o + 1) r from rfl,ih];exact cell_far w o v (.inl h)
theorem there_mid {w:World} {g:Nat} {C:Array Value} {t:TypeId} (h:w.heap[g]? = some (.cells C t (0,0))) {o n:Nat} (hn:o + n ≤ C.size):w.there g o n:=fun j hj=>by
 obtain ⟨h1,h2⟩:=cellsN (i:=o + j) h (by omega);exact ⟨by rw [h1];rfl,h2⟩
theorem there_drew {w:World} {g o n:Nat} (h:w.there g o n):w.drew.there g o n:=h
theorem bcell {w w' : World} (h:Below w.heap.size w w') {a:Addr} {v:Value} (hc:w.cell? a = some v):w'.cell? a = some v:=by
 rw [h.cell (World.block_lt_of_cell? w a hc)];exact hc
theorem cells2' {w:World} {g:Nat} {x y:Value} {t:TypeId} (h:w.heap[g]? = some (.cells #[x,y] t (0,0))):w.cell? ⟨g,0,none⟩ = some x ∧ w.cell? ⟨g,1,none⟩ = some y:=⟨(cellsN (i:=0) h (by simp)).1,(cellsN (i:=1) h (by simp)).1⟩
theorem quR_cells (p m:Str) (k a:Nat) (v:Value):setAll (reqCells { ReqD.zero with op:=3,path:=p,name:=m } (.slice none 0 0) (.slice none 0 0) (.slice none 0 0) (.slice none 0 0) (.slice none 0 0)) 11 [.string (sb p),.string (sb m),.int .i64 (k:Int),.int .i64 (a:Int),v] = reqCells { ReqD.zero with op:=3,path:=p,name:=m,quo:=⟨p,m,k,a, []⟩ } (.slice none 0 0) (.slice none 0 0) v (.slice none 0 0) (.slice none 0 0):=by
 simp only [setAll,reqCells,List.setIfInBounds_toArray,List.set_cons_zero,List.set_cons_succ]
attribute [local go_sem ↓] wp_store_quo
attribute [local go_sem] ptrB_at ptrO_at
theorem rquotaSet_calls (w:World) (v:Value) (a:Str) (r:List Str) (h:RdT w v (a :: wSet :: r)) (hsm:∀ t ∈ a :: wSet :: r,t.length ≤ 1048576) (hln:(a :: wSet :: r).length ≤ 1048577):Calls Tryz.prog 71 #[v] w (ReP (quSet r) w):=by
 obtain ⟨b,off,c,rfl,hc,hb0,hcell⟩:=RdT.some h (by simp);obtain ⟨n,hn⟩ : ∃ n,n = (a :: wSet :: r).length:=⟨_,rfl⟩;obtain ⟨O,hO⟩ : ∃ O,O = quSet r:=⟨_,rfl⟩;obtain ⟨g,hg⟩ : ∃ g,g = w.heap.size:=⟨_,rfl⟩;have hF:Tryz.f71.results = #[.cell 2 38,.tmp 3]:=rfl;have HF:=hIh hF;have Hg:=hIh hg
 have H1:Hid ((w.alloc (.cells zeroCells 38)).heap[g]? = some (.cells zeroCells 38 (0,0)) ∧ Below w.heap.size w (w.alloc (.cells zeroCells 38))):=by
  rw [hg];exact ⟨blk_new _ _,bel_alloc _ _⟩
 have Hth1:Hid ((w.alloc (.cells zeroCells 38)).there g 0 zeroCells.size):=there_blk H1.out.1 (Nat.le_refl _);have hgs:w.heap.size = g:=hg.symm;rw [← hO,← hn];rw [← hn] at hc
 have hci:(n:Int) ≤ c:=by omega
 have hnb:(n:Int) ≤ 1048577:=by omega
 by_cases h5:n < 5
 ·have Hno:Hid (O = none):=by
   show _ = _;rw [hO]
   match r,hn with
   | [],_=>rfl
   | [p],_=>rfl
   | [p,m],_=>rfl
   | p :: m :: s :: r,hn=>simp at hn;omega
  have hd:decide ((n:Int) < 5) = true:=decide_eq_true (by omega)
  have hd2:(n:Int) < 5:=by omega
  clear hO h hsm hln hcell hF hg h5 hn;go_enter Tryz.func71,Tryz.ntmps71;go_wp2_with (refine wpList_store_mid (op:=⟨none,.store 38 (.tmp 2) (.tmp 13),_,_,_,_⟩) rfl 38 (.tmp 2) (.tmp 13) rfl g 0 zeroCells rfl rfl Hth1.out infoReq zero_one ?_);exact re_no HF.out Hg.out H1.out.1 zeroCells_size H1.out.2 Hno.out rfl rfl
 obtain ⟨p,m,s,r,rfl⟩ : ∃ p m s q,r = p :: m :: s :: q:=by
  match r,hn with
  | [],hn=>simp at hn;omega
  | [p],hn=>simp at hn;omega
  | [p,m],hn=>simp at hn;omega
  | p :: m :: s :: q,hn=>exact ⟨p,m,s,q,rfl⟩
 have hd:decide ((n:Int) < 5) = false:=decide_eq_false (by omega)
 have hd2:¬ (n:Int) < 5:=by omega
 have hn2:(2:Int) < n:=by omega
 have hn3:(3:Int) < n:=by omega
 have hn4:(4:Int) < n:=by omega
 have Hc2:Hid (w.cell? ⟨b,off + 2,none⟩ = some (.string (sb p)) ∧ w.cell? ⟨b,off + 3,none⟩ = some (.string (sb m))):=⟨hcell 2 (by simp),hcell 3 (by simp)⟩;have h4:w.cell? ⟨b,off + 4,none⟩ = some (.string (sb s)):=hcell 4 (by simp);have hc4:∀ o,(w.alloc o).cell? ⟨b,off + 4,none⟩ = some (.string (sb s)):=fun o=>(World.cell?_alloc_lt w _ _ hb0).trans h4;have Hb0:Hid (b < w.heap.size):=hb0;have Hsc:Hid (∀ W,Calls Tryz.prog 110 #[.string (sb s)] W fun e w' => ∃ k a ec:Int,e = .returned (.tuple #[.agg #[.int .i64 k,.int .i64 a],.int .i64 ec]) ∧ SRes (scopeS s) k a ec ∧ Below W.heap.size W w'):=fun W=>rscparse_calls W s
 have Ham:Hid (∀ W,Below w.heap.size w W → Calls Tryz.prog 68 #[.slice (some ⟨b,off,none⟩) n c,.int .i64 5] W (RamP (a :: wSet :: p :: m :: s :: r) (amountsS r) W)):=fun W hb=>by
  have:=ramounts_calls W _ _ (RdS.below h hb) hsm hln 5 (by simp);rw [hn];exact this
 have Hn:=hIh hn;have HO:Hid (O = (scopeS s).bind fun sc=>(amountsS r).bind fun x=>ended { ReqD.zero with op:=3,path:=p,name:=m,quo:=⟨p,m,sc.1,sc.2,x.1⟩ } x.2):=hO;generalize sb s = T at h4 hc4 Hsc;clear h hsm hln hcell hF hg hO hb0 h5 hc hn h4;go_enter Tryz.func71,Tryz.ntmps71;go_wp2_with fail
 with_reducible refine (Hsc.out _).mono ?_
 rintro e w2 ⟨k,ar,ec,rfl,hsr,hw2⟩;have H2:Hid (Below w.heap.size w w2 ∧ w2.heap[g]? = some (.cells zeroCells 38 (0,0))):=⟨H1.out.2.trans (hw2.mono H1.out.2.size),blk_below H1.out.1 hw2⟩;obtain ⟨g2,hg2⟩ : ∃ g2,g2 = w2.heap.size:=⟨_,rfl⟩;have hgs2:w2.heap.size = g2:=hg2.symm;have Hg2:=hIh hg2
 have H3:Hid (∀ o,Below w.heap.size w (w2.alloc o) ∧ (w2.alloc o).heap[g]? = some (.cells zeroCells 38 (0,0)) ∧ (w2.alloc o).there g 0 zeroCells.size):=fun o=>
  ⟨H2.out.1.alloc H2.out.1.size _,blk_below H2.out.2 (bel_alloc _ _),there_blk (blk_below H2.out.2 (bel_alloc _ _)) (Nat.le_refl _)⟩
 clear hw2 hg2;rcases hsr with ⟨sc,hsc,rfl,rfl,rfl⟩ | ⟨hsc,hec⟩
 case inr=>
  have hb1:(ec != 0) = true:=by simpa using hec
  have Hno:Hid (O = none):=by show _ = _;rw [HO.out,hsc];rfl
  clear hec hsc;go_wp2_with (refine wpList_store_mid (op:=⟨none,.store 38 (.tmp 2) (.tmp 23),_,_,_,_⟩) rfl 38 (.tmp 2) (.tmp 23) rfl g 0 zeroCells rfl rfl (H3.out _).2.2 infoReq zero_one ?_);exact re_no HF.out Hg.out (H3.out _).2.1 zeroCells_size (H3.out _).1 Hno.out rfl rfl
 case inl=>
  have Ham2:Hid (∀ o,Calls Tryz.prog 68 #[.slice (some ⟨b,off,none⟩) n c,.int .i64 5] (w2.alloc o) (RamP (a :: wSet :: p :: m :: s :: r) (amountsS r) (w2.alloc o))):=fun o=>Ham.out _ (H3.out o).1;clear hc4 hd hd2 hn4;go_wp2_with fail
  with_reducible refine (Ham2.out _).mono ?_
  rintro e w4 ⟨A,na,ca,j,ok,rfl,hj,hra,hw4⟩
  have hsco:w4.heap[g2]? = some (.cells #[.int .i64 (sc.1:Int),.int .i64 (sc.2:Int)] 27 (0,0)):=by
   rw [Hg2.out];exact blk_below (blk_new w2 _) hw4
  have H4:Hid (Below w.heap.size w w4 ∧ w4.heap[g]? = some (.cells zeroCells 38 (0,0)) ∧ w4.heap[g2]? = some (.cells #[.int .i64 (sc.1:Int),.int .i64 (sc.2:Int)] 27 (0,0))):=
   ⟨(H3.out _).1.trans (hw4.mono (H3.out _).1.size),blk_below (H3.out _).2.1 hw4,hsco⟩
  have Hra:Hid ((ok = true ∧ ∃ x,amountsS r = some x ∧ x.2 = (a :: wSet :: p :: m :: s :: r).drop j ∧ na = x.1.length ∧ RdS amtC 2 w4 (.slice A na ca) x.1 ∧ ∀ k,(Value.slice A na ca).ownBlock = some k → g < k) ∨ (ok = false ∧ amountsS r = none)):=by
   rcases hra with ⟨h1,x,h2,h3,h4,h5,h6⟩ | h
   ·exact .inl ⟨h1,x,h2,h3,h4,h5,fun k hk=>by have:=h6 k hk;have:=(H3.out (.cells #[] 0)).1.size;simp only [alloc_size] at *;have:=blk_lt H2.out.2;omega⟩
   ·exact .inr h
  obtain ⟨s0,s1⟩:=cells2' hsco;have y2:=bcell H4.out.1 Hc2.out.1;have y3:=bcell H4.out.1 Hc2.out.2;have Hj:=hIh hj
  have HbN:Hid (b < w4.heap.size):=by have:=Hb0.out;have:=H4.out.1.size;show _ < _;omega
  clear hw4 hra hj hsco Ham Ham2 H3 Hsc Hth1 H1 H2;obtain ⟨g3,hg3⟩ : ∃ g3,g3 = w4.heap.size:=⟨_,rfl⟩;have hgs3:w4.heap.size = g3:=hg3.symm;have Hg3:=hIh hg3;obtain ⟨W5,hW5⟩ : ∃ W5,W5 = (w4.alloc (.cells #[.int .i64 3,.string ⟨#[]⟩,.string (sb p),.string (sb m),.string ⟨#[]⟩,.string ⟨#[]⟩,.slice none 0 0,.int .i64 0,.int .i64 0,.slice none 0 0,.int .i64 0,.string ⟨#[]⟩,.string ⟨#[]⟩,.int .i64 0,.int .i64 0,.slice none 0 0,.string ⟨#[]⟩,.string ⟨#[]⟩,.slice none 0 0,.string ⟨#[]⟩,.string ⟨#[]⟩,.string ⟨#[]⟩,.int .i64 0,.slice none 0 0,.int .i64 0,.int .i64 0,.string ⟨#[]⟩,.bool false,.bool false] 38)).drew:=⟨_,rfl⟩
  have hb5:W5.heap[g3]? = some (.cells (reqCells { ReqD.zero with op:=3,path:=p,name:=m } (.slice none 0 0) (.slice none 0 0) (.slice none 0 0) (.slice none 0 0) (.slice none 0 0)) 38 (0,0)):=by rw [hW5,hg3];exact blk_new w4 _
  have hbel5:Below w4.heap.size w4 W5:=by rw [hW5];exact (bel_alloc _ _).drew
  have Hb5:=hIh hb5;have Hbel5:=hIh hbel5;have HW5:=hIh hW5;have Hlt3:Hid (g < g3 ∧ g2 < g3 ∧ b < g3):=⟨by rw [hg3];exact blk_lt H4.out.2.1,by rw [hg3];exact blk_lt H4.out.2.2,by rw [hg3];exact HbN.out⟩;clear hg3 hb5 hbel5 hW5;go_wp2;go_region_held3 (fun W=>W.cell? ⟨b,off + 2,none⟩ = some (.string (sb p)) ∧ W.cell? ⟨b,off + 3,none⟩ = some (.string (sb m))) (first | exact ⟨y2,y3⟩ | exact ⟨(drew_cell _ _).trans ((World.cell?_alloc_lt w4 _ _ HbN.out).trans y2),(drew_cell _ _).trans ((World.cell?_alloc_lt w4 _ _ HbN.out).trans y3)⟩) (fail);rw [← HW5.out];have z2:=bcell Hbel5.out y2;have z3:=bcell Hbel5.out y3;have z4:=bcell Hbel5.out s0;have z5:=bcell Hbel5.out s1;have hth5:W5.drew.there g3 11 5:=there_drew (there_mid Hb5.out (by rw [reqCells_size];omega));have HZ:Hid (W5.drew.cell? ⟨b,off + 2,none⟩ = some (.string (sb p)) ∧ W5.drew.cell? ⟨b,off + 3,none⟩ = some (.string (sb m)) ∧ W5.drew.cell? ⟨g2,0,none⟩ = some (.int .i64 (sc.1:Int)) ∧ W5.drew.cell? ⟨g2,1,none⟩ = some (.int .i64 (sc.2:Int))):=⟨z2,z3,z4,z5⟩
  have HS5:Hid (∀ l:List Value,(W5.drew.setCells g3 11 l).cell? ⟨b,off + 2,none⟩ = some (.string (sb p)) ∧ (W5.drew.setCells g3 11 l).cell? ⟨b,off + 3,none⟩ = some (.string (sb m)) ∧ (W5.drew.setCells g3 11 l).cell? ⟨g2,0,none⟩ = some (.int .i64 (sc.1:Int)) ∧ (W5.drew.setCells g3 11 l).cell? ⟨g2,1,none⟩ = some (.int .i64 (sc.2:Int))):=fun l=>by
   obtain ⟨k1,k2,k3⟩:=Hlt3.out;refine ⟨?_,?_,?_,?_⟩ <;> rw [cell_setCells_far (by omega)]
   ·exact z2
   ·exact z3
   ·exact z4
   ·exact z5
  have HZ5:Hid (∀ l:List Value,((W5.setCells g3 11 l).drew).cell? ⟨b,off + 2,none⟩ = some (.string (sb p)) ∧ ((W5.setCells g3 11 l).drew).cell? ⟨b,off + 3,none⟩ = some (.string (sb m)) ∧ ((W5.setCells g3 11 l).drew).cell? ⟨g2,0,none⟩ = some (.int .i64 (sc.1:Int)) ∧ ((W5.setCells g3 11 l).drew).cell? ⟨g2,1,none⟩ = some (.int .i64 (sc.2:Int))):=fun l=>by
   obtain ⟨k1,k2,k3⟩:=Hlt3.out;refine ⟨?_,?_,?_,?_⟩ <;> rw [drew_cell,cell_setCells_far (by omega)]
   ·exact z2
   ·exact z3
   ·exact z4
   ·exact z5
  clear y2 y3 s0 s1;go_wp2;go_region_held3 (fun W=>W.cell? ⟨b,off + 2,none⟩ = some (.string (sb p)) ∧ W.cell? ⟨b,off + 3,none⟩ = some (.string (sb m)) ∧ W.cell? ⟨g2,0,none⟩ = some (.int .i64 (sc.1:Int)) ∧ W.cell? ⟨g2,1,none⟩ = some (.int .i64 (sc.2:Int))) (first | with_reducible exact ⟨z2,z3,z4,z5⟩ | with_reducible exact HZ.out | with_reducible exact HZ5.out _ | with_reducible exact HS5.out _) (fail);have HB4:=hIh H4.out.1;obtain ⟨W8,hW8⟩ : ∃ W8,W8 = W5.drew.setCells g3 11 [.string (sb p),.string (sb m),.int .i64 (sc.1:Int),.int .i64 (sc.2:Int),.slice A na ca]:=⟨_,rfl⟩
  have hf8:Fr (fun k=>k = g3) w4 W8:=by
   rw [hW8];exact (Fr.of_below (Hbel5.out.drew) (fun k=>k = g3)).trans (setCells_fr g3 _ _ _) (fun k hk=>.inl hk)
  have hlt:=Hlt3.out;have hbel8:Below w.heap.size w W8:=HB4.out.trans (hf8.to_below (fun k hk=>by have:=Hg.out;omega) HB4.out.size);have hres8:W8.heap[g]? = some (.cells zeroCells 38 (0,0)):=hf8.blk H4.out.2.1 (by omega);obtain ⟨CS,hCS⟩ : ∃ CS,CS = reqCells { ReqD.zero with op:=3,path:=p,name:=m,quo:=⟨p,m,sc.1,sc.2, []⟩ } (.slice none 0 0) (.slice none 0 0) (.slice A na ca) (.slice none 0 0) (.slice none 0 0):=⟨_,rfl⟩
  have hblk8:W8.heap[g3]? = some (.cells CS 38 (0,0)):=by
   rw [hW8,hCS,← quR_cells];exact setCells_blk _ 11 _ W5.drew Hb5.out
  have hsz:CS.size = 29:=by rw [hCS];rfl
  have hone:CS.all (·.oneCell') = true:=by rw [hCS];simp [reqCells,Value.oneCell']
  have H8:Hid (W8.heap[g3]? = some (.cells CS 38 (0,0)) ∧ W8.heap[g]? = some (.cells zeroCells 38 (0,0)) ∧ Below w.heap.size w W8 ∧ (CS.size = 29 ∧ CS.all (·.oneCell') = true)):=⟨hblk8,hres8,hbel8,hsz,hone⟩
  have Hth:Hid (W8.there g 0 CS.size):=there_blk hres8 (by rw [hsz,zeroCells_size];omega)
  have Hsz:Hid ((Tryz.prog.info? 38).map (·.size) = some CS.size):=by show _ = _;rw [hsz];exact infoReq
  have Hgn:Hid (∀ x,amountsS r = some x → x.2 = (a :: wSet :: p :: m :: s :: r).drop j → O = ended { ReqD.zero with op:=3,path:=p,name:=m,quo:=⟨p,m,sc.1,sc.2,x.1⟩ } ((a :: wSet :: p :: m :: s :: r).drop j)):=fun x hx h2=>by rw [HO.out,hsc];show (amountsS r).bind _ = _;rw [hx];show ended _ x.2 = _;rw [h2]
  have Hbad:Hid (amountsS r = none → O = none):=fun hx=>by rw [HO.out,hsc];show (amountsS r).bind _ = _;rw [hx];rfl
  have hways:(ok = true ∧ j = n ∧ ∃ rq,O = some rq ∧ ReqV (g + 1) W8 CS rq) ∨ (ok = true ∧ j ≠ n ∧ O = none) ∨ (ok = false ∧ O = none):=by
   rcases Hra.out with ⟨h1,x,h2,h3,h4,h5,h6⟩ | ⟨h1,h2⟩
   ·have h7:=Hgn.out x h2 h3
    by_cases hjn:j = n
    ·rw [List.drop_eq_nil_of_le (by have:=Hn.out;omega)] at h7
     refine .inl ⟨h1,hjn,_,h7,?_⟩;have hrd8:RdS amtC 2 W8 (.slice A na ca) x.1:=RdS.keep amtC_len (by decide) h5 hf8 (fun hl k hk e=>by have:=RdS.lt amtC_len (by decide) h5 hl k hk;omega);exact ⟨.slice none 0 0,.slice none 0 0,.slice A na ca,.slice none 0 0,.slice none 0 0, [], [],hCS,RdS.nil _ _ _,⟨PRow.nil _,rfl⟩,hrd8,RdS.nil _ _ _,⟨TRow.nil _,rfl⟩,RNew.nil _,(fun k hk=>h6 k hk),no_own _,no_own _,fun e he=>by cases he⟩
    ·have hj:=Hj.out
     rw [List.drop_eq_getElem_cons (by have:=Hn.out;omega)] at h7;exact .inr (.inl ⟨h1,hjn,h7⟩)
   ·exact .inr (.inr ⟨h1,Hbad.out h2⟩)
  rw [← hW8];clear hW8 hf8 hlt hbel8 hres8 hCS hblk8 hsz hone z2 z3 z4 z5 hth5 hsc;rcases hways with ⟨rfl,hjn,rq,hO2,hv⟩ | ⟨rfl,hjn,hO2⟩ | ⟨rfl,hO2⟩
  case' inl=>
   have hbb:((j:Int) == (n:Int)) = true:=(by simp;omega);have hbc:(j == n) = true:=(by simp;omega);have Hv:Hid (ReB O g W8 CS true):=.inl ⟨rfl,rq,hO2,hv⟩
  case' inr.inl=>
   have hbb:((j:Int) == (n:Int)) = false:=(by simp;omega);have hbc:(j == n) = false:=(by simp;omega);have Hv:Hid (ReB O g W8 CS false):=.inr ⟨rfl,hO2⟩
  case' inr.inr=>
   have Hv:Hid (ReB O g W8 CS false):=.inr ⟨rfl,hO2⟩
  all_goals
   try clear hjn
   try clear hv
   clear hO2;go_wp2_with (first | ((with_reducible refine wpList_load_row (o:=⟨some 47,.load 38 (.tmp 9),_,_,_,_⟩) ?_ 38 (.tmp 9) ?_ g3 ?_ 38 CS (0,0) _ H8.out.1 reqU ?_ Hsz.out ?_);exact rfl;exact rfl;exact rfl;exact rfl) | ((with_reducible refine wpList_store_mid (op:=⟨none,.store 38 (.tmp 2) (.tmp 47),_,_,_,_⟩) ?_ 38 (.tmp 2) (.tmp 47) ?_ g 0 CS ?_ ?_ Hth.out Hsz.out H8.out.2.2.2.2 ?_);exact rfl;exact rfl;exact rfl;exact rfl));exact re_any HF.out Hg.out H8.out.2.1 zeroCells_size H8.out.2.2.2 H8.out.2.2.1 Hv.out rfl rfl
end
section
theorem head_at {l:List Str} {i:Nat}:(l.drop i).head? = l[i]?:=by rw [List.head?_drop]
theorem rules_exit {l:List Str} {i:Nat} (h:¬ (i + 1 < l.length ∧ l[i]? = some wRule)):rulesS (l.drop i) = some ([],l.drop i) ∨ (rulesS (l.drop i) = none ∧ i ≠ l.length):=by
 by_cases hh:(l.drop i).head? = some wRule
 ·have h2:l[i]? = some wRule:=by rw [← head_at];exact hh
  obtain ⟨hi,h3⟩:=List.getElem?_eq_some_iff.1 h2
  have h4:l.length = i + 1:=by have:¬ i + 1 < l.length:=fun e=>h ⟨e,h2⟩;omega
  right
  refine ⟨?_,by omega⟩;rw [List.drop_eq_getElem_cons hi,h3,List.drop_eq_nil_of_le (by omega)];exact rulesS_one
 ·exact .inl (rulesS_stop hh)
theorem infoZ:(Tryz.prog.info? 38).map (·.size) = some zeroCells.size:=infoReq
def liR (p m:Str):ReqD:={ ReqD.zero with op:=5,path:=p,name:=m,lim:=⟨p,m, []⟩ }
structure RliW (w:World) (g gq:Nat) (l:List Str) (p m:Str) (o:Option (List Rl × List Str)) (i:Nat) (v:Value) (done:List Rl) (wr:World):Prop where
 le:i ≤ l.length
 eq:o = (rulesS (l.drop i)).map fun x=>(done ++ x.1,x.2)
 row:GrW 56 6 ruC (gq + 1) wr v done
 num:done.length ≤ i
 bel:Below w.heap.size w wr
 res:wr.heap[g]? = some (.cells zeroCells 38 (0,0))
 blk:wr.heap[gq]? = some (.cells (reqCells (liR p m) (.slice none 0 0) (.slice none 0 0) (.slice none 0 0) v (.slice none 0 0)) 38 (0,0))
def RliLoop (w:World) (g gq:Nat) (l:List Str) (p m:Str) (o:Option (List Rl × List Str)) (v5:Value) (wr:World):Prop := ∃ (i:Nat) (v:Value) (done:List Rl),v5 = .int .i64 i ∧ RliW w g gq l p m o i v done wr
theorem RliW.fin {w wr:World} {g gq:Nat} {l:List Str} {p m:Str} {o:Option (List Rl × List Str)} {i:Nat} {v:Value} {done:List Rl} {O:Option ReqD} (h:RliW w g gq l p m o i v done wr) (hg:g ≤ gq) (hO:O = o.bind fun x=>ended { ReqD.zero with op:=5,path:=p,name:=m,lim:=⟨p,m,x.1⟩ } x.2) (hx:¬ (i + 1 < l.length ∧ l[i]? = some wRule)) :
  (i = l.length → ∃ rq,O = some rq ∧ ReqV (g + 1) wr (reqCells (liR p m) (.slice none 0 0) (.slice none 0 0) (.slice none 0 0) v (.slice none 0 0)) rq) ∧ (i ≠ l.length → O = none):=by
 constructor
 ·intro hi
  have h1:rulesS (l.drop i) = some ([], []):=by rw [List.drop_eq_nil_of_le (by omega)];exact rulesS_nil
  refine ⟨{ ReqD.zero with op:=5,path:=p,name:=m,lim:=⟨p,m,done⟩ },?_,.slice none 0 0,.slice none 0 0,.slice none 0 0,v,.slice none 0 0, [], [],rfl,RdS.nil _ _ _,⟨PRow.nil _,rfl⟩,RdS.nil _ _ _,h.row.rd,⟨TRow.nil _,rfl⟩,RNew.nil _,no_own _,fun k hk=>by have:=h.row.new k hk;omega,no_own _,fun e he=>by cases he⟩;rw [hO,h.eq,h1];simp [ended]
 ·intro hi
  rw [hO,h.eq];rcases rules_exit hx with h1 | ⟨h1, -⟩
  ·rw [h1]
   have h2:l.drop i ≠ []:=fun e=>hi (by have:=congrArg List.length e;simp at this;have:=h.le;omega)
   cases hd:l.drop i with
   | nil=>exact absurd hd h2
   | cons t r=>simp [ended]
  ·rw [h1];rfl
theorem ruleS_ways {nm:Str} {r0 l:List Str} {ok1 ok2 ok3 ok4 ok5:Bool} {a b c d f:Int} {j1 j2 j3 j4 j5:Nat} (h1:(ok1 = true ∧ setS [109,105,110] r0 = some (a,l.drop j1)) ∨ (ok1 = false ∧ setS [109,105,110] r0 = none)) (h2:(ok2 = true ∧ setS [109,97,120] (l.drop j1) = some (b,l.drop j2)) ∨ (ok2 = false ∧ setS [109,97,120] (l.drop j1) = none))
  (h3:(ok3 = true ∧ setS [100,101,102,97,117,108,116] (l.drop j2) = some (c,l.drop j3)) ∨ (ok3 = false ∧ setS [100,101,102,97,117,108,116] (l.drop j2) = none)) (h4:(ok4 = true ∧ setS [114,101,113,117,101,115,116] (l.drop j3) = some (d,l.drop j4)) ∨ (ok4 = false ∧ setS [114,101,113,117,101,115,116] (l.drop j3) = none))
  (h5:(ok5 = true ∧ setS [114,97,116,105,111] (l.drop j4) = some (f,l.drop j5)) ∨ (ok5 = false ∧ setS [114,97,116,105,111] (l.drop j4) = none)) :
  (ruleS nm r0 = none ∧ (ok1 = false ∨ (ok1 = true ∧ ok2 = false) ∨ (ok1 = true ∧ ok2 = true ∧ ok3 = false) ∨ (ok1 = true ∧ ok2 = true ∧ ok3 = true ∧ ok4 = false) ∨ (ok1 = true ∧ ok2 = true ∧ ok3 = true ∧ ok4 = true ∧ ok5 = false))) ∨ (ok1 = true ∧ ok2 = true ∧ ok3 = true ∧ ok4 = true ∧ ok5 = true ∧ ruleS nm r0 = some (⟨nm,a,b,c,d,f⟩,l.drop j5)):=by
 unfold ruleS;rcases h1 with ⟨rfl,e1⟩ | ⟨rfl,e1⟩
 case inr=>rw [e1];exact .inl ⟨rfl,by simp⟩
 rw [e1];simp only [Option.bind_some];rcases h2 with ⟨rfl,e2⟩ | ⟨rfl,e2⟩
 case inr=>rw [e2];exact .inl ⟨rfl,by simp⟩
 rw [e2];simp only [Option.bind_some];rcases h3 with ⟨rfl,e3⟩ | ⟨rfl,e3⟩
 case inr=>rw [e3];exact .inl ⟨rfl,by simp⟩
 rw [e3];simp only [Option.bind_some];rcases h4 with ⟨rfl,e4⟩ | ⟨rfl,e4⟩
 case inr=>rw [e4];exact .inl ⟨rfl,by simp⟩
 rw [e4];simp only [Option.bind_some];rcases h5 with ⟨rfl,e5⟩ | ⟨rfl,e5⟩
 case inr=>rw [e5];exact .inl ⟨rfl,by simp⟩
 rw [e5]
 right
 simp
theorem blk_mid {W:World} {g:Nat} {C:Array Value} {T:TypeId} (h:W.heap[g]? = some (.cells C T (0,0))) (o:Nat) (vs:List Value):(W.setCells g o vs).heap[g]? = some (.cells (setAll C o vs) T (0,0)):=setCells_blk vs o C W h
theorem liR_cells (p m:Str):setAll (reqCells { ReqD.zero with op:=5,path:=p,name:=m } (.slice none 0 0) (.slice none 0 0) (.slice none 0 0) (.slice none 0 0) (.slice none 0 0)) 16 [.string (sb p),.string (sb m),.slice none 0 0] = reqCells (liR p m) (.slice none 0 0) (.slice none 0 0) (.slice none 0 0) (.slice none 0 0) (.slice none 0 0):=by
 simp only [setAll,reqCells,List.setIfInBounds_toArray,List.set_cons_zero,List.set_cons_succ]
 rfl
attribute [local go_sem ↓] wp_store_req wp_store_lim
attribute [local go_sem] ptrB_at ptrO_at allOne_cons allOne_nil aggC_agg oneI oneS oneL oneB
theorem rlimitSet_calls (w:World) (v:Value) (a:Str) (r:List Str) (h:RdT w v (a :: wSet :: r)) (hsm:∀ t ∈ a :: wSet :: r,t.length ≤ 1048576) (hln:(a :: wSet :: r).length ≤ 1048577):Calls Tryz.prog 72 #[v] w (ReP (liSet r) w):=by
 obtain ⟨b,off,c,rfl,hc,hb0,hcell⟩:=RdT.some h (by simp);obtain ⟨n,hn⟩ : ∃ n,n = (a :: wSet :: r).length:=⟨_,rfl⟩;obtain ⟨O,hO⟩ : ∃ O,O = liSet r:=⟨_,rfl⟩;obtain ⟨g,hg⟩ : ∃ g,g = w.heap.size:=⟨_,rfl⟩;have hF:Tryz.f72.results = #[.cell 2 38,.tmp 3]:=rfl;have HF:=hIh hF;have Hg:=hIh hg
 have H1:Hid ((w.alloc (.cells zeroCells 38)).heap[g]? = some (.cells zeroCells 38 (0,0)) ∧ Below w.heap.size w (w.alloc (.cells zeroCells 38))):=by
  rw [hg];exact ⟨blk_new _ _,bel_alloc _ _⟩
 have Hth1:Hid ((w.alloc (.cells zeroCells 38)).there g 0 zeroCells.size):=there_blk H1.out.1 (Nat.le_refl _);have hgs:w.heap.size = g:=hg.symm;rw [← hO,← hn];rw [← hn] at hc
 have hci:(n:Int) ≤ c:=by omega
 have hnb:(n:Int) ≤ 1048577:=by omega
 by_cases h5:n < 4
 ·have Hno:Hid (O = none):=by
   show _ = _;rw [hO]
   match r,hn with
   | [],_=>rfl
   | [p],_=>rfl
   | p :: m :: r,hn=>simp at hn;omega
  have hd:decide ((n:Int) < 4) = true:=decide_eq_true (by omega)
  have hd2:(n:Int) < 4:=by omega
  clear hO h hsm hln hcell hF hg h5 hn;go_enter Tryz.func72,Tryz.ntmps72;go_wp2_with (refine wpList_store_mid (op:=⟨none,.store 38 (.tmp 2) (.tmp 25),_,_,_,_⟩) rfl 38 (.tmp 2) (.tmp 25) rfl g 0 zeroCells rfl rfl Hth1.out infoReq zero_one ?_);exact re_no HF.out Hg.out H1.out.1 zeroCells_size H1.out.2 Hno.out rfl rfl
 obtain ⟨p,m,r,rfl⟩ : ∃ p m q,r = p :: m :: q:=by
  match r,hn with
  | [],hn=>simp at hn;omega
  | [p],hn=>simp at hn;omega
  | p :: m :: q,hn=>exact ⟨p,m,q,rfl⟩
 obtain ⟨l,hl⟩ : ∃ l,l = a :: wSet :: p :: m :: r:=⟨_,rfl⟩;have hd:decide ((n:Int) < 4) = false:=decide_eq_false (by omega)
 have hd2:¬ (n:Int) < 4:=by omega
 have hn2:(2:Int) < n:=by omega
 have hn3:(3:Int) < n:=by omega
 have h2:w.cell? ⟨b,off + 2,none⟩ = some (.string (sb p)):=hcell 2 (by simp);have h3:w.cell? ⟨b,off + 3,none⟩ = some (.string (sb m)):=hcell 3 (by simp);rw [← hl] at h hsm hln hn
 have Hcell:Hid (∀ i (hi:i < l.length),w.cell? ⟨b,off + i,none⟩ = some (.string (sb l[i]))):=by subst hl;exact hcell
 have Hb0:Hid (b < w.heap.size):=hb0;have Hn:=hIh hn
 have Hdr:Hid (l.drop 4 = r):=by show _ = _;rw [hl];rfl
 have HO:Hid (O = (rulesS (l.drop 4)).bind fun x=>ended { ReqD.zero with op:=5,path:=p,name:=m,lim:=⟨p,m,x.1⟩ } x.2):=by show _ = _;rw [Hdr.out];exact hO
 have Hset:Hid (∀ W (x:Int) (j:Nat) (nm:Str) (S:ByteArray),x = (j:Int) → sb nm = S → j ≤ l.length → Below w.heap.size w W → Calls Tryz.prog 111 #[.slice (some ⟨b,off,none⟩) n c,.int .i64 x,.string S] W (AtP l (setS nm (l.drop j)) W)):=fun W x j nm S hx hS hj hb=>by
  rw [hx,setS_V,hn,← hS];exact rset_calls W _ l (RdS.below h hb) hsm hln j hj nm
 have hc2:∀ o,(w.alloc o).cell? ⟨b,off + 2,none⟩ = some (.string (sb p)) ∧ (w.alloc o).cell? ⟨b,off + 3,none⟩ = some (.string (sb m)):=fun o=>⟨(World.cell?_alloc_lt w _ _ hb0).trans h2,(World.cell?_alloc_lt w _ _ hb0).trans h3⟩;have Hc2:=hIh hc2;have Hh23:=hIh (And.intro h2 h3);clear hcell hF hg h5 hO hl hc2 hn;go_enter Tryz.func72,Tryz.ntmps72;obtain ⟨w1,hw1⟩ : ∃ w1,w1 = w.alloc (.cells zeroCells 38):=⟨_,rfl⟩;go_upto_region 3 with fail;show Code.wp _ _ _ _ (w.alloc (.cells zeroCells 38));rw [← hw1];obtain ⟨gq,hgq⟩ : ∃ gq,gq = w1.heap.size:=⟨_,rfl⟩;have hgs3:w1.heap.size = gq:=hgq.symm
 have Hgq:Hid (gq = g + 1):=by show _ = _;rw [hgq,hw1,alloc_size,hgs]
 obtain ⟨W5,hW5⟩ : ∃ W5,W5 = (w1.alloc (.cells #[.int .i64 5,.string ⟨#[]⟩,.string (sb p),.string (sb m),.string ⟨#[]⟩,.string ⟨#[]⟩,.slice none 0 0,.int .i64 0,.int .i64 0,.slice none 0 0,.int .i64 0,.string ⟨#[]⟩,.string ⟨#[]⟩,.int .i64 0,.int .i64 0,.slice none 0 0,.string ⟨#[]⟩,.string ⟨#[]⟩,.slice none 0 0,.string ⟨#[]⟩,.string ⟨#[]⟩,.string ⟨#[]⟩,.int .i64 0,.slice none 0 0,.int .i64 0,.int .i64 0,.string ⟨#[]⟩,.bool false,.bool false] 38)).drew:=⟨_,rfl⟩
 have hb5:W5.heap[gq]? = some (.cells (reqCells { ReqD.zero with op:=5,path:=p,name:=m } (.slice none 0 0) (.slice none 0 0) (.slice none 0 0) (.slice none 0 0) (.slice none 0 0)) 38 (0,0)):=by rw [hW5,hgq];exact blk_new _ _
 have hbel5:Below w1.heap.size w1 W5:=by rw [hW5];exact (bel_alloc _ _).drew
 have Hb5:=hIh hb5;have Hbel5:=hIh hbel5;have HW5:=hIh hW5
 have Hlt:Hid (b < g):=by have:=Hg.out;have:=Hb0.out;show _ < _;omega
 have HbN:Hid (b < w1.heap.size):=by have:=Hb0.out;show _ < _;rw [hw1,alloc_size];omega
 have HR1:Hid (w1.heap[g]? = some (.cells zeroCells 38 (0,0)) ∧ Below w.heap.size w w1):=by rw [hw1];exact H1.out
 have y2:=(Hc2.out (.cells zeroCells 38)).1;have y3:=(Hc2.out (.cells zeroCells 38)).2;rw [← hw1] at y2 y3;clear hgq hb5 hbel5 hW5 h2 h3 hw1;go_wp2;go_region_held3 (fun W=>W.cell? ⟨b,off + 2,none⟩ = some (.string (sb p)) ∧ W.cell? ⟨b,off + 3,none⟩ = some (.string (sb m))) (first | exact ⟨y2,y3⟩ | exact ⟨(drew_cell _ _).trans ((World.cell?_alloc_lt _ _ _ HbN.out).trans y2),(drew_cell _ _).trans ((World.cell?_alloc_lt _ _ _ HbN.out).trans y3)⟩) (fail);rw [← HW5.out];have z2:=bcell Hbel5.out y2;have z3:=bcell Hbel5.out y3;have hth5:W5.drew.there gq 16 3:=there_drew (there_mid Hb5.out (by rw [reqCells_size];omega));have HZ:Hid (W5.drew.cell? ⟨b,off + 2,none⟩ = some (.string (sb p)) ∧ W5.drew.cell? ⟨b,off + 3,none⟩ = some (.string (sb m))):=⟨z2,z3⟩
 have HS5:Hid (∀ l:List Value,(W5.drew.setCells gq 16 l).cell? ⟨b,off + 2,none⟩ = some (.string (sb p)) ∧ (W5.drew.setCells gq 16 l).cell? ⟨b,off + 3,none⟩ = some (.string (sb m))):=fun l=>by
  have:=Hlt.out;have:=Hgq.out;refine ⟨?_,?_⟩ <;> rw [cell_setCells_far (by omega)]
  ·exact z2
  ·exact z3
 clear y2 y3;go_wp2;go_region_held3 (fun W=>W.cell? ⟨b,off + 2,none⟩ = some (.string (sb p)) ∧ W.cell? ⟨b,off + 3,none⟩ = some (.string (sb m))) (first | with_reducible exact ⟨z2,z3⟩ | with_reducible exact HZ.out | with_reducible exact HS5.out _) (fail);obtain ⟨W6,hW6⟩ : ∃ W6,W6 = W5.drew.setCells gq 16 [.string (sb p),.string (sb m),.slice none 0 0]:=⟨_,rfl⟩;rw [← hW6]
 have hf6:Fr (fun k=>k = gq) w1 W6:=by
  rw [hW6];exact (Fr.of_below (Hbel5.out.drew) (fun k=>k = gq)).trans (setCells_fr gq _ _ _) (fun k hk=>.inl hk)
 have hblk6:W6.heap[gq]? = some (.cells (reqCells (liR p m) (.slice none 0 0) (.slice none 0 0) (.slice none 0 0) (.slice none 0 0) (.slice none 0 0)) 38 (0,0)):=by
  rw [hW6,← liR_cells];exact setCells_blk _ 16 _ W5.drew Hb5.out
 have Hst:Hid (RliLoop w g gq l p m (rulesS (l.drop 4)) (.int .i64 4) W6):=
  ⟨4,.slice none 0 0, [],rfl,by have:=Hn.out;omega,by simp,GrW.nil _ _ _ _ _,by simp,HR1.out.2.trans (hf6.to_below (fun k hk=>by have:=Hg.out;have:=Hgq.out;omega) HR1.out.2.size),hf6.blk HR1.out.1 (by have:=Hgq.out;omega),hblk6⟩
 have H:=hIh h;clear hW6 hf6 hblk6 z2 z3 hth5 HZ HS5 Hb5 Hbel5 HW5 HR1 HbN hgs3 hgs Hh23 Hc2 H1 Hth1 h hsm hln hd hd2 hn2 hn3 hb0 hc;go_wp2
 go_loopw [5] (fun v5 wr=>RliLoop w g gq l p m (rulesS (l.drop 4)) v5 wr) (fun v5 _=>n - (intOf v5).toNat)
 case atStart=>exact Hst.out
 case round=>
  clear Hst;obtain ⟨i,v,done,rfl,hW⟩:=hrel;have HW:=hIh hW;obtain ⟨A0,cp,hv⟩:=own_slice hW.row.own;obtain ⟨k,hk⟩ : ∃ k,k = done.length:=⟨_,rfl⟩;subst hv;rw [← hk] at hW;have HW2:=hIh hW;have Hk:=hIh hk
  have hin:i ≤ n:=by rw [Hn.out];exact hW.le
  have Hkb:Hid (k ≤ 1048577):=by have:=hW.num;show _ ≤ _;omega
  clear hW hk
  by_cases hbody:i + 1 < l.length ∧ l[i]? = some wRule
  case neg=>
   have hfin:=HW2.out.fin (by have:=Hgq.out;omega) HO.out hbody
   have hsp:(¬ i + 1 < n ∧ i = n) ∨ (¬ i + 1 < n ∧ i ≠ n) ∨ (i + 1 < n ∧ i ≠ n ∧ ∃ t,l[i]? = some t ∧ t ≠ wRule):=by
    have:=Hn.out
    by_cases h1:i + 1 < n
    ·refine .inr (.inr ⟨h1,by omega,l[i]'(by omega),List.getElem?_eq_getElem _,fun e=>hbody ⟨by omega,by rw [List.getElem?_eq_getElem (by omega),e]⟩⟩)
    ·by_cases h2:i = n
     ·exact .inl ⟨h1,h2⟩
     ·exact .inr (.inl ⟨h1,h2⟩)
   obtain ⟨CS,hCS⟩ : ∃ CS,CS = reqCells (liR p m) (.slice none 0 0) (.slice none 0 0) (.slice none 0 0) (.slice A0 k cp) (.slice none 0 0):=⟨_,rfl⟩;have hsz:CS.size = 29:=(by rw [hCS];rfl)
   have hone:CS.all (·.oneCell') = true:=(by rw [hCS];simp [reqCells,Value.oneCell'])
   rw [← hCS] at hfin
   have H8:Hid (wr.heap[gq]? = some (.cells CS 38 (0,0)) ∧ wr.heap[g]? = some (.cells zeroCells 38 (0,0)) ∧ Below w.heap.size w wr ∧ (CS.size = 29 ∧ CS.all (·.oneCell') = true)):=⟨by rw [hCS];exact HW2.out.blk,HW2.out.res,HW2.out.bel,hsz,hone⟩
   have Hth:Hid (wr.there g 0 CS.size):=there_blk H8.out.2.1 (by rw [hsz,zeroCells_size];omega)
   have Hsz:Hid ((Tryz.prog.info? 38).map (·.size) = some CS.size):=(by show _ = _;rw [hsz];exact infoReq)
   have hnl:=Hn.out;have Hbel:=hIh HW2.out.bel;rcases hsp with ⟨h1,h2⟩ | ⟨h1,h2⟩ | ⟨h1,h2,t,h3,h4⟩
   case' inl=>
    have Hv:Hid (ReB O g wr CS true):=.inl ⟨rfl,hfin.1 (by omega)⟩;have hb1:decide ((i:Int) + 1 < n) = false:=decide_eq_false (by omega);have hb2:¬ (i:Int) + 1 < n:=(by omega);have hq1:((i:Int) == (n:Int)) = true:=(by simp;omega);have hq2:(i == n) = true:=(by simp;omega)
   case' inr.inl=>
    have Hv:Hid (ReB O g wr CS false):=.inr ⟨rfl,hfin.2 (by omega)⟩;have hb1:decide ((i:Int) + 1 < n) = false:=decide_eq_false (by omega);have hb2:¬ (i:Int) + 1 < n:=(by omega);have hq1:((i:Int) == (n:Int)) = false:=(by simp;omega);have hq2:(i == n) = false:=(by simp;omega)
   case' inr.inr=>
    have Hv:Hid (ReB O g wr CS false):=.inr ⟨rfl,hfin.2 (by omega)⟩;have hb1:decide ((i:Int) + 1 < n) = true:=decide_eq_true (by omega);have hb2:(i:Int) + 1 < n:=(by omega);have hb3:(i:Int) < n:=(by omega);have hq1:((i:Int) == (n:Int)) = false:=(by simp;omega);have hq2:(i == n) = false:=(by simp;omega)
    have hci1:wr.cell? ⟨b,off + i,none⟩ = some (.string (sb t)):=by
     obtain ⟨h5,h6⟩:=List.getElem?_eq_some_iff.1 h3;rw [← h6];exact bcell HW2.out.bel (Hcell.out i h5)
    have hne:=eqLF (l := [114,117,108,101]) h4;generalize sb t = TT at hci1 hne;clear h3 h4
   all_goals
    clear hfin h1 h2 hCS hsz hone hbody hnl;go_wp2_with (first | ((with_reducible refine wpList_load_row (o:=⟨some 133,.load 38 (.tmp 4),_,_,_,_⟩) ?_ 38 (.tmp 4) ?_ gq ?_ 38 CS (0,0) _ H8.out.1 reqU ?_ Hsz.out ?_);exact rfl;exact rfl;exact rfl;exact rfl) | ((with_reducible refine wpList_store_mid (op:=⟨none,.store 38 (.tmp 2) (.tmp 133),_,_,_,_⟩) ?_ 38 (.tmp 2) (.tmp 133) ?_ g 0 CS ?_ ?_ Hth.out Hsz.out H8.out.2.2.2.2 ?_);exact rfl;exact rfl;exact rfl;exact rfl));exact re_any HF.out Hg.out H8.out.2.1 zeroCells_size H8.out.2.2.2 H8.out.2.2.1 Hv.out rfl rfl
  case pos=>
   obtain ⟨hi1,hi2⟩:=hbody;have hnl:=Hn.out;have hil:i < l.length:=(by omega);have e1:l[i]'hil = wRule:=(by rw [List.getElem?_eq_getElem hil] at hi2;exact Option.some.inj hi2);obtain ⟨nm,hnm⟩ : ∃ nm,nm = l[i + 1]'hi1:=⟨_,rfl⟩
   have hdr:l.drop i = wRule :: nm :: l.drop (i + 2):=by
    rw [List.drop_eq_getElem_cons hil,List.drop_eq_getElem_cons hi1,e1,hnm]
   have hb1:decide ((i:Int) + 1 < n) = true:=decide_eq_true (by omega);have hb2:(i:Int) + 1 < n:=(by omega);have hb3:(i:Int) < n:=(by omega);have hci1:wr.cell? ⟨b,off + i,none⟩ = some (.string (sb wRule)):=(by rw [← e1];exact bcell HW2.out.bel (Hcell.out i hil));have hci2:wr.cell? ⟨b,off + (i + 1),none⟩ = some (.string (sb nm)):=(by rw [hnm];exact bcell HW2.out.bel (Hcell.out (i + 1) hi1));have hne:((sb wRule).toList == [114,117,108,101]) = true:=eqLT rfl;generalize sb wRule = TT at hci1 hne;have Hdr:=hIh hdr;have Hi2:Hid (i + 2 ≤ l.length):=(by show _ ≤ _;omega);have hx1:((i:Int) + 1).toNat = i + 1:=(by omega);clear hi1 hi2 hil e1 hnm hdr hnl;obtain ⟨ub,hub⟩ : ∃ ub,ub = wr.heap.size:=⟨_,rfl⟩;obtain ⟨X0,hX0⟩ : ∃ X,X = wr.alloc (.cells #[.string (sb nm),.int .i64 0,.int .i64 0,.int .i64 0,.int .i64 0,.int .i64 0] 56):=⟨_,rfl⟩;have hb0w:Below wr.heap.size wr X0:=(by rw [hX0];exact bel_alloc _ _)
   have Hb0w:=hIh hb0w;have Hub:=hIh hub;have hubs:wr.heap.size = ub:=hub.symm;have Hu0:Hid (X0.heap[ub]? = some (.cells #[.string (sb nm),.int .i64 0,.int .i64 0,.int .i64 0,.int .i64 0,.int .i64 0] 56 (0,0))):=(by rw [hX0,hub];exact blk_new _ _);have HX0:=hIh hX0;clear hb0w hub hX0;go_wp2_with fail;rw [← HX0.out];have HB0:=hIh (HW2.out.bel.trans (Hb0w.out.mono HW2.out.bel.size));have Hc1:=hIh (Hset.out X0 ((i:Int) + 2) (i + 2) [109,105,110] (ByteArray.mk #[109,105,110]) (by simp) rfl Hi2.out HB0.out);(with_reducible refine Hc1.out.mono ?_);rintro e X1 ⟨a1,j1,ok1,rfl,hj,hr,hb⟩;have Hj1:=hIh hj;have Hr1:=hIh hr;have HB1:=hIh (HB0.out.trans (hb.mono HB0.out.size));have Hbb1:Hid (Below X0.heap.size X0 X1):=hb;clear hj hr hb Hc1;have Hc2:=hIh (Hset.out X1 (j1:Int) j1 [109,97,120] (ByteArray.mk #[109,97,120]) rfl rfl Hj1.out HB1.out);go_wp2_with fail;(with_reducible refine Hc2.out.mono ?_)
   rintro e X2 ⟨a2,j2,ok2,rfl,hj,hr,hb⟩;have Hj2:=hIh hj;have Hr2:=hIh hr;have HB2:=hIh (HB1.out.trans (hb.mono HB1.out.size));have Hbb2:Hid (Below X0.heap.size X0 X2):=Hbb1.out.trans (hb.mono Hbb1.out.size);clear hj hr hb Hc2;have Hc3:=hIh (Hset.out X2 (j2:Int) j2 [100,101,102,97,117,108,116] (ByteArray.mk #[100,101,102,97,117,108,116]) rfl rfl Hj2.out HB2.out);go_wp2_with fail;(with_reducible refine Hc3.out.mono ?_);rintro e X3 ⟨a3,j3,ok3,rfl,hj,hr,hb⟩;have Hj3:=hIh hj;have Hr3:=hIh hr;have HB3:=hIh (HB2.out.trans (hb.mono HB2.out.size));have Hbb3:Hid (Below X0.heap.size X0 X3):=Hbb2.out.trans (hb.mono Hbb2.out.size);clear hj hr hb Hc3;have Hc4:=hIh (Hset.out X3 (j3:Int) j3 [114,101,113,117,101,115,116] (ByteArray.mk #[114,101,113,117,101,115,116]) rfl rfl Hj3.out HB3.out);go_wp2_with fail;(with_reducible refine Hc4.out.mono ?_);rintro e X4 ⟨a4,j4,ok4,rfl,hj,hr,hb⟩
   have Hj4:=hIh hj;have Hr4:=hIh hr;have HB4:=hIh (HB3.out.trans (hb.mono HB3.out.size));have Hbb4:Hid (Below X0.heap.size X0 X4):=Hbb3.out.trans (hb.mono Hbb3.out.size);clear hj hr hb Hc4;have Hc5:=hIh (Hset.out X4 (j4:Int) j4 [114,97,116,105,111] (ByteArray.mk #[114,97,116,105,111]) rfl rfl Hj4.out HB4.out);go_wp2_with fail;(with_reducible refine Hc5.out.mono ?_);rintro e X5 ⟨a5,j5,ok5,rfl,hj,hr,hb⟩;have Hj5:=hIh hj;have Hr5:=hIh hr;have HB5:=hIh (HB4.out.trans (hb.mono HB4.out.size));have Hbb5:Hid (Below X0.heap.size X0 X5):=Hbb4.out.trans (hb.mono Hbb4.out.size);clear hj hr hb Hc5;have hways:=ruleS_ways (nm:=nm) Hr1.out Hr2.out Hr3.out Hr4.out Hr5.out;rcases hways with ⟨hR,hbad⟩ | ⟨rfl,rfl,rfl,rfl,rfl,hR⟩
   case inl=>
    have Hno:Hid (O = none):=(by show _ = _;rw [HO.out,HW2.out.eq,Hdr.out,rulesS_bad hR];rfl);have Hres:Hid (X5.heap[g]? = some (.cells zeroCells 38 (0,0))):=blk_below (blk_below HW2.out.res Hb0w.out) Hbb5.out;have Hth:Hid (X5.there g 0 zeroCells.size):=there_blk Hres.out (Nat.le_refl _);clear hR Hr1 Hr2 Hr3 Hr4 Hr5;rcases hbad with rfl | ⟨rfl,rfl⟩ | ⟨rfl,rfl,rfl⟩ | ⟨rfl,rfl,rfl,rfl⟩ | ⟨rfl,rfl,rfl,rfl,rfl⟩
    all_goals
     go_wp2_with ((with_reducible refine wpList_store_mid (op:=⟨none,.store 38 (.tmp 2) (.tmp 113),_,_,_,_⟩) ?_ 38 (.tmp 2) (.tmp 113) ?_ g 0 zeroCells ?_ ?_ Hth.out infoZ zero_one ?_);exact rfl;exact rfl;exact rfl;exact rfl);exact re_no HF.out Hg.out Hres.out zeroCells_size HB5.out Hno.out rfl rfl
   case inr=>
    have Hu5:=hIh (blk_below Hu0.out Hbb5.out);have u1:=cellsN (i:=1) Hu5.out (show 1 < 6 by omega);have u2:=cellsN (i:=2) Hu5.out (show 2 < 6 by omega);have u3:=cellsN (i:=3) Hu5.out (show 3 < 6 by omega);have u4:=cellsN (i:=4) Hu5.out (show 4 < 6 by omega);have u5:=cellsN (i:=5) Hu5.out (show 5 < 6 by omega);obtain ⟨c1,f1⟩:=u1;obtain ⟨c2,f2⟩:=u2;obtain ⟨c3,f3⟩:=u3;obtain ⟨c4,f4⟩:=u4;obtain ⟨c5,f5⟩:=u5;have HR:=hIh hR;clear hR Hr1 Hr2 Hr3 Hr4 Hr5;go_upto_region 20 with fail;obtain ⟨X6,hX6⟩ : ∃ X,X = (((((X5.setCell ⟨ub,1,none⟩ (.int .i64 a1)).setCell ⟨ub,2,none⟩ (.int .i64 a2)).setCell ⟨ub,3,none⟩ (.int .i64 a3)).setCell ⟨ub,4,none⟩ (.int .i64 a4)).setCell ⟨ub,5,none⟩ (.int .i64 a5)):=⟨_,rfl⟩
    have hu6:X6.heap[ub]? = some (.cells #[.string (sb nm),.int .i64 a1,.int .i64 a2,.int .i64 a3,.int .i64 a4,.int .i64 a5] 56 (0,0)):=by
     rw [hX6];exact blk_setCell (blk_setCell (blk_setCell (blk_setCell (blk_setCell Hu5.out 1 _) 2 _) 3 _) 4 _) 5 _
    have hf6:Fr (fun k=>k = ub) X5 X6:=by
     rw [hX6];exact ((((Fr.refl (fun k=>k = ub) X5).setCell (p:=⟨ub,1,none⟩) (.inl rfl) _).setCell (p:=⟨ub,2,none⟩) (.inl rfl) _).setCell (p:=⟨ub,3,none⟩) (.inl rfl) _).setCell (p:=⟨ub,4,none⟩) (.inl rfl) _ |>.setCell (p:=⟨ub,5,none⟩) (.inl rfl) _
    have hgqu:gq < ub ∧ g < gq:=(by have:=blk_lt HW2.out.blk;have:=Hub.out;have:=Hgq.out;omega);have hq5:=blk_below (blk_below HW2.out.blk Hb0w.out) Hbb5.out;have hq6:=hf6.blk hq5 (by omega);have hs6:X6.heap.size = X5.heap.size:=(by rw [hX6];simp only [World.size_setCell]);obtain ⟨XC,hXC⟩ : ∃ XC,XC = [(⟨nm,a1,a2,a3,a4,a5⟩ : Rl)].flatMap ruC:=⟨_,rfl⟩;obtain ⟨T,hT⟩ : ∃ T,T = done.flatMap ruC:=⟨_,rfl⟩;have HXC:=hIh hXC;have HT:=hIh hT;have hsz5:ub < X5.heap.size:=blk_lt Hu5.out;have hrow6:GrW 56 6 ruC (gq + 1) X6 (.slice A0 k cp) done:=((HW2.out.row.below Hb0w.out).below Hbb5.out).fr hf6 (fun x h1 h2 h3 h4=>by have h5:=(HW2.out.row.own.lt x h3).2;have:=Hub.out;omega);have Hrow:=hIh hrow6;have Hown:Hid (X6.ownsRow 0 56 6 (.slice A0 k cp) k T):=(by have:=hrow6.own;rw [← Hk.out,← HT.out] at this;exact this)
    have Hc1:Hid (Rd (X6.alloc (.cells #[.string (sb nm),.int .i64 a1,.int .i64 a2,.int .i64 a3,.int .i64 a4,.int .i64 a5] 56)) 6 (.slice (some ⟨X6.heap.size,0,none⟩) 1 1) 1 XC):=by
     show Rd _ _ _ _ _;rw [hXC];exact rd_ru X6 56 ⟨nm,a1,a2,a3,a4,a5⟩
    have Hc4:Hid (∀ u ∈ XC,u.oneCell' = true):=(by rw [hXC];exact ru_one _);have Hbel6:Hid (Below w.heap.size w X6):=HB5.out.trans (hf6.to_below (fun x hx=>by have:=Hg.out;omega) HB5.out.size);have Hres6:Hid (X6.heap[g]? = some (.cells zeroCells 38 (0,0))):=hf6.blk (blk_below (blk_below HW2.out.res Hb0w.out) Hbb5.out) (by omega);have Hq6:=hIh hq6;have Hgqu:=hIh hgqu;have d0:=(cellsN (i:=0) hu6 (show 0 < 6 by omega)).1;have d1:=(cellsN (i:=1) hu6 (show 1 < 6 by omega)).1;have d2:=(cellsN (i:=2) hu6 (show 2 < 6 by omega)).1;have d3:=(cellsN (i:=3) hu6 (show 3 < 6 by omega)).1;have d4:=(cellsN (i:=4) hu6 (show 4 < 6 by omega)).1;have d5:=(cellsN (i:=5) hu6 (show 5 < 6 by omega)).1;change X6.cell? ⟨ub,0,none⟩ = some (.string (sb nm)) at d0;change X6.cell? ⟨ub,1,none⟩ = some (.int .i64 a1) at d1;change X6.cell? ⟨ub,2,none⟩ = some (.int .i64 a2) at d2;change X6.cell? ⟨ub,3,none⟩ = some (.int .i64 a3) at d3
    change X6.cell? ⟨ub,4,none⟩ = some (.int .i64 a4) at d4;change X6.cell? ⟨ub,5,none⟩ = some (.int .i64 a5) at d5;have d18:=(cellsN (i:=18) hq6 (show 18 < 29 by omega)).1;change X6.cell? ⟨gq,18,none⟩ = some (.slice A0 k cp) at d18
    have Hj5b:Hid (i + 2 ≤ j5):=by
     have h1:=ruleS_len HR.out;simp only [List.length_drop] at h1;have:=Hj5.out;have:=Hi2.out;show _ ≤ _;omega
    have Hc2:Hid (k + 1 ≤ maxLen):=(by show _ ≤ _;have:=Hkb.out;unfold maxLen;omega);have Hc3:Hid ((k + 1) * 56 ≤ 140737488355328):=(by show _ ≤ _;have:=Hkb.out;omega);rw [← hX6];clear hX6 hu6 hf6 hgqu hq5 hq6 hs6 hXC hT hsz5 hrow6 c1 c2 c3 c4 c5 f1 f2 f3 f4 f5;go_wp2_with (at_builtin;refine wpList_append2 _ rfl (.tmp 126) (.tmp 128) 31 rfl 56 (.agg #[.string ⟨#[]⟩,.int .i64 0,.int .i64 0,.int .i64 0,.int .i64 0,.int .i64 0]) 6 56 Tryz.underlying31 infoRu rfl (by decide) _ k T rfl (Hown.out.alloc _) _ 1 XC rfl Hc1.out Hc4.out Hc2.out Hc3.out ?_);intro v' w9 ho9 hg9 hn9 _;obtain ⟨A',c',rfl⟩:=own_slice ho9;have hf9:Fr (fun x=>(Value.slice A0 k cp).ownBlock = some x) X6 w9:=((Fr.refl (fun x=>(Value.slice A0 k cp).ownBlock = some x) X6).alloc _).grown hg9 (fun x hx=>.inl hx);have hq9:=hf9.blk Hq6.out (fun e=>by have:=Hrow.out.new gq e;omega);obtain ⟨e18,g18⟩:=cellsN (i:=18) hq9 (show 18 < 29 by omega)
    obtain ⟨w10,hw10⟩ : ∃ w10,w10 = w9.setCell ⟨gq,18,none⟩ (.slice A' (k + 1) c'):=⟨_,rfl⟩;have hf10:Fr (fun x=>x = gq) w9 w10:=(by rw [hw10];exact (Fr.refl (fun x=>x = gq) w9).setCell (p:=⟨gq,18,none⟩) (.inl rfl) _)
    have hrow9:GrW 56 6 ruC (gq + 1) w9 (.slice A' (k + 1) c') (done ++ [⟨nm,a1,a2,a3,a4,a5⟩]):=by
     refine Hrow.out.next (ob:=.cells #[] 0) (v':=.slice A' (k + 1) c') ?_ ?_ ?_
     ·have:=blk_lt Hq6.out;omega
     ·rw [← Hk.out,← HT.out,← HXC.out];exact ho9
     ·exact hn9
    have hb10:Below w.heap.size w w10:=by
     have h1:Below w.heap.size w w9:=Hbel6.out.trans (hf9.to_below (fun x hx=>by have:=Hrow.out.new x hx;have:=Hg.out;have:=Hgqu.out;omega) Hbel6.out.size);exact h1.trans (hf10.to_below (fun x hx=>by have:=Hg.out;have:=Hgqu.out;omega) h1.size)
    have hq10:w10.heap[gq]? = some (.cells (reqCells (liR p m) (.slice none 0 0) (.slice none 0 0) (.slice none 0 0) (.slice A' (k + 1) c') (.slice none 0 0)) 38 (0,0)):=by
     rw [hw10];exact blk_setCell hq9 18 _
    have Hl:Hid (∀ x:Int,x = (j5:Int) → RliLoop w g gq l p m (rulesS (l.drop 4)) (.int .i64 x) w10):=fun x hx=>by
     refine ⟨j5,_,_,by rw [hx],Hj5.out,?_,hrow9.fr hf10 (fun x h1 h2 h3 h4=>by omega),?_,hb10,hf10.blk (hf9.blk Hres6.out (fun e=>by have:=Hrow.out.new g e;have:=Hgqu.out;omega)) (by have:=Hgqu.out;omega),hq10⟩
     ·rw [HW2.out.eq,Hdr.out,rulesS_go HR.out,Option.map_map]
      congr 1
      funext y
      simp
     ·have h1:=HW2.out.num
      have h2:=Hj5b.out;have h3:=Hk.out;simp only [List.length_append,List.length_cons,List.length_nil];omega
    have Hms:Hid (n - (intOf (.int .i64 (j5:Int))).toNat < n - (intOf (.int .i64 (i:Int))).toNat):=by
     have h2:=Hj5b.out;have:=Hn.out;have:=Hi2.out;show _ < _;simp [intOf];omega
    clear hf9 hq9 hf10 hrow9 hb10 hq10 d0 d1 d2 d3 d4 d5 d18 ho9 hg9 hn9;go_wp2;rw [← hw10];clear hw10 e18 g18;go_wp2;go_roundw
    case rel=>exact Hl.out _ rfl
    case measure=>exact Hms.out
end
end Go.Proofs.YtpfkkagkbneilaaGreatDoor
