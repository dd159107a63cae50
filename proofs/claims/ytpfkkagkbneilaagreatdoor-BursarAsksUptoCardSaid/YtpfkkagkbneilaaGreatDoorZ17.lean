/- Texts K18, K19, L1, L2 of the proof of BursarAsks, joined. -/
import Derived.Test.YtpfkkagkbneilaaGreatDoorZ16
import Derived.Defers
import Derived.Recover
import Derived.Laws.Rows
import Derived.Deep.MidRow
import Derived.Deep.DeepCutAuto
import Derived.IntWalk
namespace Go.Proofs.YtpfkkagkbneilaaGreatDoor
open Go.RowKit
set_option linter.unusedVariables false
set_option linter.unusedSimpArgs false
def setAll (C:Array Value):Nat → List Value → Array Value
 | _, []=>C
 | o,v :: r=>setAll (C.setIfInBounds o v) (o + 1) r
theorem setCells_blk {g:Nat} {t:TypeId}:∀ (vs:List Value) (o:Nat) (C:Array Value) (w:World),w.heap[g]? = some (.cells C t (0,0)) → (w.setCells g o vs).heap[g]? = some (.cells (setAll C o vs) t (0,0))
 | [],_,_,_,h=>h
 | v :: r,o,C,w,h=>setCells_blk r (o + 1) _ _ (blk_setCell h o v)
theorem setCells_fr (g:Nat):∀ (vs:List Value) (o:Nat) (w:World),Fr (fun k=>k = g) w (w.setCells g o vs)
 | [],_,w=>Fr.refl _ _
 | v :: r,o,w=>((Fr.refl (fun k=>k = g) w).setCell (p:=⟨g,o,none⟩) (.inl rfl) v).trans (setCells_fr g r (o + 1) _) (fun k hk=>.inl hk)
theorem setAll_get:∀ (vs:List Value) (o:Nat) (C:Array Value),o + vs.length ≤ C.size → (setAll C o vs).size = C.size ∧ ∀ j,(setAll C o vs)[j]? = if o ≤ j ∧ j < o + vs.length then vs[j - o]? else C[j]?
 | [],o,C,_=>⟨rfl,fun j=>by
  rw [if_neg (by simp only [List.length_nil];omega)];rfl⟩
 | v :: r,o,C,h=>by
  simp only [List.length_cons] at h
  obtain ⟨h1,h2⟩:=setAll_get r (o + 1) (C.setIfInBounds o v) (by simp;omega)
  have hsz:(C.setIfInBounds o v).size = C.size:=by simp
  refine ⟨by show (setAll (C.setIfInBounds o v) (o + 1) r).size = _;rw [h1,hsz],fun j=>?_⟩
  show (setAll (C.setIfInBounds o v) (o + 1) r)[j]? = _
  rw [h2 j]
  by_cases hj:j = o
  ·subst hj
   rw [if_neg (by omega),if_pos (by simp only [List.length_cons];omega)]
   have hj:j < C.size:=by omega
   simp [hj]
  ·by_cases h3:o + 1 ≤ j ∧ j < o + 1 + r.length
   ·rw [if_pos h3,if_pos (by simp only [List.length_cons];omega)]
    rw [show j - o = (j - (o + 1)) + 1 from by omega,List.getElem?_cons_succ]
   ·rw [if_neg h3,if_neg (by simp only [List.length_cons];omega)]
    rw [Array.getElem?_setIfInBounds_ne (by omega)]
theorem setAll_full (C cs:Array Value) (h:cs.size = C.size):setAll C 0 cs.toList = cs:=by
 obtain ⟨h1,h2⟩:=setAll_get cs.toList 0 C (by simp;omega)
 apply Array.ext_getElem?
 intro j
 rw [h2 j]
 split
 ·simp
 ·rename_i hn
  simp only [Nat.zero_le,Nat.zero_add,Array.length_toList,true_and] at hn
  rw [Array.getElem?_eq_none (by omega),Array.getElem?_eq_none (by omega)]
theorem there_blk {w:World} {g:Nat} {C:Array Value} {t:TypeId} (h:w.heap[g]? = some (.cells C t (0,0))) {n:Nat} (hn:n ≤ C.size):w.there g 0 n:=fun j hj=>by
 obtain ⟨h1,h2⟩:=cellsN (i:=j) h (by omega)
 rw [Nat.zero_add]
 exact ⟨by rw [h1];rfl,h2⟩
theorem infoReq:(Tryz.prog.info? 38).map (·.size) = some 29:=by kernel_rfl
theorem zeroCells_size:zeroCells.size = 29:=rfl
theorem reqCells_size (r:ReqD) (lv pv hv rv tv:Value):(reqCells r lv pv hv rv tv).size = 29:=rfl
theorem ReqV.size {B:Nat} {w:World} {cs:Array Value} {r:ReqD} (h:ReqV B w cs r):cs.size = 29:=by
 obtain ⟨lv,pv,hv,rv,tv,pl,tl,rfl, -⟩:=h;rfl
theorem ReqV.one {B:Nat} {w:World} {cs:Array Value} {r:ReqD} (h:ReqV B w cs r):cs.all (·.oneCell') = true:=by
 obtain ⟨lv,pv,hv,rv,tv,pl,tl,rfl,h1,⟨h2, -⟩,h3,h4,⟨h5, -⟩, -⟩:=h
 obtain ⟨A1,c1,rfl⟩:=h1.slice
 obtain ⟨A2,c2,rfl⟩:=h2.1.slice
 obtain ⟨A3,c3,rfl⟩:=h3.slice
 obtain ⟨A4,c4,rfl⟩:=h4.slice
 obtain ⟨A5,c5,rfl⟩:=h5.1.slice
 simp [reqCells,Value.oneCell']
theorem zero_one:zeroCells.all (·.oneCell') = true:=by simp [zeroCells,reqCells,Value.oneCell']
theorem req_store {w:World} {g:Nat} {C cs:Array Value} (h:w.heap[g]? = some (.cells C 38 (0,0))) (hC:C.size = 29) (hs:cs.size = 29):(w.setCells g 0 cs.toList).heap[g]? = some (.cells cs 38 (0,0)) ∧ Fr (fun k=>k = g) w (w.setCells g 0 cs.toList):=
 ⟨by have:=setCells_blk cs.toList 0 C w h;rwa [setAll_full C cs (by omega)] at this,setCells_fr g _ _ _⟩
def CatchP (gq gk:Nat) (w w' : World):Prop:=w'.heap[gq]? = some (.cells zeroCells 38 (0,0)) ∧ w'.heap[gk]? = some (.cells #[.bool false] 4 (0,0)) ∧ Fr (fun k=>k = gq ∨ k = gk) w w'
set_option maxRecDepth 100000 in
set_option maxHeartbeats 800000 in
theorem catch_panicking (gq gk:Nat) (w:World) (C:Array Value) (b:Value) (hq:w.heap[gq]? = some (.cells C 38 (0,0))) (hC:C.size = 29) (hk:w.heap[gk]? = some (.cells #[b] 4 (0,0))) (older:List PanicEntry) :
  CallsD Tryz.prog 28 #[.pointer (some ⟨gq,0,none⟩),.pointer (some ⟨gk,0,none⟩)] (.panicking ({ v:=.iface 74 (.agg #[]),recovered:=false } :: older)) w fun e u' w'=>
   e = .returned (.tuple #[]) ∧ u' = .panicking ({ v:=.iface 74 (.agg #[]),recovered:=true } :: older) ∧ CatchP gq gk w w':=by
 have hlq:=blk_lt hq
 have hlk:=blk_lt hk
 have hne:gq ≠ gk:=fun e=>by rw [e,hk] at hq;cases hq
 have Hth:Hid (∀ W,Fr (fun _=>False) w W → W.there gq 0 29):=fun W hf=>there_blk (hf.blk hq (fun h=>h)) (by omega)
 refine callsD_of_wpS Tryz.func28 rfl fun c₀ cs hu=>?_
 apply wpS_seq
 apply wpS_region
 simp [wpOpsS,go_sem,recoverD,hu,Tryz.ntmps28,Exit.thenS]
 refine wpS_of_wp ?_
 have htm : #[Value.pointer (some ⟨gq,0,none⟩),.pointer (some ⟨gk,0,none⟩)] ++ ((Array.replicate 15 undef).setIfInBounds 3 (.iface 74 (.agg #[]))).setIfInBounds 0 (.iface 74 (.agg #[])) = #[.pointer (some ⟨gq,0,none⟩),.pointer (some ⟨gk,0,none⟩),.iface 74 (.agg #[]),undef,undef,.iface 74 (.agg #[]),undef,undef,undef,undef,undef,undef,undef,undef,undef,undef,undef]:=rfl
 rw [htm]
 have hta:∀ w,(Instr.typeAssert (.iface 74 (.agg #[])) 20 74 true).run Tryz.prog w = .ok (.tuple #[.agg #[],.bool true]) w:=fun _=>by kernel_rfl
 have hA:(w.alloc (.cells #[] 74)).heap[gq]? = some (.cells C 38 (0,0)):=blk_alloc hq _
 have Hth1:Hid ((w.alloc (.cells #[] 74)).there gq 0 zeroCells.size):=there_blk hA (by rw [zeroCells_size];omega)
 obtain ⟨W2,hW2⟩ : ∃ W2,W2 = (w.alloc (.cells #[] 74)).setCells gq 0 zeroCells.toList:=⟨_,rfl⟩
 obtain ⟨hb2,hf2⟩:=req_store hA hC zeroCells_size
 rw [← hW2] at hb2 hf2
 have hk2:W2.heap[gk]? = some (.cells #[b] 4 (0,0)):=hf2.blk (blk_alloc hk _) (fun e=>hne e.symm)
 obtain ⟨d0,e0⟩:=cellsN (i:=0) hk2 (show 0 < 1 by omega)
 have Hfin:Hid (CatchP gq gk w (W2.setCell ⟨gk,0,none⟩ (.bool false))):=⟨(blk_far hb2 (by show gq ≠ gk;exact hne) _),blk_setCell hk2 0 _,(((Fr.refl (fun k=>k = gq ∨ k = gk) w).alloc _).trans hf2 (fun k hk=>.inl (.inl hk))).setCell (p:=⟨gk,0,none⟩) (.inl (.inr rfl)) _⟩
 have HW2:=Lib.hid hW2
 clear htm hA hW2 hb2 hf2 hk2 hq hC hk Hth
 go_wp2_with ((refine wpList_store_mid (op:=⟨none,.store 38 (.tmp 0) (.tmp 16),_,_,_,_⟩) rfl 38 (.tmp 0) (.tmp 16) rfl gq 0 zeroCells rfl rfl Hth1.out infoReq zero_one ?_);rw [← HW2.out])
 exact ⟨rfl,_,rfl,.tuple #[],by simp [results,Tryz.results28],rfl,rfl,Hfin.out⟩
set_option maxRecDepth 100000 in
theorem catch_idle (gq gk:Nat) (w:World) :
  CallsD Tryz.prog 28 #[.pointer (some ⟨gq,0,none⟩),.pointer (some ⟨gk,0,none⟩)] .returning w fun e u' w'=>e = .returned (.tuple #[]) ∧ u' = .returning ∧ w' = w:=by
 refine callsD_of_wpS Tryz.func28 rfl fun c₀ cs hu=>?_
 apply wpS_seq
 apply wpS_region
 simp [wpOpsS,go_sem,recoverD,hu,Tryz.ntmps28,Exit.thenS]
 refine wpS_of_wp ?_
 have htm : #[Value.pointer (some ⟨gq,0,none⟩),.pointer (some ⟨gk,0,none⟩)] ++ ((Array.replicate 15 undef).setIfInBounds 3 .nilIface).setIfInBounds 0 .nilIface = #[.pointer (some ⟨gq,0,none⟩),.pointer (some ⟨gk,0,none⟩),.nilIface,undef,undef,.nilIface,undef,undef,undef,undef,undef,undef,undef,undef,undef,undef,undef]:=rfl
 rw [htm]
 clear htm
 go_wp2
 refine ⟨rfl,.returning,?_,.tuple #[],by simp [results,Tryz.results28],rfl,rfl,rfl⟩
 rw [← hu]
def RqP (line:Str) (w:World) (e:Ending) (w' : World):Prop := ∃ cs b,e = .returned (.tuple #[.agg cs,.bool b]) ∧ ((b = true ∧ ∃ rq,requestD (selParse termB) line = some rq ∧ ReqV w.heap.size w' cs rq) ∨ (b = false ∧ requestD (selParse termB) line = none ∧ cs = zeroCells)) ∧ Below w.heap.size w w'
theorem request_eq {line t:Str} {r:List Str} (h:words line = t :: r):requestD (selParse termB) line = formD (selB line) t r:=by
 unfold requestD
 rw [h]
 unfold selB
 rw [h]
theorem request_nil {line:Str} (h:words line = []):requestD (selParse termB) line = none:=by
 unfold requestD
 rw [h]
theorem words_mem {s t:Str} (h:t ∈ words s):t.length ≤ s.length:=by
 have key:∀ n (s:Str),s.length ≤ n → ∀ t ∈ words s,t.length ≤ s.length:=by
  intro n
  induction n with
  | zero=>
   intro s hs t ht
   have:s = []:=List.eq_nil_of_length_eq_zero (by omega)
   subst this;simp [words,cutW] at ht
  | succ n ih=>
   intro s hs t ht
   rw [words_eq] at ht
   cases hd:dropB s with
   | nil=>rw [hd] at ht;cases ht
   | cons c r=>
    rw [hd] at ht
    have h1' : (c :: r).length ≤ s.length:=by rw [← hd];exact dropWhile_len blank s
    have hnb:=takeWhile_nb_nil hd
    have hsp:=congrArg List.length (List.takeWhile_append_dropWhile (p:=nb) (l:=c :: r))
    rw [List.length_append] at hsp
    rcases List.mem_cons.1 ht with rfl | ht
    ·omega
    ·have h2:((c :: r).dropWhile nb).length ≤ r.length:=by
      have e:nb c = true:=by simp [nb,hnb.2]
      simp only [List.dropWhile_cons,e,if_true]
      exact dropWhile_len nb r
     simp only [List.length_cons] at h1'
     have:=ih _ (by omega) t ht
     omega
 exact key s.length s (Nat.le_refl _) t h
theorem reqU:Tryz.prog.underlying 38 = some (.struct (match Tryz.prog.underlying 38 with | some (.struct f)=>f | _ => #[])):=by kernel_rfl
theorem results13 (tmps:Array Value) (w:World) (gq gk:Nat) (cs:Array Value) (b:Bool) (h2:tmps.getD 2 undef = .pointer (some ⟨gq,0,none⟩)) (h3:tmps.getD 3 undef = .pointer (some ⟨gk,0,none⟩)) (hq:w.heap[gq]? = some (.cells cs 38 (0,0))) (hs:cs.size = 29) (hk:w.heap[gk]? = some (.cells #[.bool b] 4 (0,0))) :
  (results Tryz.f13 tmps).run Tryz.prog w = .ok (.tuple #[.agg cs,.bool b]) w:=by
 have h2' : tmps[2]?.getD undef = .pointer (some ⟨gq,0,none⟩):=by simpa using h2
 have h3' : tmps[3]?.getD undef = .pointer (some ⟨gk,0,none⟩):=by simpa using h3
 have hc:=(cellsN (i:=0) hk (show 0 < 1 by omega)).1
 have hl:=run_loadVar_row (P:=Tryz.prog) w gq 38 38 cs (0,0) _ hq reqU rfl (by rw [hs];exact infoReq)
 have hb:(loadVar 4 ⟨gk,0,none⟩).run Tryz.prog w = .ok (.bool b) w:=by simp [go_sem,hc]
 simp [results,Tryz.results13,h2',h3',asAddr,hl,hb,Result.andThen]
theorem door_fault {line:Str} {w W:World} {gq:Nat} {tmps:Array Value} {C:Array Value} {b:Value} (hn:requestD (selParse termB) line = none) (hgq:gq = w.heap.size) (hq:W.heap[gq]? = some (.cells C 38 (0,0))) (hC:C.size = 29) (hk:W.heap[gq + 1]? = some (.cells #[b] 4 (0,0))) (hb:Below w.heap.size w W)
  (h2:tmps.getD 2 undef = .pointer (some ⟨gq,0,none⟩)) (h3:tmps.getD 3 undef = .pointer (some ⟨gq + 1,0,none⟩)) :
  bodyPostD Tryz.prog Tryz.f13 (RqP line w) (Exit.panic [{ v:=.iface 74 (.agg #[]),recovered:=false }]) { tmps:=tmps,defers := [{ target:=Target.fn (Fn.func 28) #[.pointer (some ⟨gq,0,none⟩),.pointer (some ⟨gq + 1,0,none⟩)],args := #[] }] } W:=by
 refine leaves_cons (f:=28) (args := #[.pointer (some ⟨gq,0,none⟩),.pointer (some ⟨gq + 1,0,none⟩)]) (by simp) (by simp [go_sem]) ?_
 refine (catch_panicking gq (gq + 1) W C b hq hC hk []).mono ?_
 rintro e u' w'' ⟨rfl,rfl,h5,h6,h7⟩
 show Leaves _ _ _ _ [] .returning w''
 refine ⟨_,results13 tmps w'' gq (gq + 1) zeroCells false h2 h3 h5 zeroCells_size h6,zeroCells,false,rfl,.inr ⟨rfl,hn,rfl⟩,hb.trans (h7.to_below (fun k hk=>by rcases hk with rfl | rfl <;> omega) hb.size)⟩
theorem door_ret {line:Str} {w W:World} {gq:Nat} {tmps:Array Value} {cs:Array Value} {rq:ReqD} (hn:requestD (selParse termB) line = some rq) (hq:W.heap[gq]? = some (.cells cs 38 (0,0))) (hv:ReqV w.heap.size W cs rq) (hk:W.heap[gq + 1]? = some (.cells #[.bool true] 4 (0,0))) (hb:Below w.heap.size w W)
  (h2:tmps.getD 2 undef = .pointer (some ⟨gq,0,none⟩)) (h3:tmps.getD 3 undef = .pointer (some ⟨gq + 1,0,none⟩)) :
  bodyPostD Tryz.prog Tryz.f13 (RqP line w) Exit.ret { tmps:=tmps,defers := [{ target:=Target.fn (Fn.func 28) #[.pointer (some ⟨gq,0,none⟩),.pointer (some ⟨gq + 1,0,none⟩)],args := #[] }] } W:=by
 refine leaves_cons (f:=28) (args := #[.pointer (some ⟨gq,0,none⟩),.pointer (some ⟨gq + 1,0,none⟩)]) (by simp) (by simp [go_sem]) ?_
 refine (catch_idle gq (gq + 1) W).mono ?_
 rintro e u' w'' ⟨rfl,rfl,rfl⟩
 show Leaves _ _ _ _ [] .returning w''
 exact ⟨_,results13 tmps w'' gq (gq + 1) cs true h2 h3 hq hv.size hk,cs,true,rfl,.inl ⟨rfl,rq,hn,hv⟩,hb⟩
set_option maxRecDepth 100000 in
set_option maxHeartbeats 6400000 in
theorem request_calls (w:World) (G:Glob w) (line:Str) (hl:line.length ≤ 1048576):Calls Tryz.prog 13 #[.string (sb line)] w (RqP line w):=by
 have hmf:∀ (fn:Fn) (first cap:Array Value) (w:World),(Instr.makeFunc fn first cap).run Tryz.prog w = .ok (.func fn first cap) w:=fun _ _ _ _=>rfl
 obtain ⟨gq,hgq⟩ : ∃ gq,gq = w.heap.size:=⟨_,rfl⟩
 obtain ⟨W2,hW2⟩ : ∃ W2,W2 = (w.alloc (.cells zeroCells 38)).alloc (.cells #[.bool false] 4):=⟨_,rfl⟩
 have hb2:W2.heap[gq]? = some (.cells zeroCells 38 (0,0)) ∧ W2.heap[gq + 1]? = some (.cells #[.bool false] 4 (0,0)) ∧ Below w.heap.size w W2 ∧ W2.heap.size = gq + 2:=by
  rw [hW2,hgq]
  exact ⟨blk_alloc (blk_new _ _) _,blk_new2 _ _ _,(bel_alloc _ _).trans ((bel_alloc _ _).mono (by rw [alloc_size];omega)),by rw [alloc_size,alloc_size]⟩
 have Hb2:=Lib.hid hb2
 have Htk:Hid (∀ W,W = W2 → Calls Tryz.prog 26 #[.string (sb line)] W fun e w' => ∃ A n c,e = .returned (.slice A n c) ∧ n = (words line).length ∧ RdT w' (.slice A n c) (words line) ∧ (∀ k,(Value.slice A n c).ownBlock = some k → W2.heap.size ≤ k) ∧ Below W2.heap.size W2 w'):=fun W hW=>by
  rw [hW]
  refine (tokens_calls W2 line hl).mono ?_
  rintro e w' ⟨v,rfl,h1,h2,h3⟩
  obtain ⟨A,c,rfl⟩:=h1.slice
  exact ⟨A,_,c,rfl,rfl,h1,h2,h3⟩
 have HG:=Lib.hid G
 have Hl:=Lib.hid hl
 generalize hS:sb line = S at Htk
 have HS:=Lib.hid hS
 have HW2:=Lib.hid hW2
 have Hgq:=Lib.hid hgq
 have hgs:w.heap.size = gq:=hgq.symm
 clear G hl hb2 hS hW2 hgq
 go_enter_defers Tryz.func13,Tryz.ntmps13
 go_wp2_with fail
 refine (Htk.out _ ?hw).mono ?_
 case hw=>rw [HW2.out];rfl
 rintro e w3 ⟨A,n,c,rfl,hn,hrd,hown,hw3⟩
 obtain ⟨g,hg⟩ : ∃ g,g = w3.heap.size:=⟨_,rfl⟩
 obtain ⟨W4,hW4⟩ : ∃ W4,W4 = w3.alloc (.cells #[.slice A n c,.string S] 78):=⟨_,rfl⟩
 have hs3:=hw3.size
 have hB4:Below w3.heap.size w3 W4:=by rw [hW4];exact bel_alloc _ _
 have H4:Hid (W4.heap[g]? = some (.cells #[.slice A n c,.string (sb line)] 78 (0,0)) ∧ W4.heap[gq]? = some (.cells zeroCells 38 (0,0)) ∧ W4.heap[gq + 1]? = some (.cells #[.bool false] 4 (0,0)) ∧ Below w.heap.size w W4 ∧ gq + 2 ≤ g):=by
  refine ⟨by rw [hW4,hg,HS.out];exact blk_new _ _,?_,?_,?_,by rw [hg];have:=Hb2.out.2.2.2;omega⟩
  ·exact blk_below (blk_below Hb2.out.1 hw3) hB4
  ·exact blk_below (blk_below Hb2.out.2.1 hw3) hB4
  ·exact Hb2.out.2.2.1.trans ((hw3.trans (hB4.mono hs3)).mono Hb2.out.2.2.1.size)
 have HR4:Hid (RS g gq (fun k=>k = gq) line W4 W4 (words line) zeroCells):=by
  have hrd4:RdT W4 (.slice A n c) (words line):=RdS.below hrd hB4
  refine ⟨⟨_,H4.out.1,hrd4,fun hl k hk=>⟨?_,?_⟩⟩,H4.out.2.1,zeroCells_size,FQ.refl H4.out.2.1 zeroCells_size (by have:=H4.out.2.2.2.2;omega)⟩
  ·have:=RdS.lt strC_len (by decide) hrd hl k hk;omega
  ·have:=hown k hk;have:=Hb2.out.2.2.2;show ¬ k = gq;omega
 have Hsd:Hid (Sd g gq (fun k=>k = gq)):=⟨by have:=H4.out.2.2.2.2;omega,rfl,by have:=H4.out.2.2.2.2;show ¬ g = gq;omega⟩
 have Hn:=Lib.hid hn
 have HW4:=Lib.hid hW4
 have hg2:w3.heap.size = g:=hg.symm
 obtain ⟨cc0, -, -, -⟩:=cells2 H4.out.1
 have hnl:n = (words line).length:=hn
 clear hn hrd hown hw3 hg hW4 hB4 hs3 Htk hnl
 cases hwd:words line with
 | nil=>
  have Hno:=Lib.hid (request_nil hwd)
  obtain rfl:n = 0:=by rw [Hn.out,hwd];rfl
  clear hwd
  go_wp2_with (go_at_call 29;with_reducible refine (needF_calls _ _).mono ?_;rintro e wz ⟨rfl,hwz⟩;obtain rfl:=hwz.symm)
  rw [← HW4.out]
  exact door_fault Hno.out Hgq.out H4.out.2.1 zeroCells_size H4.out.2.2.1 H4.out.2.2.2.1 rfl rfl
 | cons tw r=>
  have Hreq:=Lib.hid (request_eq hwd)
  rw [hwd] at HR4
  have hn1:0 < n:=by rw [Hn.out,hwd];simp
  have hn0:(0:Int) < (n:Int):=by omega
  have hn0b:decide ((0:Int) < (n:Int)) = true:=decide_eq_true hn0
  have Hfo:Hid (∀ W,W = W4 → Calls Tryz.prog 30 #[] W fun e w' => ∃ b,e = .returned (.map (some b)) ∧ FMap W4 w' b formF):=fun W hW=>by rw [hW];exact forms_calls W4
  have Hwd:=Lib.hid hwd
  clear hwd
  go_wp2_with (go_at_call 29;with_reducible refine (needT_calls _ _).mono ?_;rintro e wz ⟨rfl,hwz⟩;obtain rfl:=hwz.symm)
  rw [← HW4.out]
  refine (Hfo.out _ rfl).mono ?_
  rintro e w5 ⟨b,rfl,hM⟩
  have H5:=Lib.hid (HR4.out.below hM.bel)
  have Hw:=Lib.hid (H5.out.wordL Hsd.out)
  have HM:=Lib.hid hM
  clear hM Hfo cc0 hn1 hn0 hn0b
  go_wp2_with fail
  with_reducible refine Hw.out.mono ?_
  rintro e w6 ⟨rfl,hR6,hF6⟩
  have HR6:=Lib.hid hR6
  have hmb:w6.heap[b]? = some (.map (fEnts formF) formF.length):=hF6.blk HM.out.blk (fun e=>by have:=HM.out.le;have:=blk_lt H4.out.1;omega)
  have hlk:=run_lookF hmb (sb tw)
  rw [show lookF (sb tw) formF = lookS tw formL from lookF_map tw formL] at hlk
  have Hk:Hid (∀ W,FQ g gq W4 W → W.heap[gq + 1]? = some (.cells #[.bool false] 4 (0,0)) ∧ Below w.heap.size w W):=fun W hq=>by
   have h1:=H4.out.2.2.2.2
   have h2:=Hgq.out
   exact ⟨hq.toFr.blk H4.out.2.2.1 (fun e=>by omega),H4.out.2.2.2.1.trans (hq.toFr.to_below (B:=w.heap.size) (fun k hk=>by rcases hk with rfl | rfl <;> omega) H4.out.2.2.2.1.size)⟩
  have HGf:Hid (∀ W,FQ g gq W4 W → Glob W):=fun W hq=>by
   have h1:=H4.out.2.2.2.2
   have h2:=Hgq.out
   have h3:=HG.out.size
   exact (HG.out.below H4.out.2.2.2.1).keep hq.toFr (fun k hk=>by rcases hk with rfl | rfl <;> omega)
  have Hg4:Hid (4 ≤ g):=by have h1:=H4.out.2.2.2.2;have h2:=Hgq.out;have h3:=HG.out.size;show _ ≤ _;omega
  clear hmb hF6 hR6 Hw HM
  rcases form_look line tw r with ⟨nf,hl,hC⟩ | ⟨hl,hno⟩
  case inr=>
   rw [hl] at hlk
   have Hno:Hid (requestD (selParse termB) line = none):=by show _ = _;rw [Hreq.out,hno]
   clear hl hno
   go_wp2_with (go_at_call 29;with_reducible refine (needF_calls _ _).mono ?_;rintro e wz ⟨rfl,hwz⟩;obtain rfl:=hwz.symm)
   exact door_fault Hno.out Hgq.out HR6.out.rq HR6.out.sz (Hk.out _ HR6.out.fr).1 (Hk.out _ HR6.out.fr).2 rfl rfl
  case inl=>
   rw [hl] at hlk
   have HA:FoA g gq (fun k=>k = gq) line W4 w6 r:=⟨HGf.out,HR6.out,Hsd.out,Hg4.out,fun t ht=>Nat.le_trans (words_mem (by rw [Hwd.out];exact List.mem_cons_of_mem _ ht)) Hl.out,by have h1:=words_len line;have h2:=Hl.out;rw [Hwd.out] at h1;simp only [List.length_cons] at h1;omega,Hl.out,by rw [Hwd.out];simp⟩
   have HC:=Lib.hid (hC g gq (fun k=>k = gq) W4 w6 HA)
   have hcf:=form_enter hl
   clear hl hC HA
   go_wp2_with (go_at_call 29;with_reducible refine (needT_calls _ _).mono ?_;rintro e wz ⟨rfl,hwz⟩;obtain rfl:=hwz.symm)
   with_reducible refine HC.out.mono ?_
   rintro e w7 (⟨rest,cs,rfl,hR7,hy,hno⟩ | ⟨ho,rfl,hF7⟩)
   case inr=>
    have Hno:Hid (requestD (selParse termB) line = none):=by show _ = _;rw [Hreq.out,ho]
    have HF7:=Lib.hid hF7
    obtain ⟨C7,hC7,hs7⟩:=hF7.blk
    have HC7:=Lib.hid hC7
    clear ho hF7 hC7
    go_wp2
    exact door_fault Hno.out Hgq.out HC7.out hs7 (Hk.out _ HF7.out).1 (Hk.out _ HF7.out).2 rfl rfl
   case inl=>
    have HR7:=Lib.hid hR7
    cases rest with
    | cons t2 r2=>
     have Hno:Hid (requestD (selParse termB) line = none):=by show _ = _;rw [Hreq.out,hno (by simp)]
     obtain ⟨b2,off,c2,hb, -, -, -, -⟩:=hR7.rd.cons
     obtain ⟨d0, -, -, -⟩:=cells2 hb
     obtain ⟨m2,hm2⟩ : ∃ m2,m2 = r2.length:=⟨_,rfl⟩
     have hlen:(t2 :: r2).length = m2 + 1:=by simp [hm2]
     rw [hlen] at d0
     have hz:(((m2:Int) + 1) == 0) = false:=by simp;omega
     clear hR7 hy hno hb hm2 hlen hlk
     go_wp2_with (go_at_call 29;with_reducible refine (needF_calls _ _).mono ?_;rintro e wz ⟨rfl,hwz⟩;obtain rfl:=hwz.symm)
     exact door_fault Hno.out Hgq.out HR7.out.rq HR7.out.sz (Hk.out _ HR7.out.fr).1 (Hk.out _ HR7.out.fr).2 rfl rfl
    | nil=>
     obtain ⟨rq,ho,hv⟩:=hy rfl
     have Hys:Hid (requestD (selParse termB) line = some rq):=by show _ = _;rw [Hreq.out,ho]
     have Hv:=Lib.hid hv
     obtain ⟨A2,c2,hb⟩:=hR7.rd.nil
     obtain ⟨d0, -, -, -⟩:=cells2 hb
     have hrq7:w7.heap[gq]? = some (.cells cs 38 (0,0)):=hR7.rq
     obtain ⟨hs8,hf8⟩:=req_store hrq7 hv.size hv.size
     have Hth:Hid (w7.there gq 0 cs.size):=there_blk hrq7 (Nat.le_refl _)
     have Hsz:Hid ((Tryz.prog.info? 38).map (·.size) = some cs.size):=by show _ = _;rw [hv.size];exact infoReq
     have Hone:=Lib.hid hv.one
     have hk7:=(Hk.out _ hR7.fr).1
     obtain ⟨W8,hW8⟩ : ∃ W8,W8 = w7.setCells gq 0 cs.toList:=⟨_,rfl⟩
     rw [← hW8] at hs8 hf8
     have hk8:W8.heap[gq + 1]? = some (.cells #[.bool false] 4 (0,0)):=hf8.blk hk7 (by omega)
     obtain ⟨k0,kf⟩:=cellsN (i:=0) hk8 (show 0 < 1 by omega)
     have hbw:Below w.heap.size w (W8.setCell ⟨gq + 1,0,none⟩ (.bool true)):=by
      have h1:=(Hk.out _ hR7.fr).2
      have h2:=Hgq.out
      exact (h1.trans (hf8.to_below (fun k hk=>by omega) h1.size)).setCell (by show _ ≤ gq + 1;omega) _
     have Hfin:Hid ((W8.setCell ⟨gq + 1,0,none⟩ (.bool true)).heap[gq]? = some (.cells cs 38 (0,0)) ∧ ReqV w.heap.size (W8.setCell ⟨gq + 1,0,none⟩ (.bool true)) cs rq ∧ (W8.setCell ⟨gq + 1,0,none⟩ (.bool true)).heap[gq + 1]? = some (.cells #[.bool true] 4 (0,0)) ∧ Below w.heap.size w (W8.setCell ⟨gq + 1,0,none⟩ (.bool true))):=
      ⟨blk_far hs8 (by show gq ≠ gq + 1;omega) _,((hv.fr ((hf8.mono (T:=fun k=>k = gq ∨ k = gq + 1) (fun k hk=>.inl hk)).setCell (p:=⟨gq + 1,0,none⟩) (.inl (.inr rfl)) (.bool true)) (fun k hk e=>by have:=H4.out.2.2.2.2;have:=blk_lt H4.out.1;rcases e with e | e <;> omega)).mono (H4.out.2.2.2.1.size)),blk_setCell hk8 0 _,hbw⟩
     have HW8:=Lib.hid hW8
     have Hb7:=Lib.hid hrq7
     clear hR7 hy hno hb hrq7 hs8 hf8 hk7 hk8 hbw hW8 ho hv hlk
     go_wp2_with (first | (go_at_call 29;with_reducible refine (needT_calls _ _).mono ?_;rintro e wz ⟨rfl,hwz⟩;obtain rfl:=hwz.symm) | (refine wpList_load_row (o:=⟨some 42,.load 38 (.tmp 2),_,_,_,_⟩) rfl 38 (.tmp 2) rfl gq rfl 38 cs (0,0) _ Hb7.out reqU rfl Hsz.out ?_) | ((refine wpList_store_mid (op:=⟨none,.store 38 (.tmp 2) (.tmp 42),_,_,_,_⟩) rfl 38 (.tmp 2) (.tmp 42) rfl gq 0 cs rfl rfl Hth.out Hsz.out Hone.out ?_);rw [← HW8.out]))
     exact door_ret Hys.out Hfin.out.1 Hfin.out.2.1 Hfin.out.2.2.1 Hfin.out.2.2.2 rfl rfl
end Go.Proofs.YtpfkkagkbneilaaGreatDoor
namespace Go.Proofs.YtpfkkagkbneilaaGreatDoor
open Go.RowKit
set_option linter.unusedVariables false
set_option linter.unusedSimpArgs false
def AkP (rd:Str → Option (List Tm)) (t:Str) (w:World) (e:Ending) (w' : World):Prop := ∃ cs b,e = .returned (.tuple #[.agg cs,.bool b]) ∧ ((b = true ∧ ∃ rq,askD rd t = some rq ∧ ReqV w.heap.size w' cs rq) ∨ (b = false ∧ askD rd t = none ∧ cs = zeroCells)) ∧ Below w.heap.size w w'
theorem cut_take (s:Str):(cutR [35] s).1 = s.takeWhile (· != 35):=by
 have key:∀ s:Str,match cutAt [35] s with
   | some x=>x.1 = s.takeWhile (· != 35)
   | none=>s = s.takeWhile (· != 35):=by
  intro s
  induction s with
  | nil=>simp [cutAt]
  | cons a r ih=>
   unfold cutAt
   by_cases h:a = 35
   ·subst h;simp [List.isPrefixOf]
   ·have h1:([35] : Str).isPrefixOf (a :: r) = false:=by simp [List.isPrefixOf];exact fun e=>h e.symm
    rw [h1]
    have h2:(a != 35) = true:=by simpa using h
    simp only [List.takeWhile_cons,h2,if_true]
    cases hc:cutAt [35] r with
    | none=>rw [hc] at ih;simp only at ih ⊢;simp;exact ih
    | some x=>rw [hc] at ih;simp only at ih ⊢;simp;exact ih
 have h:=key s
 unfold cutR
 cases hc:cutAt [35] s with
 | none=>rw [hc] at h;exact h
 | some x=>rw [hc] at h;exact h
theorem takeWhile_len (p:UInt8 → Bool) (s:Str):(s.takeWhile p).length ≤ s.length:=by
 have:=congrArg List.length (List.takeWhile_append_dropWhile (p:=p) (l:=s))
 rw [List.length_append] at this;omega
theorem ReqV.dry {B:Nat} {w:World} {cs:Array Value} {r:ReqD} (h:ReqV B w cs r) (d:Bool):ReqV B w (cs.setIfInBounds 28 (.bool d)) { r with dry:=d }:=by
 obtain ⟨lv,pv,hv,rv,tv,pl,tl,rfl,h⟩:=h
 exact ⟨lv,pv,hv,rv,tv,pl,tl,rfl,h⟩
theorem results5 (tmps:Array Value) (w:World) (gq:Nat) (cs:Array Value) (b:Bool) (h2:tmps.getD 2 undef = .pointer (some ⟨gq,0,none⟩)) (h3:tmps.getD 3 undef = .bool b) (hq:w.heap[gq]? = some (.cells cs 38 (0,0))) (hs:cs.size = 29) :
  (results Tryz.f5 tmps).run Tryz.prog w = .ok (.tuple #[.agg cs,.bool b]) w:=by
 have h2' : tmps[2]?.getD undef = .pointer (some ⟨gq,0,none⟩):=by simpa using h2
 have h3' : tmps[3]?.getD undef = .bool b:=by simpa using h3
 have hl:=run_loadVar_row (P:=Tryz.prog) w gq 38 38 cs (0,0) _ hq reqU rfl (by rw [hs];exact infoReq)
 simp [results,Tryz.results5,h2',h3',asAddr,hl,Result.andThen]
set_option maxRecDepth 100000 in
set_option maxHeartbeats 6400000 in
theorem ask_calls (w:World) (G:Glob w) (t:Str) (ht:t.length ≤ 1048576):Calls Tryz.prog 5 #[.string (sb t)] w (AkP (selParse termB) t w):=by
 obtain ⟨gq,hgq⟩ : ∃ gq,gq = w.heap.size:=⟨_,rfl⟩
 obtain ⟨W1,hW1⟩ : ∃ W1,W1 = w.alloc (.cells zeroCells 38):=⟨_,rfl⟩
 have H1:Hid (W1.heap[gq]? = some (.cells zeroCells 38 (0,0)) ∧ Below w.heap.size w W1 ∧ Glob W1 ∧ W1.heap.size = gq + 1):=by
  rw [hW1,hgq]
  exact ⟨blk_new _ _,bel_alloc _ _,G.below (bel_alloc _ _),alloc_size _ _⟩
 have Hco:Hid (∀ W,W = W1 → Calls Tryz.prog 10 #[.string (sb t),.string (ByteArray.mk #[10])] W fun e w'=>e = .returned (.bool (decide ((10:UInt8) ∈ t))) ∧ Below W1.heap.size W1 w'):=fun W hW=>by rw [hW];exact lcontains_calls W1 t 10
 have Hcut:Hid (∀ W,Below W1.heap.size W1 W → Calls Tryz.prog 11 #[.string (sb t),.string (ByteArray.mk #[35])] W fun e w' => ∃ X B,e = .returned (.tuple #[.string (sb (t.takeWhile (· != 35))),.string X,.bool B]) ∧ Below W.heap.size W w'):=fun W hb=>by
  refine (lcut_calls W (H1.out.2.2.1.below hb) t [35] (by omega) (by decide)).mono ?_
  rintro e w' ⟨rfl,h⟩
  rw [cut_take]
  exact ⟨_,_,rfl,h⟩
 obtain ⟨u,hu⟩ : ∃ u,u = t.takeWhile (· != 35):=⟨_,rfl⟩
 have hul:u.length ≤ 1048576:=by rw [hu];exact Nat.le_trans (takeWhile_len _ _) ht
 have Hul:=Lib.hid hul
 have Hak1:Hid ((10:UInt8) ∈ t → askD (selParse termB) t = none):=fun h=>by unfold askD;rw [if_pos h]
 have Hak2:Hid (¬ (10:UInt8) ∈ t → askD (selParse termB) t = (requestD (selParse termB) (dryS u).2).map fun q=>{ q with dry:=(dryS u).1 }):=fun h=>by unfold askD;rw [if_neg h,← hu]
 rw [← hu] at Hcut
 have HW1:=Lib.hid hW1
 have Hgq:=Lib.hid hgq
 have hgs:w.heap.size = gq:=hgq.symm
 have Hgs:=Lib.hid hgs
 generalize hS:sb t = S at Hco Hcut
 have HS:=Lib.hid hS
 clear G ht hW1 hu hul hgq hS
 by_cases hin:(10:UInt8) ∈ t
 ·have Hno:=Lib.hid (Hak1.out hin)
  have hdec:decide ((10:UInt8) ∈ t) = true:=decide_eq_true hin
  rw [hdec] at Hco
  clear hin hdec
  go_enter Tryz.func5,Tryz.ntmps5
  go_wp2_with fail
  refine (Hco.out _ ?hw).mono ?_
  case hw=>rw [HW1.out];rfl
  rintro e w2 ⟨rfl,hw2⟩
  have hb2:w2.heap[gq]? = some (.cells zeroCells 38 (0,0)):=blk_below H1.out.1 hw2
  obtain ⟨hs3,hf3⟩:=req_store hb2 zeroCells_size zeroCells_size
  have Hth:Hid (w2.there gq 0 zeroCells.size):=there_blk hb2 (Nat.le_refl _)
  have Hfin:Hid ((w2.setCells gq 0 zeroCells.toList).heap[gq]? = some (.cells zeroCells 38 (0,0)) ∧ Below w.heap.size w (w2.setCells gq 0 zeroCells.toList)):=by
   have h1:=H1.out.2.2.2
   have h2:=Hgs.out
   refine ⟨hs3,(H1.out.2.1.trans (hw2.mono (by omega))).trans (hf3.to_below (fun k hk=>by omega) ?_)⟩
   have:=hw2.size;omega
  clear hw2 hb2 hs3 hf3
  go_wp2_with (refine wpList_store_mid (op:=⟨none,.store 38 (.tmp 2) (.tmp 9),_,_,_,_⟩) rfl 38 (.tmp 2) (.tmp 9) rfl gq 0 zeroCells rfl rfl Hth.out infoReq zero_one ?_)
  exact bodyPost_ret (results5 _ _ gq zeroCells false rfl rfl Hfin.out.1 zeroCells_size) rfl ⟨zeroCells,false,rfl,.inr ⟨rfl,Hno.out,rfl⟩,Hfin.out.2⟩
 ·have Hak:=Lib.hid (Hak2.out hin)
  have hdec:decide ((10:UInt8) ∈ t) = false:=decide_eq_false hin
  rw [hdec] at Hco
  clear hin hdec
  go_enter Tryz.func5,Tryz.ntmps5
  go_wp2_with fail
  refine (Hco.out _ ?hw).mono ?_
  case hw=>rw [HW1.out];rfl
  rintro e w2 ⟨rfl,hw2⟩
  have Hc2:=Lib.hid (Hcut.out w2 hw2)
  have H2:=Lib.hid hw2
  clear hw2
  go_wp2_with fail
  with_reducible refine Hc2.out.mono ?_
  rintro e w3 ⟨X,B,rfl,hw3⟩
  have H3:Hid (Below W1.heap.size W1 w3):=H2.out.trans (hw3.mono H2.out.size)
  have Hcd:=Lib.hid (cutdry_calls w3 u Hul.out)
  clear hw3
  generalize sb u = US at Hcd
  go_wp2_with fail
  with_reducible refine Hcd.out.mono ?_
  rintro e w4 ⟨rfl,hw4⟩
  have H4:Hid (Below W1.heap.size W1 w4):=H3.out.trans (hw4.mono H3.out.size)
  have hdl:(dryS u).2.length ≤ 1048576:=by
   have:=Hul.out
   unfold dryS
   split
   ·exact Nat.le_trans (behindS_len u 1) this
   ·exact this
  have Hrq:=Lib.hid (request_calls w4 (H1.out.2.2.1.below H4.out) (dryS u).2 hdl)
  obtain ⟨D,hD⟩ : ∃ D,D = (dryS u).1:=⟨_,rfl⟩
  rw [← hD] at Hak
  have HD:=Lib.hid hD
  clear hw4 hdl
  generalize sb (dryS u).2 = DS at Hrq
  rw [← hD]
  clear hD
  go_wp2_with fail
  with_reducible refine Hrq.out.mono ?_
  rintro e w5 ⟨cs,b,rfl,hcase,hw5⟩
  have H5:Hid (Below W1.heap.size W1 w5):=H4.out.trans (hw5.mono H4.out.size)
  have hb5:w5.heap[gq]? = some (.cells zeroCells 38 (0,0)):=blk_below H1.out.1 H5.out
  obtain ⟨q5,hq5⟩ : ∃ q5,q5 = w5.heap.size:=⟨_,rfl⟩
  have hlt5:=blk_lt hb5
  obtain ⟨W6,hW6⟩ : ∃ W6,W6 = w5.alloc (.cells zeroCells 38):=⟨_,rfl⟩
  have hn6:W6.heap[q5]? = some (.cells zeroCells 38 (0,0)):=by rw [hW6,hq5];exact blk_new _ _
  have hcs:cs.size = 29:=by
   rcases hcase with ⟨-,rq, -,hv⟩ | ⟨-, -,rfl⟩
   ·exact hv.size
   ·rfl
  have hone:cs.all (·.oneCell') = true:=by
   rcases hcase with ⟨-,rq, -,hv⟩ | ⟨-, -,rfl⟩
   ·exact hv.one
   ·exact zero_one
  obtain ⟨hs7,hf7⟩:=req_store hn6 zeroCells_size hcs
  have Hth6:Hid (W6.there q5 0 cs.size):=there_blk hn6 (by rw [hcs];decide)
  have Hsz:Hid ((Tryz.prog.info? 38).map (·.size) = some cs.size):=by show _ = _;rw [hcs];exact infoReq
  have Hone:=Lib.hid hone
  obtain ⟨W7,hW7⟩ : ∃ W7,W7 = W6.setCells q5 0 cs.toList:=⟨_,rfl⟩
  rw [← hW7] at hs7 hf7
  have hb6:Below w5.heap.size w5 W6:=by rw [hW6];exact bel_alloc _ _
  have hb7:Below w5.heap.size w5 W7:=hb6.trans (hf7.to_below (fun k hk=>by omega) hb6.size)
  have hq7:W7.heap[gq]? = some (.cells zeroCells 38 (0,0)):=blk_below hb5 hb7
  have HW6:=Lib.hid hW6
  have HW7:=Lib.hid hW7
  have Hq7:=Lib.hid hq7
  have Hs7:=Lib.hid hs7
  have Hbw7:Hid (Below w.heap.size w W7):=by
   have h0:=H1.out.2.1
   exact h0.trans ((H5.out.trans (hb7.mono H5.out.size)).mono h0.size)
  have Hv7:Hid ((b = true ∧ ∃ rq,requestD (selParse termB) (dryS u).2 = some rq ∧ ReqV w4.heap.size w5 cs rq) ∨ (b = false ∧ requestD (selParse termB) (dryS u).2 = none)):=by
   rcases hcase with ⟨h1,rq,h2,hv⟩ | ⟨h1,h2, -⟩
   ·exact .inl ⟨h1,rq,h2,hv⟩
   ·exact .inr ⟨h1,h2⟩
  have Hlt:Hid (gq < q5 ∧ gq < w4.heap.size):=⟨by omega,by have:=H4.out.size;have:=H1.out.2.2.2;omega⟩
  have Hb7:=Lib.hid hb7
  have Hq5:=Lib.hid hq5
  have hq5s:w5.heap.size = q5:=hq5.symm
  have hsd:=hcs
  have Hcs:=Lib.hid hsd
  clear hcase hw5 hb5 hlt5 hn6 hcs hone hs7 hf7 hb6 hb7 hq7 hW6 hW7 hq5 hsd
  have Hth6e:Hid ((w5.alloc (.cells zeroCells 38)).there q5 0 cs.size):=by rw [← HW6.out];exact Hth6.out
  have HW7e:Hid (W7 = (w5.alloc (.cells zeroCells 38)).setCells q5 0 cs.toList):=by rw [← HW6.out];exact HW7.out
  have Hth7:Hid (W7.there gq 0 zeroCells.size):=there_blk Hq7.out (Nat.le_refl _)
  cases b with
  | false=>
   have Hno:Hid (askD (selParse termB) t = none):=by
    rcases Hv7.out with ⟨h, -⟩ | ⟨-,h⟩
    ·cases h
    ·show _ = _;rw [Hak.out,h];rfl
   obtain ⟨hs8,hf8⟩:=req_store Hq7.out zeroCells_size zeroCells_size
   have Hfin:Hid ((W7.setCells gq 0 zeroCells.toList).heap[gq]? = some (.cells zeroCells 38 (0,0)) ∧ Below w.heap.size w (W7.setCells gq 0 zeroCells.toList)):=
    ⟨hs8,Hbw7.out.trans (hf8.to_below (fun k hk=>by have:=Hgs.out;omega) Hbw7.out.size)⟩
   clear hs8 hf8
   go_wp2_with (first | ((refine wpList_store_mid (op:=⟨none,.store 38 (.tmp 5) (.tmp 24),_,_,_,_⟩) rfl 38 (.tmp 5) (.tmp 24) rfl q5 0 cs rfl rfl Hth6e.out Hsz.out Hone.out ?_);(show wpList _ _ _ _ _ (World.setCells (w5.alloc (.cells zeroCells 38)) q5 0 cs.toList));rw [← HW7e.out]) | (refine wpList_store_mid (op:=⟨none,.store 38 (.tmp 2) (.tmp 28),_,_,_,_⟩) rfl 38 (.tmp 2) (.tmp 28) rfl gq 0 zeroCells rfl rfl Hth7.out infoReq zero_one ?_))
   exact bodyPost_ret (results5 _ _ gq zeroCells false rfl rfl Hfin.out.1 zeroCells_size) rfl ⟨zeroCells,false,rfl,.inr ⟨rfl,Hno.out,rfl⟩,Hfin.out.2⟩
  | true=>
   obtain ⟨rq,hrq,hv⟩ : ∃ rq,requestD (selParse termB) (dryS u).2 = some rq ∧ ReqV w4.heap.size w5 cs rq:=by
    rcases Hv7.out with ⟨-,h⟩ | ⟨h, -⟩
    ·exact h
    ·cases h
   have Hyes:Hid (askD (selParse termB) t = some { rq with dry:=D }):=by show _ = _;rw [Hak.out,hrq];rfl
   obtain ⟨d28,e28⟩:=cellsN (i:=28) Hs7.out (by rw [Hcs.out];omega)
   generalize cs[28]'_ = X28 at d28
   obtain ⟨cs',hcs'⟩ : ∃ cs',cs' = cs.setIfInBounds 28 (.bool D):=⟨_,rfl⟩
   obtain ⟨W8,hW8⟩ : ∃ W8,W8 = W7.setCell ⟨q5,28,none⟩ (.bool D):=⟨_,rfl⟩
   have hlt:=Hlt.out
   have hq5w:w.heap.size ≤ q5:=by have:=Hgs.out;omega
   have hf8:Fr (fun k=>k = q5) W7 W8:=by rw [hW8];exact (Fr.refl (fun k=>k = q5) _).setCell (p:=⟨q5,28,none⟩) (.inl rfl) _
   have hb8:W8.heap[q5]? = some (.cells cs' 38 (0,0)):=by rw [hW8,hcs'];exact blk_setCell Hs7.out 28 _
   have hq8:W8.heap[gq]? = some (.cells zeroCells 38 (0,0)):=hf8.blk Hq7.out (by omega)
   have hbel8:Below w5.heap.size w5 W8:=by rw [hW8];exact Hb7.out.setCell (by show _ ≤ q5;rw [Hq5.out];exact Nat.le_refl _) _
   have hv8:ReqV w4.heap.size W8 cs' { rq with dry:=D }:=by rw [hcs'];exact (hv.below hbel8).dry D
   have hcs8:cs'.size = 29:=hv8.size
   obtain ⟨hs9,hf9⟩:=req_store hq8 zeroCells_size hcs8
   have Hth8:Hid (W8.there gq 0 cs'.size):=there_blk hq8 (by rw [hcs8];decide)
   have Hsz8:Hid ((Tryz.prog.info? 38).map (·.size) = some cs'.size):=by show _ = _;rw [hcs8];exact infoReq
   have Hone8:=Lib.hid hv8.one
   have hbw8:Below w.heap.size w W8:=by rw [hW8];exact Hbw7.out.setCell (by show _ ≤ q5;omega) _
   have Hfin:Hid ((W8.setCells gq 0 cs'.toList).heap[gq]? = some (.cells cs' 38 (0,0)) ∧ Below w.heap.size w (W8.setCells gq 0 cs'.toList) ∧ ReqV w.heap.size (W8.setCells gq 0 cs'.toList) cs' { rq with dry:=D }):=
    ⟨hs9,hbw8.trans (hf9.to_below (fun k hk=>by have:=Hgs.out;omega) hbw8.size),(hv8.fr hf9 (fun k h1 h2=>by omega)).mono (by have:=Hgs.out;omega)⟩
   have HW8:=Lib.hid hW8
   have Hb8:=Lib.hid hb8
   have Hcs8:=Lib.hid hcs8
   clear hv hbel8 hv8 hcs8 hs9 hf9 hbw8 hW8 hb8 hq8 hf8 hlt hq5w hcs' hrq
   go_wp2_with (first | ((refine wpList_store_mid (op:=⟨none,.store 38 (.tmp 5) (.tmp 24),_,_,_,_⟩) rfl 38 (.tmp 5) (.tmp 24) rfl q5 0 cs rfl rfl Hth6e.out Hsz.out Hone.out ?_);(show wpList _ _ _ _ _ (World.setCells (w5.alloc (.cells zeroCells 38)) q5 0 cs.toList));rw [← HW7e.out]) | ((refine wpList_load_row (o:=⟨some 31,.load 38 (.tmp 5),_,_,_,_⟩) rfl 38 (.tmp 5) rfl q5 rfl 38 cs' (0,0) _ (HW8.out ▸ Hb8.out) reqU rfl Hsz8.out ?_);rw [← HW8.out]) | (refine wpList_store_mid (op:=⟨none,.store 38 (.tmp 2) (.tmp 31),_,_,_,_⟩) rfl 38 (.tmp 2) (.tmp 31) rfl gq 0 cs' rfl rfl Hth8.out Hsz8.out Hone8.out ?_))
   exact bodyPost_ret (results5 _ _ gq cs' true rfl rfl Hfin.out.1 Hcs8.out) rfl ⟨cs',true,rfl,.inl ⟨rfl,_,Hyes.out,Hfin.out.2.2⟩,Hfin.out.2.1⟩
end Go.Proofs.YtpfkkagkbneilaaGreatDoor
namespace Go.Proofs.YtpfkkagkbneilaaGreatDoor
open Go.RowKit
set_option linter.unusedVariables false
set_option linter.unusedSimpArgs false
theorem cutPre_eq {n t:Str}:cutPre (n ++ [61]) t = if n.length < t.length ∧ t.take n.length = n ∧ t[n.length]? = some 61 then some (t.drop (n.length + 1)) else none:=by
 unfold cutPre
 have key:(n ++ [61]).isPrefixOf t = true ↔ (n.length < t.length ∧ t.take n.length = n ∧ t[n.length]? = some 61):=by
  rw [List.isPrefixOf_iff_prefix]
  constructor
  ·rintro ⟨r,rfl⟩
   simp
  ·rintro ⟨h1,h2,h3⟩
   refine ⟨t.drop (n.length + 1),?_⟩
   have h4:t.drop n.length = 61 :: t.drop (n.length + 1):=by
    rw [List.drop_eq_getElem_cons h1]
    rw [List.getElem?_eq_getElem h1] at h3
    rw [Option.some.inj h3]
   conv=>rhs;rw [← List.take_append_drop n.length t,h2,h4]
   simp
 by_cases h:(n ++ [61]).isPrefixOf t = true
 ·rw [if_pos h,if_pos (key.1 h)];simp
 ·rw [if_neg h,if_neg (fun e=>h (key.2 e))]
def VlP (o:Option Str) (w:World) (e:Ending) (w' : World):Prop := ∃ x:ByteArray,e = .returned (.tuple #[.string x,.bool o.isSome]) ∧ (∀ v,o = some v → x = sb v) ∧ w' = w
set_option maxRecDepth 100000 in
set_option maxHeartbeats 3200000 in
theorem optval_calls (w:World) (t n:Str) (ht:t.length ≤ 1048576):Calls Tryz.prog 69 #[.string (sb t),.string (sb n)] w (VlP (cutPre (n ++ [61]) t) w):=by
 have hst:(sb t).size = t.length:=sb_size t
 have hsn:(sb n).size = n.length:=sb_size n
 have hEq:=cutPre_eq (n:=n) (t:=t)
 have htb:(t.length:Int) ≤ 1048576:=by omega
 by_cases h1:n.length < t.length
 case neg=>
  have Hp:Hid (VlP (cutPre (n ++ [61]) t) w (.returned (.tuple #[.string (ByteArray.mk #[]),.bool false])) w):=by
   show VlP _ _ _ _
   rw [hEq,if_neg (fun h=>h1 h.1)]
   exact ⟨_,rfl,(fun v hv=>by cases hv),rfl⟩
  have hb:decide ((n.length:Int) < t.length) = false:=decide_eq_false (by omega)
  have hb2:¬ (n.length:Int) < t.length:=by omega
  generalize sb t = T at hst
  generalize sb n = N at hsn
  generalize cutPre (n ++ [61]) t = o at Hp
  clear hEq h1
  go_enter Tryz.func69,Tryz.ntmps69
  go_wp2
  go_ret2
  exact Hp.out
 have hb:decide ((n.length:Int) < t.length) = true:=decide_eq_true (by omega)
 have hb2:(n.length:Int) < t.length:=by omega
 have hsl:=fun W=>run_slT W t n.length (by omega)
 by_cases h2:t.take n.length = n
 case neg=>
  have Hp:Hid (VlP (cutPre (n ++ [61]) t) w (.returned (.tuple #[.string (ByteArray.mk #[]),.bool false])) w):=by
   show VlP _ _ _ _
   rw [hEq,if_neg (fun h=>h2 h.2.1)]
   exact ⟨_,rfl,(fun v hv=>by cases hv),rfl⟩
  have hbe:((sb (t.take n.length)).toList == (sb n).toList) = false:=beqF' (fun e=>h2 (sb_inj.1 e))
  generalize sb t = T at hst hsl
  generalize sb n = N at hsn hbe
  generalize sb (t.take n.length) = P at hsl hbe
  generalize cutPre (n ++ [61]) t = o at Hp
  clear hEq h1 h2
  go_enter Tryz.func69,Tryz.ntmps69
  go_wp2
  go_ret2
  exact Hp.out
 have hbe:((sb (t.take n.length)).toList == (sb n).toList) = true:=by rw [h2];exact beqT' _
 have hix:=fun W=>run_ix W t n.length t[n.length] (List.getElem?_eq_getElem h1)
 by_cases h3:t[n.length] = 61
 case neg=>
  have Hp:Hid (VlP (cutPre (n ++ [61]) t) w (.returned (.tuple #[.string (ByteArray.mk #[]),.bool false])) w):=by
   show VlP _ _ _ _
   rw [hEq,if_neg (fun h=>h3 (by have:=h.2.2;rw [List.getElem?_eq_getElem h1] at this;exact Option.some.inj this))]
   exact ⟨_,rfl,(fun v hv=>by cases hv),rfl⟩
  have h3b:(((t[n.length].toNat:Nat):Int) == 61) = false:=by
   rw [beq_eq_false_iff_ne]
   intro e
   exact h3 (UInt8.toNat_inj.1 (by have:((t[n.length].toNat:Nat):Int) = 61:=e;show _ = 61;omega))
  generalize t[n.length].toNat = cn at hix h3b
  generalize sb t = T at hst hsl hix
  generalize sb n = N at hsn hbe
  generalize sb (t.take n.length) = P at hsl hbe
  generalize cutPre (n ++ [61]) t = o at Hp
  clear hEq h1 h2 h3
  go_enter Tryz.func69,Tryz.ntmps69
  go_wp2
  go_ret2
  exact Hp.out
 have Hp:Hid (VlP (cutPre (n ++ [61]) t) w (.returned (.tuple #[.string (sb (t.drop (n.length + 1))),.bool true])) w):=by
  show VlP _ _ _ _
  rw [hEq,if_pos ⟨h1,h2,by rw [List.getElem?_eq_getElem h1,h3]⟩]
  exact ⟨_,rfl,(fun v hv=>by cases hv;rfl),rfl⟩
 have h3b:(((t[n.length].toNat:Nat):Int) == 61) = true:=by rw [h3];rfl
 have hsf:=fun W=>run_slF W t (n.length + 1) (by omega)
 have e1:(((n.length + 1:Nat)):Int) = (n.length:Int) + 1:=by omega
 rw [e1] at hsf
 generalize t[n.length].toNat = cn at hix h3b
 generalize sb t = T at hst hsl hix hsf
 generalize sb n = N at hsn hbe
 generalize sb (t.take n.length) = P at hsl hbe
 generalize sb (t.drop (n.length + 1)) = R at hsf Hp
 generalize cutPre (n ++ [61]) t = o at Hp
 have hmax:(n.length:Int) + 1 ≤ t.length:=by omega
 clear hEq h1 h2 h3 e1
 go_enter Tryz.func69,Tryz.ntmps69
 go_wp2
 all_goals (first | (go_ret2;exact Hp.out) | trace_state)
theorem cutAt_at {t:Str} {i:Nat} (h:i < t.length) (hc:t[i] = 61) (hno:∀ j (h:j < t.length),j < i → t[j] ≠ 61):cutAt [61] t = some (t.take i,t.drop (i + 1)):=by
 induction t generalizing i with
 | nil=>simp at h
 | cons a r ih=>
  unfold cutAt
  cases i with
  | zero=>
   have:a = 61:=hc
   subst this
   simp [List.isPrefixOf]
  | succ i=>
   have ha:a ≠ 61:=hno 0 (by simp) (by omega)
   have h1:([61] : Str).isPrefixOf (a :: r) = false:=by simp [List.isPrefixOf];exact fun e=>ha e.symm
   rw [h1]
   have:=ih (i:=i) (by simpa using h) (by simpa using hc) (fun j hj hji=>by have:=hno (j + 1) (by simpa using hj) (by omega);simpa using this)
   simp [this]
theorem cutAt_no {t:Str} (hno:∀ j (h:j < t.length),t[j] ≠ 61):cutAt [61] t = none:=by
 induction t with
 | nil=>simp [cutAt]
 | cons a r ih=>
  unfold cutAt
  have ha:a ≠ 61:=hno 0 (by simp)
  have h1:([61] : Str).isPrefixOf (a :: r) = false:=by simp [List.isPrefixOf];exact fun e=>ha e.symm
  rw [h1]
  have:=ih (fun j hj=>by have:=hno (j + 1) (by simpa using hj);simpa using this)
  simp [this]
def HvP (o:Option (Str × Str)) (w:World) (e:Ending) (w' : World):Prop := ∃ (x y:ByteArray),e = .returned (.tuple #[.string x,.string y,.bool o.isSome]) ∧ (∀ v,o = some v → x = sb v.1 ∧ y = sb v.2) ∧ Below w.heap.size w w'
def HvLoop (t:Str) (v5:Value) (wr w:World):Prop := ∃ i:Nat,v5 = .int .i64 i ∧ i ≤ t.length ∧ (∀ j (h:j < t.length),j < i → t[j] ≠ 61) ∧ Below w.heap.size w wr
set_option maxRecDepth 100000 in
set_option maxHeartbeats 3200000 in
theorem halves_calls (w:World) (t:Str) (ht:t.length ≤ 1048576):Calls Tryz.prog 67 #[.string (sb t)] w (HvP (cutAt [61] t) w):=by
 have hst:(sb t).size = t.length:=sb_size t
 have Hix:=Lib.hid (fun W (i:Nat) (h:i < t.length)=>run_ix W t i t[i] (List.getElem?_eq_getElem h))
 have Hsl:=Lib.hid (fun W (i:Nat) (h:i ≤ t.length)=>run_slT W t i h)
 have Hsf:=Lib.hid (fun W (i:Nat) (h:i ≤ t.length)=>run_slF W t i h)
 have htb:(t.length:Int) ≤ 1048576:=by omega
 obtain ⟨N,hN⟩ : ∃ N,N = t.length:=⟨_,rfl⟩
 rw [← hN] at hst htb
 have HN:=Lib.hid hN
 generalize sb t = T at hst Hix Hsl Hsf
 have Hst:Hid (HvLoop t (.int .i64 0) w w):=⟨0,rfl,by omega,fun j h1 h2=>by omega,Below.refl _ _⟩
 clear ht hN
 go_enter Tryz.func67,Tryz.ntmps67
 go_wp2
 go_loopw [5] (fun v5 wr=>HvLoop t v5 wr w) (fun v5 _=>N - (intOf v5).toNat)
 case atStart=>exact Hst.out
 case round=>
  clear Hst
  obtain ⟨i,rfl,hi,hno,hbw⟩:=hrel
  have HB:=Lib.hid hbw
  clear hbw
  rw [← HN.out] at hi
  have Hno:=Lib.hid hno
  clear hno
  by_cases hlt:i < N
  ·have hlt' : i < t.length:=by rw [← HN.out];exact hlt
   have hb:decide ((i:Int) < N) = true:=decide_eq_true (by omega)
   have hb2:(i:Int) < N:=by omega
   have hix:=fun W=>Hix.out W i hlt'
   by_cases hc:t[i] = 61
   ·have Hc:Hid (cutAt [61] t = some (t.take i,t.drop (i + 1))):=cutAt_at hlt' hc Hno.out
    have hcb:(((t[i].toNat:Nat):Int) == 61) = true:=by rw [hc];rfl
    have hsl:=fun W=>Hsl.out W i (by omega)
    have hsf:=fun W=>Hsf.out W (i + 1) (by omega)
    have e1:(((i + 1:Nat)):Int) = (i:Int) + 1:=by omega
    rw [e1] at hsf
    have Hp:Hid (∀ W,Below w.heap.size w W → HvP (cutAt [61] t) w (.returned (.tuple #[.string (sb (t.take i)),.string (sb (t.drop (i + 1))),.bool true])) W):=fun W hB=>by
     show HvP _ _ _ _
     rw [Hc.out]
     exact ⟨_,_,rfl,(fun v hv=>by cases hv;exact ⟨rfl,rfl⟩),hB⟩
    generalize t[i].toNat = cn at hix hcb
    generalize sb (t.take i) = X at hsl Hp
    generalize sb (t.drop (i + 1)) = Y at hsf Hp
    have hb3:(i:Int) + 1 ≤ N:=by omega
    have hw1:IntKind.i64.wrap ((i:Int) + 1) = (i:Int) + 1:=IntWalk.i64_in _ (by omega)
    clear hc Hc hlt hlt' hi e1 Hix Hsl Hsf
    go_wp2
    go_quiet (fail)
    go_wp2
    go_ret3
    exact Hp.out _ (drewB HB.out _)
   ·have hcb:(((t[i].toNat:Nat):Int) == 61) = false:=by
     rw [beq_eq_false_iff_ne]
     intro e
     exact hc (UInt8.toNat_inj.1 (by have:((t[i].toNat:Nat):Int) = 61:=e;show _ = 61;omega))
    have Hk:Hid (HvLoop t (.int .i64 ((i:Int) + 1)) wr w):=⟨i + 1,by simp,by omega,fun j h1 h2=>by
     by_cases e:j = i
     ·subst e;exact hc
     ·exact Hno.out j h1 (by omega),HB.out⟩
    generalize t[i].toNat = cn at hix hcb
    clear hc hlt' Hix Hsl Hsf
    go_wp2
    go_roundw
    case rel=>exact Hk.out
    case measure=>simp [intOf];omega
  ·have Hc:Hid (cutAt [61] t = none):=cutAt_no fun j h=>Hno.out j h (by have:=HN.out;omega)
   have Hp:Hid (HvP (cutAt [61] t) w (.returned (.tuple #[.string (ByteArray.mk #[]),.string (ByteArray.mk #[]),.bool false])) wr):=by
    show HvP _ _ _ _
    rw [Hc.out]
    exact ⟨_,_,rfl,(fun v hv=>by cases hv),HB.out⟩
   have hb:decide ((i:Int) < N) = false:=decide_eq_false (by omega)
   have hb2:¬ (i:Int) < N:=by omega
   clear Hc hlt hi Hix Hsl Hsf
   go_wp2
   go_ret3
   exact Hp.out
theorem dig_over {s:Str} {m i:Nat} (h:4611686018427387904 < numv (s.take i)):digitsS s m = none:=by
 have h1:=numv_mono s i
 unfold digitsS
 rw [if_neg]
 rintro ⟨-, -, -,h2⟩
 omega
def RdgLoop (s:Str) (v6 v7:Value):Prop := ∃ (i:Nat),v7 = .int .i64 i ∧ i ≤ s.length ∧ v6 = .int .i64 ((numv (s.take i):Nat):Int) ∧ numv (s.take i) ≤ 4611686018427387904 ∧ ∀ (j:Nat) (b:UInt8),j < i → s[j]? = some b → isDg b = true
set_option maxRecDepth 100000 in
set_option maxHeartbeats 6400000 in
theorem rdigits_calls (w:World) (s:Str) (m:Nat) (hm:m ≤ 19):Calls Tryz.prog 73 #[.string (sb s),.int .i64 (m:Int)] w (NuPost w (dgI s m)):=by
 have hsz:(sb s).size = s.length:=sb_size s
 by_cases h0:s.length < 1 ∨ m < s.length
 ·have Hres:Hid (digitsS s m = none):=by
   show _ = _
   unfold digitsS
   rw [if_neg]
   rintro ⟨h1,h2, -⟩
   have:=List.length_pos_iff.2 h1
   omega
  have hcs:((s.length:Int) < 1) ∨ (¬ (s.length:Int) < 1 ∧ (m:Int) < s.length):=by omega
  generalize sb s = S at hsz
  clear h0
  rcases hcs with g | ⟨g,g2⟩
  ·have gb:decide ((s.length:Int) < 1) = true:=decide_eq_true g
   go_enter Tryz.func73,Tryz.ntmps73
   go_wp2
   go_ret2
   exact NuPost.mk _ _ rfl (.inr ⟨dgI_none Hres.out,rfl⟩) (Below.refl _ _)
  ·have gb:decide ((s.length:Int) < 1) = false:=decide_eq_false g
   have gb2:decide ((m:Int) < s.length) = true:=decide_eq_true g2
   go_enter Tryz.func73,Tryz.ntmps73
   go_wp2
   go_ret2
   exact NuPost.mk _ _ rfl (.inr ⟨dgI_none Hres.out,rfl⟩) (Below.refl _ _)
 have g1:¬ (s.length:Int) < 1:=by omega
 have g1b:decide ((s.length:Int) < 1) = false:=decide_eq_false g1
 have g2:¬ (m:Int) < s.length:=by omega
 have g2b:decide ((m:Int) < s.length) = false:=decide_eq_false g2
 have Hst:Hid (RdgLoop s (.int .i64 0) (.int .i64 0)):=⟨0,rfl,by omega,by simp [numv],by simp [numv],fun j b h=>by omega⟩
 have Hix:=Lib.hid (fun W (i:Nat) (h:i < s.length)=>run_ix W s i s[i] (List.getElem?_eq_getElem h))
 have Hfin:Hid ((∀ (j:Nat) (b:UInt8),s[j]? = some b → isDg b = true) → numv s ≤ 4611686018427387904 → digitsS s m = some (numv s)):=fun h hv=>by
  have ha:s.all isDg = true:=List.all_eq_true.2 fun c hc=>by
   obtain ⟨i,hi⟩:=List.mem_iff_getElem?.1 hc
   exact h i c hi
  have hne:s ≠ []:=by intro e;rw [e] at h0;simp at h0
  unfold digitsS
  rw [if_pos ⟨hne,by omega,ha,hv⟩]
 have hsb:(s.length:Int) ≤ 19:=by omega
 obtain ⟨N,hN⟩ : ∃ N,N = s.length:=⟨_,rfl⟩
 rw [← hN] at hsz g1 g1b g2 g2b hsb
 have HN:=Lib.hid hN
 generalize sb s = S at hsz Hix
 clear h0 hN
 go_enter Tryz.func73,Tryz.ntmps73
 go_wp2
 go_loop [6,7] (fun v6 v7=>RdgLoop s v6 v7) (fun _ v7=>N - (intOf v7).toNat)
 case atStart=>exact Hst.out
 case round=>
  clear Hst g1 g1b g2 g2b
  obtain ⟨i,rfl,hi,rfl,hle,hno⟩:=hrel
  rw [← HN.out] at hi
  have Hno:=Lib.hid hno
  clear hno
  by_cases hlt:i < N
  ·have hlt' : i < s.length:=by rw [← HN.out];exact hlt
   have hb:decide ((i:Int) < N) = true:=decide_eq_true (by omega)
   have hb2:(i:Int) < N:=by omega
   have hix:=fun W=>Hix.out W i hlt'
   have hgc:s[i]? = some s[i]:=List.getElem?_eq_getElem hlt'
   by_cases hd:isDg s[i] = true
   ·have hdd:=(dgN s[i]).1 hd
    have hnext:=numv_succ s i s[i] hgc
    have Hov:Hid (4611686018427387904 < numv (s.take (i + 1)) → digitsS s m = none):=fun h=>dig_over h
    have Hk:Hid (numv (s.take (i + 1)) ≤ 4611686018427387904 → ∀ x y:Int,x = (numv (s.take (i + 1)):Nat) → y = (i:Int) + 1 → RdgLoop s (.int .i64 x) (.int .i64 y)):=fun h x y hx hy=>⟨i + 1,by rw [hy];simp,by omega,by rw [hx],h,fun j b hj hbj=>by
     by_cases e:j = i
     ·subst e;rw [hgc] at hbj;cases hbj;exact hd
     ·exact Hno.out j b (by omega) hbj⟩
    rw [hnext] at Hk Hov
    generalize numv (s.take i) = n at hle Hk Hov
    generalize s[i].toNat = cn at hix hdd Hk Hov
    obtain ⟨k1,k2⟩:=hdd
    have q1:¬ (cn:Int) < 48:=by omega
    have q1b:decide ((cn:Int) < 48) = false:=decide_eq_false q1
    have q2:¬ (57:Int) < cn:=by omega
    have q2b:decide ((57:Int) < cn) = false:=decide_eq_false q2
    have hwr:IntKind.u8.wrap ((cn:Int) - 48) = (cn:Int) - 48:=by
     rw [IntKind.wrap_u8];omega
    have hcv:IntKind.i64.wrap ((cn:Int) - 48) = (cn:Int) - 48:=IntWalk.i64_in _ (by omega)
    have Hw:=Lib.hid hcv
    clear hgc hlt' hd hnext Hix Hno
    have hdv:0 ≤ (4611686018427387904 - ((cn:Int) - 48)) / 10:=by omega
    by_cases hov:4611686018427387904 < n * 10 + (cn - 48)
    ·have Hres:=Lib.hid (Hov.out hov)
     have q3:(4611686018427387904 - ((cn:Int) - 48)) / 10 < (n:Int):=by omega
     have q3b:decide ((4611686018427387904 - ((cn:Int) - 48)) / 10 < (n:Int)) = true:=decide_eq_true q3
     clear hov Hk Hov
     go_wp2
     go_ret2
     exact NuPost.mk _ _ rfl (.inr ⟨dgI_none Hres.out,rfl⟩) (Below.refl _ _)
    ·have q3:¬ (4611686018427387904 - ((cn:Int) - 48)) / 10 < (n:Int):=by omega
     have q3b:decide ((4611686018427387904 - ((cn:Int) - 48)) / 10 < (n:Int)) = false:=decide_eq_false q3
     have Hk2:=Lib.hid (Hk.out (by omega))
     have hn1:0 ≤ 10 * (n:Int):=by omega
     have hn2:10 * (n:Int) ≤ 4611686018427387904:=by omega
     have hn3:10 * (n:Int) + ((cn:Int) - 48) ≤ 4611686018427387904:=by omega
     clear hov Hk Hov
     go_wp2
     go_round
     case rel=>exact Hk2.out _ _ (by omega) (by omega)
     case measure=>simp [intOf];omega
   ·have hdd:¬ (48 ≤ s[i].toNat ∧ s[i].toNat ≤ 57):=fun h=>hd ((dgN s[i]).2 h)
    have Hres:Hid (digitsS s m = none):=dig_none_letter hgc ((Bool.not_eq_true _).mp hd)
    generalize numv (s.take i) = n at hle
    generalize s[i].toNat = cn at hix hdd
    clear hgc hlt' hd Hix Hno
    by_cases q1:(cn:Int) < 48
    ·have q1b:decide ((cn:Int) < 48) = true:=decide_eq_true q1
     clear hdd
     go_wp2
     go_ret2
     exact NuPost.mk _ _ rfl (.inr ⟨dgI_none Hres.out,rfl⟩) (Below.refl _ _)
    ·have q1b:decide ((cn:Int) < 48) = false:=decide_eq_false q1
     have q2:(57:Int) < cn:=by omega
     have q2b:decide ((57:Int) < cn) = true:=decide_eq_true q2
     clear hdd
     go_wp2
     go_ret2
     exact NuPost.mk _ _ rfl (.inr ⟨dgI_none Hres.out,rfl⟩) (Below.refl _ _)
  ·have Hf:Hid (digitsS s m = some (numv s)):=Hfin.out (fun j b hbj=>Hno.out j b (by have:=(List.getElem?_eq_some_iff.1 hbj).1;have:=HN.out;omega) hbj) (by rw [List.take_of_length_le (by have:=HN.out;omega)] at hle;exact hle)
   have hta:s.take i = s:=List.take_of_length_le (by have:=HN.out;omega)
   rw [hta]
   have hb:decide ((i:Int) < N) = false:=decide_eq_false (by omega)
   have hb2:¬ (i:Int) < N:=by omega
   generalize hn:numv s = n at Hf
   clear hle hta hlt Hix Hno hn
   go_wp2
   go_ret2
   exact NuPost.mk _ _ rfl (.inl ⟨_,dgI_some Hf.out,rfl,rfl⟩) (Below.refl _ _)
end Go.Proofs.YtpfkkagkbneilaaGreatDoor
namespace Go.Proofs.YtpfkkagkbneilaaGreatDoor
open Go.RowKit
set_option linter.unusedVariables false
set_option linter.unusedSimpArgs false
set_option maxRecDepth 100000 in
theorem rnum_calls (w:World) (s:Str) (hs:s.length ≤ 1048576):Calls Tryz.prog 40 #[.string (sb s)] w (NuPost w (numS s)):=by
 have hsz:(sb s).size = s.length:=sb_size s
 have C2:Hid (∀ W,Calls Tryz.prog 73 #[.string (sb s),.int .i64 10] W (NuPost W (dgI s 10))):=fun W=>rdigits_calls W s 10 (by omega)
 cases s with
 | nil=>
  rw [numS_pos (s := []) (by rfl)]
  have hz:¬ (0:Int) < 0:=by omega
  generalize sb [] = S at hsz C2
  generalize dgI [] 10 = o at C2
  have hsz0:S.size = 0:=hsz
  clear hsz
  go_enter Tryz.func40,Tryz.ntmps40
  go_wp2_with fail
  with_reducible refine (C2.out _).mono ?_
  rintro e w2 ⟨v,ok,rfl,hr,hw2⟩
  go_wp2
  go_ret2
  exact NuPost.mk _ _ rfl hr hw2
 | cons c r=>
  have hix:∀ W,(Instr.index 9 (.string (sb (c :: r))) (.int .i64 0)).run Tryz.prog W = .ok (.int .u8 (c.toNat:Int)) W:=fun W=>run_ix W (c :: r) 0 c rfl
  have h0:(0:Int) < ((c :: r).length:Int):=by simp only [List.length_cons];omega
  have h0b:decide ((0:Int) < ((c :: r).length:Int)) = true:=decide_eq_true h0
  by_cases hc:c = 45
  ·subst hc
   have C3:Hid (∀ W,Calls Tryz.prog 73 #[.string (sb r),.int .i64 10] W (NuPost W (dgI r 10))):=fun W=>rdigits_calls W r 10 (by omega)
   have hsl:∀ W,(Instr.slice 9 (.string (sb (45 :: r))) (some (.int .i64 1)) none none).run Tryz.prog W = .ok (.string (sb r)) W:=fun W=>run_slF W (45 :: r) 1 (by simp)
   have hcb:(((45:UInt8).toNat:Int) == 45) = true:=rfl
   have Hle:Hid (∀ v,dgI r 10 = some v → 0 ≤ v ∧ v ≤ 4611686018427387904):=fun v h=>dgI_le h
   rw [numS_neg (s:=45 :: r) (r:=r) (by simp [cutPre,List.isPrefixOf])]
   have hl1:(1:Int) ≤ ((45 :: r:Str).length:Int):=by simp only [List.length_cons];omega
   generalize hL:(45 :: r:Str).length = L at hsz h0 h0b hl1
   generalize sb (45 :: r) = S at hsz C2 hix hsl
   generalize sb r = R at hsl C3
   generalize dgI r 10 = o at C3 Hle
   generalize ((45:UInt8).toNat) = cn at hix hcb
   clear C2 hs hL
   go_enter Tryz.func40,Tryz.ntmps40
   go_wp2_with fail
   with_reducible refine (C3.out _).mono ?_
   rintro e w2 ⟨v,ok,rfl,hr,hw2⟩
   rcases hr with ⟨n,rfl,rfl,rfl⟩ | ⟨rfl,rfl⟩
   ·obtain ⟨l1,l2⟩:=Hle.out _ rfl
    have Hf:Hid (∀ x:Int,x = -v → NuRes (Option.map (fun n => -n) (some v)) x true):=fun x hx=>.inl ⟨-v,rfl,hx,rfl⟩
    go_wp2
    go_ret2
    exact NuPost.mk _ _ rfl (Hf.out _ rfl) hw2
   ·go_wp2
    go_ret2
    exact NuPost.mk _ _ rfl (.inr ⟨rfl,rfl⟩) hw2
  ·have hcb:(((c.toNat:Nat):Int) == 45) = false:=by
    rw [beq_eq_false_iff_ne]
    intro e
    exact hc (UInt8.toNat_inj.1 (by have:((c.toNat:Nat):Int) = 45:=e;show _ = 45;omega))
   rw [numS_pos (s:=c :: r) (by simp [cutPre,List.isPrefixOf];exact fun e=>hc e.symm)]
   generalize (c :: r).length = L at hsz h0 h0b
   generalize sb (c :: r) = S at hsz C2 hix
   generalize dgI (c :: r) 10 = o at C2
   generalize c.toNat = cn at hix hcb
   clear hs hc
   go_enter Tryz.func40,Tryz.ntmps40
   go_wp2_with fail
   with_reducible refine (C2.out _).mono ?_
   rintro e w2 ⟨v,ok,rfl,hr,hw2⟩
   go_wp2
   go_ret2
   exact NuPost.mk _ _ rfl hr hw2
def AtP (l:List Str) (o:Option (Int × List Str)) (w:World) (e:Ending) (w' : World):Prop := ∃ (v:Int) (j:Nat) (ok:Bool),e = .returned (.tuple #[.int .i64 v,.int .i64 (j:Int),.bool ok]) ∧ j ≤ l.length ∧ ((ok = true ∧ o = some (v,l.drop j)) ∨ (ok = false ∧ o = none)) ∧ Below w.heap.size w w'
theorem AtP.mk {l:List Str} {o:Option (Int × List Str)} {w w' : World} {e:Ending} (v:Int) (j:Nat) (ok:Bool) (h1:e = .returned (.tuple #[.int .i64 v,.int .i64 (j:Int),.bool ok])) (h2:j ≤ l.length) (h3:(ok = true ∧ o = some (v,l.drop j)) ∨ (ok = false ∧ o = none)) (h4:Below w.heap.size w w'):AtP l o w e w':=⟨v,j,ok,h1,h2,h3,h4⟩
def optV (name:Str) (other:Int) (f:Str → Option Int) (l:List Str):Option (Int × List Str):=match optS name l with
 | (some u,r)=>(f u).map fun n=>(n,r)
 | (none,r)=>some (other,r)
theorem smallS_V (name:Str) (other:Int) (l:List Str):smallS name other l = optV name other numS l:=rfl
theorem mustS_V (l:List Str):(mustS l).map (fun x=>((x.1:Int),x.2)) = optV [109,117,115,116] 0 (fun u=>dgI u 19) l:=by
 unfold mustS optV
 cases optS [109,117,115,116] l with
 | mk a r=>cases a with
  | none=>rfl
  | some u=>
   show ((digitsS u 19).map fun n=>(n,r)).map _ = (dgI u 19).map _
   unfold dgI
   cases digitsS u 19 <;> rfl
theorem setS_V (name:Str) (l:List Str):setS name l = optV name (-1) (fun u=>(qparse u).map fun (n:Nat)=>(n:Int)) l:=by
 unfold setS optV
 cases optS name l with
 | mk a r=>cases a with
  | none=>rfl
  | some u=>
   show (qparse u).map _ = ((qparse u).map _).map _
   cases qparse u <;> rfl
section
variable {n:Str} {other:Int} {f:Str → Option Int} {l:List Str} {i:Nat}
theorem optV_end (h:l.length ≤ i):optV n other f (l.drop i) = some (other,l.drop i):=by rw [List.drop_eq_nil_of_le h];rfl
theorem optV_no (h:i < l.length) (hc:cutPre (n ++ [61]) l[i] = none):optV n other f (l.drop i) = some (other,l.drop i):=by
 rw [List.drop_eq_getElem_cons h]
 simp only [optV,optS,hc]
theorem optV_yes (h:i < l.length) {u:Str} (hc:cutPre (n ++ [61]) l[i] = some u):optV n other f (l.drop i) = (f u).map fun x=>(x,l.drop (i + 1)):=by
 rw [List.drop_eq_getElem_cons h]
 simp only [optV,optS,hc]
end
set_option maxRecDepth 100000 in
set_option maxHeartbeats 3200000 in
theorem rmust_calls (w:World) (v:Value) (l:List Str) (h:RdT w v l) (hsm:∀ t ∈ l,t.length ≤ 1048576) (hln:l.length ≤ 1048577) (i:Nat) (hi:i ≤ l.length):Calls Tryz.prog 66 #[v,.int .i64 (i:Int)] w (AtP l (optV [109,117,115,116] 0 (fun u=>dgI u 19) (l.drop i)) w):=by
 obtain ⟨A,c,rfl⟩:=h.slice
 obtain ⟨N,hN⟩ : ∃ N,N = l.length:=⟨_,rfl⟩
 obtain ⟨O,hO⟩ : ∃ O,O = optV [109,117,115,116] 0 (fun u=>dgI u 19) (l.drop i):=⟨_,rfl⟩
 rw [← hO]
 by_cases hlt:i < l.length
 case neg=>
  have Hp:Hid (AtP l O w (.returned (.tuple #[.int .i64 0,.int .i64 (i:Int),.bool true])) w):=AtP.mk 0 i true rfl hi (.inl ⟨rfl,by rw [hO];exact optV_end (Nat.le_of_not_lt hlt)⟩) (Below.refl _ _)
  have hb:decide ((i:Int) < N) = false:=decide_eq_false (by omega)
  have hb2:¬ (i:Int) < N:=by omega
  rw [← hN]
  clear h hlt hN hsm hO
  go_enter Tryz.func66,Tryz.ntmps66
  go_wp2
  go_ret3
  exact Hp.out
 obtain ⟨b,off,c2,hv,hc,hb0,hcell⟩:=RdT.some h (by intro e;rw [e] at hlt;simp at hlt)
 cases hv
 have h0:=hcell i hlt
 have htl:=hsm l[i] (List.getElem_mem hlt)
 have Hval:Hid (Calls Tryz.prog 69 #[.string (sb l[i]),.string (ByteArray.mk #[109,117,115,116])] w (VlP (cutPre ([109,117,115,116] ++ [61]) l[i]) w)):=optval_calls w l[i] [109,117,115,116] htl
 have hb:decide ((i:Int) < N) = true:=decide_eq_true (by omega)
 have hb2:(i:Int) < N:=by omega
 have hcapi:(N:Int) ≤ c:=by omega
 have hNb:(N:Int) ≤ 1048577:=by omega
 rw [← hN]
 cases hcp:cutPre ([109,117,115,116] ++ [61]) l[i] with
 | none=>
  rw [hcp] at Hval
  have Hp:Hid (AtP l O w (.returned (.tuple #[.int .i64 0,.int .i64 (i:Int),.bool true])) w):=AtP.mk 0 i true rfl hi (.inl ⟨rfl,by rw [hO];exact optV_no hlt hcp⟩) (Below.refl _ _)
  generalize sb l[i] = T at h0 Hval
  clear h hlt hN hsm hcell hcp htl hO
  go_enter Tryz.func66,Tryz.ntmps66
  go_wp2_with fail
  with_reducible refine Hval.out.mono ?_
  rintro e w2 ⟨x,rfl, -,hw2⟩
  obtain rfl:=hw2.symm
  go_wp2
  go_ret3
  exact Hp.out
 | some u=>
  rw [hcp] at Hval
  have hul:u.length ≤ 1048576:=Nat.le_trans (cutPre_len hcp) htl
  have hOy:O = ((fun u=>dgI u 19) u).map fun x=>(x,l.drop (i + 1)):=by rw [hO];exact optV_yes hlt hcp
  have Hc:Hid (∀ W,Calls Tryz.prog 73 #[.string (sb u),.int .i64 19] W (NuPost W ((fun u=>dgI u 19) u))):=fun W=>rdigits_calls W u 19 (by omega)
  have Hp:Hid (∀ (x:Int) (ok:Bool) W,((ok = true ∧ (fun u=>dgI u 19) u = some x) ∨ (ok = false ∧ (fun u=>dgI u 19) u = none)) → Below w.heap.size w W → AtP l O w (.returned (.tuple #[.int .i64 x,.int .i64 ((i:Int) + 1),.bool ok])) W):=fun x ok W hr hB=>AtP.mk x (i + 1) ok (by simp) hlt (by
   rw [hOy]
   rcases hr with ⟨h1,h2⟩ | ⟨h1,h2⟩
   ·exact .inl ⟨h1,by rw [h2];rfl⟩
   ·exact .inr ⟨h1,by rw [h2];rfl⟩) hB
  generalize sb l[i] = T at h0 Hval
  generalize (fun u=>dgI u 19) u = R at Hp Hc
  clear h hlt hN hsm hcell hcp htl hO hul hOy
  go_enter Tryz.func66,Tryz.ntmps66
  go_wp2_with fail
  with_reducible refine Hval.out.mono ?_
  rintro e w2 ⟨x,rfl,hx,hw2⟩
  obtain rfl:=hx u rfl
  obtain rfl:=hw2.symm
  clear hx
  go_wp2_with fail
  with_reducible refine (Hc.out _).mono ?_
  rintro e w3 ⟨x,ok,rfl,hr,hw3⟩
  have Hq:=Lib.hid (Hp.out x ok w3 (by rcases hr with ⟨n,h1,h2,h3⟩ | ⟨h1,h3⟩;exact .inl ⟨h3,by rw [h1,h2]⟩;exact .inr ⟨h3,h1⟩) hw3)
  clear hr hw3
  go_wp2
  go_ret3
  exact Hq.out
set_option maxRecDepth 100000 in
set_option maxHeartbeats 3200000 in
theorem rsmall_calls (w:World) (v:Value) (l:List Str) (h:RdT w v l) (hsm:∀ t ∈ l,t.length ≤ 1048576) (hln:l.length ≤ 1048577) (i:Nat) (hi:i ≤ l.length) (name:Str) (other:Int):Calls Tryz.prog 65 #[v,.int .i64 (i:Int),.string (sb name),.int .i64 other] w (AtP l (optV name other (numS) (l.drop i)) w):=by
 obtain ⟨A,c,rfl⟩:=h.slice
 obtain ⟨N,hN⟩ : ∃ N,N = l.length:=⟨_,rfl⟩
 obtain ⟨O,hO⟩ : ∃ O,O = optV name other (numS) (l.drop i):=⟨_,rfl⟩
 rw [← hO]
 by_cases hlt:i < l.length
 case neg=>
  have Hp:Hid (AtP l O w (.returned (.tuple #[.int .i64 other,.int .i64 (i:Int),.bool true])) w):=AtP.mk other i true rfl hi (.inl ⟨rfl,by rw [hO];exact optV_end (Nat.le_of_not_lt hlt)⟩) (Below.refl _ _)
  have hb:decide ((i:Int) < N) = false:=decide_eq_false (by omega)
  have hb2:¬ (i:Int) < N:=by omega
  rw [← hN]
  clear h hlt hN hsm hO
  go_enter Tryz.func65,Tryz.ntmps65
  go_wp2
  go_ret3
  exact Hp.out
 obtain ⟨b,off,c2,hv,hc,hb0,hcell⟩:=RdT.some h (by intro e;rw [e] at hlt;simp at hlt)
 cases hv
 have h0:=hcell i hlt
 have htl:=hsm l[i] (List.getElem_mem hlt)
 have Hval:Hid (Calls Tryz.prog 69 #[.string (sb l[i]),.string (sb name)] w (VlP (cutPre (name ++ [61]) l[i]) w)):=optval_calls w l[i] name htl
 have hb:decide ((i:Int) < N) = true:=decide_eq_true (by omega)
 have hb2:(i:Int) < N:=by omega
 have hcapi:(N:Int) ≤ c:=by omega
 have hNb:(N:Int) ≤ 1048577:=by omega
 rw [← hN]
 cases hcp:cutPre (name ++ [61]) l[i] with
 | none=>
  rw [hcp] at Hval
  have Hp:Hid (AtP l O w (.returned (.tuple #[.int .i64 other,.int .i64 (i:Int),.bool true])) w):=AtP.mk other i true rfl hi (.inl ⟨rfl,by rw [hO];exact optV_no hlt hcp⟩) (Below.refl _ _)
  generalize sb l[i] = T at h0 Hval
  clear h hlt hN hsm hcell hcp htl hO
  go_enter Tryz.func65,Tryz.ntmps65
  go_wp2_with fail
  with_reducible refine Hval.out.mono ?_
  rintro e w2 ⟨x,rfl, -,hw2⟩
  obtain rfl:=hw2.symm
  go_wp2
  go_ret3
  exact Hp.out
 | some u=>
  rw [hcp] at Hval
  have hul:u.length ≤ 1048576:=Nat.le_trans (cutPre_len hcp) htl
  have hOy:O = ((numS) u).map fun x=>(x,l.drop (i + 1)):=by rw [hO];exact optV_yes hlt hcp
  have Hc:Hid (∀ W,Calls Tryz.prog 40 #[.string (sb u)] W (NuPost W (numS u))):=fun W=>rnum_calls W u hul
  have Hp:Hid (∀ (x:Int) (ok:Bool) W,((ok = true ∧ (numS) u = some x) ∨ (ok = false ∧ (numS) u = none)) → Below w.heap.size w W → AtP l O w (.returned (.tuple #[.int .i64 x,.int .i64 ((i:Int) + 1),.bool ok])) W):=fun x ok W hr hB=>AtP.mk x (i + 1) ok (by simp) hlt (by
   rw [hOy]
   rcases hr with ⟨h1,h2⟩ | ⟨h1,h2⟩
   ·exact .inl ⟨h1,by rw [h2];rfl⟩
   ·exact .inr ⟨h1,by rw [h2];rfl⟩) hB
  generalize sb l[i] = T at h0 Hval
  generalize (numS) u = R at Hp Hc
  clear h hlt hN hsm hcell hcp htl hO hul hOy
  go_enter Tryz.func65,Tryz.ntmps65
  go_wp2_with fail
  with_reducible refine Hval.out.mono ?_
  rintro e w2 ⟨x,rfl,hx,hw2⟩
  obtain rfl:=hx u rfl
  obtain rfl:=hw2.symm
  clear hx
  go_wp2_with fail
  with_reducible refine (Hc.out _).mono ?_
  rintro e w3 ⟨x,ok,rfl,hr,hw3⟩
  have Hq:=Lib.hid (Hp.out x ok w3 (by rcases hr with ⟨n,h1,h2,h3⟩ | ⟨h1,h3⟩;exact .inl ⟨h3,by rw [h1,h2]⟩;exact .inr ⟨h3,h1⟩) hw3)
  clear hr hw3
  go_wp2
  go_ret3
  exact Hq.out
end Go.Proofs.YtpfkkagkbneilaaGreatDoor
