/- Texts M2 of the proof of BursarChecks, joined. -/
import Derived.Test.YtpfkkagkbneilaaGreatDoorV18
import Derived.Deep.DeepCutAuto
namespace Go.Proofs.YtpfkkagkbneilaaGreatDoor
open Go.RowKit
set_option linter.unusedVariables false
set_option linter.unusedSimpArgs false
set_option maxRecDepth 100000
set_option maxHeartbeats 25600000
section
theorem labels_exit {l:List Str} {i:Nat} (hi:i ≤ l.length) (h:¬ (i + 1 < l.length ∧ l[i]? = some wLabel)):labelsS (l.drop i) = some ([],l.drop i) ∨ (labelsS (l.drop i) = none ∧ i + 1 = l.length):=by
 by_cases hh:(l.drop i).head? = some wLabel
 ·have h2:l[i]? = some wLabel:=by rw [← head_at];exact hh
  obtain ⟨hi,h3⟩:=List.getElem?_eq_some_iff.1 h2
  have h4:l.length = i + 1:=by have:¬ i + 1 < l.length:=fun e=>h ⟨e,h2⟩;omega
  right
  refine ⟨?_,by omega⟩;rw [List.drop_eq_getElem_cons hi,h3,List.drop_eq_nil_of_le (by omega)];exact labelsS_one
 ·exact .inl (labelsS_stop hh)
theorem parts_exit {l:List Str} {i:Nat} (hi:i ≤ l.length) (h:¬ (i + 1 < l.length ∧ l[i]? = some wPart)):partsS (l.drop i) = some ([],l.drop i) ∨ (partsS (l.drop i) = none ∧ i + 1 = l.length):=by
 by_cases hh:(l.drop i).head? = some wPart
 ·have h2:l[i]? = some wPart:=by rw [← head_at];exact hh
  obtain ⟨hi,h3⟩:=List.getElem?_eq_some_iff.1 h2
  have h4:l.length = i + 1:=by have:¬ i + 1 < l.length:=fun e=>h ⟨e,h2⟩;omega
  right
  refine ⟨?_,by omega⟩;rw [List.drop_eq_getElem_cons hi,h3,List.drop_eq_nil_of_le (by omega)];exact partsS_one
 ·exact .inl (partsS_stop hh)
theorem amountsIf_at {l:List Str} {i:Nat} (w:Str):(∃ h:i < l.length,l[i] = w ∧ amountsIf w (l.drop i) = amountsS (l.drop (i + 1))) ∨ ((∀ h:i < l.length,l[i] ≠ w) ∧ amountsIf w (l.drop i) = some ([],l.drop i)):=by
 by_cases h:i < l.length
 ·by_cases e:l[i] = w
  ·exact .inl ⟨h,e,by rw [List.drop_eq_getElem_cons h,e,amountsIf_yes]⟩
  ·exact .inr ⟨fun _=>e,amountsIf_no (by rw [head_at,List.getElem?_eq_getElem h];exact fun e2=>e (Option.some.inj e2))⟩
 ·exact .inr ⟨fun h2=>absurd h2 h,amountsIf_no (by rw [head_at,List.getElem?_eq_none (by omega)];exact fun e=>by cases e)⟩
def obR (op:Nat) (p m:Str) (ver:Nat):ReqD:={ ReqD.zero with op:=op,path:=p,name:=m,ver:=ver }
structure RobS (w:World) (g gq go:Nat) (l:List Str) (R:ReqD) (p m:Str) (lv:Value) (pr en:Int) (pv:Value) (i:Nat) (wr:World):Prop where
 le:i ≤ l.length
 bel:Below w.heap.size w wr
 res:wr.heap[g]? = some (.cells zeroCells 38 (0,0))
 blk:wr.heap[gq]? = some (.cells (reqCells R (.slice none 0 0) (.slice none 0 0) (.slice none 0 0) (.slice none 0 0) (.slice none 0 0)) 38 (0,0))
 ob:wr.heap[go]? = some (.cells (obCells p m lv pr en pv) 25 (0,0))
structure RobN (w:World) (g gq go:Nat):Prop where
 hg:g = w.heap.size
 hq:gq = g + 1
 ho:go = g + 2
section
variable {w wr w' : World} {g gq go:Nat} {l:List Str} {R:ReqD} {p m:Str} {lv pv:Value} {pr en:Int} {i:Nat}
theorem RobS.below (h:RobS w g gq go l R p m lv pr en pv i wr) (hb:Below wr.heap.size wr w'):RobS w g gq go l R p m lv pr en pv i w':=⟨h.le,h.bel.trans (hb.mono h.bel.size),blk_below h.res hb,blk_below h.blk hb,blk_below h.ob hb⟩
theorem RobS.at (h:RobS w g gq go l R p m lv pr en pv i wr) {j:Nat} (hj:j ≤ l.length):RobS w g gq go l R p m lv pr en pv j wr:=⟨hj,h.bel,h.res,h.blk,h.ob⟩
theorem RobS.away (h:RobS w g gq go l R p m lv pr en pv i wr) (N:RobN w g gq go) {S:Nat → Prop} (hf:Fr S wr w') (hS:∀ k,S k → go < k):RobS w g gq go l R p m lv pr en pv i w':=by
 have h1:=N.hg;have h2:=N.hq;have h3:=N.ho;exact ⟨h.le,h.bel.trans (hf.to_below (fun k hk=>by have:=hS k hk;omega) h.bel.size),hf.blk h.res (fun e=>by have:=hS _ e;omega),hf.blk h.blk (fun e=>by have:=hS _ e;omega),hf.blk h.ob (fun e=>by have:=hS _ e;omega)⟩
theorem RobS.setO (h:RobS w g gq go l R p m lv pr en pv i wr) (N:RobN w g gq go) (x:Value) (o:Nat) {lv' pv' : Value} {pr' en' : Int} (hc:(obCells p m lv pr en pv).setIfInBounds o x = obCells p m lv' pr' en' pv'):RobS w g gq go l R p m lv' pr' en' pv' i (wr.setCell ⟨go,o,none⟩ x):=by
 have h1:=N.hg;have h2:=N.hq;have h3:=N.ho;have hf:Fr (fun k=>k = go) wr (wr.setCell ⟨go,o,none⟩ x):=(Fr.refl (fun k=>k = go) _).setCell (p:=⟨go,o,none⟩) (.inl rfl) _;exact ⟨h.le,h.bel.trans (hf.to_below (fun k hk=>by omega) h.bel.size),hf.blk h.res (by omega),hf.blk h.blk (by omega),by rw [← hc];exact blk_setCell h.ob o x⟩
end
theorem must_ways {l:List Str} {l0:List Str} {v:Int} {j:Nat} {ok:Bool} (h:(ok = true ∧ optV [109,117,115,116] 0 (fun u=>dgI u 19) l0 = some (v,l.drop j)) ∨ (ok = false ∧ optV [109,117,115,116] 0 (fun u=>dgI u 19) l0 = none)):(ok = true ∧ ∃ n:Nat,v = n ∧ mustS l0 = some (n,l.drop j)) ∨ (ok = false ∧ mustS l0 = none):=by
 rw [← mustS_V] at h;rcases h with ⟨h1,h2⟩ | ⟨h1,h2⟩
 ·obtain ⟨⟨x1,x2⟩,hx,he⟩:=Option.map_eq_some_iff.1 h2
  simp only [Prod.mk.injEq] at he;obtain ⟨rfl,rfl⟩:=he;exact .inl ⟨h1,x1,rfl,hx⟩
 ·exact .inr ⟨h1,by simpa using h2⟩
structure RlaW (w:World) (g gq go:Nat) (l:List Str) (R:ReqD) (p m:Str) (pr en:Int) (o:Option (List (Str × Str) × List Str)) (i:Nat) (v:Value) (done:List (Str × Str)) (wr:World):Prop where
 st:RobS w g gq go l R p m v pr en (.slice none 0 0) i wr
 eq:o = (labelsS (l.drop i)).map fun x=>(done ++ x.1,x.2)
 row:GrW 95 2 lbC (go + 1) wr v done
 num:done.length ≤ i
def RlaLoop (w:World) (g gq go:Nat) (l:List Str) (R:ReqD) (p m:Str) (pr en:Int) (o:Option (List (Str × Str) × List Str)) (v15:Value) (wr:World):Prop := ∃ (i:Nat) (v:Value) (done:List (Str × Str)),v15 = .int .i64 i ∧ RlaW w g gq go l R p m pr en o i v done wr
def RlaEnd (w:World) (g gq go:Nat) (l:List Str) (R:ReqD) (p m:Str) (pr en:Int) (o:Option (List (Str × Str) × List Str)) (v15:Value) (wr:World):Prop := ∃ (i:Nat) (v:Value) (done:List (Str × Str)),v15 = .int .i64 i ∧ RobS w g gq go l R p m v pr en (.slice none 0 0) i wr ∧ RdS lbC 2 wr v done ∧ (∀ k,v.ownBlock = some k → go < k) ∧ (o = some (done,l.drop i) ∨ (o = none ∧ i + 1 = l.length))
theorem RlaW.end {w wr:World} {g gq go:Nat} {l:List Str} {R:ReqD} {p m:Str} {pr en:Int} {o:Option (List (Str × Str) × List Str)} {i:Nat} {v:Value} {done:List (Str × Str)} (h:RlaW w g gq go l R p m pr en o i v done wr) (hx:¬ (i + 1 < l.length ∧ l[i]? = some wLabel)):RlaEnd w g gq go l R p m pr en o (.int .i64 i) wr:=by
 refine ⟨i,v,done,rfl,h.st,h.row.rd,fun k hk=>h.row.new k hk,?_⟩;rw [h.eq];rcases labels_exit h.st.le hx with h1 | ⟨h1,h2⟩
 ·rw [h1];exact .inl (by simp)
 ·rw [h1];exact .inr ⟨rfl,h2⟩
theorem objU:Tryz.prog.underlying 25 = some (.struct (match Tryz.prog.underlying 25 with | some (.struct f)=>f | _ => #[])):=by kernel_rfl
structure RpaW (w:World) (g gq go:Nat) (l:List Str) (R:ReqD) (p m:Str) (pr en:Int) (lv:Value) (dl:List (Str × Str)) (B:Nat) (o:Option (List Ptt × List Str)) (i:Nat) (v:Value) (done:List PtV) (wr:World):Prop where
 st:RobS w g gq go l R p m lv pr en v i wr
 eq:(o = (partsS (l.drop i)).map fun x=>(done.map Prod.fst ++ x.1,x.2)) ∨ (o = none ∧ i + 1 = l.length)
 lrow:RdS lbC 2 wr lv dl
 row:POwn B wr v done
 num:done.length ≤ i
 le:B ≤ wr.heap.size
def RpaLoop (w:World) (g gq go:Nat) (l:List Str) (R:ReqD) (p m:Str) (pr en:Int) (lv:Value) (dl:List (Str × Str)) (B:Nat) (o:Option (List Ptt × List Str)) (v15:Value) (wr:World):Prop := ∃ (i:Nat) (v:Value) (done:List PtV),v15 = .int .i64 i ∧ RpaW w g gq go l R p m pr en lv dl B o i v done wr
def obQ (op:Nat) (p m:Str) (ver:Nat) (pr en:Int):ReqD:={ ReqD.zero with op:=op,path:=p,name:=m,obj:=⟨p,m, [],pr,en, []⟩,ver:=ver }
theorem obQ_cells (op:Nat) (p m:Str) (ver:Nat) (lv:Value) (pr en:Int) (pv:Value):setAll (reqCells (obR op p m ver) (.slice none 0 0) (.slice none 0 0) (.slice none 0 0) (.slice none 0 0) (.slice none 0 0)) 4 (obCells p m lv pr en pv).toList = reqCells (obQ op p m ver pr en) lv pv (.slice none 0 0) (.slice none 0 0) (.slice none 0 0):=by
 simp only [setAll,obCells,reqCells,List.setIfInBounds_toArray,List.set_cons_zero,List.set_cons_succ]
 rfl
theorem RpaW.fin {w wr:World} {g gq go:Nat} {l:List Str} {op:Nat} {p m:Str} {ver:Nat} {pr en:Int} {lv:Value} {dl:List (Str × Str)} {B:Nat} {o:Option (List Ptt × List Str)} {i:Nat} {v:Value} {done:List PtV} {O:Option ReqD} {W:World} (h:RpaW w g gq go l (obR op p m ver) p m pr en lv dl B o i v done wr) (N:RobN w g gq go) (hO:O = o.bind fun e=>ended { ReqD.zero with op:=op,path:=p,name:=m,obj:=⟨p,m,dl,pr,en,e.1⟩,ver:=ver } e.2)
  (hx:¬ (i + 1 < l.length ∧ l[i]? = some wPart)) (hf:Fr (fun k=>k = gq) wr W) (hlv:∀ k,lv.ownBlock = some k → go < k) (hB:go < B) :
  (i = l.length → ∃ rq,O = some rq ∧ ReqV (g + 1) W (reqCells (obQ op p m ver pr en) lv v (.slice none 0 0) (.slice none 0 0) (.slice none 0 0)) rq) ∧ (i ≠ l.length → O = none):=by
 have g1:=N.hg;have g2:=N.hq;have g3:=N.ho
 constructor
 ·intro hi
  have h1:partsS (l.drop i) = some ([], []):=by rw [List.drop_eq_nil_of_le (by omega)];exact partsS_stop (by simp)
  have he:o = (partsS (l.drop i)).map fun x=>(done.map Prod.fst ++ x.1,x.2):=by
   rcases h.eq with h2 | ⟨-,h2⟩
   ·exact h2
   ·omega
  have hrow:POwn B W v done:=h.row.fr hf (fun k h1 h2 h3=>by omega);refine ⟨{ ReqD.zero with op:=op,path:=p,name:=m,obj:=⟨p,m,dl,pr,en,done.map Prod.fst⟩,ver:=ver },?_,lv,v,.slice none 0 0,.slice none 0 0,.slice none 0 0,done, [],rfl,RdS.fr h.lrow hf (fun k hk e=>by have:=hlv k hk;omega),⟨hrow.row,rfl⟩,RdS.nil _ _ _,RdS.nil _ _ _,⟨TRow.nil _,rfl⟩,⟨fun k hk=>by have:=hlv k hk;omega,fun k hk=>by have:=h.row.new k hk;omega,fun e he=>⟨fun k hk=>by have:=(h.row.els e he).1.2.1 k hk;omega,fun k hk=>by have:=(h.row.els e he).2.2.1 k hk;omega⟩⟩,no_own _,no_own _,no_own _,fun e he=>by cases he⟩;rw [hO,he,h1];simp [ended]
 ·intro hi
  rw [hO];rcases h.eq with h2 | ⟨h2, -⟩
  ·rw [h2]
   rcases parts_exit h.st.le hx with h1 | ⟨h1, -⟩
   ·rw [h1]
    cases hd:l.drop i with
    | nil=>exact absurd (by have:=congrArg List.length hd;simp at this;have:=h.st.le;omega) hi
    | cons t r=>simp [ended]
   ·rw [h1];rfl
  ·rw [h2];rfl
structure RpS (pb:Nat) (nm:Str) (wr:World) (v1 v2:Value) (rq lm:List Amt) (X:World):Prop where
 bel:Below wr.heap.size wr X
 blk:X.heap[pb]? = some (.cells #[.string (sb nm),v1,v2] 118 (0,0))
 r1:RdS amtC 2 X v1 rq ∧ ∀ k,v1.ownBlock = some k → wr.heap.size ≤ k ∧ k ≠ pb
 r2:RdS amtC 2 X v2 lm ∧ ∀ k,v2.ownBlock = some k → wr.heap.size ≤ k ∧ k ≠ pb
section
variable {pb:Nat} {nm:Str} {wr X X' : World} {v1 v2:Value} {rq lm rq' lm' : List Amt}
theorem RpS.below (h:RpS pb nm wr v1 v2 rq lm X) (hb:Below X.heap.size X X'):RpS pb nm wr v1 v2 rq lm X':=⟨h.bel.trans (hb.mono h.bel.size),blk_below h.blk hb,⟨RdS.below h.r1.1 hb,h.r1.2⟩,RdS.below h.r2.1 hb,h.r2.2⟩
theorem RpS.set1 (h:RpS pb nm wr v1 v2 rq lm X) (hp:wr.heap.size ≤ pb) {x:Value} (hx:RdS amtC 2 X x rq') (hn:∀ k,x.ownBlock = some k → wr.heap.size ≤ k ∧ k ≠ pb):RpS pb nm wr x v2 rq' lm (X.setCell ⟨pb,1,none⟩ x):=by
 have hf:Fr (fun k=>k = pb) X (X.setCell ⟨pb,1,none⟩ x):=(Fr.refl (fun k=>k = pb) _).setCell (p:=⟨pb,1,none⟩) (.inl rfl) _;exact ⟨h.bel.trans (hf.to_below (fun k hk=>by omega) h.bel.size),blk_setCell h.blk 1 x,⟨RdS.fr hx hf (fun k hk e=>(hn k hk).2 e),hn⟩,RdS.fr h.r2.1 hf (fun k hk e=>(h.r2.2 k hk).2 e),h.r2.2⟩
theorem RpS.set2 (h:RpS pb nm wr v1 v2 rq lm X) (hp:wr.heap.size ≤ pb) {x:Value} (hx:RdS amtC 2 X x lm') (hn:∀ k,x.ownBlock = some k → wr.heap.size ≤ k ∧ k ≠ pb):RpS pb nm wr v1 x rq lm' (X.setCell ⟨pb,2,none⟩ x):=by
 have hf:Fr (fun k=>k = pb) X (X.setCell ⟨pb,2,none⟩ x):=(Fr.refl (fun k=>k = pb) _).setCell (p:=⟨pb,2,none⟩) (.inl rfl) _;exact ⟨h.bel.trans (hf.to_below (fun k hk=>by omega) h.bel.size),blk_setCell h.blk 2 x,⟨RdS.fr h.r1.1 hf (fun k hk e=>(h.r1.2 k hk).2 e),h.r1.2⟩,RdS.fr hx hf (fun k hk e=>(hn k hk).2 e),hn⟩
end
def RpEnd1 (l:List Str) (i pb:Nat) (nm:Str) (wr:World) (v15:Value) (X:World):Prop := ∃ (j:Nat) (v1:Value) (rq:List Amt),v15 = .int .i64 j ∧ i ≤ j ∧ j ≤ l.length ∧ amountsIf wReq (l.drop i) = some (rq,l.drop j) ∧ RpS pb nm wr v1 (.slice none 0 0) rq [] X
def RpEnd2 (l:List Str) (i pb:Nat) (nm:Str) (wr:World) (v1:Value) (rq:List Amt) (v15:Value) (X:World):Prop := ∃ (j:Nat) (v2:Value) (lm:List Amt),v15 = .int .i64 j ∧ i ≤ j ∧ j ≤ l.length ∧ amountsIf wLim (l.drop i) = some (lm,l.drop j) ∧ RpS pb nm wr v1 v2 rq lm X
attribute [local go_sem ↓] wp_store_req
attribute [local go_sem] ptrB_at ptrO_at allOne_cons allOne_nil aggC_agg oneI oneS oneL oneB
theorem robject_calls (w:World) (op:Nat) (v:Value) (a:Str) (r:List Str) (h:RdT w v (a :: r)) (hsm:∀ t ∈ a :: r,t.length ≤ 1048576) (hln:(a :: r).length ≤ 1048577):Calls Tryz.prog 34 #[.int .i64 (op:Int),v] w (ReP (objectD op r) w):=by
 obtain ⟨b,off,c,rfl,hc,hb0,hcell⟩:=RdT.some h (by simp);obtain ⟨n,hn⟩ : ∃ n,n = (a :: r).length:=⟨_,rfl⟩;obtain ⟨O,hO⟩ : ∃ O,O = objectD op r:=⟨_,rfl⟩;obtain ⟨g,hg⟩ : ∃ g,g = w.heap.size:=⟨_,rfl⟩;have hF:Tryz.f34.results = #[.cell 4 38,.tmp 5]:=rfl;have HF:=hIh hF;have Hg:=hIh hg
 have H1:Hid ((w.alloc (.cells zeroCells 38)).heap[g]? = some (.cells zeroCells 38 (0,0)) ∧ Below w.heap.size w (w.alloc (.cells zeroCells 38))):=by
  rw [hg];exact ⟨blk_new _ _,bel_alloc _ _⟩
 have Hth1:Hid ((w.alloc (.cells zeroCells 38)).there g 0 zeroCells.size):=there_blk H1.out.1 (Nat.le_refl _);have hgs:w.heap.size = g:=hg.symm;rw [← hO,← hn];rw [← hn] at hc
 have hci:(n:Int) ≤ c:=by omega
 have hnb:(n:Int) ≤ 1048577:=by omega
 by_cases h5:n < 3
 ·have Hno:Hid (O = none):=by
   show _ = _;rw [hO]
   match r,hn with
   | [],_=>rfl
   | [p],_=>rfl
   | p :: m :: r,hn=>simp at hn;omega
  have hd:decide ((n:Int) < 3) = true:=decide_eq_true (by omega)
  have hd2:(n:Int) < 3:=by omega
  clear hO h hsm hln hcell hF hg h5 hn;go_enter Tryz.func34,Tryz.ntmps34;go_wp2_with (refine wpList_store_mid (op:=⟨none,.store 38 (.tmp 4) (.tmp 24),_,_,_,_⟩) rfl 38 (.tmp 4) (.tmp 24) rfl g 0 zeroCells rfl rfl Hth1.out infoReq zero_one ?_);exact re_no HF.out Hg.out H1.out.1 zeroCells_size H1.out.2 Hno.out rfl rfl
 obtain ⟨p,m,r,rfl⟩ : ∃ p m q,r = p :: m :: q:=by
  match r,hn with
  | [],hn=>simp at hn;omega
  | [p],hn=>simp at hn;omega
  | p :: m :: q,hn=>exact ⟨p,m,q,rfl⟩
 obtain ⟨l,hl⟩ : ∃ l,l = a :: p :: m :: r:=⟨_,rfl⟩;have hd:decide ((n:Int) < 3) = false:=decide_eq_false (by omega)
 have hd2:¬ (n:Int) < 3:=by omega
 have hn1:(1:Int) < n:=by omega
 have hn2:(2:Int) < n:=by omega
 have h2:w.cell? ⟨b,off + 1,none⟩ = some (.string (sb p)):=hcell 1 (by simp);have h3:w.cell? ⟨b,off + 2,none⟩ = some (.string (sb m)):=hcell 2 (by simp);rw [← hl] at h hsm hln hn
 have Hcell:Hid (∀ i (hi:i < l.length),w.cell? ⟨b,off + i,none⟩ = some (.string (sb l[i]))):=by subst hl;exact hcell
 have Hb0:Hid (b < w.heap.size):=hb0;have Hn:=hIh hn
 have Hdr3:Hid (l.drop 3 = r):=by show _ = _;rw [hl];rfl
 have HO:Hid (O = (smallS [112,114,105,111] 0 (l.drop 3)).bind fun a=>(smallS [101,110,100,115] 0 a.2).bind fun b=>(mustS b.2).bind fun c=>(labelsS c.2).bind fun d=>(partsS d.2).bind fun e=>
   ended { ReqD.zero with op:=op,path:=p,name:=m,obj:=⟨p,m,d.1,a.1,b.1,e.1⟩,ver:=c.1 } e.2):=by show _ = _;rw [Hdr3.out];exact hO
 have Hsml:Hid (∀ W (x:Int) (j:Nat) (nm:Str) (S:ByteArray),x = (j:Int) → sb nm = S → j ≤ l.length → Below w.heap.size w W → Calls Tryz.prog 65 #[.slice (some ⟨b,off,none⟩) n c,.int .i64 x,.string S,.int .i64 0] W (AtP l (smallS nm 0 (l.drop j)) W)):=fun W x j nm S hx hS hj hb=>by
  rw [hx,smallS_V,hn,← hS];exact rsmall_calls W _ l (RdS.below h hb) hsm hln j hj nm 0
 have Hmus:Hid (∀ W (j:Nat),j ≤ l.length → Below w.heap.size w W → Calls Tryz.prog 66 #[.slice (some ⟨b,off,none⟩) n c,.int .i64 (j:Int)] W (AtP l (optV [109,117,115,116] 0 (fun u=>dgI u 19) (l.drop j)) W)):=fun W j hj hb=>by
  rw [hn];exact rmust_calls W _ l (RdS.below h hb) hsm hln j hj
 have Ham:Hid (∀ W (x:Int) (j:Nat),x = (j:Int) → j ≤ l.length → Below w.heap.size w W → Calls Tryz.prog 68 #[.slice (some ⟨b,off,none⟩) n c,.int .i64 x] W (RamP l (amountsS (l.drop j)) W)):=fun W x j hx hj hb=>by
  rw [hx,hn];exact ramounts_calls W _ l (RdS.below h hb) hsm hln j hj
 have Hsm:=hIh hsm;have hc2:∀ o,(w.alloc o).cell? ⟨b,off + 1,none⟩ = some (.string (sb p)) ∧ (w.alloc o).cell? ⟨b,off + 2,none⟩ = some (.string (sb m)):=fun o=>⟨(World.cell?_alloc_lt w _ _ hb0).trans h2,(World.cell?_alloc_lt w _ _ hb0).trans h3⟩;have Hc2:=hIh hc2;clear hcell hF hg h5 hO hl hc2 hn;go_enter Tryz.func34,Tryz.ntmps34;obtain ⟨w1,hw1⟩ : ∃ w1,w1 = w.alloc (.cells zeroCells 38):=⟨_,rfl⟩;go_upto_region 3 with fail;show Code.wp _ _ _ _ (w.alloc (.cells zeroCells 38));rw [← hw1];obtain ⟨gq,hgq⟩ : ∃ gq,gq = w1.heap.size:=⟨_,rfl⟩;have hgs3:w1.heap.size = gq:=hgq.symm
 have Hgq:Hid (gq = g + 1):=by show _ = _;rw [hgq,hw1,alloc_size,hgs]
 obtain ⟨W5,hW5⟩ : ∃ W5,W5 = (w1.alloc (.cells #[.int .i64 (op:Int),.string ⟨#[]⟩,.string (sb p),.string (sb m),.string ⟨#[]⟩,.string ⟨#[]⟩,.slice none 0 0,.int .i64 0,.int .i64 0,.slice none 0 0,.int .i64 0,.string ⟨#[]⟩,.string ⟨#[]⟩,.int .i64 0,.int .i64 0,.slice none 0 0,.string ⟨#[]⟩,.string ⟨#[]⟩,.slice none 0 0,.string ⟨#[]⟩,.string ⟨#[]⟩,.string ⟨#[]⟩,.int .i64 0,.slice none 0 0,.int .i64 0,.int .i64 0,.string ⟨#[]⟩,.bool false,.bool false] 38)).drew:=⟨_,rfl⟩
 have hb5:W5.heap[gq]? = some (.cells (reqCells (obR op p m 0) (.slice none 0 0) (.slice none 0 0) (.slice none 0 0) (.slice none 0 0) (.slice none 0 0)) 38 (0,0)):=by rw [hW5,hgq];exact blk_new _ _
 have hbel5:Below w1.heap.size w1 W5:=by rw [hW5];exact (bel_alloc _ _).drew
 have hs5:W5.heap.size = gq + 1:=by rw [hW5];show (w1.alloc _).heap.size = _;rw [alloc_size,hgs3]
 have Hb5:=hIh hb5;have Hbel5:=hIh hbel5;have HW5:=hIh hW5
 have HbN:Hid (b < w1.heap.size):=by have:=Hb0.out;show _ < _;rw [hw1,alloc_size];omega
 have HR1:Hid (w1.heap[g]? = some (.cells zeroCells 38 (0,0)) ∧ Below w.heap.size w w1):=by rw [hw1];exact H1.out
 have y2:=(Hc2.out (.cells zeroCells 38)).1;have y3:=(Hc2.out (.cells zeroCells 38)).2;rw [← hw1] at y2 y3;have Hs5:=hIh hs5;clear hgq hb5 hbel5 hW5 h2 h3 hw1 hs5;go_wp2;go_region_held3 (fun W=>W.cell? ⟨b,off + 1,none⟩ = some (.string (sb p)) ∧ W.cell? ⟨b,off + 2,none⟩ = some (.string (sb m))) (first | exact ⟨y2,y3⟩ | exact ⟨(drew_cell _ _).trans ((World.cell?_alloc_lt _ _ _ HbN.out).trans y2),(drew_cell _ _).trans ((World.cell?_alloc_lt _ _ _ HbN.out).trans y3)⟩) (fail);rw [← HW5.out];have z2:=bcell Hbel5.out y2;have z3:=bcell Hbel5.out y3;obtain ⟨go,hgo⟩ : ∃ go,go = W5.heap.size:=⟨_,rfl⟩;have hgos:W5.heap.size = go:=hgo.symm;have HN:Hid (RobN w g gq go):=⟨Hg.out,Hgq.out,by have:=Hgq.out;have:=Hs5.out;omega⟩
 have HbN5:Hid (b < W5.heap.size):=by have:=Hbel5.out.size;have:=HbN.out;show _ < _;omega
 obtain ⟨W6,hW6⟩ : ∃ W6,W6 = (W5.alloc (.cells #[.string (sb p),.string (sb m),.slice none 0 0,.int .i64 0,.int .i64 0,.slice none 0 0,.int .i64 0] 25)).drew:=⟨_,rfl⟩
 have H6:Hid (RobS w g gq go l (obR op p m 0) p m (.slice none 0 0) 0 0 (.slice none 0 0) 3 W6):=by
  have hb6:Below W5.heap.size W5 W6:=by rw [hW6];exact (bel_alloc _ _).drew
  refine ⟨by have:=Hn.out;omega,?_,blk_below (blk_below HR1.out.1 Hbel5.out) hb6,blk_below Hb5.out hb6,by rw [hW6,hgo];exact blk_new _ _⟩;exact HR1.out.2.trans ((Hbel5.out.trans (hb6.mono Hbel5.out.size)).mono HR1.out.2.size)
 have HW6:=hIh hW6;clear y2 y3 hgo hW6;go_wp2;go_region_held3 (fun W=>W.cell? ⟨b,off + 1,none⟩ = some (.string (sb p)) ∧ W.cell? ⟨b,off + 2,none⟩ = some (.string (sb m))) (first | exact ⟨z2,z3⟩ | exact ⟨(drew_cell _ _).trans ((World.cell?_alloc_lt _ _ _ HbN5.out).trans z2),(drew_cell _ _).trans ((World.cell?_alloc_lt _ _ _ HbN5.out).trans z3)⟩) (fail);rw [← HW6.out];clear z2 z3 HW6 HW5 hgos HbN5 hgs3 hgs Hc2 H1 Hth1 HR1 HbN Hb5 Hbel5 hd hd2 hn1 hn2 hc hb0 hsm hln h;have HB0:=hIh H6.out.bel;have Hc1:=hIh (Hsml.out W6 3 3 [112,114,105,111] (ByteArray.mk #[112,114,105,111]) rfl rfl H6.out.le HB0.out);go_wp2_with fail
 with_reducible refine Hc1.out.mono ?_
 rintro e X1 ⟨pr,j1,ok1,rfl,hj,hr,hb⟩;have Hj1:=hIh hj;have Hr1:=hIh hr;have HB1:=hIh (HB0.out.trans (hb.mono HB0.out.size));have Hbb1:Hid (Below W6.heap.size W6 X1):=hb;clear hj hr hb Hc1;have Hc2:=hIh (Hsml.out X1 (j1:Int) j1 [101,110,100,115] (ByteArray.mk #[101,110,100,115]) rfl rfl Hj1.out HB1.out);go_wp2_with fail
 with_reducible refine Hc2.out.mono ?_
 rintro e X2 ⟨en,j2,ok2,rfl,hj,hr,hb⟩;have Hj2:=hIh hj;have Hr2:=hIh hr;have HB2:=hIh (HB1.out.trans (hb.mono HB1.out.size));have Hbb2:Hid (Below W6.heap.size W6 X2):=Hbb1.out.trans (hb.mono Hbb1.out.size);clear hj hr hb Hc2;have Hc3:=hIh (Hmus.out X2 j2 Hj2.out HB2.out);go_wp2_with fail
 with_reducible refine Hc3.out.mono ?_
 rintro e X3 ⟨ve,j3,ok3,rfl,hj,hr,hb⟩;have Hj3:=hIh hj;have Hr3:=hIh (must_ways hr);have HB3:=hIh (HB2.out.trans (hb.mono HB2.out.size));have Hbb3:Hid (Below W6.heap.size W6 X3):=Hbb2.out.trans (hb.mono Hbb2.out.size);clear hj hr hb Hc3;have HX3:=hIh (H6.out.below Hbb3.out)
 have hways:(O = none ∧ (ok1 = false ∨ (ok1 = true ∧ ok2 = false) ∨ (ok1 = true ∧ ok2 = true ∧ ok3 = false))) ∨ (ok1 = true ∧ ok2 = true ∧ ok3 = true ∧ ∃ vn:Nat,ve = vn ∧ O = (labelsS (l.drop j3)).bind fun d=>(partsS d.2).bind fun e=>ended { ReqD.zero with op:=op,path:=p,name:=m,obj:=⟨p,m,d.1,pr,en,e.1⟩,ver:=vn } e.2):=by
  rw [HO.out];rcases Hr1.out with ⟨h1,e1⟩ | ⟨h1,e1⟩
  case inr=>rw [e1];exact .inl ⟨rfl,.inl h1⟩
  rw [e1];simp only [Option.bind_some];rcases Hr2.out with ⟨h2,e2⟩ | ⟨h2,e2⟩
  case inr=>rw [e2];exact .inl ⟨rfl,.inr (.inl ⟨h1,h2⟩)⟩
  rw [e2];simp only [Option.bind_some];rcases Hr3.out with ⟨h3,vn,hv,e3⟩ | ⟨h3,e3⟩
  case inr=>rw [e3];exact .inl ⟨rfl,.inr (.inr ⟨h1,h2,h3⟩)⟩
  rw [e3];simp only [Option.bind_some];exact .inr ⟨h1,h2,h3,vn,hv,rfl⟩
 rcases hways with ⟨hno,hbad⟩ | ⟨rfl,rfl,rfl,vn,rfl,hO⟩
 case inl=>
  have Hno:=hIh hno;have Hth:Hid (X3.there g 0 zeroCells.size):=there_blk HX3.out.res (Nat.le_refl _);clear hno Hr1 Hr2 Hr3;rcases hbad with rfl | ⟨rfl,rfl⟩ | ⟨rfl,rfl,rfl⟩
  all_goals
   go_wp2_with ((with_reducible refine wpList_store_mid (op:=⟨none,.store 38 (.tmp 4) (.tmp 70),_,_,_,_⟩) ?_ 38 (.tmp 4) (.tmp 70) ?_ g 0 zeroCells ?_ ?_ Hth.out infoZ zero_one ?_);exact rfl;exact rfl;exact rfl;exact rfl);exact re_no HF.out Hg.out HX3.out.res zeroCells_size HB3.out Hno.out rfl rfl
 have HO2:=hIh hO;clear hO Hr1 Hr2 Hr3 HO;have o3:=cellsN (i:=3) HX3.out.ob (show 3 < 7 by omega);have o4:=cellsN (i:=4) HX3.out.ob (show 4 < 7 by omega);have q24:=cellsN (i:=24) HX3.out.blk (show 24 < 29 by omega);obtain ⟨c3,f3⟩:=o3;obtain ⟨c4,f4⟩:=o4;obtain ⟨c24,f24⟩:=q24
 have hgg:gq < go:=by have:=HN.out.hq;have:=HN.out.ho;omega
 obtain ⟨X4,hX4⟩ : ∃ X,X = ((X3.setCell ⟨go,3,none⟩ (.int .i64 pr)).setCell ⟨go,4,none⟩ (.int .i64 en)).setCell ⟨gq,24,none⟩ (.int .i64 (vn:Int)):=⟨_,rfl⟩
 have H4:Hid (RobS w g gq go l (obR op p m vn) p m (.slice none 0 0) pr en (.slice none 0 0) j3 X4):=by
  have h1:=(((HX3.out.setO HN.out (.int .i64 pr) 3 (lv':=.slice none 0 0) (pv':=.slice none 0 0) (pr':=pr) (en':=0) rfl).setO HN.out (.int .i64 en) 4 (lv':=.slice none 0 0) (pv':=.slice none 0 0) (pr':=pr) (en':=en) rfl)).at Hj3.out
  have hf:Fr (fun k=>k = gq) ((X3.setCell ⟨go,3,none⟩ (.int .i64 pr)).setCell ⟨go,4,none⟩ (.int .i64 en)) X4:=by
   rw [hX4];exact (Fr.refl (fun k=>k = gq) _).setCell (p:=⟨gq,24,none⟩) (.inl rfl) _
  have g1:=HN.out.hg;have g2:=HN.out.hq;have g3:=HN.out.ho;exact ⟨h1.le,h1.bel.trans (hf.to_below (fun k hk=>by omega) h1.bel.size),hf.blk h1.res (by omega),by rw [hX4];exact blk_setCell h1.blk 24 _,hf.blk h1.ob (by omega)⟩
 have HX4:=hIh hX4;clear hX4;have Hst:Hid (RlaLoop w g gq go l (obR op p m vn) p m pr en (labelsS (l.drop j3)) (.int .i64 (j3:Int)) X4):=⟨j3,.slice none 0 0, [],rfl,H4.out,by simp,GrW.nil _ _ _ _ _,by simp⟩;go_upto_block 0 with fail;rw [← HX4.out];clear c3 f3 c4 f4 c24 f24 hgg H6 HX3 HX4
 go_cut [15] (fun v15 wx=>RlaEnd w g gq go l (obR op p m vn) p m pr en (labelsS (l.drop j3)) v15 wx)
 case first=>
  go_wp2_with fail
  go_loopw [15] (fun v15 wr=>RlaLoop w g gq go l (obR op p m vn) p m pr en (labelsS (l.drop j3)) v15 wr) (fun v15 _=>n - (intOf v15).toNat)
  case atStart=>exact Hst.out
  case round=>
   clear Hst;obtain ⟨i,v,done,rfl,hW⟩:=hrel;have HW:=hIh hW;obtain ⟨A0,cp,hv⟩:=own_slice hW.row.own;obtain ⟨k,hk⟩ : ∃ k,k = done.length:=⟨_,rfl⟩;subst hv;rw [← hk] at hW;have HW2:=hIh hW;have Hk:=hIh hk;have hin:i ≤ n:=(by rw [Hn.out];exact hW.st.le);have Hkb:Hid (k ≤ 1048577):=(by have:=hW.num;show _ ≤ _;omega);clear hW hk
   by_cases hbody:i + 1 < l.length ∧ l[i]? = some wLabel
   case neg=>
    have Hend:=hIh (HW2.out.end hbody)
    have hsp:(¬ i + 1 < n) ∨ (i + 1 < n ∧ ∃ t,l[i]? = some t ∧ t ≠ wLabel):=by
     have:=Hn.out
     by_cases h1:i + 1 < n
     ·exact .inr ⟨h1,l[i]'(by omega),List.getElem?_eq_getElem _,fun e=>hbody ⟨by omega,by rw [List.getElem?_eq_getElem (by omega),e]⟩⟩
     ·exact .inl h1
    rcases hsp with h1 | ⟨h1,t,h3,h4⟩
    case' inl=>
     have hb1:decide ((i:Int) + 1 < n) = false:=decide_eq_false (by omega);have hb2:¬ (i:Int) + 1 < n:=(by omega)
    case' inr=>
     have hb1:decide ((i:Int) + 1 < n) = true:=decide_eq_true (by omega);have hb2:(i:Int) + 1 < n:=(by omega);have hb3:(i:Int) < n:=(by omega)
     have hci1:wr.cell? ⟨b,off + i,none⟩ = some (.string (sb t)):=by
      obtain ⟨h5,h6⟩:=List.getElem?_eq_some_iff.1 h3;rw [← h6];exact bcell HW2.out.st.bel (Hcell.out i h5)
     have hne:=eqLF (l := [108,97,98,101,108]) h4;generalize sb t = TT at hci1 hne;clear h3 h4
    all_goals
     clear h1 hbody;go_wp2_with fail;go_meet
     case rel=>exact Hend.out
   case pos=>
    obtain ⟨hi1,hi2⟩:=hbody;have hnl:=Hn.out;have hil:i < l.length:=(by omega);have e1:l[i]'hil = wLabel:=(by rw [List.getElem?_eq_getElem hil] at hi2;exact Option.some.inj hi2);obtain ⟨u,hu⟩ : ∃ u,u = l[i + 1]'hi1:=⟨_,rfl⟩
    have hdr:l.drop i = wLabel :: u :: l.drop (i + 2):=by
     rw [List.drop_eq_getElem_cons hil,List.drop_eq_getElem_cons hi1,e1,hu]
    have hul:u.length ≤ 1048576:=(by rw [hu];exact Hsm.out _ (List.getElem_mem _));have hb1:decide ((i:Int) + 1 < n) = true:=decide_eq_true (by omega);have hb2:(i:Int) + 1 < n:=(by omega);have hb3:(i:Int) < n:=(by omega);have hci1:wr.cell? ⟨b,off + i,none⟩ = some (.string (sb wLabel)):=(by rw [← e1];exact bcell HW2.out.st.bel (Hcell.out i hil));have hci2:wr.cell? ⟨b,off + (i + 1),none⟩ = some (.string (sb u)):=(by rw [hu];exact bcell HW2.out.st.bel (Hcell.out (i + 1) hi1));have hne:((sb wLabel).toList == [108,97,98,101,108]) = true:=eqLT rfl;generalize sb wLabel = TT at hci1 hne;have Hdr:=hIh hdr;have Hi2:Hid (i + 2 ≤ l.length):=(by show _ ≤ _;omega);have hx1:((i:Int) + 1).toNat = i + 1:=(by omega);have Hhv:=hIh (halves_calls wr u hul);clear hi1 hi2 hil e1 hu hdr hnl hul
    cases hcut:cutAt [61] u with
    | none=>
     rw [hcut] at Hhv;have Hno:Hid (labelsS (l.drop j3) = none):=(by show _ = _;rw [HW2.out.eq,Hdr.out,labelsS_bad hcut];rfl);have HnoO:Hid (O = none):=(by show _ = _;rw [HO2.out,Hno.out];rfl);generalize sb u = US at hci2 Hhv;clear hcut;go_wp2_with fail;(with_reducible refine Hhv.out.mono ?_);rintro e X5 ⟨x,y,rfl, -,hb⟩;have H5:=hIh (HW2.out.st.below hb);have Hth:Hid (X5.there g 0 zeroCells.size):=there_blk H5.out.res (Nat.le_refl _);clear hb;go_wp2_with ((with_reducible refine wpList_store_mid (op:=⟨none,.store 38 (.tmp 4) (.tmp 101),_,_,_,_⟩) ?_ 38 (.tmp 4) (.tmp 101) ?_ g 0 zeroCells ?_ ?_ Hth.out infoZ zero_one ?_);exact rfl;exact rfl;exact rfl;exact rfl);exact re_no HF.out Hg.out H5.out.res zeroCells_size H5.out.bel HnoO.out rfl rfl
    | some y=>
     obtain ⟨ka,va⟩:=y;rw [hcut] at Hhv;have Hgo:=hIh (labelsS_go (r:=l.drop (i + 2)) hcut);generalize sb u = US at hci2 Hhv;clear hcut;go_wp2_with fail;(with_reducible refine Hhv.out.mono ?_);rintro e X5 ⟨x,y,rfl,hxy,hb⟩;obtain ⟨rfl,rfl⟩:=hxy _ rfl;have H5:=hIh (HW2.out.st.below hb);obtain ⟨XC,hXC⟩ : ∃ XC,XC = [(ka,va)].flatMap lbC:=⟨_,rfl⟩;obtain ⟨T,hT⟩ : ∃ T,T = done.flatMap lbC:=⟨_,rfl⟩;have HXC:=hIh hXC;have HT:=hIh hT;have hrow5:=HW2.out.row.below hb;have Hrow:=hIh hrow5;have Hown:Hid (X5.ownsRow 0 95 2 (.slice A0 k cp) k T):=(by have:=hrow5.own;rw [← Hk.out,← HT.out] at this;exact this)
     have Hc1:Hid (Rd (X5.alloc (.cells #[.string (sb ka),.string (sb va)] 95)) 2 (.slice (some ⟨X5.heap.size,0,none⟩) 1 1) 1 XC):=by
      show Rd _ _ _ _ _;rw [hXC];exact rd_lb X5 95 (ka,va)
     have Hc4:Hid (∀ u ∈ XC,u.oneCell' = true):=(by rw [hXC];exact lb_one _);have Hc2:Hid (k + 1 ≤ maxLen):=(by show _ ≤ _;have:=Hkb.out;unfold maxLen;omega);have Hc3:Hid ((k + 1) * 32 ≤ 140737488355328):=(by show _ ≤ _;have:=Hkb.out;omega);have c2:=(cellsN (i:=2) H5.out.ob (show 2 < 7 by omega)).1;change X5.cell? ⟨go,2,none⟩ = some (.slice A0 k cp) at c2;clear hxy hb hrow5 hXC hT;go_wp2_with (at_builtin;refine wpList_append2 _ rfl (.tmp 103) (.tmp 107) 22 rfl 95 (.agg #[.string ⟨#[]⟩,.string ⟨#[]⟩]) 2 32 Tryz.underlying22 infoLb rfl (by decide) _ k T rfl (Hown.out.alloc _) _ 1 XC rfl Hc1.out Hc4.out Hc2.out Hc3.out ?_);intro v' w9 ho9 hg9 hn9 _;obtain ⟨A',c',rfl⟩:=own_slice ho9;have hf9:Fr (fun x=>(Value.slice A0 k cp).ownBlock = some x) X5 w9:=((Fr.refl (fun x=>(Value.slice A0 k cp).ownBlock = some x) X5).alloc _).grown hg9 (fun x hx=>.inl hx);have h9:=H5.out.away HN.out hf9 (fun x hx=>by have:=Hrow.out.new x hx;omega)
     obtain ⟨e2,g2⟩:=cellsN (i:=2) h9.ob (show 2 < 7 by omega);obtain ⟨w10,hw10⟩ : ∃ w10,w10 = w9.setCell ⟨go,2,none⟩ (.slice A' (k + 1) c'):=⟨_,rfl⟩;have hf10:Fr (fun x=>x = go) w9 w10:=(by rw [hw10];exact (Fr.refl (fun x=>x = go) w9).setCell (p:=⟨go,2,none⟩) (.inl rfl) _)
     have hrow9:GrW 95 2 lbC (go + 1) w9 (.slice A' (k + 1) c') (done ++ [(ka,va)]):=by
      refine Hrow.out.next (ob:=.cells #[] 0) (v':=.slice A' (k + 1) c') ?_ ?_ ?_
      ·have:=blk_lt H5.out.ob;omega
      ·rw [← Hk.out,← HT.out,← HXC.out];exact ho9
      ·exact hn9
     have h10:RobS w g gq go l (obR op p m vn) p m (.slice A' (k + 1) c') pr en (.slice none 0 0) i w10:=by
      rw [hw10];exact h9.setO HN.out _ 2 rfl
     have Hl:Hid (∀ x:Int,x = (i:Int) + 2 → RlaLoop w g gq go l (obR op p m vn) p m pr en (labelsS (l.drop j3)) (.int .i64 x) w10):=fun x hx=>by
      refine ⟨i + 2,_,_,by rw [hx];simp,h10.at Hi2.out,?_,hrow9.fr hf10 (fun x h1 h2 h3 h4=>by omega),?_⟩
      ·rw [HW2.out.eq,Hdr.out,Hgo.out,Option.map_map]
       congr 1
       funext y
       simp
      ·have h1:=HW2.out.num
       have h3:=Hk.out;simp only [List.length_append,List.length_cons,List.length_nil];omega
     have Hms:Hid (∀ x:Int,x = (i:Int) + 2 → n - (intOf (.int .i64 x)).toNat < n - (intOf (.int .i64 (i:Int))).toNat):=fun x hx=>by
      have:=Hn.out;have:=Hi2.out;subst hx;simp [intOf];omega
     clear hf9 h9 hf10 hrow9 h10 ho9 hg9 hn9 c2;go_wp2_with fail;rw [← hw10];clear hw10 e2 g2;go_roundw
     case rel=>exact Hl.out _ rfl
     case measure=>exact Hms.out _ rfl
 case rest=>
  obtain ⟨i0,lv,dl,rfl,hS,hlr,hlo,hal⟩:=hcut;obtain ⟨AL,cL,rfl⟩:=hlr.slice
  obtain ⟨o2,hO3,heq⟩ : ∃ o2:Option (List Ptt × List Str),(O = o2.bind fun e=>ended { ReqD.zero with op:=op,path:=p,name:=m,obj:=⟨p,m,dl,pr,en,e.1⟩,ver:=vn } e.2) ∧ (o2 = partsS (l.drop i0) ∨ (o2 = none ∧ i0 + 1 = l.length)):=by
   rcases hal with h1 | ⟨h1,h2⟩
   ·exact ⟨_,by rw [HO2.out,h1];rfl,.inl rfl⟩
   ·exact ⟨none,by rw [HO2.out,h1];rfl,.inr ⟨rfl,h2⟩⟩
  have HO3:=hIh hO3;obtain ⟨B,hB⟩ : ∃ B,B = wc.heap.size:=⟨_,rfl⟩;have HlB:Hid (∀ k,(Value.slice AL dl.length cL).ownBlock = some k → go < k ∧ (dl ≠ [] → k < B)):=fun k hk=>⟨hlo k hk,fun hd=>by rw [hB];exact RdS.lt lbC_len (by decide) hlr hd k hk⟩
  have HgB:Hid (go < B):=by show _ < _;rw [hB];exact blk_lt hS.ob
  have Hst2:Hid (RpaLoop w g gq go l (obR op p m vn) p m pr en (.slice AL dl.length cL) dl B o2 (.int .i64 i0) wc):=⟨i0,.slice none 0 0, [],rfl,hS,by
   rcases heq with h1 | h1
   ·left;rw [h1];simp
   ·exact .inr h1,hlr,POwn.nil _ _,by simp,by rw [hB];exact Nat.le_refl _⟩
  obtain ⟨nl,hnl⟩ : ∃ nl,nl = dl.length:=⟨_,rfl⟩;rw [← hnl] at HlB Hst2;have Hnl:=hIh hnl;clear hS hlr hlo hal hO3 heq hB H4 Hst hnl;go_wp2_with fail
  go_loopw [15] (fun v15 wr=>RpaLoop w g gq go l (obR op p m vn) p m pr en (.slice AL nl cL) dl B o2 v15 wr) (fun v15 _=>n - (intOf v15).toNat)
  case atStart=>exact Hst2.out
  case round=>
   clear Hst2;obtain ⟨i,v,done,rfl,hW⟩:=hrel;have HW:=hIh hW;obtain ⟨A0,cp,hv⟩:=own_slice hW.row.own;obtain ⟨k,hk⟩ : ∃ k,k = done.length:=⟨_,rfl⟩;subst hv;rw [← hk] at hW;have HW2:=hIh hW;have Hk:=hIh hk;have hin:i ≤ n:=(by rw [Hn.out];exact hW.st.le);have Hkb:Hid (k ≤ 1048577):=(by have:=hW.num;show _ ≤ _;omega);clear hW hk
   by_cases hbody:i + 1 < l.length ∧ l[i]? = some wPart
   case neg=>
    have hsp:(¬ i + 1 < n ∧ i = n) ∨ (¬ i + 1 < n ∧ i ≠ n) ∨ (i + 1 < n ∧ i ≠ n ∧ ∃ t,l[i]? = some t ∧ t ≠ wPart):=by
     have:=Hn.out
     by_cases h1:i + 1 < n
     ·refine .inr (.inr ⟨h1,by omega,l[i]'(by omega),List.getElem?_eq_getElem _,fun e=>hbody ⟨by omega,by rw [List.getElem?_eq_getElem (by omega),e]⟩⟩)
     ·by_cases h2:i = n
      ·exact .inl ⟨h1,h2⟩
      ·exact .inr (.inl ⟨h1,h2⟩)
    obtain ⟨OC,hOC⟩ : ∃ OC,OC = obCells p m (.slice AL nl cL) pr en (.slice A0 k cp):=⟨_,rfl⟩;obtain ⟨W7,hW7⟩ : ∃ W7,W7 = wr.setCells gq 4 OC.toList:=⟨_,rfl⟩;have hf7:Fr (fun k=>k = gq) wr W7:=(by rw [hW7];exact setCells_fr gq _ _ _);have hfin:=HW2.out.fin HN.out HO3.out hbody hf7 (fun k hk=>(HlB.out k hk).1) HgB.out;obtain ⟨CS,hCS⟩ : ∃ CS,CS = reqCells (obQ op p m vn pr en) (.slice AL nl cL) (.slice A0 k cp) (.slice none 0 0) (.slice none 0 0) (.slice none 0 0):=⟨_,rfl⟩;have hsz:CS.size = 29:=(by rw [hCS];rfl)
    have hone:CS.all (·.oneCell') = true:=(by rw [hCS];simp [reqCells,Value.oneCell'])
    have hosz:OC.size = 7:=(by rw [hOC];rfl)
    have hoone:OC.all (·.oneCell') = true:=(by rw [hOC];simp [obCells,Value.oneCell'])
    rw [← hCS] at hfin;have g1:=HN.out.hg;have g2:=HN.out.hq;have g3:=HN.out.ho
    have hq7:W7.heap[gq]? = some (.cells CS 38 (0,0)):=by
     rw [hW7,hCS,← obQ_cells,← hOC];exact blk_mid HW2.out.st.blk 4 OC.toList
    have H8:Hid (wr.heap[go]? = some (.cells OC 25 (0,0)) ∧ W7.heap[gq]? = some (.cells CS 38 (0,0)) ∧ W7.heap[g]? = some (.cells zeroCells 38 (0,0)) ∧ Below w.heap.size w W7 ∧ (CS.size = 29 ∧ CS.all (·.oneCell') = true)):=⟨by rw [hOC];exact HW2.out.st.ob,hq7,hf7.blk HW2.out.st.res (by omega),HW2.out.st.bel.trans (hf7.to_below (fun k hk=>by omega) HW2.out.st.bel.size),hsz,hone⟩
    have Hth4:Hid (wr.there gq 4 OC.size):=there_mid HW2.out.st.blk (by rw [hosz,reqCells_size];omega);have Hth:Hid (W7.there g 0 CS.size):=there_blk H8.out.2.2.1 (by rw [hsz,zeroCells_size];omega)
    have Hsz:Hid ((Tryz.prog.info? 38).map (·.size) = some CS.size):=(by show _ = _;rw [hsz];exact infoReq)
    have Hosz:Hid ((Tryz.prog.info? 25).map (·.size) = some OC.size):=(by show _ = _;rw [hosz];exact infoObj)
    have Hoone:=hIh hoone;have HW7:=hIh hW7;have hnl:=Hn.out;rcases hsp with ⟨h1,h2⟩ | ⟨h1,h2⟩ | ⟨h1,h2,t,h3,h4⟩
    case' inl=>
     have Hv:Hid (ReB O g W7 CS true):=.inl ⟨rfl,hfin.1 (by omega)⟩;have hb1:decide ((i:Int) + 1 < n) = false:=decide_eq_false (by omega);have hb2:¬ (i:Int) + 1 < n:=(by omega);have hq1:((i:Int) == (n:Int)) = true:=(by simp;omega);have hq2:(i == n) = true:=(by simp;omega)
    case' inr.inl=>
     have Hv:Hid (ReB O g W7 CS false):=.inr ⟨rfl,hfin.2 (by omega)⟩;have hb1:decide ((i:Int) + 1 < n) = false:=decide_eq_false (by omega);have hb2:¬ (i:Int) + 1 < n:=(by omega);have hq1:((i:Int) == (n:Int)) = false:=(by simp;omega);have hq2:(i == n) = false:=(by simp;omega)
    case' inr.inr=>
     have Hv:Hid (ReB O g W7 CS false):=.inr ⟨rfl,hfin.2 (by omega)⟩;have hb1:decide ((i:Int) + 1 < n) = true:=decide_eq_true (by omega);have hb2:(i:Int) + 1 < n:=(by omega);have hb3:(i:Int) < n:=(by omega);have hq1:((i:Int) == (n:Int)) = false:=(by simp;omega);have hq2:(i == n) = false:=(by simp;omega)
     have hci1:wr.cell? ⟨b,off + i,none⟩ = some (.string (sb t)):=by
      obtain ⟨h5,h6⟩:=List.getElem?_eq_some_iff.1 h3;rw [← h6];exact bcell HW2.out.st.bel (Hcell.out i h5)
     have hne:=eqLF (l := [112,97,114,116]) h4;generalize sb t = TT at hci1 hne;clear h3 h4
    all_goals
     clear hfin h1 h2 hCS hsz hone hbody hnl hW7 hf7 hOC hosz hoone g1 g2 g3 hq7;go_wp2_with (first | ((with_reducible refine wpList_load_row (o:=⟨some 184,.load 25 (.tmp 7),_,_,_,_⟩) ?_ 25 (.tmp 7) ?_ go ?_ 25 OC (0,0) _ H8.out.1 objU ?_ Hosz.out ?_);exact rfl;exact rfl;exact rfl;exact rfl) | ((with_reducible refine wpList_store_mid (op:=⟨none,.store 25 (.tmp 185) (.tmp 184),_,_,_,_⟩) ?_ 25 (.tmp 185) (.tmp 184) ?_ gq 4 OC ?_ ?_ Hth4.out Hosz.out Hoone.out ?_);exact rfl;exact rfl;exact rfl;exact rfl;rw [← HW7.out]) | ((with_reducible refine wpList_load_row (o:=⟨some 186,.load 38 (.tmp 6),_,_,_,_⟩) ?_ 38 (.tmp 6) ?_ gq ?_ 38 CS (0,0) _ H8.out.2.1 reqU ?_ Hsz.out ?_);exact rfl;exact rfl;exact rfl;exact rfl) | ((with_reducible refine wpList_store_mid (op:=⟨none,.store 38 (.tmp 4) (.tmp 186),_,_,_,_⟩) ?_ 38 (.tmp 4) (.tmp 186) ?_ g 0 CS ?_ ?_ Hth.out Hsz.out H8.out.2.2.2.2.2 ?_);exact rfl;exact rfl;exact rfl;exact rfl))
     exact re_any HF.out Hg.out H8.out.2.2.1 zeroCells_size H8.out.2.2.2.2 H8.out.2.2.2.1 Hv.out rfl rfl
   case pos=>
    obtain ⟨hi1,hi2⟩:=hbody;have hnl:=Hn.out;have hil:i < l.length:=(by omega);have e1:l[i]'hil = wPart:=(by rw [List.getElem?_eq_getElem hil] at hi2;exact Option.some.inj hi2);obtain ⟨nm,hnm⟩ : ∃ nm,nm = l[i + 1]'hi1:=⟨_,rfl⟩
    have hdr:l.drop i = wPart :: nm :: l.drop (i + 2):=by
     rw [List.drop_eq_getElem_cons hil,List.drop_eq_getElem_cons hi1,e1,hnm]
    have hb1:decide ((i:Int) + 1 < n) = true:=decide_eq_true (by omega);have hb2:(i:Int) + 1 < n:=(by omega);have hb3:(i:Int) < n:=(by omega);have hci1:wr.cell? ⟨b,off + i,none⟩ = some (.string (sb wPart)):=(by rw [← e1];exact bcell HW2.out.st.bel (Hcell.out i hil));have hci2:wr.cell? ⟨b,off + (i + 1),none⟩ = some (.string (sb nm)):=(by rw [hnm];exact bcell HW2.out.st.bel (Hcell.out (i + 1) hi1));have hne:((sb wPart).toList == [112,97,114,116]) = true:=eqLT rfl;generalize sb wPart = TT at hci1 hne;have Hdr:=hIh hdr;have Hi2:Hid (i + 2 ≤ l.length):=(by show _ ≤ _;omega);have hx1:((i:Int) + 1).toNat = i + 1:=(by omega);obtain ⟨pb,hpb⟩ : ∃ pb,pb = wr.heap.size:=⟨_,rfl⟩;obtain ⟨X0,hX0⟩ : ∃ X,X = wr.alloc (.cells #[.string (sb nm),.slice none 0 0,.slice none 0 0] 118):=⟨_,rfl⟩;have Hpb:=hIh hpb;have hpbs:wr.heap.size = pb:=hpb.symm;have HP0:Hid (RpS pb nm wr (.slice none 0 0) (.slice none 0 0) [] [] X0):=⟨by rw [hX0];exact bel_alloc _ _,by rw [hX0,hpb];exact blk_new _ _,⟨RdS.nil _ _ _,fun k hk=>by cases hk⟩,RdS.nil _ _ _,fun k hk=>by cases hk⟩
    have HX0:=hIh hX0;have hi2n:(i:Int) + 2 ≤ n:=(by omega);clear hi1 hi2 hil e1 hnm hdr hnl hX0 hpb;go_upto_region 22 with fail;rw [← HX0.out];obtain ⟨b1,hb1'⟩ : ∃ b1:Bool,(b1 = true ↔ ∃ h:i + 2 < l.length,l[i + 2] = wReq):=⟨decide (∃ h:i + 2 < l.length,l[i + 2] = wReq),by simp⟩;have Hb1:=hIh hb1';clear hb1' hb1 hb2 hb3 hci1 hci2 hne hx1 HX0
    go_cut [142] (fun v142 wx=>v142 = .bool b1 ∧ wx = X0)
    case first=>
     by_cases h1:i + 2 < l.length
     ·have hc:X0.cell? ⟨b,off + (i + 2),none⟩ = some (.string (sb (l[i + 2]'h1))):=bcell (HW2.out.st.below HP0.out.bel).bel (Hcell.out (i + 2) h1)
      have hx1:((i:Int) + 2).toNat = i + 2:=(by omega);have hb1:decide ((i:Int) + 2 < n) = true:=decide_eq_true (by have:=Hn.out;omega);have hb2:(i:Int) + 2 < n:=(by have:=Hn.out;omega)
      have hce:((sb (l[i + 2]'h1)).toList == [114,101,113]) = b1:=by
       rw [show ([114,101,113] : Str) = wReq from rfl,eqL]
       by_cases e:l[i + 2]'h1 = wReq
       ·rw [decide_eq_true e,(Hb1.out.2 ⟨h1,e⟩)]
       ·rw [decide_eq_false e]
        cases b1 with
        | false=>rfl
        | true=>exact absurd (Hb1.out.1 rfl).2 e
      generalize sb (l[i + 2]'h1) = TT at hc hce;clear h1;go_wp2_with fail;go_meet
      case rel=>exact ⟨rfl,rfl⟩
     ·have hb1:decide ((i:Int) + 2 < n) = false:=decide_eq_false (by have:=Hn.out;omega)
      have hb2:¬ (i:Int) + 2 < n:=(by have:=Hn.out;omega)
      obtain rfl:b1 = false:=by
       cases b1 with
       | false=>rfl
       | true=>exact absurd (Hb1.out.1 rfl).1 h1
      clear h1;go_wp2_with fail;go_meet
      case rel=>exact ⟨rfl,rfl⟩
    case rest=>
     obtain ⟨rfl,rfl⟩:=hcut;go_upto_if 142 with fail
     go_cut [15] (fun v15 wx=>RpEnd1 l (i + 2) pb nm wr v15 wx)
     case first=>
      have hps:=amountsIf_at (l:=l) (i:=i + 2) wReq
      cases b1 with
      | false=>
       have hE:amountsIf wReq (l.drop (i + 2)) = some ([],l.drop (i + 2)):=by
        rcases hps with ⟨h1,h2, -⟩ | ⟨-,h2⟩
        ·exact absurd (Hb1.out.2 ⟨h1,h2⟩) (by simp)
        ·exact h2
       have Hend:Hid (∀ x:Int,x = (i:Int) + 2 → RpEnd1 l (i + 2) pb nm wr (.int .i64 x) wc):=fun x hx=>⟨i + 2,.slice none 0 0, [],by rw [hx];simp,Nat.le_refl _,Hi2.out,hE,HP0.out⟩;clear hps hE;go_wp2_with fail;go_meet
       case rel=>exact Hend.out _ rfl
      | true=>
       obtain ⟨h1,h2⟩:=Hb1.out.1 rfl
       have hE:amountsIf wReq (l.drop (i + 2)) = amountsS (l.drop (i + 3)):=by
        rcases hps with ⟨-, -,h3⟩ | ⟨h3, -⟩
        ·exact h3
        ·exact absurd h2 (h3 h1)
       have HE:=hIh hE;have H0:=hIh (HW2.out.st.below HP0.out.bel);have Hc1:=hIh (Ham.out wc ((i:Int) + 2 + 1) (i + 3) (by omega) (by omega) H0.out.bel);have hi3:(i:Int) + 3 ≤ n:=(by have:=Hn.out;omega);clear hps h1 h2 hE;go_wp2_with fail;(with_reducible refine Hc1.out.mono ?_);rintro e Y1 ⟨A1,n1,c1,jj,ok,rfl,hj,hra,hb⟩;have Hjj:=hIh hj;have HP1:=hIh (HP0.out.below hb);have H1y:=hIh (H0.out.below hb);obtain ⟨p0,p1,p2, -,q1,q2⟩:=cells3 HP1.out.blk;obtain ⟨Y2,hY2⟩ : ∃ Y2,Y2 = Y1.setCell ⟨pb,1,none⟩ (.slice A1 n1 c1):=⟨_,rfl⟩;have HY2:=hIh hY2;have hfy:Fr (fun x=>x = pb) Y1 Y2:=(by rw [hY2];exact (Fr.refl (fun x=>x = pb) Y1).setCell (p:=⟨pb,1,none⟩) (.inl rfl) _);have hgpb:go < pb:=(by have:=blk_lt HW2.out.st.ob;have:=Hpb.out;omega);have H2y:=hIh (H1y.out.away HN.out hfy (fun x hx=>by omega));have Hra:=hIh hra;clear hj hra hb hY2 hfy hgpb Hc1
       cases ok with
       | false=>
        have Hth:Hid (Y2.there g 0 zeroCells.size):=there_blk H2y.out.res (Nat.le_refl _)
        have HnoO:Hid (O = none):=by
         rcases Hra.out with ⟨h1, -⟩ | ⟨-,h2⟩
         ·exact absurd h1 (by simp)
         ·show _ = _
          have h3:partS nm (l.drop (i + 2)) = none:=by
           unfold partS;rw [HE.out,h2];rfl
          rw [HO3.out];rcases HW2.out.eq with h4 | ⟨h4, -⟩
          ·rw [h4,Hdr.out,partsS_bad h3];rfl
          ·rw [h4];rfl
        go_upto_region 25 with fail;rw [← HY2.out];go_wp2_with ((with_reducible refine wpList_store_mid (op:=⟨none,.store 38 (.tmp 4) (.tmp 154),_,_,_,_⟩) ?_ 38 (.tmp 4) (.tmp 154) ?_ g 0 zeroCells ?_ ?_ Hth.out infoZ zero_one ?_);exact rfl;exact rfl;exact rfl;exact rfl);exact re_no HF.out Hg.out H2y.out.res zeroCells_size H2y.out.bel HnoO.out rfl rfl
       | true=>
        have Hend:Hid (∀ x:Int,x = (jj:Int) → RpEnd1 l (i + 2) pb nm wr (.int .i64 x) Y2):=fun x hx=>by
         rcases Hra.out with ⟨-,y,h1,h2,h3,h4,h5⟩ | ⟨h1, -⟩
         ·have hlen:=(amountsS_sub h1).2
          rw [h2] at hlen;simp only [List.length_drop] at hlen;have:=Hjj.out;have:=Hn.out;refine ⟨jj,.slice A1 n1 c1,y.1,by rw [hx],by omega,Hjj.out,by rw [HE.out,h1,← h2],?_⟩;rw [HY2.out];exact HP1.out.set1 (Nat.le_of_eq Hpb.out.symm) h4 (fun k hk=>by have h6:=h5 k hk;have h7:=HP0.out.bel.size;have h8:=blk_lt HP0.out.blk;have:=Hpb.out;omega)
         ·exact absurd h1 (by simp)
        go_wp2_with fail;rw [← HY2.out];go_meet
        case rel=>exact Hend.out _ rfl
     case rest=>
      obtain ⟨j,w1,rq,rfl,hij,hjl,hai,hP⟩:=hcut;obtain ⟨B1,cB1,rfl⟩:=hP.r1.1.slice;obtain ⟨m1,hm1⟩ : ∃ m1,m1 = rq.length:=⟨_,rfl⟩;rw [← hm1] at hP;have HPa:=hIh hP;have Hm1:=hIh hm1;have Hij:=hIh hij;have Hjl:=hIh hjl;have Hai:=hIh hai;have hjn:(j:Int) ≤ n:=(by have:=Hn.out;omega);clear hij hjl hai hP hm1 HP0 Hb1;obtain ⟨b2,hb2'⟩ : ∃ b2:Bool,(b2 = true ↔ ∃ h:j < l.length,l[j] = wLim):=⟨decide (∃ h:j < l.length,l[j] = wLim),by simp⟩;have Hb2:=hIh hb2';clear hb2';go_upto_region 26 with fail
      go_cut [165] (fun v165 wx=>v165 = .bool b2 ∧ wx = wc)
      case first=>
       by_cases h1:j < l.length
       ·have hc:wc.cell? ⟨b,off + j,none⟩ = some (.string (sb (l[j]'h1))):=bcell (HW2.out.st.below HPa.out.bel).bel (Hcell.out j h1)
        have hb1:decide ((j:Int) < n) = true:=decide_eq_true (by have:=Hn.out;omega);have hb2:(j:Int) < n:=(by have:=Hn.out;omega)
        have hce:((sb (l[j]'h1)).toList == [108,105,109]) = b2:=by
         rw [show ([108,105,109] : Str) = wLim from rfl,eqL]
         by_cases e:l[j]'h1 = wLim
         ·rw [decide_eq_true e,(Hb2.out.2 ⟨h1,e⟩)]
         ·rw [decide_eq_false e]
          cases b2 with
          | false=>rfl
          | true=>exact absurd (Hb2.out.1 rfl).2 e
        generalize sb (l[j]'h1) = TT at hc hce;clear h1;go_wp2_with fail;go_meet
        case rel=>exact ⟨rfl,rfl⟩
       ·have hb1:decide ((j:Int) < n) = false:=decide_eq_false (by have:=Hn.out;omega)
        have hb2:¬ (j:Int) < n:=(by have:=Hn.out;omega)
        obtain rfl:b2 = false:=by
         cases b2 with
         | false=>rfl
         | true=>exact absurd (Hb2.out.1 rfl).1 h1
        clear h1;go_wp2_with fail;go_meet
        case rel=>exact ⟨rfl,rfl⟩
      case rest=>
       obtain ⟨rfl,hw⟩:=hcut;obtain rfl:=hw;go_upto_if 165 with fail
       go_cut [15] (fun v15 wx=>RpEnd2 l j pb nm wr (.slice B1 m1 cB1) rq v15 wx)
       case first=>
        have hps:=amountsIf_at (l:=l) (i:=j) wLim
        cases b2 with
        | false=>
         have hE:amountsIf wLim (l.drop j) = some ([],l.drop j):=by
          rcases hps with ⟨h1,h2, -⟩ | ⟨-,h2⟩
          ·exact absurd (Hb2.out.2 ⟨h1,h2⟩) (by simp)
          ·exact h2
         have Hend:Hid (RpEnd2 l j pb nm wr (.slice B1 m1 cB1) rq (.int .i64 (j:Int)) wc):=⟨j,.slice none 0 0, [],rfl,Nat.le_refl _,Hjl.out,hE,HPa.out⟩;clear hps hE;go_wp2_with fail;go_meet
         case rel=>exact Hend.out
        | true=>
         obtain ⟨h1,h2⟩:=Hb2.out.1 rfl
         have hE:amountsIf wLim (l.drop j) = amountsS (l.drop (j + 1)):=by
          rcases hps with ⟨-, -,h3⟩ | ⟨h3, -⟩
          ·exact h3
          ·exact absurd h2 (h3 h1)
         have HE:=hIh hE;have H0:=hIh (HW2.out.st.below HPa.out.bel);have Hc1:=hIh (Ham.out wc ((j:Int) + 1) (j + 1) (by omega) (by omega) H0.out.bel);have hi3:(j:Int) + 1 ≤ n:=(by have:=Hn.out;omega);clear hps h1 h2 hE;go_wp2_with fail;(with_reducible refine Hc1.out.mono ?_);rintro e Y1 ⟨A1,n1,c1,jj,ok,rfl,hj,hra,hb⟩;have Hjj:=hIh hj;have HP1:=hIh (HPa.out.below hb);have H1y:=hIh (H0.out.below hb);obtain ⟨p0,p1,p2, -,q1,q2⟩:=cells3 HP1.out.blk;obtain ⟨Y2,hY2⟩ : ∃ Y2,Y2 = Y1.setCell ⟨pb,2,none⟩ (.slice A1 n1 c1):=⟨_,rfl⟩;have HY2:=hIh hY2;have hfy:Fr (fun x=>x = pb) Y1 Y2:=(by rw [hY2];exact (Fr.refl (fun x=>x = pb) Y1).setCell (p:=⟨pb,2,none⟩) (.inl rfl) _);have hgpb:go < pb:=(by have:=blk_lt HW2.out.st.ob;have:=Hpb.out;omega);have H2y:=hIh (H1y.out.away HN.out hfy (fun x hx=>by omega));have Hra:=hIh hra;clear hj hra hb hY2 hfy hgpb Hc1
         cases ok with
         | false=>
          have Hth:Hid (Y2.there g 0 zeroCells.size):=there_blk H2y.out.res (Nat.le_refl _)
          have HnoO:Hid (O = none):=by
           rcases Hra.out with ⟨h1, -⟩ | ⟨-,h2⟩
           ·exact absurd h1 (by simp)
           ·show _ = _
            have h3:partS nm (l.drop (i + 2)) = none:=by
             unfold partS;rw [Hai.out];show (amountsIf wLim (l.drop j)).map _ = none;rw [HE.out,h2];rfl
            rw [HO3.out];rcases HW2.out.eq with h4 | ⟨h4, -⟩
            ·rw [h4,Hdr.out,partsS_bad h3];rfl
            ·rw [h4];rfl
          go_upto_region 29 with fail;rw [← HY2.out];go_wp2_with ((with_reducible refine wpList_store_mid (op:=⟨none,.store 38 (.tmp 4) (.tmp 177),_,_,_,_⟩) ?_ 38 (.tmp 4) (.tmp 177) ?_ g 0 zeroCells ?_ ?_ Hth.out infoZ zero_one ?_);exact rfl;exact rfl;exact rfl;exact rfl);exact re_no HF.out Hg.out H2y.out.res zeroCells_size H2y.out.bel HnoO.out rfl rfl
         | true=>
          have Hend:Hid (∀ x:Int,x = (jj:Int) → RpEnd2 l j pb nm wr (.slice B1 m1 cB1) rq (.int .i64 x) Y2):=fun x hx=>by
           rcases Hra.out with ⟨-,y,h1,h2,h3,h4,h5⟩ | ⟨h1, -⟩
           ·have hlen:=(amountsS_sub h1).2
            rw [h2] at hlen;simp only [List.length_drop] at hlen;have:=Hjj.out;have:=Hn.out;refine ⟨jj,.slice A1 n1 c1,y.1,by rw [hx],by omega,Hjj.out,by rw [HE.out,h1,← h2],?_⟩;rw [HY2.out];exact HP1.out.set2 (Nat.le_of_eq Hpb.out.symm) h4 (fun k hk=>by have h6:=h5 k hk;have h7:=HPa.out.bel.size;have h8:=blk_lt HPa.out.blk;have:=Hpb.out;omega)
           ·exact absurd h1 (by simp)
          go_wp2_with fail;rw [← HY2.out];go_meet
          case rel=>exact Hend.out _ rfl
       case rest=>
        obtain ⟨j2,w2,lm,rfl,hij,hjl2,hai,hP⟩:=hcut;obtain ⟨B2,cB2,rfl⟩:=hP.r2.1.slice;obtain ⟨m2,hm2⟩ : ∃ m2,m2 = lm.length:=⟨_,rfl⟩;rw [← hm2] at hP;have HPb:=hIh hP;have hpart:=partS_eq (nm:=nm) Hai.out hai;have Hgo:=hIh (partsS_go hpart);have Hjl2:=hIh hjl2;have Hij2:Hid (i + 2 ≤ j2):=Nat.le_trans Hij.out hij;clear hij hjl2 hai hP hm2 hpart Hb2 HPa;obtain ⟨XC,hXC⟩ : ∃ XC,XC = [((⟨nm,rq,lm⟩,.slice B1 m1 cB1,.slice B2 m2 cB2):PtV)].flatMap ptC:=⟨_,rfl⟩;obtain ⟨T,hT⟩ : ∃ T,T = done.flatMap ptC:=⟨_,rfl⟩;have HXC:=hIh hXC;have HT:=hIh hT;have hst:=HW2.out.st.below HPb.out.bel;have Hst5:=hIh hst;have Hown:Hid (wc.ownsRow 0 118 3 (.slice A0 k cp) k T):=(by have:=(HW2.out.row.below HPb.out.bel).own;rw [← Hk.out,← HT.out] at this;exact this)
        have Hc1:Hid (Rd (wc.alloc (.cells #[.string (sb nm),.slice B1 m1 cB1,.slice B2 m2 cB2] 118)) 3 (.slice (some ⟨wc.heap.size,0,none⟩) 1 1) 1 XC):=by
         show Rd _ _ _ _ _;rw [hXC];exact rd_pt wc 118 (⟨nm,rq,lm⟩,.slice B1 m1 cB1,.slice B2 m2 cB2)
        have Hc4:Hid (∀ u ∈ XC,u.oneCell' = true):=(by rw [hXC];exact pt_one _ rfl rfl);have Hc2:Hid (k + 1 ≤ maxLen):=(by show _ ≤ _;have:=Hkb.out;unfold maxLen;omega);have Hc3:Hid ((k + 1) * 64 ≤ 140737488355328):=(by show _ ≤ _;have:=Hkb.out;omega);have c5:=(cellsN (i:=5) hst.ob (show 5 < 7 by omega)).1;change wc.cell? ⟨go,5,none⟩ = some (.slice A0 k cp) at c5;obtain ⟨p0,p1,p2, -, -, -⟩:=cells3 HPb.out.blk;clear hXC hT hst;go_wp2_with (at_builtin;refine wpList_append2 _ rfl (.tmp 179) (.tmp 181) 23 rfl 118 (.agg #[.string ⟨#[]⟩,.slice none 0 0,.slice none 0 0]) 3 64 Tryz.underlying23 infoPt rfl (by decide) _ k T rfl (Hown.out.alloc _) _ 1 XC rfl Hc1.out Hc4.out Hc2.out Hc3.out ?_);intro v' w9 ho9 hg9 hn9 _;obtain ⟨A',c',rfl⟩:=own_slice ho9;have hf9:Fr (fun x=>(Value.slice A0 k cp).ownBlock = some x) wc w9:=((Fr.refl (fun x=>(Value.slice A0 k cp).ownBlock = some x) wc).alloc _).grown hg9 (fun x hx=>.inl hx)
        have h9:=Hst5.out.away HN.out hf9 (fun x hx=>by have:=HW2.out.row.new x hx;have:=HgB.out;omega);obtain ⟨e5,g5⟩:=cellsN (i:=5) h9.ob (show 5 < 7 by omega);obtain ⟨w10,hw10⟩ : ∃ w10,w10 = w9.setCell ⟨go,5,none⟩ (.slice A' (k + 1) c'):=⟨_,rfl⟩;have hf10:Fr (fun x=>x = go) w9 w10:=(by rw [hw10];exact (Fr.refl (fun x=>x = go) w9).setCell (p:=⟨go,5,none⟩) (.inl rfl) _)
        have hrow9:POwn B w9 (.slice A' (k + 1) c') (done ++ [(⟨nm,rq,lm⟩,.slice B1 m1 cB1,.slice B2 m2 cB2)]):=by
         refine HW2.out.row.next (o:=.cells #[.string (sb nm),.slice B1 m1 cB1,.slice B2 m2 cB2] 118) (S:=fun _=>False) HW2.out.le (Fr.of_below HPb.out.bel _) (fun _ h=>h.elim) HPb.out.r1.1 (fun x hx=>(HPb.out.r1.2 x hx).1) HPb.out.r2.1 (fun x hx=>(HPb.out.r2.2 x hx).1) ?_ hg9 hn9;rw [← Hk.out,← HT.out,← HXC.out];exact ho9
        have h10:RobS w g gq go l (obR op p m vn) p m (.slice AL nl cL) pr en (.slice A' (k + 1) c') i w10:=by
         rw [hw10];exact h9.setO HN.out _ 5 rfl
        have hlr10:RdS lbC 2 w10 (.slice AL nl cL) dl:=by
         have h1:RdS lbC 2 wc (.slice AL nl cL) dl:=RdS.below HW2.out.lrow HPb.out.bel;have h2:RdS lbC 2 w9 (.slice AL nl cL) dl:=RdS.keep lbC_len (by decide) h1 hf9 (fun hd x hx e=>by have h3:=(HlB.out x hx).2 hd;have h4:=HW2.out.row.new x e;omega);exact RdS.fr h2 hf10 (fun x hx e=>by have h3:=(HlB.out x hx).1;omega)
        have hsz10:B ≤ w10.heap.size:=(by have h1:=HW2.out.le;have h2:=HPb.out.bel.size;have h3:=hf9.size;have h4:=hf10.size;omega)
        have Hl:Hid (∀ x:Int,x = (j2:Int) → RpaLoop w g gq go l (obR op p m vn) p m pr en (.slice AL nl cL) dl B o2 (.int .i64 x) w10):=fun x hx=>by
         refine ⟨j2,_,_,by rw [hx],h10.at Hjl2.out,?_,hlr10,hrow9.fr hf10 (fun x h1 h2 h3=>by have:=HgB.out;omega),?_,hsz10⟩
         ·rcases HW2.out.eq with h1 | ⟨-,h1⟩
          ·left
           rw [h1,Hdr.out,Hgo.out,Option.map_map]
           congr 1
           funext y
           simp
          ·have:=Hi2.out;omega
         ·have h1:=HW2.out.num
          have h3:=Hk.out;have h4:=Hij2.out;simp only [List.length_append,List.length_cons,List.length_nil];omega
        have Hms:Hid (∀ x:Int,x = (j2:Int) → n - (intOf (.int .i64 x)).toNat < n - (intOf (.int .i64 (i:Int))).toNat):=fun x hx=>by
         have:=Hn.out;have:=Hi2.out;have:=Hij2.out;subst hx;simp [intOf];omega
        clear hf9 h9 hf10 hrow9 h10 hlr10 hsz10 ho9 hg9 hn9 c5 p0 p1 p2;go_wp2_with fail;rw [← hw10];clear hw10 e5 g5;go_roundw
        case rel=>exact Hl.out _ rfl
        case measure=>exact Hms.out _ rfl
end
end Go.Proofs.YtpfkkagkbneilaaGreatDoor
