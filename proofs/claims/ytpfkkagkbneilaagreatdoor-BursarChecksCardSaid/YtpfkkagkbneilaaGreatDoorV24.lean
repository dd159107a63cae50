/- Texts Q7, Q8, Q9, Q10, Q11, Q12 of the proof of BursarChecks, joined. -/
import Derived.Test.YtpfkkagkbneilaaGreatDoorV16
import Derived.Test.YtpfkkagkbneilaaGreatDoorV17
import Derived.Test.YtpfkkagkbneilaaGreatDoorV23
import Derived.Deep.RegionHeld3
import Derived.Deep.DeepCutAuto
namespace Go.Proofs.YtpfkkagkbneilaaGreatDoor
open Go.RowKit
set_option linter.unusedVariables false
set_option linter.unusedSimpArgs false
set_option maxRecDepth 100000
set_option maxHeartbeats 25600000
theorem as_no {rd:Str → Option (List Tm)} {u:Str} {l:List Str} (h:¬ 2 ≤ l.length):asS rd u l = false:=by unfold asS;rw [decide_eq_false h];rfl
theorem as_yes {rd:Str → Option (List Tm)} {u:Str} {l:List Str} (h:2 ≤ l.length):asS rd u l = (requestD rd (dryS (behindS u 2)).2).isSome:=by unfold asS;rw [decide_eq_true h];rfl
theorem as_calls (w:World) (G:Glob w) (v:Value) (l:List Str) (u:Str) (h:RdT w v l) (hu:u.length ≤ 1048576):Calls Tryz.prog 77 #[v,.string (sb u)] w (BvP w (asS (selParse termB) u l)):=by
 by_cases h2:2 ≤ l.length
 case neg=>
  rw [as_no h2];obtain ⟨A,c,rfl⟩:=h.slice
  have hb:((l.length:Nat):Int) < 2:=by omega
  have hb2:decide (((l.length:Nat):Int) < 2) = true:=decide_eq_true hb;generalize l.length = N at hb hb2;generalize sb u = U;clear h h2 G hu;go_enter Tryz.func77,Tryz.ntmps77;go_wp2;go_ret2;exact BvP.mk _ rfl (Below.refl _ _)
 rw [as_yes h2];obtain ⟨b,off,c,rfl,hcap,hbl,hcell⟩:=RdT.some h (by intro e;rw [e] at h2;simp at h2);have h0:=hcell 0 (by omega);rw [Nat.add_zero] at h0;generalize sb l[0] = T0 at h0
 have hb:¬ ((l.length:Nat):Int) < 2:=by omega
 have hb2:decide (((l.length:Nat):Int) < 2) = false:=decide_eq_false hb
 have hb3:(0:Int) < ((l.length:Nat):Int):=by omega
 have hcapi:((l.length:Nat):Int) ≤ c:=by omega
 have Hbh:Hid (Calls Tryz.prog 27 #[.string (sb u),.int .i64 2] w fun e w'=>e = .returned (.string (sb (behindS u 2))) ∧ Below w.heap.size w w'):=behind_calls w u 2 hu (by omega);have hbu:(behindS u 2).length ≤ 1048576:=Nat.le_trans (behind_len u 2) hu;have Hdry:Hid (∀ W,Calls Tryz.prog 12 #[.string (sb (behindS u 2))] W fun e w'=>e = .returned (.tuple #[.bool (dryS (behindS u 2)).1,.string (sb (dryS (behindS u 2)).2)]) ∧ Below W.heap.size W w'):=fun W=>cutdry_calls W (behindS u 2) hbu;obtain ⟨x,hx⟩ : ∃ x,x = (dryS (behindS u 2)).2:=⟨_,rfl⟩;obtain ⟨D,hD⟩ : ∃ D,D = (dryS (behindS u 2)).1:=⟨_,rfl⟩
 have hxl:x.length ≤ 1048576:=by
  rw [hx];unfold dryS
  split
  ·exact Nat.le_trans (behind_len _ 1) hbu
  ·exact hbu
 have Hreq:Hid (∀ W,Below w.heap.size w W → Calls Tryz.prog 13 #[.string (sb x)] W (RqP x W)):=fun W hb=>request_calls W (G.below hb) x hxl;rw [← hx,← hD] at Hdry;rw [← hx];obtain ⟨r,hr⟩ : ∃ r,r = (requestD (selParse termB) x).isSome:=⟨_,rfl⟩;rw [← hr];have Hr:=hIh hr;have Hbl:=hIh hbl;generalize l.length = N at hb hb2 hb3 hcapi;generalize sb u = U at Hbh;generalize sb (behindS u 2) = V at Hbh Hdry;generalize sb x = X at Hdry Hreq;clear h h2 G hu hbu hx hD hxl hcell hcap hbl hr;go_enter Tryz.func77,Tryz.ntmps77;go_wp2_with fail
 with_reducible refine Hbh.out.mono ?_
 rintro e w2 ⟨rfl,hw2⟩;have HB2:=hIh hw2;clear hw2;go_wp2_with fail
 with_reducible refine (Hdry.out _).mono ?_
 rintro e w3 ⟨rfl,hw3⟩;have HB3:Hid (Below w.heap.size w w3):=HB2.out.trans (hw3.mono HB2.out.size);clear hw3;go_wp2_with fail
 with_reducible refine (Hreq.out _ HB3.out).mono ?_
 rintro e w5 ⟨cs,ok,rfl,hcase,hw5⟩;have HB5:Hid (Below w.heap.size w w5):=HB3.out.trans (hw5.mono HB3.out.size)
 have hcs:cs.size = 29 ∧ cs.all (·.oneCell') = true ∧ ok = (requestD (selParse termB) x).isSome:=by
  rcases hcase with ⟨h1,rq,h2,hv⟩ | ⟨h1,h2,rfl⟩
  ·exact ⟨hv.size,hv.one,by rw [h1,h2];rfl⟩
  ·exact ⟨rfl,zero_one,by rw [h1,h2];rfl⟩
 obtain ⟨hcs1,hcs2,hok⟩:=hcs;rw [← Hr.out] at hok;have Hok:=hIh hok;obtain ⟨q5,hq5⟩ : ∃ q5,q5 = w5.heap.size:=⟨_,rfl⟩;obtain ⟨W6,hW6⟩ : ∃ W6,W6 = w5.alloc (.cells zeroCells 38):=⟨_,rfl⟩
 have hn6:W6.heap[q5]? = some (.cells zeroCells 38 (0,0)):=by rw [hW6,hq5];exact blk_new _ _
 obtain ⟨hs7,hf7⟩:=req_store hn6 zeroCells_size hcs1;have Hth6:Hid (W6.there q5 0 cs.size):=there_blk hn6 (by rw [hcs1];decide)
 have Hsz:Hid ((Tryz.prog.info? 38).map (·.size) = some cs.size):=by show _ = _;rw [hcs1];exact infoReq
 have Hone:=hIh hcs2;obtain ⟨W7,hW7⟩ : ∃ W7,W7 = W6.setCells q5 0 cs.toList:=⟨_,rfl⟩;rw [← hW7] at hs7 hf7
 have hb6:Below w5.heap.size w5 W6:=by rw [hW6];exact bel_alloc _ _
 have hb7:Below w5.heap.size w5 W7:=hb6.trans (hf7.to_below (fun k hk=>by omega) hb6.size);have HB7:Hid (Below w.heap.size w W7):=HB5.out.trans (hb7.mono HB5.out.size);have Hs7:=hIh hs7
 have Hth6e:Hid ((w5.alloc (.cells zeroCells 38)).there q5 0 cs.size):=by rw [← hW6];exact Hth6.out
 have HW7e:Hid (W7 = (w5.alloc (.cells zeroCells 38)).setCells q5 0 cs.toList):=by rw [← hW6];exact hW7
 have hq5s:w5.heap.size = q5:=hq5.symm;have Hcs1:=hIh hcs1
 have hc7:W7.cell? ⟨b,off,none⟩ = some (.string T0):=by rw [HB7.out.cell (p:=⟨b,off,none⟩) Hbl.out];exact h0
 have hbq:b ≠ q5:=by have:=Hbl.out;have:=HB5.out.size;omega
 obtain ⟨c1,f1⟩:=cellsN (i:=1) Hs7.out (by rw [hcs1];omega);obtain ⟨c28,f28⟩:=cellsN (i:=28) Hs7.out (by rw [hcs1];omega);generalize cs[1]'_ = V1 at c1;generalize cs[28]'_ = V28 at c28;clear hcase hw5 hcs1 hcs2 hs7 hf7 hb6 hb7 hW6 hW7 hq5 hn6 h0 hok
 cases ok with
 | false=>
  clear c1 c28 f1 f28 hc7 hbq;go_wp2_with ((refine wpList_store_mid (op:=⟨none,.store 38 (.tmp 8) (.tmp 22),_,_,_,_⟩) rfl 38 (.tmp 8) (.tmp 22) rfl q5 0 cs rfl rfl Hth6e.out Hsz.out Hone.out ?_);(show wpList _ _ _ _ _ (World.setCells (w5.alloc (.cells zeroCells 38)) q5 0 cs.toList));rw [← HW7e.out]);go_ret2;exact BvP.mk _ (by rw [← Hok.out];rfl) HB7.out
 | true=>
  obtain ⟨W8,hW8⟩ : ∃ W8,W8 = (W7.setCell ⟨q5,1,none⟩ (.string T0)).setCell ⟨q5,28,none⟩ (.bool D):=⟨_,rfl⟩;obtain ⟨CT,hCT⟩ : ∃ CT,CT = (cs.setIfInBounds 1 (.string T0)).setIfInBounds 28 (.bool D):=⟨_,rfl⟩
  have H8:Hid (W8.heap[q5]? = some (.cells CT 38 (0,0))):=by
   show _ = _;rw [hW8,hCT];exact blk_setCell (blk_setCell Hs7.out 1 _) 28 _
  have hct:CT.size = 29:=by rw [hCT];simp only [Array.size_setIfInBounds];exact Hcs1.out
  have Hsz8:Hid ((Tryz.prog.info? 38).map (·.size) = some CT.size):=by show _ = _;rw [hCT];simp only [Array.size_setIfInBounds];rw [Hcs1.out];exact infoReq
  have hq5w:w.heap.size ≤ q5:=by have:=HB5.out.size;omega
  have HB8:Hid (Below w.heap.size w W8):=by rw [hW8];exact (HB7.out.setCell (by show _ ≤ q5;omega) _).setCell (by show _ ≤ q5;omega) _
  have HW8:=hIh hW8;clear hW8 hCT hq5w;go_wp2_with (first | ((refine wpList_store_mid (op:=⟨none,.store 38 (.tmp 8) (.tmp 22),_,_,_,_⟩) rfl 38 (.tmp 8) (.tmp 22) rfl q5 0 cs rfl rfl Hth6e.out Hsz.out Hone.out ?_);(show wpList _ _ _ _ _ (World.setCells (w5.alloc (.cells zeroCells 38)) q5 0 cs.toList));rw [← HW7e.out]) | ((refine wpList_load_row (o:=⟨some 32,.load 38 (.tmp 8),_,_,_,_⟩) rfl 38 (.tmp 8) rfl q5 rfl 38 CT (0,0) _ (HW8.out ▸ H8.out) reqU rfl Hsz8.out ?_);rw [← HW8.out]));go_ret2;exact BvP.mk _ (by rw [← Hok.out];rfl) HB8.out
section
open Go.RowKit Go.MapKept
inductive KF:Str → Nat → Value → Prop
 | none (k:Str) (c:Value) (h:kindS k = some 0):KF k 114 c
 | one (k:Str) (h:kindS k = some 1) (fn:Nat) (h2:fn = 80 ∨ fn = 83):KF k 116 (.func (.func fn) #[] #[])
 | two (k:Str) (h:kindS k = some 2) (fn:Nat) (h2:fn = 75 ∨ fn = 84):KF k 112 (.func (.func fn) #[] #[])
def KC (w:World) (b:Nat) (k:Str) (v:Value):Prop:=
 (∃ g n c,v = .func (.func n) #[] #[.pointer (some ⟨g,0,none⟩)] ∧ KF k n c ∧ g ≠ b ∧ w.cell? ⟨g,0,none⟩ = some c) ∨
 (∃ n,v = .func (.func n) #[] #[] ∧ (k = wAs ∧ n = 77 ∨ k = wRaw ∧ n = 78 ∨ k = wCrash ∧ n = 81 ∨ k = wEdit ∧ n = 82))
abbrev KE:=Str × Value
def mkK (x:KE × Nat):MapEntry:={ key:=.string (sb x.1.1),val:=x.1.2,born:=x.2 }
def kEnts (l:List KE):Array MapEntry:=(l.zipIdx.map mkK).toArray
def lookK (S:Str):List KE → Option Value
 | []=>none
 | e :: r=>if S = e.1 then some e.2 else lookK S r
def lookKI (S:Str):List KE → Nat → Option (Nat × Value)
 | [],_=>none
 | e :: r,i=>if S = e.1 then some (i,e.2) else lookKI S r (i + 1)
theorem ba_eqS (a b:Str):(sb a == sb b) = decide (a = b):=by
 by_cases h:a = b
 ·subst h;simp [ba_refl]
 ·rw [decide_eq_false h,← Bool.not_eq_true]
  intro e;exact h (sb_inj.1 (ba_eq e))
theorem findNow_kEnts (S:Str):∀ (l:List KE) (k i:Nat),Instr.findNow .string (.string (sb S)) ((l.zipIdx k).map mkK) i = some (lookKI S l i)
 | [],_,_=>rfl
 | e :: r,k,i=>by
  rw [List.zipIdx_cons,List.map_cons];unfold Instr.findNow lookKI;have hq:=ba_eqS S e.1
  by_cases h:S = e.1
  ·rw [decide_eq_true h] at hq
   simp only [mkK,Instr.sameNow,hq,if_pos h]
  ·rw [decide_eq_false h] at hq
   simp only [mkK,Instr.sameNow,hq,if_neg h];exact findNow_kEnts S r (k + 1) (i + 1)
theorem lookKI_none {S:Str}:∀ {l:List KE} {i:Nat},lookK S l = none → lookKI S l i = none
 | [],_,_=>rfl
 | e :: r,i,h=>by
  unfold lookK at h;unfold lookKI
  split at h
  ·cases h
  ·rename_i hn;rw [if_neg hn];exact lookKI_none h
theorem lookKI_some {S:Str} {v:Value}:∀ {l:List KE} {i:Nat},lookK S l = some v → ∃ j,lookKI S l i = some (j,v)
 | [],_,h=>by cases h
 | e :: r,i,h=>by
  unfold lookK at h;unfold lookKI
  split at h
  ·rename_i hn;cases h;exact ⟨i,by rw [if_pos hn]⟩
  ·rename_i hn;rw [if_neg hn];exact lookKI_some h
theorem lookK_mem {S:Str} {v:Value}:∀ {l:List KE},lookK S l = some v → (S,v) ∈ l
 | [],h=>by cases h
 | e :: r,h=>by
  unfold lookK at h
  split at h
  ·rename_i hn;cases h;rw [hn];exact List.mem_cons_self
  ·exact List.mem_cons_of_mem _ (lookK_mem h)
theorem lookK_keys {S:Str}:∀ {l:List KE},S ∉ l.map (·.1) → lookK S l = none
 | [],_=>rfl
 | e :: r,h=>by
  simp only [List.map_cons,List.mem_cons,not_or] at h;unfold lookK;rw [if_neg h.1];exact lookK_keys h.2
theorem lookK_none {S:Str}:∀ {l:List KE},lookK S l = none → S ∉ l.map (·.1)
 | [],_=>by simp
 | e :: r,h=>by
  unfold lookK at h
  split at h
  ·cases h
  ·rename_i hn
   simp only [List.map_cons,List.mem_cons,not_or];exact ⟨hn,lookK_none h⟩
structure KMap (w0 w:World) (b:Nat) (l:List KE):Prop where
 blk:w.heap[b]? = some (.map (kEnts l) l.length)
 bel:Below w0.heap.size w0 w
 le:w0.heap.size ≤ b
 all:∀ x ∈ l,KC w b x.1 x.2
theorem KC.below {w w1:World} {b:Nat} {k:Str} {v:Value} (h:KC w b k v) (hb:Below w.heap.size w w1):KC w1 b k v:=by
 rcases h with ⟨g,n,c,h1,h2,h3,h4⟩ | h
 ·exact .inl ⟨g,n,c,h1,h2,h3,by rw [hb.cell (p:=⟨g,0,none⟩) (World.block_lt_of_cell? w _ h4)];exact h4⟩
 ·exact .inr h
theorem KMap.below {w0 w w1:World} {b:Nat} {l:List KE} (h:KMap w0 w b l) (hb:Below w.heap.size w w1):KMap w0 w1 b l:=
 ⟨(hb.block b (blk_lt h.blk)).trans h.blk,h.bel.trans (hb.mono h.bel.size),h.le,fun x hx=>(h.all x hx).below hb⟩
theorem kMap_und:Tryz.prog.underlying 102 = some (.map 9 100):=Tryz.underlying102
theorem kEnts_push (l:List KE) (e:KE):kEnts (l ++ [e]) = (kEnts l).push (mkK (e,l.length)):=by
 unfold kEnts;rw [List.zipIdx_append,List.map_append,List.push_toArray];simp [List.zipIdx_cons]
theorem wpList_insK {ops:Array Oper} {rest:List Oper} {o:Oper} {a:Act} {Q:Exit → Act → World → Prop} {w0 w:World} {b:Nat} {l:List KE} (H:Hid (KMap w0 w b l)) (hg:o.guard = none) (m x v:Operand) (hop:o.op = Op.insert 102 m x v) (hm:a.eval m = .map (some b)) (S:Str) (hx:a.eval x = .string (sb S)) (n:Nat) (bs:Array Value) (hv:a.eval v = .func (.func n) #[] bs) (hno:S ∉ l.map (·.1)) (hkc:KC w b S (.func (.func n) #[] bs))
  (hK:∀ w',Hid (KMap w0 w' b (l ++ [(S,.func (.func n) #[] bs)])) → wpList Tryz.prog ops Q rest (a.put o.dst undef) w'):wpList Tryz.prog ops Q (o :: rest) a w:=by
 refine wpList_plain hg fun K' hK'=>?_;obtain ⟨hb,hbel,hle,hall⟩:=H.out;have hf:=findNow_kEnts S l 0 0;rw [lookKI_none (lookK_keys hno)] at hf;have hf2:Instr.findNow .string (.string (sb S)) (kEnts l).toList 0 = some none:=hf
 have hrun:(Instr.mapUpdate 102 (.map (some b)) (.string (sb S)) (.func (.func n) #[] bs)).run Tryz.prog w = .ok () { w with heap:=w.heap.setIfInBounds b (.map ((kEnts l).push ⟨.string (sb S),.func (.func n) #[] bs,l.length⟩) (l.length + 1)) }:=by
  simp [Instr.mapUpdate,run_underlying kMap_und,MapKept.run_getObj_map hb,run_checkKey (P:=Tryz.prog) (kt:=9) (d:=.string) (k:=.string (sb S)) Tryz.underlying9 trivial,run_findKey Tryz.underlying9 hf2,MapKept.run_setObj_map _ hb,Result.andThen]
 unfold Oper.wp;simp [execOp,hop,hm,hx,hv,hrun,Result.andThen];refine hK' _ _ (hK _ ⟨?_,?_,hle,?_⟩)
 ·rw [kEnts_push,List.length_append]
  have:=blk_lt hb;simp [this,mkK]
 ·refine ⟨hbel.os,hbel.tape,hbel.output,?_,fun k hk=>?_⟩
  ·simpa using hbel.size
  ·rw [← hbel.block k hk]
   have:b ≠ k:=(by omega);simp [Array.getElem?_setIfInBounds,this]
 ·have key:∀ k v,KC w b k v → KC { w with heap:=w.heap.setIfInBounds b (.map ((kEnts l).push ⟨.string (sb S),.func (.func n) #[] bs,l.length⟩) (l.length + 1)) } b k v:=by
   intro k v h;rcases h with ⟨g,n,c,h1,h2,h3,h4⟩ | h
   ·refine .inl ⟨g,n,c,h1,h2,h3,?_⟩
    rw [← h4];refine World.cell?_of_block (w:=w) ?_;have:b ≠ g:=fun e=>h3 e.symm;simp [Array.getElem?_setIfInBounds,this]
   ·exact .inr h
  intro x hx;rcases List.mem_append.1 hx with hx | hx
  ·exact key _ _ (hall x hx)
  ·rw [List.mem_singleton.1 hx];exact key _ _ hkc
theorem run_lookK {w:World} {b:Nat} {l:List KE} (hb:w.heap[b]? = some (.map (kEnts l) l.length)) (S:Str):(Instr.lookup 102 (.map (some b)) (.string (sb S)) true).run Tryz.prog w = .ok (match lookK S l with
  | some v=>.tuple #[v,.bool true]
  | none=>.tuple #[.nilFunc,.bool false]) w:=by
 have hf:=findNow_kEnts S l 0 0
 have hz:(zeroValue 100).run Tryz.prog w = .ok .nilFunc w:=by kernel_rfl
 cases hl:lookK S l with
 | none=>
  rw [lookKI_none hl] at hf;have hf2:Instr.findNow .string (.string (sb S)) (kEnts l).toList 0 = some none:=hf;simp [Instr.lookup,run_underlying kMap_und,MapKept.run_getObj_map hb,run_checkKey (P:=Tryz.prog) (kt:=9) (d:=.string) (k:=.string (sb S)) Tryz.underlying9 trivial,run_findKey Tryz.underlying9 hf2,hz,Result.andThen]
 | some v=>
  obtain ⟨j,hj⟩:=lookKI_some (i:=0) hl;rw [hj] at hf;have hf2:Instr.findNow .string (.string (sb S)) (kEnts l).toList 0 = some (some (j,v)):=hf;simp [Instr.lookup,run_underlying kMap_und,MapKept.run_getObj_map hb,run_checkKey (P:=Tryz.prog) (kt:=9) (d:=.string) (k:=.string (sb S)) Tryz.underlying9 trivial,run_findKey Tryz.underlying9 hf2,Result.andThen]
section
variable {w0 w:World} {b:Nat} {l:List KE}
theorem box_any (H:KMap w0 w b l) (c:Value) (t:TypeId):KMap w0 (w.alloc (.cells #[c] t)) b l ∧ w.heap.size ≠ b ∧ (w.alloc (.cells #[c] t)).cell? ⟨w.heap.size,0,none⟩ = some c:=by
 refine ⟨H.below (bel_alloc _ _),?_,?_⟩
 ·have:=blk_lt H.blk;omega
 ·simp only [World.cell?,blk_new];rfl
theorem two_calls (H:KMap w0 w b l) (fn:Nat):Calls Tryz.prog 74 #[.func (.func fn) #[] #[]] w fun e w' => ∃ g,e = .returned (.func (.func 112) #[] #[.pointer (some ⟨g,0,none⟩)]) ∧ KMap w0 w' b l ∧ g ≠ b ∧ w'.cell? ⟨g,0,none⟩ = some (.func (.func fn) #[] #[]):=by
 have HB:=hIh (box_any H (.func (.func fn) #[] #[]) 130);have hmf:∀ (fn:Fn) (first cap:Array Value) (w:World),(Instr.makeFunc fn first cap).run Tryz.prog w = .ok (.func fn first cap) w:=fun _ _ _ _=>rfl;clear H;go_enter Tryz.func74,Tryz.ntmps74;go_wp2;go_ret;exact ⟨_,rfl,HB.out⟩
theorem one_calls (H:KMap w0 w b l) (fn:Nat):Calls Tryz.prog 79 #[.func (.func fn) #[] #[]] w fun e w' => ∃ g,e = .returned (.func (.func 116) #[] #[.pointer (some ⟨g,0,none⟩)]) ∧ KMap w0 w' b l ∧ g ≠ b ∧ w'.cell? ⟨g,0,none⟩ = some (.func (.func fn) #[] #[]):=by
 have HB:=hIh (box_any H (.func (.func fn) #[] #[]) 136);have hmf:∀ (fn:Fn) (first cap:Array Value) (w:World),(Instr.makeFunc fn first cap).run Tryz.prog w = .ok (.func fn first cap) w:=fun _ _ _ _=>rfl;clear H;go_enter Tryz.func79,Tryz.ntmps79;go_wp2;go_ret;exact ⟨_,rfl,HB.out⟩
theorem none_calls (H:KMap w0 w b l) (t:TypeId):Calls Tryz.prog 76 #[.iface t (.agg #[])] w fun e w' => ∃ g,e = .returned (.func (.func 114) #[] #[.pointer (some ⟨g,0,none⟩)]) ∧ KMap w0 w' b l ∧ g ≠ b ∧ w'.cell? ⟨g,0,none⟩ = some (.iface t (.agg #[])):=by
 have HB:=hIh (box_any H (.iface t (.agg #[])) 62);have hmf:∀ (fn:Fn) (first cap:Array Value) (w:World),(Instr.makeFunc fn first cap).run Tryz.prog w = .ok (.func fn first cap) w:=fun _ _ _ _=>rfl;clear H;go_enter Tryz.func76,Tryz.ntmps76;go_wp2;go_ret;exact ⟨_,rfl,HB.out⟩
end
def kindKeys:List Str := [[110,101,119], [111,112,101,110], [97,115], [114,97,119], [97,114,109], [99,114,97,115,104], [101,100,105,116], [99,111,117,110,116,115], [100,117,109,112], [102,115,99,107], [101,120,112,111,114,116], [105,109,112,111,114,116], [115,119,97,112]]
theorem kinds_calls (w:World):Calls Tryz.prog 38 #[] w fun e w' => ∃ b l,e = .returned (.map (some b)) ∧ KMap w w' b l ∧ l.map (·.1) = kindKeys:=by
 have hmm:=@run_makeMap Tryz.prog;have HM:Hid (KMap w (w.alloc (.map #[] 0)) w.heap.size []):=⟨blk_new _ _,bel_alloc _ _,Nat.le_refl _,fun x hx=>by cases hx⟩;go_enter Tryz.func38,Tryz.ntmps38
 go_wp2_with (first
  | (go_at_call 74;with_reducible refine (two_calls HM.out _).mono ?_;rintro e w1 ⟨g,rfl,h1,h2,h3⟩;clear HM;have HM:=hIh h1;have HC:=hIh (And.intro h2 h3);clear h1 h2 h3)
  | (go_at_call 79;with_reducible refine (one_calls HM.out _).mono ?_;rintro e w1 ⟨g,rfl,h1,h2,h3⟩;clear HM;have HM:=hIh h1;have HC:=hIh (And.intro h2 h3);clear h1 h2 h3)
  | (go_at_call 76;with_reducible refine (none_calls HM.out _).mono ?_;rintro e w1 ⟨g,rfl,h1,h2,h3⟩;clear HM;have HM:=hIh h1;have HC:=hIh (And.intro h2 h3);clear h1 h2 h3)
  | (refine wpList_insK HM rfl _ _ _ rfl rfl _ rfl _ _ rfl (by simp) (.inl ⟨_,_,_,rfl,KF.two _ rfl _ (by decide),HC.out.1,HC.out.2⟩) ?_;intro w1 HM1;clear HM HC;have HM:=HM1;clear HM1)
  | (refine wpList_insK HM rfl _ _ _ rfl rfl _ rfl _ _ rfl (by simp) (.inl ⟨_,_,_,rfl,KF.one _ rfl _ (by decide),HC.out.1,HC.out.2⟩) ?_;intro w1 HM1;clear HM HC;have HM:=HM1;clear HM1)
  | (refine wpList_insK HM rfl _ _ _ rfl rfl _ rfl _ _ rfl (by simp) (.inl ⟨_,_,_,rfl,KF.none _ _ rfl,HC.out.1,HC.out.2⟩) ?_;intro w1 HM1;clear HM HC;have HM:=HM1;clear HM1)
  | (refine wpList_insK HM rfl _ _ _ rfl rfl _ rfl _ _ rfl (by simp) (.inr ⟨_,rfl,by decide⟩) ?_;intro w1 HM1;clear HM;have HM:=HM1;clear HM1))
 go_ret;exact ⟨_,_,rfl,HM.out,rfl⟩
end
section
open Go.RowKit Go.MapKept
abbrev rdB:=selParse termB
theorem cmd_kind {rd:Str → Option (List Tm)} {u k:Str} {r:List Str} {n:Nat} (h:kindS k = some n):cmdS rd u k r = numsS n r:=by unfold cmdS;rw [h]
theorem cmd_other {rd:Str → Option (List Tm)} {u k:Str} {r:List Str} (h:k ∉ kindKeys):cmdS rd u k r = false:=by
 simp only [kindKeys,List.mem_cons,List.not_mem_nil,or_false,not_or] at h;obtain ⟨h1,h2,h3,h4,h5,h6,h7,h8,h9,h10,h11,h12,h13⟩:=h
 have hk:kindS k = none:=by
  unfold kindS;rw [if_neg (by simp [*]),if_neg (by simp [*]),if_neg (by simp [*])]
 unfold cmdS;rw [hk];simp only;rw [if_neg (show ¬ k = wAs from h3),if_neg (show ¬ k = wRaw from h4),if_neg (show ¬ k = wCrash from h6),if_neg (show ¬ k = wEdit from h7)]
theorem kc_form {w:World} {b:Nat} {k:Str} {v:Value} (h:KC w b k v):∃ n bs,v = .func (.func n) #[] bs:=by
 rcases h with ⟨g,n,c,rfl, -⟩ | ⟨n,rfl, -⟩
 ·exact ⟨_,_,rfl⟩
 ·exact ⟨_,_,rfl⟩
theorem kc_calls {w:World} {b:Nat} {k:Str} {n:Nat} {bs:Array Value} (h:KC w b k (.func (.func n) #[] bs)) (tv:Value) (u:Str) (r:List Str) (G:Glob w) (hr:RdT w tv r) (hl:r.length ≤ 1048577) (hsm:∀ t ∈ r,t.length ≤ 1048576) (hu:u.length ≤ 1048576) :
  (∀ (args:Array Value) (w:World),(callFunc n args).run Tryz.prog w = .ok (.enter n args) w) ∧ (bs = #[] ∨ ∃ p,bs = #[p]) ∧ Calls Tryz.prog n (#[tv,.string (sb u)] ++ bs) w (BvP w (cmdS rdB u k r)):=by
 rcases h with ⟨g,n,c,h1,h2,h3,h4⟩ | ⟨n,h1,h2⟩
 ·cases h1
  refine ⟨?_,.inr ⟨_,rfl⟩,?_⟩
  ·cases h2 <;> (intro args w;kernel_rfl)
  ·cases h2 with
   | none c h=>rw [cmd_kind h];exact none1_calls w g c _ h4 tv r hr
   | one h fn h2=>
    rw [cmd_kind h];rcases h2 with rfl | rfl
    ·exact one1_calls 80 _ (by intro args w;kernel_rfl) kinds2_calls w g _ h4 tv r hr hl
    ·exact one1_calls 83 _ (by intro args w;kernel_rfl) kinds3_calls w g _ h4 tv r hr hl
   | two h fn h2=>
    rw [cmd_kind h];rcases h2 with rfl | rfl
    ·exact two1_calls 75 _ (by intro args w;kernel_rfl) kinds1_calls w g _ h4 tv r hr hl
    ·exact two1_calls 84 _ (by intro args w;kernel_rfl) kinds4_calls w g _ h4 tv r hr hl
 ·cases h1
  refine ⟨?_,.inl rfl,?_⟩
  ·rcases h2 with ⟨-,rfl⟩ | ⟨-,rfl⟩ | ⟨-,rfl⟩ | ⟨-,rfl⟩ <;> (intro args w;kernel_rfl)
  ·rcases h2 with ⟨rfl,rfl⟩ | ⟨rfl,rfl⟩ | ⟨rfl,rfl⟩ | ⟨rfl,rfl⟩
   ·exact as_calls w G tv r u hr hu
   ·exact raw_calls w tv _ r hr
   ·exact crash_calls w G tv _ r hr hsm
   ·exact edit_calls w tv _ r hr
theorem line_long {rd:Str → Option (List Tm)} {t:Str} (h:4096 < t.length):lineS rd t = false:=by unfold lineS;rw [if_pos h]
theorem line_nl {rd:Str → Option (List Tm)} {t:Str} (h:¬ 4096 < t.length) (h2:(10:UInt8) ∈ t):lineS rd t = false:=by unfold lineS;rw [if_neg h,if_pos h2]
theorem line_nil {rd:Str → Option (List Tm)} {t:Str} (h:¬ 4096 < t.length) (h2:(10:UInt8) ∉ t) (h3:words (t.takeWhile (· != 35)) = []):lineS rd t = true:=by unfold lineS;rw [if_neg h,if_neg h2,h3]
theorem line_cons {rd:Str → Option (List Tm)} {t:Str} {k:Str} {r:List Str} (h:¬ 4096 < t.length) (h2:(10:UInt8) ∉ t) (h3:words (t.takeWhile (· != 35)) = k :: r):lineS rd t = cmdS rd (t.takeWhile (· != 35)) k r:=by unfold lineS;rw [if_neg h,if_neg h2,h3]
theorem parse_calls (w:World) (G:Glob w) (t:Str) (ht:t.length ≤ 1048576):Calls Tryz.prog 21 #[.string (sb t)] w (BvP w (lineS rdB t)):=by
 have hsz:(sb t).size = t.length:=sb_size t
 by_cases h1:4096 < t.length
 ·rw [line_long h1]
  have hb:(4096:Int) < t.length:=by omega
  have hb2:decide ((4096:Int) < t.length) = true:=decide_eq_true hb;generalize t.length = N at hb hb2 hsz;generalize sb t = S at hsz;clear h1 G ht;go_enter Tryz.func21,Tryz.ntmps21;go_wp2;go_ret2;exact BvP.mk _ rfl (Below.refl _ _)
 have hb:¬ (4096:Int) < t.length:=by omega
 have hb2:decide ((4096:Int) < t.length) = false:=decide_eq_false hb;have Hco:Hid (∀ W,Calls Tryz.prog 10 #[.string (sb t),.string (ByteArray.mk #[10])] W fun e w'=>e = .returned (.bool (decide ((10:UInt8) ∈ t))) ∧ Below W.heap.size W w'):=fun W=>lcontains_calls W t 10
 by_cases h2:(10:UInt8) ∈ t
 ·rw [line_nl h1 h2]
  rw [decide_eq_true h2] at Hco;generalize t.length = N at hb hb2 hsz;generalize sb t = S at hsz Hco;clear h1 G ht h2;go_enter Tryz.func21,Tryz.ntmps21;go_wp2_with (go_at_call 10;with_reducible refine (Hco.out _).mono ?_;rintro e w2 ⟨rfl,hw2⟩);go_ret2;exact BvP.mk _ rfl hw2
 rw [decide_eq_false h2] at Hco
 obtain ⟨u,hu⟩ : ∃ u,u = t.takeWhile (· != 35):=⟨_,rfl⟩
 have hul:u.length ≤ 1048576:=by rw [hu];exact Nat.le_trans (takeWhile_len _ _) ht
 have Hcut:Hid (∀ W,Below w.heap.size w W → Calls Tryz.prog 11 #[.string (sb t),.string (ByteArray.mk #[35])] W fun e w' => ∃ X B,e = .returned (.tuple #[.string (sb u),.string X,.bool B]) ∧ Below W.heap.size W w'):=fun W hb=>by
  refine (lcut_calls W (G.below hb) t [35] (by omega) (by decide)).mono ?_;rintro e w' ⟨rfl,h⟩;rw [cut_take,hu];exact ⟨_,_,rfl,h⟩
 have Htok:Hid (∀ W,Calls Tryz.prog 26 #[.string (sb u)] W fun e w' => ∃ A n c,e = .returned (.slice A n c) ∧ n = (words u).length ∧ RdT w' (.slice A n c) (words u) ∧ Below W.heap.size W w'):=fun W=>by
  refine (tokens_calls W u hul).mono ?_;rintro e w' ⟨v,rfl,g1,g2,g3⟩;obtain ⟨A,c,rfl⟩:=g1.slice;exact ⟨A,_,c,rfl,rfl,g1,g3⟩
 have hwl:(words u).length ≤ 1048576:=Nat.le_trans (words_len_le u) hul;have hws:∀ x ∈ words u,x.length ≤ 1048576:=fun x hx=>Nat.le_trans (words_mem hx) hul;have HG:Hid (∀ W,Below w.heap.size w W → Glob W):=fun W h=>G.below h;have Hul:=hIh hul;obtain ⟨R,hR⟩ : ∃ R,R = lineS rdB t:=⟨_,rfl⟩;rw [← hR]
 cases hwd:words u with
 | nil=>
  have hres:=line_nil (rd:=rdB) h1 h2 (by rw [← hu];exact hwd);rw [hres] at hR;have Hres:=hIh hR;rw [hwd] at Htok;generalize t.length = N at hb hb2 hsz;generalize sb t = S at hsz Hco Hcut;generalize sb u = U at Hcut Htok;clear h1 G ht h2 hu hul hwl hws hres hR hwd;go_enter Tryz.func21,Tryz.ntmps21;go_wp2_with (go_at_call 10;with_reducible refine (Hco.out _).mono ?_;rintro e w2 ⟨rfl,hw2⟩)
  with_reducible refine (Hcut.out _ hw2).mono ?_
  rintro e w3 ⟨X,B,rfl,hw3⟩;have HB3:Hid (Below w.heap.size w w3):=hw2.trans (hw3.mono hw2.size);clear hw2 hw3;go_wp2_with fail
  with_reducible refine (Htok.out _).mono ?_
  rintro e w4 ⟨A,n,c,rfl,rfl, -,hw4⟩;have HB4:Hid (Below w.heap.size w w4):=HB3.out.trans (hw4.mono HB3.out.size);clear hw4;have hl0:(([] : List Str).length:Int) = 0:=rfl;go_wp2;go_ret2;exact BvP.mk _ (by rw [Hres.out];rfl) HB4.out
 | cons k r=>
  have hres:=line_cons (rd:=rdB) h1 h2 (by rw [← hu];exact hwd);rw [hres,← hu] at hR;rw [hwd] at Htok hwl hws;have Hws:=hIh hws;have Hwl:=hIh hwl;have Hres:=hIh hR;generalize t.length = N at hb hb2 hsz;generalize sb t = S at hsz Hco Hcut;obtain ⟨U,hU⟩ : ∃ U,U = sb u:=⟨_,rfl⟩;rw [← hU] at Hcut Htok;have HU:=hIh hU;clear h1 G ht h2 hu hul hwl hws hres hR hwd hU;go_enter Tryz.func21,Tryz.ntmps21;go_wp2_with (go_at_call 10;with_reducible refine (Hco.out _).mono ?_;rintro e w2 ⟨rfl,hw2⟩)
  with_reducible refine (Hcut.out _ hw2).mono ?_
  rintro e w3 ⟨X,B,rfl,hw3⟩;have HB3:Hid (Below w.heap.size w w3):=hw2.trans (hw3.mono hw2.size);clear hw2 hw3;go_wp2_with fail
  with_reducible refine (Htok.out _).mono ?_
  rintro e w4 ⟨A,n,c,rfl,hn,hrd,hw4⟩;have HB4:Hid (Below w.heap.size w w4):=HB3.out.trans (hw4.mono HB3.out.size);obtain ⟨b,off,c',hv,hc,hbl,hcell⟩:=RdT.some hrd (by simp)
  cases hv
  have h0:=hcell 0 (by simp);rw [Nat.add_zero] at h0;have h0' : w4.cell? ⟨b,off,none⟩ = some (.string (sb k)):=h0;have Hrd:=hIh hrd;have Hbl:=hIh hbl;have Hc:=hIh hc;obtain ⟨m,hm⟩ : ∃ m,m = r.length:=⟨_,rfl⟩
  have hl1:(k :: r).length = m + 1:=by simp [hm]
  have Hm:=hIh hm
  have Hcell:Hid (∀ W,Below w4.heap.size w4 W → W.cell? ⟨b,off,none⟩ = some (.string (sb k))):=fun W h=>by rw [h.cell (p:=⟨b,off,none⟩) Hbl.out];exact h0'
  rw [hl1] at hc ⊢
  have hz:(((m:Int) + 1) == 0) = false:=by rw [beq_eq_false_iff_ne];omega
  have hzp:(0:Int) < (m:Int) + 1:=by omega
  have hcapi:(m:Int) + 1 ≤ c:=by omega
  have HBd:Hid (Below w4.heap.size w4 w4.drew):=drewB (Below.refl _ _) 1;obtain ⟨K,hK⟩ : ∃ K,K = sb k:=⟨_,rfl⟩;rw [← hK] at Hcell h0';have HK:=hIh hK;clear hn hrd hw4 hc hbl hcell hm hl1 hK h0
  by_cases hin:k ∈ kindKeys
  case neg=>
   have Hno:=hIh (cmd_other (rd:=rdB) (u:=u) (r:=r) hin);have Hnk:=hIh hin;clear hin;go_wp2
   go_region_held3 (fun W=>W.cell? ⟨b,off,none⟩ = some (.string K))
    (first | exact Hcell.out _ HBd.out | exact Hcell.out _ HB5.out)
    ((go_at_call 38;(with_reducible refine (kinds_calls _).mono ?_);rintro e w5 ⟨mb,ml,rfl,hM,hks⟩;have HB5:Hid (Below w4.heap.size w4 w5):=HBd.out.trans (hM.bel.mono (Nat.le_refl _));have hlk:=run_lookK hM.blk k;rw [lookK_keys (by rw [hks];exact Hnk.out),← HK.out] at hlk;clear hM hks))
   clear hlk;go_wp2;go_ret2;exact BvP.mk _ (by rw [Hres.out,Hno.out];rfl) (HB4.out.trans (HB5.out.mono HB4.out.size))
  case pos=>
   have Hin:=hIh hin;clear hin;go_wp2
   go_region_held3 (fun W=>W.cell? ⟨b,off,none⟩ = some (.string K))
    (first | exact Hcell.out _ HBd.out | exact Hcell.out _ HB5.out)
    ((go_at_call 38;(with_reducible refine (kinds_calls _).mono ?_);rintro e w5 ⟨mb,ml,rfl,hM,hks⟩;have HB5:Hid (Below w4.heap.size w4 w5):=HBd.out.trans (hM.bel.mono (Nat.le_refl _));obtain ⟨fv,hfv⟩ : ∃ v,lookK k ml = some v:=Option.ne_none_iff_exists'.1 (fun h=>absurd (by rw [hks];exact Hin.out) (lookK_none h));obtain ⟨fn,fb,rfl⟩:=kc_form (hM.all _ (lookK_mem hfv));have HKC:=hIh (hM.all _ (lookK_mem hfv));have hlk:=run_lookK hM.blk k;rw [hfv,← HK.out] at hlk;clear hM hks hfv))
   have hm0:=Hm.out;have hG5:=HG.out w5 (HB4.out.trans (HB5.out.mono HB4.out.size));have Hsmall:Hid (∀ t ∈ r,t.length ≤ 1048576):=fun t ht=>Hws.out t (List.mem_cons_of_mem _ ht);have Hrl:Hid (r.length ≤ 1048577):=(by have:=Hwl.out;simp only [List.length_cons] at this;show _ ≤ _;omega);have hcc:=Hc.out;have hrd5:RdT w5 (.slice (some ⟨b,off,none⟩) (k :: r).length c) (k :: r):=RdS.below Hrd.out HB5.out
   by_cases hc1:c = 1
   ·have hr0:r = []:=by simp only [List.length_cons] at hcc;exact List.eq_nil_of_length_eq_zero (by omega)
    have hrt:RdT w5 (.slice (some ⟨b,off,none⟩) 0 0) r:=(by rw [hr0];exact ⟨by simp,_,_,rfl,Nat.le_refl _,(fun h=>by cases h),fun ad hA j u hu=>by simp at hu⟩);obtain ⟨q1,q2,q3⟩:=kc_calls HKC.out (.slice (some ⟨b,off,none⟩) 0 0) u r hG5 hrt Hrl.out Hsmall.out Hul.out;have hm00:m = 0:=(by rw [hm0,hr0];rfl);subst hc1;subst hm00;rw [← HU.out,← Hres.out] at q3;have Q3:=hIh q3;clear hlk hm0 hG5 hcc hrd5 hr0 hrt q3;rcases q2 with rfl | ⟨p,rfl⟩
    all_goals
     go_wp2_with fail;refine Q3.out.mono ?_;rintro e w6 ⟨vv,ok,rfl,rfl,hw6⟩;have HB6:Hid (Below w.heap.size w w6):=(HB4.out.trans (HB5.out.mono HB4.out.size)).trans (hw6.mono (HB4.out.trans (HB5.out.mono HB4.out.size)).size);clear hw6;go_wp2;go_ret2;exact BvP.mk _ rfl HB6.out
   ·have hrt:RdT w5 (.slice (some ⟨b,off + 1,none⟩) m (c - 1)) r:=by
     have h4:=rd_tail (i:=1) hrd5 (by simp);rw [Nat.one_mul] at h4;have e:(List.flatMap strC (k :: r)).drop 1 = r.flatMap strC:=rfl;rw [e,show (k :: r).length - 1 = r.length by simp,← hm0] at h4;show Rd _ _ _ _ _;rw [← hm0];exact h4
    obtain ⟨q1,q2,q3⟩:=kc_calls HKC.out (.slice (some ⟨b,off + 1,none⟩) m (c - 1)) u r hG5 hrt Hrl.out Hsmall.out Hul.out;rw [← HU.out,← Hres.out] at q3;have Q3:=hIh q3;clear hlk hm0 hG5 hcc hrd5 hrt q3;rcases q2 with rfl | ⟨p,rfl⟩
    all_goals
     go_wp2_with fail;refine Q3.out.mono ?_;rintro e w6 ⟨vv,ok,rfl,rfl,hw6⟩;have HB6:Hid (Below w.heap.size w w6):=(HB4.out.trans (HB5.out.mono HB4.out.size)).trans (hw6.mono (HB4.out.trans (HB5.out.mono HB4.out.size)).size);clear hw6;go_wp2;go_ret2;exact BvP.mk _ rfl HB6.out
end
def HxLoop (w:World) (s:Str) (v4 v5 v6:Value) (w1:World):Prop := ∃ (i n:Nat) (xs:List Value) (z:Int),v6 = .int .i64 i ∧ v5 = .int .i64 z ∧ 0 ≤ z ∧ z ≤ 15 ∧ 1 ≤ i ∧ i ≤ s.length ∧ n ≤ i ∧ (∀ j (h:j < s.length),1 ≤ j → j < i → isHx s[j] = true) ∧ GrT w 5 1 v4 n xs w1
theorem hx_iff (c:UInt8):isHx c = true ↔ (48 ≤ c.toNat ∧ c.toNat ≤ 57) ∨ (97 ≤ c.toNat ∧ c.toNat ≤ 102):=by
 simp only [isHx,Bool.or_eq_true,Bool.and_eq_true,decide_eq_true_eq,UInt8.le_iff_toNat_le];exact Iff.rfl
theorem pre_head {s:Str} {c:UInt8} (h:s[0]? = some c):([58] : Str).isPrefixOf s = decide (c = 58):=by
 cases s with
 | nil=>cases h
 | cons a r=>
  cases h
  by_cases e:c = 58
  ·subst e;rfl
  ·rw [decide_eq_false e]
   simp [List.isPrefixOf];exact fun h=>e h.symm
theorem hexOf_calls (w:World) (s:Str):Calls Tryz.prog 41 #[.string (sb s)] w (BsP w (hexS s)):=by
 have hsz:(sb s).size = s.length:=sb_size s;obtain ⟨r,hr⟩ : ∃ r,r = hexS s:=⟨_,rfl⟩;rw [← hr];have Hix:=hIh (fun W (i:Nat) (h:i < s.length)=>run_ix W s i s[i] (List.getElem?_eq_getElem h));obtain ⟨N,hN⟩ : ∃ N,N = s.length:=⟨_,rfl⟩;rw [← hN] at hsz;have HN:=hIh hN
 by_cases h0:s.length < 1
 ·have hrr:hexS s = false:=hex_no2 (by omega)
  rw [hrr] at hr;have Hr:=hIh hr
  have g:(N:Int) < 1:=by omega
  have gb:decide ((N:Int) < 1) = true:=decide_eq_true g;generalize sb s = S at hsz;clear hrr hr hN Hix h0;go_enter Tryz.func41,Tryz.ntmps41;go_wp2;go_ret2;exact BsP.mk _ _ _ (by rw [Hr.out];rfl) (Below.refl _ _)
 have g:¬ (N:Int) < 1:=by omega
 have gb:decide ((N:Int) < 1) = false:=decide_eq_false g;have hix0:∀ W,(Instr.index 9 (.string (sb s)) (.int .i64 0)).run Tryz.prog W = .ok (.int .u8 (s[0].toNat:Int)) W:=fun W=>Hix.out W 0 (by omega);have hpre:=pre_head (s:=s) (c:=s[0]) (List.getElem?_eq_getElem (by omega))
 by_cases hc:s[0] = 58
 case neg=>
  rw [decide_eq_false hc] at hpre;have hrr:=hex_no1 hpre;rw [hrr] at hr;have Hr:=hIh hr;have hcb:(((s[0].toNat:Nat):Int) == 58) = false:=byteF 58 rfl hc
  have hcb2:(((s[0].toNat:Nat):Int) != 58) = true:=by rw [bne,hcb];rfl
  generalize s[0].toNat = c0 at hix0 hcb hcb2;generalize sb s = S at hsz hix0;clear hrr hr hN Hix h0 hpre hc;go_enter Tryz.func41,Tryz.ntmps41;go_wp2;go_ret2;exact BsP.mk _ _ _ (by rw [Hr.out];rfl) (Below.refl _ _)
 rw [decide_eq_true hc] at hpre;have hcb:(((s[0].toNat:Nat):Int) == 58) = true:=byteT 58 rfl hc
 have hcb2:(((s[0].toNat:Nat):Int) != 58) = false:=by rw [bne,hcb];rfl
 by_cases hodd:s.length % 2 = 1
 case neg=>
  have hrr:=hex_no2 hodd;rw [hrr] at hr;have Hr:=hIh hr
  have hm:(N:Int) % 2 = 0:=by omega
  have hmb:((N:Int) % 2 == 0) = true:=by rw [hm];rfl
  generalize s[0].toNat = c0 at hix0 hcb hcb2;generalize sb s = S at hsz hix0;clear hrr hr hN Hix h0 hpre hc hodd;go_enter Tryz.func41,Tryz.ntmps41;go_wp2;go_ret2;exact BsP.mk _ _ _ (by rw [Hr.out];rfl) (Below.refl _ _)
 have hm:(N:Int) % 2 = 1:=by omega
 by_cases hlen:s.length ≤ 4097
 case neg=>
  have hrr:=hex_no3 (s:=s) (by omega);rw [hrr] at hr;have Hr:=hIh hr
  have hm4:(4097:Int) < N:=by omega
  have hm4b:decide ((4097:Int) < N) = true:=decide_eq_true hm4;generalize s[0].toNat = c0 at hix0 hcb hcb2;generalize sb s = S at hsz hix0;clear hrr hr hN Hix h0 hpre hc hodd hlen;go_enter Tryz.func41,Tryz.ntmps41;go_wp2;go_ret2;exact BsP.mk _ _ _ (by rw [Hr.out];rfl) (Below.refl _ _)
 have hm4:¬ (4097:Int) < N:=by omega
 have hm4b:decide ((4097:Int) < N) = false:=decide_eq_false hm4
 have hN4:(N:Int) ≤ 4097:=by omega
 have Hyes:Hid ((∀ i (h:i < s.length),1 ≤ i → isHx s[i] = true) → r = true):=fun h=>by rw [hr];exact hex_yes hpre hodd hlen h
 have Hno:Hid (∀ i (h:i < s.length),1 ≤ i → isHx s[i] = false → r = false):=fun i h h1 hc=>by rw [hr];exact hex_no4 h h1 hc
 have Hst:Hid (HxLoop w s (.slice none 0 0) (.int .i64 0) (.int .i64 1) w):=⟨1,0, [],0,rfl,rfl,by omega,by omega,by omega,by omega,by omega,fun j _ h1 h2=>by omega,GrT.nil _ _ _ (Below.refl _ _)⟩;generalize s[0].toNat = c0 at hix0 hcb hcb2;generalize sb s = S at hsz hix0 Hix;clear hr hN hodd hlen h0 hpre hc;go_enter Tryz.func41,Tryz.ntmps41;go_wp2;clear hm hix0 hcb hcb2
 go_loopw [4,5,6] (fun v4 v5 v6 wr=>HxLoop w s v4 v5 v6 wr) (fun _ _ v6 _=>N - (intOf v6).toNat)
 case atStart=>exact Hst.out
 case round=>
  clear Hst;obtain ⟨i,n,xs,z,rfl,rfl,hz0,hz1,hi1,hi,hni,hall,hG⟩:=hrel;obtain ⟨A0,c0,rfl⟩:=hG.slice;have HG:=hIh hG;have Hall:=hIh hall;rw [← HN.out] at hi;clear hG hall
  by_cases hlt:i < N
  ·have hlt1:i < s.length:=by have:=HN.out;omega
   have hix:=fun W=>Hix.out W i hlt1;have hb:decide ((i:Int) < N) = true:=decide_eq_true (by omega);have hb2:(i:Int) < N:=(by omega);have hiff:=hx_iff s[i];have Hb1:Hid (isHx s[i] = false → r = false):=fun h=>Hno.out i hlt1 hi1 h
   have Hgood:Hid (isHx s[i] = true → ∀ v' n' xs' w' (y:Int),n' ≤ n + 1 → 0 ≤ y → y ≤ 15 → GrT w 5 1 v' n' xs' w' → HxLoop w s v' (.int .i64 y) (.int .i64 ((i:Int) + 1)) w'):=fun h1 v' n' xs' w' y hn h2 h3 hg=>
    ⟨i + 1,n',xs',y,by simp,rfl,h2,h3,by omega,by omega,by omega,fun j hj hj1 hji=>by
     by_cases e:j = i
     ·subst e;exact h1
     ·exact Hall.out j hj hj1 (by omega),hg⟩
   have hc256:s[i].toNat < 256:=s[i].toNat_lt;generalize isHx s[i] = p at hiff Hb1 Hgood;generalize s[i].toNat = c at hix hiff hc256;have hn9:n ≤ 4194304:=(by omega);clear hlt1 Hix Hno Hyes;rcases (by omega:(48 ≤ c ∧ c ≤ 57) ∨ (97 ≤ c ∧ c ≤ 102) ∨ ¬ ((48 ≤ c ∧ c ≤ 57) ∨ (97 ≤ c ∧ c ≤ 102))) with hk | hk | hk
   ·have Hgo:=hIh (Hgood.out (hiff.2 (.inl hk)))
    obtain ⟨k1,k2⟩:=hk;have q1:(48:Int) ≤ c:=(by omega);have q2:(c:Int) ≤ 57:=(by omega);clear hiff Hgood Hb1
    by_cases ho:i % 2 = 1
    ·have hm:(i:Int) % 2 = 1:=by omega
     have Hk:Hid (HxLoop w s (.slice A0 n c0) (.int .i64 ((c:Int) - 48)) (.int .i64 ((i:Int) + 1)) wr):=Hgo.out _ n xs wr _ (by omega) (by omega) (by omega) HG.out;go_wp2;go_roundw
     case rel=>exact Hk.out
     case measure=>simp [intOf];omega
    ·have hm:(i:Int) % 2 = 0:=by omega
     go_wp2_with (at_builtin;refine wpList_app1 HG rfl (.tmp 70) (.tmp 76) 66 rfl (.int .u8 0) 1 Tryz.underlying66 infoU8' rfl (by decide) [_] rfl (fun u h=>by rw [List.mem_singleton.1 h];rfl) _ rfl rfl hn9 (by decide) ?_);intro v' w3 hg3;have Hk:=hIh (Hgo.out v' _ _ w3 z (by omega) hz0 hz1 hg3);obtain ⟨A3,c3,rfl⟩:=hg3.slice;clear hg3;go_wp2;go_roundw
     case rel=>exact Hk.out
     case measure=>simp [intOf];omega
   ·have Hgo:=hIh (Hgood.out (hiff.2 (.inr hk)))
    obtain ⟨k1,k2⟩:=hk;have q1:(48:Int) ≤ c:=(by omega);have q2:¬ (c:Int) ≤ 57:=(by omega);have q3:(97:Int) ≤ c:=(by omega);have q4:(c:Int) ≤ 102:=(by omega);clear hiff Hgood Hb1
    by_cases ho:i % 2 = 1
    ·have hm:(i:Int) % 2 = 1:=by omega
     have Hk:Hid (HxLoop w s (.slice A0 n c0) (.int .i64 ((c:Int) - 97 + 10)) (.int .i64 ((i:Int) + 1)) wr):=Hgo.out _ n xs wr _ (by omega) (by omega) (by omega) HG.out;go_wp2;go_roundw
     case rel=>exact Hk.out
     case measure=>simp [intOf];omega
    ·have hm:(i:Int) % 2 = 0:=by omega
     go_wp2_with (at_builtin;refine wpList_app1 HG rfl (.tmp 70) (.tmp 76) 66 rfl (.int .u8 0) 1 Tryz.underlying66 infoU8' rfl (by decide) [_] rfl (fun u h=>by rw [List.mem_singleton.1 h];rfl) _ rfl rfl hn9 (by decide) ?_);intro v' w3 hg3;have Hk:=hIh (Hgo.out v' _ _ w3 z (by omega) hz0 hz1 hg3);obtain ⟨A3,c3,rfl⟩:=hg3.slice;clear hg3;go_wp2;go_roundw
     case rel=>exact Hk.out
     case measure=>simp [intOf];omega
   ·have Hres:Hid (r = false):=Hb1.out (by rw [← Bool.not_eq_true];exact fun e=>hk (hiff.1 e))
    clear hiff Hgood Hb1;rcases (by omega:¬ ((48:Int) ≤ c) ∨ ((48:Int) ≤ c ∧ ¬ (c:Int) ≤ 57 ∧ ¬ (97:Int) ≤ c) ∨ ((48:Int) ≤ c ∧ ¬ (c:Int) ≤ 57 ∧ (97:Int) ≤ c ∧ ¬ (c:Int) ≤ 102)) with q1 | ⟨q1,q2,q3⟩ | ⟨q1,q2,q3,q4⟩
    ·have q3:¬ (97:Int) ≤ c:=by omega
     clear hk;go_wp2;go_ret2;exact BsP.mk _ _ _ (by rw [Hres.out];rfl) HG.out.bel
    ·clear hk
     go_wp2;go_ret2;exact BsP.mk _ _ _ (by rw [Hres.out];rfl) HG.out.bel
    ·clear hk
     go_wp2;go_ret2;exact BsP.mk _ _ _ (by rw [Hres.out];rfl) HG.out.bel
  ·have hb:decide ((i:Int) < N) = false:=decide_eq_false (by omega)
   have hb2:¬ (i:Int) < N:=(by omega);have Hres:=hIh (Hyes.out fun j hj h1=>Hall.out j hj h1 (by have:=HN.out;omega));go_wp2;go_ret2;exact BsP.mk _ _ _ (by rw [Hres.out];rfl) HG.out.bel
def FoI (w:World) (r:Bool) (e:Ending) (w' : World):Prop := ∃ z:Int,e = .returned (.int .i64 z) ∧ decide (0 ≤ z) = r ∧ Below w.heap.size w w'
theorem FoI.mk {w w' : World} {r:Bool} {e:Ending} (z:Int) (h:e = .returned (.int .i64 z)) (h2:decide (0 ≤ z) = r) (hb:Below w.heap.size w w'):FoI w r e w':=⟨z,h,h2,hb⟩
def FoLoop (w:World) (s:Str) (v3 v4 v5:Value) (w1:World):Prop := ∃ (i f:Nat) (done:List Str),v5 = .int .i64 i ∧ v4 = .int .i64 f ∧ v3 = .int .i64 done.length ∧ CSt s 44 i f done ∧ (∀ p ∈ done,fateS p = true) ∧ Below w.heap.size w w1
theorem fates_no' {s:Str} (h:s ≠ [45]) {p:Str} (hp:p ∈ pieces 44 s) (hc:fateS p = false):fatesS s = false:=by
 obtain ⟨i,hi,rfl⟩:=List.mem_iff_getElem.1 hp;exact fates_no h hi hc
theorem CSt.pre {l:Str} {c:UInt8} {i f:Nat} {done:List Str} (h:CSt l c i f done):∀ p ∈ done,p ∈ pieces c l:=by
 intro p hp
 by_cases hi:i ≤ l.length
 ·rw [(h.mid hi).2];exact List.mem_append.2 (.inl hp)
 ·rw [← h.fin (by have:=h.hi;omega)];exact hp
theorem fatesOf_calls (w:World) (s:Str) (hs:s.length ≤ 1048576):Calls Tryz.prog 42 #[.string (sb s)] w (FoI w (fatesS s)):=by
 by_cases h45:s = [45]
 ·have hr:fatesS s = true:=by unfold fatesS;rw [if_pos h45]
  rw [hr]
  have hk:(sb s).toList = [45]:=by rw [sb_toL,h45]
  have hkb:((sb s).toList == [45]) = true:=by rw [hk];rfl
  generalize sb s = S at hk hkb;clear hr h45 hs;go_enter Tryz.func42,Tryz.ntmps42;go_wp2;go_ret;exact FoI.mk _ rfl rfl (Below.refl _ _)
 have hk:¬ (sb s).toList = [45]:=by rw [sb_toL];exact h45
 have hkb:((sb s).toList == [45]) = false:=by rw [beq_eq_false_iff_ne];exact hk
 have hsz:(sb s).size = s.length:=sb_size s;obtain ⟨r,hr⟩ : ∃ r,r = fatesS s:=⟨_,rfl⟩;rw [← hr];have Hix:=hIh (fun W (i:Nat) (h:i < s.length)=>run_ix W s i s[i] (List.getElem?_eq_getElem h));have Hsl:Hid (∀ i j,i ≤ j → j ≤ s.length → ∀ W,(Instr.slice 9 (.string (sb s)) (some (.int .i64 (i:Int))) (some (.int .i64 (j:Int))) none).run Tryz.prog W = .ok (.string (sb ((s.drop i).take (j - i)))) W):=fun i j h1 h2 W=>run_sl W s i j h1 h2;obtain ⟨N,hN⟩ : ∃ N,N = s.length:=⟨_,rfl⟩;rw [← hN] at hsz;have HN:=hIh hN
 have hN4:(N:Int) ≤ 1048576:=by omega
 have Hno:Hid (∀ p ∈ pieces 44 s,fateS p = false → r = false):=fun p hp hc=>by rw [hr];exact fates_no' h45 hp hc
 have Hall0:Hid (∀ done,done = pieces 44 s → (∀ p ∈ done,fateS p = true) → r = decide (done.length ≤ 512)):=fun done hd h=>by
  rw [hr,hd];exact fates_all h45 (fun j hj=>h _ (by rw [hd];exact List.getElem_mem hj))
 have Hst:Hid (FoLoop w s (.int .i64 0) (.int .i64 0) (.int .i64 0) w):=⟨0,0, [],rfl,rfl,rfl,⟨by omega,by omega,by simp,fun _=>by simp,fun h=>by omega⟩,by simp,Below.refl _ _⟩;generalize sb s = S at hk hkb hsz Hix Hsl;clear hr hN h45 hs;go_enter Tryz.func42,Tryz.ntmps42;go_wp2
 go_loopw [3,4,5] (fun v3 v4 v5 wr=>FoLoop w s v3 v4 v5 wr) (fun _ _ v5 _=>N + 1 - (intOf v5).toNat)
 case atStart=>exact Hst.out
 case round=>
  clear Hst hk hkb;obtain ⟨i,f,done,rfl,rfl,rfl,hC,hall,hB⟩:=hrel;have hi:=hC.hi;have hf:=hC.hf;have hd:=hC.hd;rw [← HN.out] at hi;have HC:=hIh hC;have Hall:=hIh hall;have HB:=hIh hB;clear hC hall hB
  by_cases hend:i = N + 1
  ·have hb:¬ (i:Int) ≤ N:=by omega
   have hb1:decide ((i:Int) ≤ N) = false:=decide_eq_false hb;have Hres:=hIh (Hall0.out done (HC.out.fin (by have:=HN.out;omega)) Hall.out);generalize done.length = m at hd Hres;clear hend
   by_cases h5:m ≤ 512
   ·have h5b:¬ (512:Int) < m:=by omega
    have h5c:decide ((512:Int) < m) = false:=decide_eq_false h5b;have Hr2:Hid (decide ((0:Int) ≤ (m:Int)) = r):=(by rw [Hres.out,decide_eq_true h5];exact decide_eq_true (by omega));clear h5;go_wp2;go_ret;exact FoI.mk _ rfl Hr2.out HB.out
   ·have h5b:(512:Int) < m:=by omega
    have h5c:decide ((512:Int) < m) = true:=decide_eq_true h5b;have Hr2:Hid (decide ((0:Int) ≤ (-1:Int)) = r):=(by rw [Hres.out,decide_eq_false h5];rfl);clear h5;go_wp2;go_ret;exact FoI.mk _ rfl Hr2.out HB.out
  have hb:(i:Int) ≤ N:=by omega
  have hb1:decide ((i:Int) ≤ N) = true:=decide_eq_true hb
  by_cases hskip:∃ d,s[i]? = some d ∧ d ≠ 44
  ·obtain ⟨d,hd1,hd2⟩:=hskip
   have hlt:i < s.length:=(List.getElem?_eq_some_iff.1 hd1).1;have Hk:Hid (FoLoop w s (.int .i64 done.length) (.int .i64 f) (.int .i64 ((i:Int) + 1)) wr):=⟨i + 1,f,done,by simp,rfl,rfl,HC.out.skip hd1 hd2,Hall.out,HB.out⟩
   have hix:∀ W,(Instr.index 9 (.string S) (.int .i64 (i:Int))).run Tryz.prog W = .ok (.int .u8 (d.toNat:Int)) W:=fun W=>by
    have:=Hix.out W i hlt;rw [(List.getElem?_eq_some_iff.1 hd1).2] at this;exact this
   have hcb:((d.toNat:Int) == 44) = false:=byteF 44 rfl hd2;have hcb2:((d.toNat:Int) != 44) = true:=(by rw [bne,hcb];rfl);have hb3:(i:Int) < N:=(by have:=HN.out;omega);have hb3b:decide ((i:Int) < N) = true:=decide_eq_true hb3;generalize d.toNat = dn at hix hcb hcb2;clear hd1 hd2 hlt hend;go_wp2;go_roundw
   case rel=>exact Hk.out
   case measure=>simp [intOf];omega
  ·obtain ⟨p,hp⟩ : ∃ p,p = (s.drop f).take (i - f):=⟨_,rfl⟩
   have hnx:CSt s 44 (i + 1) (i + 1) (done ++ [p]):=by
    rw [hp]
    by_cases hl:i = N
    ·have hl2:i = s.length:=by rw [hl];exact HN.out
     subst hl2;exact HC.out.last
    ·have hlt:i < s.length:=by have:=HN.out;omega
     refine HC.out.hit ?_;rw [List.getElem?_eq_getElem hlt]
     by_cases h44:s[i] = 44
     ·rw [h44]
     ·exact absurd ⟨s[i],List.getElem?_eq_getElem hlt,h44⟩ hskip
   have Hbad:Hid (fateS p = false → r = false):=fun h=>Hno.out p (hnx.pre p (by simp)) h
   have Hgood:Hid (fateS p = true → ∀ W,Below wr.heap.size wr W → FoLoop w s (.int .i64 ((done.length:Int) + 1)) (.int .i64 ((i:Int) + 1)) (.int .i64 ((i:Int) + 1)) W):=fun h W hW=>by
    refine ⟨i + 1,i + 1,done ++ [p],by simp,by simp,by simp,hnx,fun x hx=>?_,HB.out.trans (hW.mono HB.out.size)⟩;rcases List.mem_append.1 hx with hx | hx
    ·exact Hall.out x hx
    ·rw [List.mem_singleton.1 hx];exact h
   have hsl:∀ W,(Instr.slice 9 (.string S) (some (.int .i64 (f:Int))) (some (.int .i64 (i:Int))) none).run Tryz.prog W = .ok (.string (sb p)) W:=fun W=>(by rw [hp];exact Hsl.out f i hf (by have:=HN.out;omega) W);generalize done.length = m at hd Hgood
   have hcond:(i = N) ∨ (i < N ∧ ∀ W,(Instr.index 9 (.string S) (.int .i64 (i:Int))).run Tryz.prog W = .ok (.int .u8 44) W):=by
    by_cases hl:i = N
    ·exact .inl hl
    ·refine .inr ⟨by omega,fun W=>?_⟩
     have hlt:i < s.length:=(by have:=HN.out;omega)
     have h44:s[i] = 44:=by
      by_cases h44:s[i] = 44
      ·exact h44
      ·exact absurd ⟨s[i],List.getElem?_eq_getElem hlt,h44⟩ hskip
     have:=Hix.out W i hlt;rw [h44] at this;exact this
   have hps:(sb p).size = p.length:=sb_size p;clear hp hnx hskip Hno Hall0 hend Hsl;rcases hcond with hcond | ⟨hcond,hix⟩
   case' inl=>
    have hb3:¬ (i:Int) < N:=(by omega);have hb3b:decide ((i:Int) < N) = false:=decide_eq_false hb3;clear hcond;go_upto_region 12 with fail
   case' inr=>
    have hb3:(i:Int) < N:=(by omega);have hb3b:decide ((i:Int) < N) = true:=decide_eq_true hb3;clear hcond;go_upto_region 12 with fail;clear hix
   all_goals
    by_cases hp1:p = [107]
    ·have Hk:=hIh (Hgood.out (by rw [hp1];rfl) wr (Below.refl _ _))
     have k1:(sb p).toList = [107]:=(by rw [sb_toL,hp1]);have k1b:((sb p).toList == [107]) = true:=(by rw [k1];rfl);generalize sb p = T at hsl hps k1 k1b;clear hp1 Hgood Hbad;go_wp2;go_roundw
     case rel=>exact Hk.out
     case measure=>simp [intOf];omega
    have k1:¬ (sb p).toList = [107]:=(by rw [sb_toL];exact hp1);have k1b:((sb p).toList == [107]) = false:=(by rw [beq_eq_false_iff_ne];exact k1)
    by_cases hp2:p = [100]
    ·have Hk:=hIh (Hgood.out (by rw [hp2];rfl) wr (Below.refl _ _))
     have k2:(sb p).toList = [100]:=(by rw [sb_toL,hp2]);have k2b:((sb p).toList == [100]) = true:=(by rw [k2];rfl);generalize sb p = T at hsl hps k1 k1b k2 k2b;clear hp1 hp2 Hgood Hbad;go_wp2;go_roundw
     case rel=>exact Hk.out
     case measure=>simp [intOf];omega
    have k2:¬ (sb p).toList = [100]:=(by rw [sb_toL];exact hp2);have k2b:((sb p).toList == [100]) = false:=(by rw [beq_eq_false_iff_ne];exact k2)
    by_cases hl2:p.length < 2
    ·have hf:fateS p = false:=by
      unfold fateS;rw [if_neg hp1,if_neg hp2]
      split
      ·rename_i q
       have:q = []:=(by simp only [List.length_cons] at hl2;exact List.eq_nil_of_length_eq_zero (by omega));rw [this];rfl
      ·rfl
     have Hr2:Hid (decide ((0:Int) ≤ (-1:Int)) = r):=(by rw [Hbad.out hf];rfl);have l1:(p.length:Int) < 2:=(by omega);have l1b:decide ((p.length:Int) < 2) = true:=decide_eq_true l1;generalize p.length = pl at hps l1 l1b;generalize sb p = T at hsl hps k1 k1b k2 k2b;clear hp1 hp2 Hgood Hbad hf hl2;go_wp2;go_ret;exact FoI.mk _ rfl Hr2.out HB.out
    have l1:¬ (p.length:Int) < 2:=(by omega);have l1b:decide ((p.length:Int) < 2) = false:=decide_eq_false l1;have hix0:∀ W,(Instr.index 9 (.string (sb p)) (.int .i64 0)).run Tryz.prog W = .ok (.int .u8 ((p[0]'(by omega)).toNat:Int)) W:=fun W=>run_ix W p 0 _ (List.getElem?_eq_getElem (by omega))
    by_cases hc:p[0]'(by omega) = 116
    case neg=>
     have hf:fateS p = false:=by
      unfold fateS;rw [if_neg hp1,if_neg hp2]
      split
      ·rename_i q
       exact absurd rfl hc
      ·rfl
     have Hr2:Hid (decide ((0:Int) ≤ (-1:Int)) = r):=(by rw [Hbad.out hf];rfl);have hcb:((((p[0]'(by omega)).toNat:Nat):Int) == 116) = false:=byteF 116 rfl hc;have hcb2:((((p[0]'(by omega)).toNat:Nat):Int) != 116) = true:=(by rw [bne,hcb];rfl);generalize (p[0]'(by omega)).toNat = cn at hix0 hcb hcb2;generalize p.length = pl at hps l1 l1b;generalize sb p = T at hsl hps k1 k1b k2 k2b hix0;clear hp1 hp2 Hgood Hbad hf hl2 hc;go_wp2;go_ret;exact FoI.mk _ rfl Hr2.out HB.out
    obtain ⟨q,hq⟩ : ∃ q,p = 116 :: q:=by
     cases p with
     | nil=>simp at hl2
     | cons a q=>exact ⟨q,by rw [show a = 116 from hc]⟩
    have hcb:((((p[0]'(by omega)).toNat:Nat):Int) == 116) = true:=byteT 116 rfl hc;have hcb2:((((p[0]'(by omega)).toNat:Nat):Int) != 116) = false:=(by rw [bne,hcb];rfl)
    have hsl1:∀ W,(Instr.slice 9 (.string (sb p)) (some (.int .i64 1)) none none).run Tryz.prog W = .ok (.string (sb q)) W:=fun W=>by
     have:=run_slF W p 1 (by omega);rw [hq] at this ⊢;exact this
    have Hdg:Hid (∀ W,Calls Tryz.prog 73 #[.string (sb q),.int .i64 10] W (NuPost W (dgI q 10))):=fun W=>rdigits_calls W q 10 (by omega)
    have hf:fateS p = (match dgI q 10 with
      | some n=>decide (n ≤ 512)
      | none=>false):=by
     unfold fateS;rw [if_neg hp1,if_neg hp2,hq];unfold dgI;simp only
     cases digitsS q 10 with
     | none=>rfl
     | some n=>show decide (n ≤ 512) = decide ((n:Int) ≤ 512);exact decide_eq_decide.2 (by omega)
    rw [hf] at Hgood Hbad;generalize (p[0]'(by omega)).toNat = cn at hix0 hcb hcb2;generalize p.length = pl at hps l1 l1b;generalize sb p = T at hsl hps k1 k1b k2 k2b hix0 hsl1;generalize sb q = U at hsl1 Hdg;generalize dgI q 10 = o at Hdg Hgood Hbad;clear hp1 hp2 hf hq hl2 hc;go_wp2_with fail;(with_reducible refine (Hdg.out _).mono ?_);rintro e w3 ⟨z,ok,rfl,hr,hw3⟩;have HB3:Hid (Below w.heap.size w w3):=HB.out.trans (hw3.mono HB.out.size);rcases hr with ⟨n,rfl,rfl,rfl⟩ | ⟨rfl,rfl⟩
    ·by_cases hz:z ≤ 512
     ·have hz2:¬ 512 < z:=by omega
      have hz2b:decide (512 < z) = false:=decide_eq_false hz2;have Hk:=hIh (Hgood.out (decide_eq_true hz) w3 hw3);clear Hgood Hbad hz hw3;go_wp2;go_roundw
      case rel=>exact Hk.out
      case measure=>simp [intOf];omega
     ·have hz2:512 < z:=by omega
      have hz2b:decide (512 < z) = true:=decide_eq_true hz2;have Hr2:Hid (decide ((0:Int) ≤ (-1:Int)) = r):=(by rw [Hbad.out (decide_eq_false hz)];rfl);clear Hgood Hbad hz hw3;go_wp2;go_ret;exact FoI.mk _ rfl Hr2.out HB3.out
    ·have Hr2:Hid (decide ((0:Int) ≤ (-1:Int)) = r):=by rw [Hbad.out rfl];rfl
     clear Hgood Hbad hw3;go_wp2;go_ret;exact FoI.mk _ rfl Hr2.out HB3.out
abbrev rdR:=selParse termR
def kindI (k:Str):Int:=match kindS k with
 | some n=>n
 | none => -1
def cntKeys:List Str := [[111,112,101,110], [99,111,117,110,116,115], [100,117,109,112], [101,120,112,111,114,116], [115,119,97,112], [97,114,109], [102,115,99,107], [110,101,119], [105,109,112,111,114,116]]
theorem kind_none {k:Str} (h:k ∉ cntKeys):kindS k = none:=by
 simp only [cntKeys,List.mem_cons,List.not_mem_nil,or_false,not_or] at h;obtain ⟨h1,h2,h3,h4,h5,h6,h7,h8,h9⟩:=h;unfold kindS;rw [if_neg (by simp [*]),if_neg (by simp [*]),if_neg (by simp [*])]
theorem counted_calls (w:World) (k:Str):Calls Tryz.prog 39 #[.string (sb k)] w fun e w'=>e = .returned (.int .i64 (kindI k)) ∧ w' = w:=by
 by_cases h:k ∈ cntKeys
 ·have hk:(sb k).toList = k:=sb_toL k
  generalize sb k = K at hk;simp only [cntKeys,List.mem_cons,List.not_mem_nil,or_false] at h;rcases h with rfl | rfl | rfl | rfl | rfl | rfl | rfl | rfl | rfl
  all_goals
   go_enter Tryz.func39,Tryz.ntmps39;go_wp2;go_ret;exact ⟨rfl,rfl⟩
 ·have hr:kindI k = -1:=by unfold kindI;rw [kind_none h]
  rw [hr]
  have hk:∀ x ∈ cntKeys,((sb k).toList == x) = false:=fun x hx=>by
   rw [beq_eq_false_iff_ne,sb_toL];exact fun e=>h (by rw [e];exact hx)
  have h1:=hk [111,112,101,110] (by decide);have h2:=hk [99,111,117,110,116,115] (by decide);have h3:=hk [100,117,109,112] (by decide);have h4:=hk [101,120,112,111,114,116] (by decide);have h5:=hk [115,119,97,112] (by decide);have h6:=hk [97,114,109] (by decide);have h7:=hk [102,115,99,107] (by decide);have h8:=hk [110,101,119] (by decide);have h9:=hk [105,109,112,111,114,116] (by decide);generalize sb k = K at h1 h2 h3 h4 h5 h6 h7 h8 h9;clear h hr hk;go_enter Tryz.func39,Tryz.ntmps39;go_wp2;go_ret;exact ⟨rfl,rfl⟩
def kcmd (K:ByteArray) (v:Value):Array Value:=⟨[.string K,v,.slice none 0 0] ++ zeroCells.toList ++ [.int .i64 0]⟩
def zcmd:Array Value:=kcmd ⟨#[]⟩ (.slice none 0 0)
theorem infoCmd:(Tryz.prog.info? 68).map (·.size) = some 33:=by kernel_rfl
theorem cmdU:Tryz.prog.underlying 68 = some (.struct (match Tryz.prog.underlying 68 with | some (.struct f)=>f | _ => #[])):=by kernel_rfl
def One (cs:Array Value):Prop := ∀ (i:Nat) x,cs[i]? = some x → x.oneCell' = true
theorem One.all {cs:Array Value} (h:One cs):cs.all (·.oneCell') = true:=by
 rw [Array.all_eq_true];intro i hi;exact h i _ (Array.getElem?_eq_getElem hi)
theorem One.of_all {cs:Array Value} (h:cs.all (·.oneCell') = true):One cs:=by
 rw [Array.all_eq_true] at h;intro i x hx;obtain ⟨hi,rfl⟩:=Array.getElem?_eq_some_iff.1 hx;exact h i hi
theorem One.set {cs:Array Value} (h:One cs) (o:Nat) {v:Value} (hv:v.oneCell' = true):One (cs.setIfInBounds o v):=by
 intro i x hx;rw [Array.getElem?_setIfInBounds] at hx
 split at hx
 ·split at hx
  ·cases hx;exact hv
  ·cases hx
 ·exact h i x hx
theorem One.setAll {cs:Array Value} (h:One cs):∀ (vs:List Value) (o:Nat),(∀ v ∈ vs,v.oneCell' = true) → One (setAll cs o vs)
 | [],_,_=>h
 | v :: r,o,hv=>One.setAll (h.set o (hv v List.mem_cons_self)) r (o + 1) (fun x hx=>hv x (List.mem_cons_of_mem _ hx))
theorem kcmd_one (K:ByteArray) (A:Option Addr) (n c:Nat):One (kcmd K (.slice A n c)):=One.of_all (by simp [kcmd,zeroCells,reqCells,Value.oneCell'])
structure RT (w:World) (g q:Nat) (W:World) (cs:Array Value):Prop where
 row:W.heap[q]? = some (.cells cs 68 (0,0))
 size:cs.size = 33
 one:One cs
 ans:W.heap[g]? = some (.cells zcmd 68 (0,0))
 bel:Below w.heap.size w W
 ne:g ≠ q
 le:w.heap.size ≤ q
 at0:g = w.heap.size
section
variable {w W W1:World} {g q:Nat} {cs:Array Value}
theorem RT.below (h:RT w g q W cs) (hb:Below W.heap.size W W1):RT w g q W1 cs:=⟨blk_below h.row hb,h.size,h.one,blk_below h.ans hb,h.bel.trans (hb.mono h.bel.size),h.ne,h.le,h.at0⟩
theorem RT.setC (h:RT w g q W cs) (o:Nat) {v:Value} (hv:v.oneCell' = true):RT w g q (W.setCell ⟨q,o,none⟩ v) (cs.setIfInBounds o v):=
 ⟨blk_setCell h.row o v,by rw [Array.size_setIfInBounds];exact h.size,h.one.set o hv,blk_far h.ans h.ne v,h.bel.setCell h.le v,h.ne,h.le,h.at0⟩
theorem RT.setR (h:RT w g q W cs) (o:Nat) {vs:List Value} (hv:∀ v ∈ vs,v.oneCell' = true) (hl:o + vs.length ≤ 33):RT w g q (W.setCells q o vs) (setAll cs o vs):=
 ⟨setCells_blk vs o cs W h.row,by rw [(setAll_get vs o cs (by rw [h.size];exact hl)).1];exact h.size,h.one.setAll vs o hv,(setCells_fr q vs o W).blk h.ans h.ne,h.bel.trans ((setCells_fr q vs o W).to_below (fun k hk=>by have:=h.le;omega) h.bel.size),h.ne,h.le,h.at0⟩
theorem RT.grow (h:RT w g q W cs) {row:Option Nat} (hg:W.grownBy W1 row) (h1:∀ k,row = some k → k ≠ g ∧ k ≠ q ∧ w.heap.size ≤ k):RT w g q W1 cs:=
 ⟨blk_grown h.row hg (fun e=>(h1 q e).2.1 rfl),h.size,h.one,blk_grown h.ans hg (fun e=>(h1 g e).1 rfl),h.bel.grown hg h.bel.size (fun k hk=>(h1 k hk).2.2),h.ne,h.le,h.at0⟩
theorem RT.hA (h:Hid (RT w g q W cs)):Hid (W.heap[g]? = some (.cells zcmd 68 (0,0)) ∧ zcmd.size = 33):=⟨h.out.ans,rfl⟩
theorem RT.cell (h:RT w g q W cs) (i:Nat) (hi:i < 33):∃ v,cs[i]? = some v ∧ W.cell? ⟨q,i,none⟩ = some v ∧ W.frozen? ⟨q,i,none⟩ = false:=by
 obtain ⟨h1,h2⟩:=cellsN (i:=i) h.row (by rw [h.size];exact hi);exact ⟨_,Array.getElem?_eq_getElem _,h1,h2⟩
end
section
variable {ops:Array Oper} {rest:List Oper} {a:Act} {Q:Exit → Act → World → Prop} {ty:TypeId} {pos:String} {after:Array Edge} {W:World} {q:Nat} {cs:Array Value}
theorem wpList_loadC {w:World} {g:Nat} (H:Hid (RT w g q W cs)) {k i:Tmp} (h1:a.eval (.tmp i) = .pointer (some ⟨q,0,none⟩)) (h:wpList Tryz.prog ops Q rest (a.put (some k) (.agg cs)) W):wpList Tryz.prog ops Q (⟨some k,.load 68 (.tmp i),ty,pos,after,none⟩ :: rest) a W:=
 wpList_load_row rfl 68 (.tmp i) rfl q h1 68 cs (0,0) _ H.out.row cmdU rfl (by rw [H.out.size];exact infoCmd) h
theorem wpList_storeC {C:Array Value} (Hr:Hid (W.heap[q]? = some (.cells C 68 (0,0)) ∧ C.size = 33)) {i j:Tmp} (h1:a.eval (.tmp i) = .pointer (some ⟨q,0,none⟩)) (h2:a.eval (.tmp j) = .agg cs) (hs:cs.size = 33) (ho:One cs) (h:wpList Tryz.prog ops Q rest (a.put none undef) (W.setCells q 0 cs.toList)):wpList Tryz.prog ops Q (⟨none,.store 68 (.tmp i) (.tmp j),ty,pos,after,none⟩ :: rest) a W:=
 wpList_store_mid (op:=⟨none,.store 68 (.tmp i) (.tmp j),ty,pos,after,none⟩) rfl 68 (.tmp i) (.tmp j) rfl q 0 cs h1 h2 (there_blk Hr.out.1 (by rw [hs,Hr.out.2];exact Nat.le_refl _)) (by rw [hs];exact infoCmd) ho.all h
end
theorem wp_storeC {a:Act} {ty:TypeId} {pos:String} {after:Array Edge} {W:World} {q:Nat} {C cs:Array Value} {K:Act → World → Prop} {Q:Exit → Act → World → Prop} (Hr:Hid (W.heap[q]? = some (.cells C 68 (0,0)) ∧ C.size = 33)) {i j:Tmp} (h1:a.eval (.tmp i) = .pointer (some ⟨q,0,none⟩)) (h2:a.eval (.tmp j) = .agg cs) (hs:cs.size = 33) (ho:One cs) (h:K (a.put none undef) (W.setCells q 0 cs.toList)):Oper.wp Tryz.prog ⟨none,.store 68 (.tmp i) (.tmp j),ty,pos,after,none⟩ a W K Q:=by
 have ht:W.there q 0 cs.size:=there_blk Hr.out.1 (by rw [hs,Hr.out.2];exact Nat.le_refl _);unfold Oper.wp execOp;simp only [h1,h2,Instr.storeAt,Instr.sureAddr,Sem.run_bind,Sem.run_pure,Result.andThen_ok,run_storeVar_mid W q 0 68 cs ht (by rw [hs];exact infoCmd) ho.all];exact h
theorem step_storeC {a:Act} {ty:TypeId} {pos:String} {after:Array Edge} {W:World} {q:Nat} {C cs:Array Value} {K:Act → World → Prop} {Q:Exit → Act → World → Prop} {E:Prop} {i j:Tmp} {ops:Array Oper} (Hr:Hid (W.heap[q]? = some (.cells C 68 (0,0)) ∧ C.size = 33)) (h1:a.eval (.tmp i) = .pointer (some ⟨q,0,none⟩)) (h2:a.eval (.tmp j) = .agg cs) (hs:cs.size = 33) (ho:One cs) (h:K (a.put none undef) (W.setCells q 0 cs.toList)) :
  if Region.wanted ⟨none,.store 68 (.tmp i) (.tmp j),ty,pos,after,none⟩ (yielded ops a.tmps) = true then Oper.wp Tryz.prog ⟨none,.store 68 (.tmp i) (.tmp j),ty,pos,after,none⟩ a W K Q else E:=by
 have hw:Region.wanted ⟨none,.store 68 (.tmp i) (.tmp j),ty,pos,after,none⟩ (yielded ops a.tmps) = true:=by simp [Region.wanted]
 rw [if_pos hw];exact wp_storeC Hr h1 h2 hs ho h
theorem run_loadC {W:World} {q:Nat} {cs:Array Value} (h:W.heap[q]? = some (.cells cs 68 (0,0))) (hs:cs.size = 33):(Instr.loadAt 68 (.pointer (some ⟨q,0,none⟩))).run Tryz.prog W = .ok (.agg cs) W:=by
 have hl:=run_loadVar_row (P:=Tryz.prog) W q 68 68 cs (0,0) _ h cmdU rfl (by rw [hs];exact infoCmd);simp [Instr.loadAt,Instr.sureAddr,hl,Result.andThen]
def RdP (r:Bool) (w:World) (e:Ending) (w' : World):Prop := ∃ cs b,e = .returned (.tuple #[.agg cs,.bool b]) ∧ cs.size = 33 ∧ One cs ∧ b = r ∧ Below w.heap.size w w'
theorem rd_any {F:Func} (hF:F.results = #[.cell 2 68,.tmp 3]) {tmps:Array Value} {r b:Bool} {w W:World} {g:Nat} {C cs:Array Value} (hg:g = w.heap.size) (hq:W.heap[g]? = some (.cells C 68 (0,0))) (hC:C.size = 33) (hs:cs.size = 33) (h1:One cs) (hb:Below w.heap.size w W) (hr:b = r)
  (h2:tmps.getD 2 undef = .pointer (some ⟨g,0,none⟩)) (h3:tmps.getD 3 undef = .bool b) :
  bodyPost Tryz.prog F (RdP r w) Exit.ret { tmps:=tmps,defers := [] } (W.setCells g 0 cs.toList):=by
 have s1:(W.setCells g 0 cs.toList).heap[g]? = some (.cells cs 68 (0,0)):=by have:=setCells_blk cs.toList 0 C W hq;rwa [setAll_full C cs (by omega)] at this
 have h2' : tmps[2]?.getD undef = .pointer (some ⟨g,0,none⟩):=by simpa using h2
 have h3' : tmps[3]?.getD undef = .bool b:=by simpa using h3
 have hl:=run_loadVar_row (P:=Tryz.prog) (W.setCells g 0 cs.toList) g 68 68 cs (0,0) _ s1 cmdU rfl (by rw [hs];exact infoCmd)
 have hres:(results F tmps).run Tryz.prog (W.setCells g 0 cs.toList) = .ok (.tuple #[.agg cs,.bool b]) (W.setCells g 0 cs.toList):=by simp [results,hF,h2',h3',asAddr,hl,Result.andThen]
 exact bodyPost_ret hres rfl ⟨cs,b,rfl,hs,h1,hr,hb.trans ((setCells_fr g cs.toList 0 W).to_below (fun k hk=>by omega) hb.size)⟩
theorem RT.fin {F:Func} (hF:F.results = #[.cell 2 68,.tmp 3]) {tmps:Array Value} {r b:Bool} {w W:World} {g q:Nat} {cs:Array Value} (h:RT w g q W cs) (hr:b = r)
  (h2:tmps.getD 2 undef = .pointer (some ⟨g,0,none⟩)) (h3:tmps.getD 3 undef = .bool b) :
  bodyPost Tryz.prog F (RdP r w) Exit.ret { tmps:=tmps,defers := [] } (W.setCells g 0 cs.toList):=rd_any hF h.at0 h.ans rfl h.size h.one h.bel hr h2 h3
end Go.Proofs.YtpfkkagkbneilaaGreatDoor
