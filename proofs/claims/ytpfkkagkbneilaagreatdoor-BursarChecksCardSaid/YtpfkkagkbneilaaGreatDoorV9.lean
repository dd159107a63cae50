/- Texts H5 of the proof of BursarChecks, joined. -/
import Derived.Test.YtpfkkagkbneilaaGreatDoorV8
namespace Go.Proofs.YtpfkkagkbneilaaGreatDoor
open Go.RowKit
set_option linter.unusedVariables false
set_option linter.unusedSimpArgs false
set_option maxRecDepth 100000
set_option maxHeartbeats 25600000
def TmRes (w:World) (t:Tm) (e:Ending) (w' : World):Prop := ∃ vv,e = .returned (.agg #[.string (sb t.key),.int .i64 (t.how:Int),vv]) ∧ RdT w' vv t.vals ∧ (∀ k,vv.ownBlock = some k → w.heap.size ≤ k) ∧ Below w.heap.size w w'
def RdLoop (l:Str) (v3:Value):Prop := ∃ i:Nat,i ≤ l.length ∧ v3 = .int .i64 i ∧ termR l = scanR (l.take i) (l.drop i)
theorem scan_skip {l:Str} {i:Nat} {c:UInt8} (h:termR l = scanR (l.take i) (l.drop i)) (hc:l[i]? = some c) (h1:c ≠ 61) (h2:¬ (c = 33 ∧ (l.drop (i + 1)).head? = some 61)) (h3:c ≠ 32):termR l = scanR (l.take (i + 1)) (l.drop (i + 1)):=by
 obtain ⟨hlt,hc⟩:=List.getElem?_eq_some_iff.1 hc;rw [h,List.drop_eq_getElem_cons hlt,hc,scanR,if_neg h1,if_neg h2,if_neg h3,List.take_add_one,List.getElem?_eq_getElem hlt,hc]
 rfl
theorem scan_eq {l:Str} {i:Nat} (h:termR l = scanR (l.take i) (l.drop i)) (hc:l[i]? = some 61):termR l = ⟨l.take i,0, [l.drop (i + 1)]⟩:=by
 obtain ⟨hlt,hc⟩:=List.getElem?_eq_some_iff.1 hc;rw [h,List.drop_eq_getElem_cons hlt,hc,scanR,if_pos rfl]
theorem scan_ne {l:Str} {i:Nat} (h:termR l = scanR (l.take i) (l.drop i)) (hc:l[i]? = some 33) (h2:l[i + 1]? = some 61):termR l = ⟨l.take i,1, [l.drop (i + 2)]⟩:=by
 obtain ⟨hlt,hc⟩:=List.getElem?_eq_some_iff.1 hc;rw [h,List.drop_eq_getElem_cons hlt,hc,scanR,if_neg (by decide),if_pos ⟨rfl,by rw [List.head?_drop];exact h2⟩,List.drop_drop]
theorem scan_sp {l:Str} {i:Nat} (h:termR l = scanR (l.take i) (l.drop i)) (hc:l[i]? = some 32):termR l = ⟨l.take i,if (pieces 32 (l.drop (i + 1))).headD [] = [110,111,116,105,110] then 1 else 0,tailR (pieces 32 (l.drop (i + 1)))⟩:=by
 obtain ⟨hlt,hc⟩:=List.getElem?_eq_some_iff.1 hc;rw [h,List.drop_eq_getElem_cons hlt,hc,scanR,if_neg (by decide),if_neg (by rintro ⟨h1, -⟩;exact absurd h1 (by decide)),if_pos rfl]
theorem scan_end {l:Str} {i:Nat} (h:termR l = scanR (l.take i) (l.drop i)) (hi:l.length ≤ i):termR l = ⟨l,2, []⟩:=by
 rw [h,List.drop_eq_nil_of_le hi,List.take_of_length_le hi,scanR]
def tailN (ws:List Str) (n:Nat):List Str:=(List.range n).map fun j=>tailOne ws.length (j + 1) (ws.getD (j + 1) [])
theorem tailN_snoc (ws:List Str) (n:Nat):tailN ws (n + 1) = tailN ws n ++ [tailOne ws.length (n + 1) (ws.getD (n + 1) [])]:=by
 simp [tailN,List.range_succ]
theorem tailN_len (ws:List Str) (n:Nat):(tailN ws n).length = n:=by simp [tailN]
def RInLoop (w1:World) (K:ByteArray) (how:Int) (ws:List Str) (v6:Value) (wr:World):Prop := ∃ (j:Nat) (vv:Value),v6 = .int .i64 j ∧ 1 ≤ j ∧ j ≤ ws.length ∧
 wr.heap[w1.heap.size]? = some (.cells #[.string K,.int .i64 how,vv] 98 (0,0)) ∧ wr.ownsRow 0 9 1 vv (j - 1) ((tailN ws (j - 1)).flatMap strC) ∧ (∀ k,vv.ownBlock = some k → w1.heap.size + 1 ≤ k) ∧ Below w1.heap.size w1 wr
theorem RIn_next {w1 wr w2:World} {K:ByteArray} {how:Int} {ws:List Str} {j:Nat} {vv v' : Value} {x:Str} {o:Obj} (h1:1 ≤ j) (hj:j < ws.length)
  (hblk:wr.heap[w1.heap.size]? = some (.cells #[.string K,.int .i64 how,vv] 98 (0,0))) (hnew:∀ k,vv.ownBlock = some k → w1.heap.size + 1 ≤ k) (hB:Below w1.heap.size w1 wr)
  (hx:x = tailOne ws.length j (ws.getD j [])) (ho:w2.ownsRow 0 9 1 v' (j - 1 + 1) ((tailN ws (j - 1)).flatMap strC ++ [x].flatMap strC)) (hg:(wr.alloc o).grownBy w2 vv.ownBlock)
  (hn:∀ k,v'.ownBlock = some k → vv.ownBlock = some k ∨ wr.heap.size + 1 ≤ k) :
  w2.heap[w1.heap.size]? = some (.cells #[.string K,.int .i64 how,vv] 98 (0,0)) ∧ RInLoop w1 K how ws (.int .i64 ((j:Int) + 1)) (w2.setCell ⟨w1.heap.size,2,none⟩ v'):=by
 have hlt:=blk_lt hblk
 have hb2:w2.heap[w1.heap.size]? = some (.cells #[.string K,.int .i64 how,vv] 98 (0,0)):=
  blk_grown (blk_below hblk ((Below.refl _ _).alloc (Nat.le_refl _) o)) hg (fun e=>by have:=hnew _ e;omega)
 have hv' : ∀ k,v'.ownBlock = some k → w1.heap.size + 1 ≤ k:=fun k hk=>by
  rcases hn k hk with h | h
  ·exact hnew k h
  ·have:=hB.size;omega
 refine ⟨hb2,j + 1,v',rfl,by omega,by omega,?_,?_,hv',?_⟩
 ·exact blk_setCell hb2 2 v'
 ·rw [show j + 1 - 1 = j - 1 + 1 by omega,tailN_snoc,show j - 1 + 1 = j by omega,← hx,flat_app]
  rw [show j - 1 + 1 = j by omega] at ho;exact ((Fr.refl (fun k=>k = w1.heap.size) w2).setCell (p:=⟨w1.heap.size,2,none⟩) (.inl rfl) v').owns ho (fun k hk e=>by have:=hv' k hk;omega)
 ·have hs:=hB.size
  exact ((hB.alloc hs o).grown hg (by simp;omega) (fun k hk=>by have:=hnew k hk;omega)).setCell (p:=⟨w1.heap.size,2,none⟩) (Nat.le_refl _) v'
theorem tmres_store {w W1:World} {t:Tm} {vv a b c:Value} (hv:RdT W1 vv t.vals) (hn:∀ k,vv.ownBlock = some k → w.heap.size < k) (hB:Below w.heap.size w W1) :
  TmRes w t (.returned (.agg #[.string (sb t.key),.int .i64 (t.how:Int),vv])) (((W1.setCell ⟨w.heap.size,0,none⟩ a).setCell ⟨w.heap.size,1,none⟩ b).setCell ⟨w.heap.size,2,none⟩ c):=by
 have hf:Fr (fun k=>k = w.heap.size) W1 (((W1.setCell ⟨w.heap.size,0,none⟩ a).setCell ⟨w.heap.size,1,none⟩ b).setCell ⟨w.heap.size,2,none⟩ c):=
  (((Fr.refl (fun k=>k = w.heap.size) W1).setCell (p:=⟨w.heap.size,0,none⟩) (.inl rfl) a).setCell (p:=⟨w.heap.size,1,none⟩) (.inl rfl) b).setCell (p:=⟨w.heap.size,2,none⟩) (.inl rfl) c
 refine ⟨vv,rfl,RdS.fr hv hf (fun k hk e=>by have:=hn k hk;omega),fun k hk=>Nat.le_of_lt (hn k hk),?_⟩;exact ((hB.setCell (p:=⟨w.heap.size,0,none⟩) (Nat.le_refl _) a).setCell (p:=⟨w.heap.size,1,none⟩) (Nat.le_refl _) b).setCell (p:=⟨w.heap.size,2,none⟩) (Nat.le_refl _) c
theorem pieces_mem {c:UInt8}:∀ {s x:Str},x ∈ pieces c s → x.length ≤ s.length
 | [],x,h=>by
  have:x = []:=by simpa [pieces] using h
  rw [this];simp
 | a :: r,x,h=>by
  unfold pieces at h
  split at h
  ·rcases List.mem_cons.1 h with rfl | h
   ·simp
   ·have:=pieces_mem h;simp only [List.length_cons];omega
  ·split at h
   ·rw [List.mem_singleton.1 h];simp
   ·rename_i p q hp
    rcases List.mem_cons.1 h with rfl | h
    ·have:=pieces_mem (c:=c) (s:=r) (x:=p) (by rw [hp];exact List.mem_cons_self)
     simp only [List.length_cons];omega
    ·have:=pieces_mem (c:=c) (s:=r) (x:=x) (by rw [hp];exact List.mem_cons_of_mem _ h)
     simp only [List.length_cons];omega
theorem tmres_one {w W0:World} {key x:Str} {how:Nat} {a b c:Value} {ty:TypeId} (hB:Below w.heap.size w W0) (hlt:w.heap.size < W0.heap.size) :
  TmRes w ⟨key,how, [x]⟩ (.returned (.agg #[.string (sb key),.int .i64 (how:Int),.slice (some ⟨W0.heap.size,0,none⟩) 1 1])) ((((W0.setCell ⟨w.heap.size,0,none⟩ a).setCell ⟨w.heap.size,1,none⟩ b).setCell ⟨w.heap.size,2,none⟩ c).alloc (.cells #[.string (sb x)] ty)).drew:=by
 have e:(((W0.setCell ⟨w.heap.size,0,none⟩ a).setCell ⟨w.heap.size,1,none⟩ b).setCell ⟨w.heap.size,2,none⟩ c).heap.size = W0.heap.size:=by simp [World.setCell]
 have h1:=rd_oneS (((W0.setCell ⟨w.heap.size,0,none⟩ a).setCell ⟨w.heap.size,1,none⟩ b).setCell ⟨w.heap.size,2,none⟩ c) ty x;rw [e] at h1;have h2:Below w.heap.size w (((W0.setCell ⟨w.heap.size,0,none⟩ a).setCell ⟨w.heap.size,1,none⟩ b).setCell ⟨w.heap.size,2,none⟩ c):=((hB.setCell (p:=⟨w.heap.size,0,none⟩) (Nat.le_refl _) a).setCell (p:=⟨w.heap.size,1,none⟩) (Nat.le_refl _) b).setCell (p:=⟨w.heap.size,2,none⟩) (Nat.le_refl _) c;exact ⟨_,rfl,h1,fun k hk=>by (have h5:W0.heap.size = k:=by simpa [Value.ownBlock] using hk);omega,drewB (h2.alloc h2.size _) 1⟩
theorem TmRes.drew {w w1:World} {t:Tm} {e:Ending} (h:TmRes w t e w1):TmRes w t e w1.drew:=by
 obtain ⟨vv,h1,h2,h3,h4⟩:=h;exact ⟨vv,h1,h2,h3,drewB h4 1⟩
theorem tailOne_11 (n j:Nat) (v:Str) (h1:j = 1 ∧ v ≠ []) (h2:j = n - 1 ∧ v.drop 1 ≠ []):(v.drop 1).take ((v.drop 1).length - 1) = tailOne n j v:=by unfold tailOne;simp only [if_pos h1];rw [if_pos h2]
theorem tailOne_10 (n j:Nat) (v:Str) (h1:j = 1 ∧ v ≠ []) (h2:¬ (j = n - 1 ∧ v.drop 1 ≠ [])):v.drop 1 = tailOne n j v:=by unfold tailOne;simp only [if_pos h1];rw [if_neg h2]
theorem tailOne_01 (n j:Nat) (v:Str) (h1:¬ (j = 1 ∧ v ≠ [])) (h2:j = n - 1 ∧ v ≠ []):v.take (v.length - 1) = tailOne n j v:=by unfold tailOne;simp only [if_neg h1];rw [if_pos h2]
theorem tailOne_00 (n j:Nat) (v:Str) (h1:¬ (j = 1 ∧ v ≠ [])) (h2:¬ (j = n - 1 ∧ v ≠ [])):v = tailOne n j v:=by unfold tailOne;simp only [if_neg h1];rw [if_neg h2]
theorem read_calls (w:World) (l:Str) (hl:l.length ≤ 1048576):Calls Tryz.prog 108 #[.string (sb l)] w (TmRes w (termR l)):=by
 have hsz:(sb l).size = l.length:=sb_size l;have Hix:Hid (∀ (i:Nat) (c:UInt8) W,l[i]? = some c → (Instr.index 9 (.string (sb l)) (.int .i64 (i:Int))).run Tryz.prog W = .ok (.int .u8 (c.toNat:Int)) W):=fun i c W h=>run_ix W l i c h;have HslF:Hid (∀ i,i ≤ l.length → ∀ W,(Instr.slice 9 (.string (sb l)) (some (.int .i64 (i:Int))) none none).run Tryz.prog W = .ok (.string (sb (l.drop i))) W):=fun i h W=>run_slF W l i h;have HslT:Hid (∀ j,j ≤ l.length → ∀ W,(Instr.slice 9 (.string (sb l)) none (some (.int .i64 (j:Int))) none).run Tryz.prog W = .ok (.string (sb (l.take j))) W):=fun j h W=>run_slT W l j h;have Hbx:=hIh (blk_new w (.cells #[.string ⟨#[]⟩,.int .i64 0,.slice none 0 0] 98));have HB0:=hIh (bel_alloc w (.cells #[.string ⟨#[]⟩,.int .i64 0,.slice none 0 0] 98));generalize hS:sb l = S at hsz Hix HslF HslT;have HS:=hIh hS;clear hS;obtain ⟨c0,c1,c2,f0,f1,f2⟩:=cells3 Hbx.out
 by_cases hb:l[0]? = some 33
 ·have hlen:0 < l.length:=(List.getElem?_eq_some_iff.1 hb).1
  have hx0:∀ W,(Instr.index 9 (.string S) (.int .i64 0)).run Tryz.prog W = .ok (.int .u8 33) W:=fun W=>Hix.out 0 33 W hb;have hsl:∀ W,(Instr.slice 9 (.string S) (some (.int .i64 1)) none none).run Tryz.prog W = .ok (.string (sb (l.drop 1))) W:=fun W=>HslF.out 1 hlen W
  have Hres:Hid (termR l = ⟨l.drop 1,3, []⟩):=by
   show _ = _;unfold termR;rw [if_pos (by rw [← hb];cases l <;> rfl)]
  have hg:(0:Int) < l.length:=by omega
  have hgb:decide ((0:Int) < l.length) = true:=decide_eq_true hg;rw [Hres.out];clear hb Hres;generalize hD:sb (l.drop 1) = D at hsl;have HD:=hIh hD;clear hD;go_enter Tryz.func108,Tryz.ntmps108;go_wp2;refine bodyPost_ret (results_cell_row rfl _ _ w.heap.size 98 #[.string D,.int .i64 3,.slice none 0 0] (0,0) _ rfl (blk_new _ _) Tryz.underlying98 rfl (by kernel_rfl)) rfl ?_;exact ⟨_,by rw [HD.out];rfl,RdS.nil _ _ _,(fun k hk=>by cases hk),bel_alloc _ _⟩
 ·have hst:termR l = scanR (l.take 0) (l.drop 0):=by
   unfold termR;rw [if_neg];rfl;intro e;apply hb;rw [← e];cases l <;> rfl
  have Hst:Hid (RdLoop l (.int .i64 0)):=⟨0,by omega,rfl,hst⟩;clear hst
  have hfirst:(l.length = 0 ∧ ¬ ((0:Int) < l.length)) ∨ ((0:Int) < l.length ∧ ∃ c:UInt8,(∀ W,(Instr.index 9 (.string S) (.int .i64 0)).run Tryz.prog W = .ok (.int .u8 (c.toNat:Int)) W) ∧ ((c.toNat:Int) == 33) = false):=by
   by_cases h0:l.length = 0
   ·exact .inl ⟨h0,by omega⟩
   ·refine .inr ⟨by omega,l[0]'(by omega),fun W=>Hix.out 0 _ W (by simp [show 0 < l.length by omega]),?_⟩
    rw [beq_eq_false_iff_ne];intro e
    apply hb
    rw [List.getElem?_eq_getElem (by omega:0 < l.length)]
    congr 1
    exact UInt8.toNat_inj.1 (show _ = (33:UInt8).toNat from by have:(33:UInt8).toNat = 33:=rfl;omega)
  clear hb;rcases hfirst with ⟨h0,hd⟩ | ⟨hd,c',hx0,hc'⟩
  ·go_enter Tryz.func108,Tryz.ntmps108
   go_wp2;generalize hW0:w.alloc (.cells #[.string ⟨#[]⟩,.int .i64 0,.slice none 0 0] 98) = W0 at c0 c1 c2 f0 f1 f2 Hbx HB0 ⊢;clear hW0;have HS2:Hid (∀ W,Below W0.heap.size W0 W → W.cell? ⟨w.heap.size,0,none⟩ = some (.string ⟨#[]⟩) ∧ W.cell? ⟨w.heap.size,1,none⟩ = some (.int .i64 0) ∧ W.cell? ⟨w.heap.size,2,none⟩ = some (.slice none 0 0) ∧ W.frozen? ⟨w.heap.size,0,none⟩ = false ∧ W.frozen? ⟨w.heap.size,1,none⟩ = false ∧ W.frozen? ⟨w.heap.size,2,none⟩ = false):=fun W hW=>cells3 (blk_below Hbx.out hW);have hW0lt:=blk_lt Hbx.out;have HW0:=hIh hW0lt
   go_loop [3] (fun v3=>RdLoop l v3) (fun i=>l.length - (intOf i).toNat)
   case atStart=>exact Hst.out
   case round=>
    clear Hst;obtain ⟨i,hi,rfl,hsc⟩:=hrel;have Hsc:=hIh hsc;clear hsc;have hlt:¬ i < l.length:=(by omega);have hli:¬ (i:Int) < l.length:=(by omega);have Hres:Hid (termR l = ⟨l,2, []⟩):=scan_end Hsc.out (by omega);clear hi hlt Hsc;go_wp2;refine bodyPost_ret (results_cell_row rfl _ _ w.heap.size 98 #[.string S,.int .i64 2,.slice none 0 0] (0,0) _ rfl (blk_setCell (blk_setCell (blk_setCell (Hbx.out) 0 _) 1 _) 2 _) Tryz.underlying98 rfl (by kernel_rfl)) rfl ?_;rw [Hres.out,← HS.out];exact tmres_store (t:=⟨l,2, []⟩) (RdS.nil _ _ _) (fun k hk=>by cases hk) HB0.out
  ·go_enter Tryz.func108,Tryz.ntmps108
   go_wp2;generalize hW0:w.alloc (.cells #[.string ⟨#[]⟩,.int .i64 0,.slice none 0 0] 98) = W0 at c0 c1 c2 f0 f1 f2 Hbx HB0 ⊢;clear hW0;have HS2:Hid (∀ W,Below W0.heap.size W0 W → W.cell? ⟨w.heap.size,0,none⟩ = some (.string ⟨#[]⟩) ∧ W.cell? ⟨w.heap.size,1,none⟩ = some (.int .i64 0) ∧ W.cell? ⟨w.heap.size,2,none⟩ = some (.slice none 0 0) ∧ W.frozen? ⟨w.heap.size,0,none⟩ = false ∧ W.frozen? ⟨w.heap.size,1,none⟩ = false ∧ W.frozen? ⟨w.heap.size,2,none⟩ = false):=fun W hW=>cells3 (blk_below Hbx.out hW);have hW0lt:=blk_lt Hbx.out;have HW0:=hIh hW0lt
   go_loop [3] (fun v3=>RdLoop l v3) (fun i=>l.length - (intOf i).toNat)
   case atStart=>exact Hst.out
   case round=>
    clear Hst;obtain ⟨i,hi,rfl,hsc⟩:=hrel;have Hsc:=hIh hsc;clear hsc
    by_cases hlt:i < l.length
    ·obtain ⟨c,hc⟩ : ∃ c,l[i]? = some c:=⟨l[i],by simp [hlt]⟩
     have hix:=fun W=>Hix.out i c W hc;have hli:(i:Int) < l.length:=(by omega);have hi0:(0:Int) ≤ (i:Int) + 1:=(by omega);have hib:(i:Int) + 1 ≤ l.length:=(by omega);have hib2:(i:Int) + 1 ≤ 1048576:=(by omega);have Hc:=hIh hc;clear hc
     by_cases e61:c = 61
     ·subst e61
      have e:(((61:UInt8).toNat:Nat):Int) = 61:=rfl;rw [e] at hix;have k61:((61:Int) == 61) = true:=rfl;have Hres:=hIh (scan_eq Hsc.out Hc.out);have hslT:=HslT.out i hi;have hslF:∀ W,(Instr.slice 9 (.string S) (some (.int .i64 ((i:Int) + 1))) none none).run Tryz.prog W = .ok (.string (sb (l.drop (i + 1)))) W:=fun W=>HslF.out (i + 1) (by omega) W;clear Hsc Hc HslT HslF Hix;generalize hK:sb (l.take i) = K at hslT;generalize hD:sb (l.drop (i + 1)) = D at hslF;have HK:=hIh hK;have HD:=hIh hD;clear hK hD;obtain ⟨q0,q1,q2,g0,g1,g2⟩:=HS2.out _ (bel_alloc W0 (.cells #[.string D] 9));go_wp2;go_region;go_wp2;refine bodyPost_ret (results_cell_row rfl _ _ w.heap.size 98 #[.string K,.int .i64 0,.slice (some ⟨W0.heap.size,0,none⟩) 1 1] (0,0) _ rfl (blk_alloc (blk_setCell (blk_setCell (blk_setCell (Hbx.out) 0 _) 1 _) 2 _) _) Tryz.underlying98 rfl (by kernel_rfl)) rfl ?_;rw [Hres.out,← HK.out,← HD.out]
      exact tmres_one HB0.out HW0.out
     ·by_cases e33:c = 33
      ·obtain rfl:c = 33:=e33
       have e:(((33:UInt8).toNat:Nat):Int) = 33:=rfl;rw [e] at hix;have k61:((33:Int) == 61) = false:=rfl;have k33:((33:Int) == 33) = true:=rfl;have k32:((33:Int) == 32) = false:=rfl;clear e
       by_cases hl2:i + 1 < l.length
       ·obtain ⟨d,hd⟩ : ∃ d,l[i + 1]? = some d:=⟨l[i + 1],by simp [hl2]⟩
        have hix2:∀ W,(Instr.index 9 (.string S) (.int .i64 ((i:Int) + 1))).run Tryz.prog W = .ok (.int .u8 (d.toNat:Int)) W:=fun W=>Hix.out (i + 1) d W hd;have hl2i:(i:Int) + 1 < l.length:=(by omega);have hl2b:decide ((i:Int) + 1 < l.length) = true:=decide_eq_true hl2i
        by_cases hd61:d = 61
        ·subst hd61
         have e:(((61:UInt8).toNat:Nat):Int) = 61:=rfl;rw [e] at hix2;have k6161:((61:Int) == 61) = true:=rfl;have hi2:(i:Int) + 2 ≤ l.length:=(by omega);have hi20:(0:Int) ≤ (i:Int) + 2:=(by omega);have hib3:(i:Int) + 2 ≤ 1048576:=(by omega);have Hres:=hIh (scan_ne Hsc.out Hc.out hd);have hslT:=HslT.out i hi;have hslF:∀ W,(Instr.slice 9 (.string S) (some (.int .i64 ((i:Int) + 2))) none none).run Tryz.prog W = .ok (.string (sb (l.drop (i + 2)))) W:=fun W=>HslF.out (i + 2) (by omega) W;clear Hsc Hc HslT HslF Hix;generalize hK:sb (l.take i) = K at hslT;generalize hD:sb (l.drop (i + 2)) = D at hslF;have HK:=hIh hK;have HD:=hIh hD;clear hK hD;obtain ⟨q0,q1,q2,g0,g1,g2⟩:=HS2.out _ (bel_alloc W0 (.cells #[.string D] 9));go_wp2;go_region;go_wp2;refine bodyPost_ret (results_cell_row rfl _ _ w.heap.size 98 #[.string K,.int .i64 1,.slice (some ⟨W0.heap.size,0,none⟩) 1 1] (0,0) _ rfl (blk_alloc (blk_setCell (blk_setCell (blk_setCell (Hbx.out) 0 _) 1 _) 2 _) _) Tryz.underlying98 rfl (by kernel_rfl)) rfl ?_
         rw [Hres.out,← HK.out,← HD.out];exact tmres_one HB0.out HW0.out
        ·have hdn:((d.toNat:Int) == 61) = false:=by
          rw [beq_eq_false_iff_ne];intro e;exact hd61 (UInt8.toNat_inj.1 (show _ = (61:UInt8).toNat from by have:(61:UInt8).toNat = 61:=rfl;omega))
         have Hk:Hid (RdLoop l (.int .i64 ((i:Int) + 1))):=⟨i + 1,hlt,rfl,scan_skip Hsc.out Hc.out (by decide) (by rw [List.head?_drop,hd];rintro ⟨-,h⟩;cases h;exact hd61 rfl) (by decide)⟩;generalize d.toNat = dn at hix2 hdn;clear hd hd61 Hsc Hc HslT HslF Hix HS2;go_wp2;go_round
         case rel=>exact Hk.out
         case measure=>simp [intOf];omega
       ·have hl2i:¬ (i:Int) + 1 < l.length:=by omega
        have hl2b:decide ((i:Int) + 1 < l.length) = false:=decide_eq_false hl2i;have Hk:Hid (RdLoop l (.int .i64 ((i:Int) + 1))):=⟨i + 1,hlt,rfl,scan_skip Hsc.out Hc.out (by decide) (by rw [List.head?_drop,List.getElem?_eq_none (by omega)];rintro ⟨-,h⟩;cases h) (by decide)⟩;clear hl2 Hsc Hc HslT HslF Hix HS2;go_wp2;go_round
        case rel=>exact Hk.out
        case measure=>simp [intOf];omega
      ·by_cases e32:c = 32
       ·obtain rfl:c = 32:=e32
        have e:(((32:UInt8).toNat:Nat):Int) = 32:=rfl;rw [e] at hix;have k61:((32:Int) == 61) = false:=rfl;have k33:((32:Int) == 33) = false:=rfl;have k32:((32:Int) == 32) = true:=rfl;have hres:=scan_sp Hsc.out Hc.out;have hslT:=HslT.out i hi;have hslF:∀ W,(Instr.slice 9 (.string S) (some (.int .i64 ((i:Int) + 1))) none none).run Tryz.prog W = .ok (.string (sb (l.drop (i + 1)))) W:=fun W=>HslF.out (i + 1) (by omega) W;have Hpc:=hIh (fun W=>pieces_calls W (l.drop (i + 1)) 32 (by rw [List.length_drop];omega))
        have hpl:(pieces 32 (l.drop (i + 1))).length ≤ 1048577:=by
         rw [pieces_count];have h1:=List.count_le_length (a:=(32:UInt8)) (l:=l.drop (i + 1));rw [List.length_drop] at h1;omega
        have hpn:1 ≤ (pieces 32 (l.drop (i + 1))).length:=(by rw [pieces_count];omega)
        have Hml:Hid (∀ j,((pieces 32 (l.drop (i + 1))).getD j []).length ≤ 1048576):=fun j=>by
         by_cases h:j < (pieces 32 (l.drop (i + 1))).length
         ·have h2:=pieces_mem (List.getElem_mem h)
          rw [List.length_drop] at h2;simp only [List.getD,List.getElem?_eq_getElem h,Option.getD_some];omega
         ·simp [List.getD,List.getElem?_eq_none (by omega:(pieces 32 (l.drop (i + 1))).length ≤ j)]
        generalize pieces 32 (l.drop (i + 1)) = ws at hres Hpc hpl hpn Hml;have Hres0:=hIh hres;clear Hsc Hc HslT HslF Hix e hres;generalize hK:sb (l.take i) = K at hslT;generalize sb (l.drop (i + 1)) = D at hslF Hpc;have HK:=hIh hK;clear hK;have HpcE:Hid (∀ W,Calls Tryz.prog 107 #[.string D,.int .u8 32] W fun e w' => ∃ v,e = .returned v ∧ RdT w' v ws ∧ (∀ k,v.ownBlock = some k → W.heap.size ≤ k) ∧ Below W.heap.size W w'):=Hpc.out;clear Hpc;go_wp2_with fail;(with_reducible refine (HpcE.out _).mono ?_);rintro e w1 ⟨pv,rfl,hrd,hnw,hw1⟩;have H1:=hIh hw1;obtain ⟨bk,off,cc,hpv,hcap,hbl,hcell⟩:=hrd.some (by intro e;rw [e] at hpn;simp at hpn);obtain rfl:=hpv
        have HcW:Hid (∀ W,Below w1.heap.size w1 W → ∀ j,j < ws.length → W.cell? ⟨bk,off + j,none⟩ = some (.string (sb (ws.getD j [])))):=fun W hW j hj=>by
         rw [hW.cell (p:=⟨bk,off + j,none⟩) hbl,hcell j hj];simp [List.getD,hj]
        have hc0:(w1.alloc (.cells #[.string K,.int .i64 0,.slice none 0 0] 98)).cell? ⟨bk,off,none⟩ = some (.string (sb (ws.getD 0 []))):=HcW.out _ (bel_alloc _ _) 0 hpn;generalize hW00:sb (ws.getD 0 []) = W00 at hc0;have HW00:=hIh hW00;have Hb5:=hIh (blk_new w1 (.cells #[.string K,.int .i64 0,.slice none 0 0] 98));have HB5:=hIh (bel_alloc w1 (.cells #[.string K,.int .i64 0,.slice none 0 0] 98));clear hw1 hrd hcell hW00 hi0 hib hib2
        by_cases hnot:ws.getD 0 [] = [110,111,116,105,110]
        ·have hhd:ws.headD [] = ws.getD 0 []:=by cases ws <;> rfl
         have Hres:Hid (termR l = ⟨l.take i,1,tailR ws⟩):=(by show _ = _;rw [Hres0.out,hhd,if_pos hnot]);have kn5:(W00.toList == [110,111,116,105,110]) = true:=(by rw [← HW00.out,hnot,sb_toL];rfl);have Hst2:Hid (RInLoop w1 K 1 ws (.int .i64 1) (w1.alloc (.cells #[.string K,.int .i64 1,.slice none 0 0] 98))):=⟨1,.slice none 0 0,rfl,by omega,by omega,blk_new _ _,World.ownsRow_nil _ _ _ _,(fun k hk=>by cases hk),bel_alloc _ _⟩;clear hnot hhd Hres0;go_wp2
         go_loopw [6] (fun v6 wr=>RInLoop w1 K 1 ws v6 wr) (fun j _=>ws.length - (intOf j).toNat)
         case atStart=>exact Hst2.out
         case round=>
          clear Hst2;obtain ⟨j,vv,rfl,h1,hj,hblk,hown,hnew,hB⟩:=hrel;obtain ⟨m,hm⟩ : ∃ m,m = j - 1:=⟨_,rfl⟩;rw [← hm] at hown;obtain ⟨T,hT0⟩ : ∃ T,T = (tailN ws m).flatMap strC:=⟨_,rfl⟩;rw [← hT0] at hown;have Hm:=hIh hm;have HT0:=hIh (show T = (tailN ws (j - 1)).flatMap strC by rw [hT0,hm]);obtain ⟨A,cp,rfl⟩:=own_slice hown;obtain ⟨d0,d1,d2,e0,e1,e2⟩:=cells3 hblk;clear hm hT0;have Hblk:=hIh hblk;have Hown:=hIh hown;have Hnew:=hIh hnew;have HB:=hIh hB;clear hblk hown hnew hB
          by_cases hlt2:j < ws.length
          ·have hltj:(j:Int) < ws.length:=by omega
           have hj0:(0:Int) ≤ j:=(by omega);have hcj:=HcW.out wr HB.out j hlt2;have hVS:(sb (ws.getD j [])).size = (ws.getD j []).length:=sb_size _;generalize hgV:sb (ws.getD j []) = VS at hcj hVS;have HVS:=hIh hgV;clear hgV;have hml:=Hml.out j
           replace hj:j < ws.length:=hlt2
           clear hlt2
           by_cases hj1:j = 1
           ·have k1:((j:Int) == 1) = true:=by simp;omega
            by_cases hz0:(ws.getD j []).length = 0
            ·have k0:¬ (0:Int) < (VS.size:Int):=by rw [hVS];omega
             have k0b:decide ((0:Int) < (VS.size:Int)) = false:=decide_eq_false k0;have Hn1:Hid (¬ (j = 1 ∧ (ws.getD j []) ≠ [])):=(by rintro ⟨-,h⟩;exact h (List.eq_nil_of_length_eq_zero hz0));clear hj1;generalize VS = V1 at *;have hV1:=hVS;have HV1:=HVS;clear hVS HVS;have kb:(V1.size:Int) ≤ 1048576:=(by rw [hV1];(try rw [List.length_drop]);omega)
             by_cases hjn:j = ws.length - 1
             ·have kn:((j:Int) == (ws.length:Int) - 1) = true:=by simp;omega
              by_cases hz:((ws.getD j [])).length = 0
              ·have kz:¬ (0:Int) < (V1.size:Int):=by rw [hV1];omega
               have kzb:decide ((0:Int) < (V1.size:Int)) = false:=decide_eq_false kz;have HT:Hid (((ws.getD j [])) = tailOne ws.length j (ws.getD j [])):=tailOne_00 _ _ _ Hn1.out (by rintro ⟨-,h⟩;exact h (List.eq_nil_of_length_eq_zero hz));have HX:Hid (sb ((ws.getD j [])) = V1):=HV1.out;clear hz hz0 hjn hV1;obtain ⟨X,hX⟩ : ∃ X:Str,X = ((ws.getD j [])):=⟨_,rfl⟩;obtain ⟨XC,hXC⟩ : ∃ XC,XC = [X].flatMap strC:=⟨_,rfl⟩;rw [← hX] at HX
               replace HT:Hid (X = tailOne ws.length j (ws.getD j [])):=by show _ = _;rw [hX];exact HT.out
               have HXC:=hIh hXC;clear hX hXC;go_wp2_with (at_builtin;refine wpList_append2 _ rfl (.tmp 113) (.tmp 115) 59 rfl 9 (.string ⟨#[]⟩) 1 16 Tryz.underlying59 infoStr rfl (by decide) _ m T rfl (Hown.out.alloc _) _ 1 XC rfl ?c1 ?c4 ?c2 ?c3 ?_)
               case c1=>rw [HXC.out,← HX.out];exact rd_oneS _ _ _
               case c4=>rw [HXC.out];exact flat_one strC strC_one [X]
               case c2=>have:=Hm.out;unfold maxLen;omega
               case c3=>have:=Hm.out;omega
               intro v' w2 ho2 hg2 hn2 _;obtain ⟨A',c',rfl⟩:=own_slice ho2;obtain ⟨hb2,Hk⟩:=RIn_next (x:=X) h1 hj Hblk.out Hnew.out HB.out HT.out (by rw [← HT0.out,← Hm.out,← HXC.out];exact ho2) hg2 hn2;have Hk:=hIh Hk;obtain ⟨-, -,z2, -, -,y2⟩:=cells3 hb2;clear ho2 hg2 hn2 hb2;go_wp2;go_roundw
               case rel=>exact Hk.out
               case measure=>simp [intOf];omega
              ·exact absurd hz0 hz
             ·have kn:((j:Int) == (ws.length:Int) - 1) = false:=by simp;omega
              have HT:Hid (((ws.getD j [])) = tailOne ws.length j (ws.getD j [])):=tailOne_00 _ _ _ Hn1.out (by rintro ⟨h, -⟩;exact hjn h);have HX:Hid (sb ((ws.getD j [])) = V1):=HV1.out;clear hz0 hjn hV1;obtain ⟨X,hX⟩ : ∃ X:Str,X = ((ws.getD j [])):=⟨_,rfl⟩;obtain ⟨XC,hXC⟩ : ∃ XC,XC = [X].flatMap strC:=⟨_,rfl⟩;rw [← hX] at HX
              replace HT:Hid (X = tailOne ws.length j (ws.getD j [])):=by show _ = _;rw [hX];exact HT.out
              have HXC:=hIh hXC;clear hX hXC;go_wp2_with (at_builtin;refine wpList_append2 _ rfl (.tmp 113) (.tmp 115) 59 rfl 9 (.string ⟨#[]⟩) 1 16 Tryz.underlying59 infoStr rfl (by decide) _ m T rfl (Hown.out.alloc _) _ 1 XC rfl ?c1 ?c4 ?c2 ?c3 ?_)
              case c1=>rw [HXC.out,← HX.out];exact rd_oneS _ _ _
              case c4=>rw [HXC.out];exact flat_one strC strC_one [X]
              case c2=>have:=Hm.out;unfold maxLen;omega
              case c3=>have:=Hm.out;omega
              intro v' w2 ho2 hg2 hn2 _;obtain ⟨A',c',rfl⟩:=own_slice ho2;obtain ⟨hb2,Hk⟩:=RIn_next (x:=X) h1 hj Hblk.out Hnew.out HB.out HT.out (by rw [← HT0.out,← Hm.out,← HXC.out];exact ho2) hg2 hn2;have Hk:=hIh Hk;obtain ⟨-, -,z2, -, -,y2⟩:=cells3 hb2;clear ho2 hg2 hn2 hb2;go_wp2;go_roundw
              case rel=>exact Hk.out
              case measure=>simp [intOf];omega
            ·have k0:(0:Int) < (VS.size:Int):=by rw [hVS];omega
             have k0b:decide ((0:Int) < (VS.size:Int)) = true:=decide_eq_true k0;have Hn1:Hid (j = 1 ∧ (ws.getD j []) ≠ []):=⟨hj1,fun h=>hz0 (by rw [h];rfl)⟩;have hsl0:∀ W,(Instr.slice 9 (.string VS) (some (.int .i64 1)) none none).run Tryz.prog W = .ok (.string (sb ((ws.getD j []).drop 1))) W:=fun W=>(by rw [← HVS.out];exact run_slF W (ws.getD j []) 1 (by omega));have hV1:(sb ((ws.getD j []).drop 1)).size = ((ws.getD j []).drop 1).length:=sb_size _;generalize hg1:sb ((ws.getD j []).drop 1) = V1 at hsl0 hV1;have HV1:=hIh hg1;clear hz0 hj1 hg1 hVS;have kb:(V1.size:Int) ≤ 1048576:=(by rw [hV1];(try rw [List.length_drop]);omega)
             by_cases hjn:j = ws.length - 1
             ·have kn:((j:Int) == (ws.length:Int) - 1) = true:=by simp;omega
              by_cases hz:((ws.getD j []).drop 1).length = 0
              ·have kz:¬ (0:Int) < (V1.size:Int):=by rw [hV1];omega
               have kzb:decide ((0:Int) < (V1.size:Int)) = false:=decide_eq_false kz;have HT:Hid (((ws.getD j []).drop 1) = tailOne ws.length j (ws.getD j [])):=tailOne_10 _ _ _ Hn1.out (by rintro ⟨-,h⟩;exact h (List.eq_nil_of_length_eq_zero hz));have HX:Hid (sb ((ws.getD j []).drop 1) = V1):=HV1.out;clear hz hjn hV1;obtain ⟨X,hX⟩ : ∃ X:Str,X = ((ws.getD j []).drop 1):=⟨_,rfl⟩;obtain ⟨XC,hXC⟩ : ∃ XC,XC = [X].flatMap strC:=⟨_,rfl⟩;rw [← hX] at HX
               replace HT:Hid (X = tailOne ws.length j (ws.getD j [])):=by show _ = _;rw [hX];exact HT.out
               have HXC:=hIh hXC;clear hX hXC;go_wp2_with (at_builtin;refine wpList_append2 _ rfl (.tmp 113) (.tmp 115) 59 rfl 9 (.string ⟨#[]⟩) 1 16 Tryz.underlying59 infoStr rfl (by decide) _ m T rfl (Hown.out.alloc _) _ 1 XC rfl ?c1 ?c4 ?c2 ?c3 ?_)
               case c1=>rw [HXC.out,← HX.out];exact rd_oneS _ _ _
               case c4=>rw [HXC.out];exact flat_one strC strC_one [X]
               case c2=>have:=Hm.out;unfold maxLen;omega
               case c3=>have:=Hm.out;omega
               intro v' w2 ho2 hg2 hn2 _;obtain ⟨A',c',rfl⟩:=own_slice ho2;obtain ⟨hb2,Hk⟩:=RIn_next (x:=X) h1 hj Hblk.out Hnew.out HB.out HT.out (by rw [← HT0.out,← Hm.out,← HXC.out];exact ho2) hg2 hn2;have Hk:=hIh Hk;obtain ⟨-, -,z2, -, -,y2⟩:=cells3 hb2;clear ho2 hg2 hn2 hb2;go_wp2;go_roundw
               case rel=>exact Hk.out
               case measure=>simp [intOf];omega
              ·have kz:(0:Int) < (V1.size:Int):=by rw [hV1];omega
               have kzb:decide ((0:Int) < (V1.size:Int)) = true:=decide_eq_true kz;have HT:Hid (((ws.getD j []).drop 1).take (((ws.getD j []).drop 1).length - 1) = tailOne ws.length j (ws.getD j [])):=tailOne_11 _ _ _ Hn1.out ⟨hjn,fun h=>hz (by rw [h];rfl)⟩
               have hsl1:∀ W,(Instr.slice 9 (.string V1) none (some (.int .i64 ((V1.size:Int) - 1))) none).run Tryz.prog W = .ok (.string (sb (((ws.getD j []).drop 1).take (((ws.getD j []).drop 1).length - 1)))) W:=fun W=>by
                have:=run_slT W ((ws.getD j []).drop 1) (((ws.getD j []).drop 1).length - 1) (by omega);rw [HV1.out] at this
                rwa [show ((((ws.getD j []).drop 1).length - 1:Nat):Int) = (V1.size:Int) - 1 by rw [hV1];omega] at this
               generalize hX2:sb (((ws.getD j []).drop 1).take (((ws.getD j []).drop 1).length - 1)) = V2 at hsl1;have HX:Hid (sb (((ws.getD j []).drop 1).take (((ws.getD j []).drop 1).length - 1)) = V2):=hX2;clear hz hjn hV1 hX2;obtain ⟨X,hX⟩ : ∃ X:Str,X = (((ws.getD j []).drop 1).take (((ws.getD j []).drop 1).length - 1)):=⟨_,rfl⟩;obtain ⟨XC,hXC⟩ : ∃ XC,XC = [X].flatMap strC:=⟨_,rfl⟩;rw [← hX] at HX
               replace HT:Hid (X = tailOne ws.length j (ws.getD j [])):=by show _ = _;rw [hX];exact HT.out
               have HXC:=hIh hXC;clear hX hXC;go_wp2_with (at_builtin;refine wpList_append2 _ rfl (.tmp 113) (.tmp 115) 59 rfl 9 (.string ⟨#[]⟩) 1 16 Tryz.underlying59 infoStr rfl (by decide) _ m T rfl (Hown.out.alloc _) _ 1 XC rfl ?c1 ?c4 ?c2 ?c3 ?_)
               case c1=>rw [HXC.out,← HX.out];exact rd_oneS _ _ _
               case c4=>rw [HXC.out];exact flat_one strC strC_one [X]
               case c2=>have:=Hm.out;unfold maxLen;omega
               case c3=>have:=Hm.out;omega
               intro v' w2 ho2 hg2 hn2 _;obtain ⟨A',c',rfl⟩:=own_slice ho2;obtain ⟨hb2,Hk⟩:=RIn_next (x:=X) h1 hj Hblk.out Hnew.out HB.out HT.out (by rw [← HT0.out,← Hm.out,← HXC.out];exact ho2) hg2 hn2;have Hk:=hIh Hk;obtain ⟨-, -,z2, -, -,y2⟩:=cells3 hb2;clear ho2 hg2 hn2 hb2;go_wp2;go_roundw
               case rel=>exact Hk.out
               case measure=>simp [intOf];omega
             ·have kn:((j:Int) == (ws.length:Int) - 1) = false:=by simp;omega
              have HT:Hid (((ws.getD j []).drop 1) = tailOne ws.length j (ws.getD j [])):=tailOne_10 _ _ _ Hn1.out (by rintro ⟨h, -⟩;exact hjn h);have HX:Hid (sb ((ws.getD j []).drop 1) = V1):=HV1.out;clear hjn hV1;obtain ⟨X,hX⟩ : ∃ X:Str,X = ((ws.getD j []).drop 1):=⟨_,rfl⟩;obtain ⟨XC,hXC⟩ : ∃ XC,XC = [X].flatMap strC:=⟨_,rfl⟩;rw [← hX] at HX
              replace HT:Hid (X = tailOne ws.length j (ws.getD j [])):=by show _ = _;rw [hX];exact HT.out
              have HXC:=hIh hXC;clear hX hXC;go_wp2_with (at_builtin;refine wpList_append2 _ rfl (.tmp 113) (.tmp 115) 59 rfl 9 (.string ⟨#[]⟩) 1 16 Tryz.underlying59 infoStr rfl (by decide) _ m T rfl (Hown.out.alloc _) _ 1 XC rfl ?c1 ?c4 ?c2 ?c3 ?_)
              case c1=>rw [HXC.out,← HX.out];exact rd_oneS _ _ _
              case c4=>rw [HXC.out];exact flat_one strC strC_one [X]
              case c2=>have:=Hm.out;unfold maxLen;omega
              case c3=>have:=Hm.out;omega
              intro v' w2 ho2 hg2 hn2 _;obtain ⟨A',c',rfl⟩:=own_slice ho2;obtain ⟨hb2,Hk⟩:=RIn_next (x:=X) h1 hj Hblk.out Hnew.out HB.out HT.out (by rw [← HT0.out,← Hm.out,← HXC.out];exact ho2) hg2 hn2;have Hk:=hIh Hk;obtain ⟨-, -,z2, -, -,y2⟩:=cells3 hb2;clear ho2 hg2 hn2 hb2;go_wp2;go_roundw
              case rel=>exact Hk.out
              case measure=>simp [intOf];omega
           ·have k1:((j:Int) == 1) = false:=by simp;omega
            have Hn1:Hid (¬ (j = 1 ∧ (ws.getD j []) ≠ [])):=(by rintro ⟨h, -⟩;exact hj1 h);clear hj1;generalize VS = V1 at *;have hV1:=hVS;have HV1:=HVS;clear hVS HVS;have kb:(V1.size:Int) ≤ 1048576:=(by rw [hV1];(try rw [List.length_drop]);omega)
            by_cases hjn:j = ws.length - 1
            ·have kn:((j:Int) == (ws.length:Int) - 1) = true:=by simp;omega
             by_cases hz:((ws.getD j [])).length = 0
             ·have kz:¬ (0:Int) < (V1.size:Int):=by rw [hV1];omega
              have kzb:decide ((0:Int) < (V1.size:Int)) = false:=decide_eq_false kz;have HT:Hid (((ws.getD j [])) = tailOne ws.length j (ws.getD j [])):=tailOne_00 _ _ _ Hn1.out (by rintro ⟨-,h⟩;exact h (List.eq_nil_of_length_eq_zero hz));have HX:Hid (sb ((ws.getD j [])) = V1):=HV1.out;clear hz hjn hV1;obtain ⟨X,hX⟩ : ∃ X:Str,X = ((ws.getD j [])):=⟨_,rfl⟩;obtain ⟨XC,hXC⟩ : ∃ XC,XC = [X].flatMap strC:=⟨_,rfl⟩;rw [← hX] at HX
              replace HT:Hid (X = tailOne ws.length j (ws.getD j [])):=by show _ = _;rw [hX];exact HT.out
              have HXC:=hIh hXC;clear hX hXC;go_wp2_with (at_builtin;refine wpList_append2 _ rfl (.tmp 113) (.tmp 115) 59 rfl 9 (.string ⟨#[]⟩) 1 16 Tryz.underlying59 infoStr rfl (by decide) _ m T rfl (Hown.out.alloc _) _ 1 XC rfl ?c1 ?c4 ?c2 ?c3 ?_)
              case c1=>rw [HXC.out,← HX.out];exact rd_oneS _ _ _
              case c4=>rw [HXC.out];exact flat_one strC strC_one [X]
              case c2=>have:=Hm.out;unfold maxLen;omega
              case c3=>have:=Hm.out;omega
              intro v' w2 ho2 hg2 hn2 _;obtain ⟨A',c',rfl⟩:=own_slice ho2;obtain ⟨hb2,Hk⟩:=RIn_next (x:=X) h1 hj Hblk.out Hnew.out HB.out HT.out (by rw [← HT0.out,← Hm.out,← HXC.out];exact ho2) hg2 hn2;have Hk:=hIh Hk;obtain ⟨-, -,z2, -, -,y2⟩:=cells3 hb2;clear ho2 hg2 hn2 hb2;go_wp2;go_roundw
              case rel=>exact Hk.out
              case measure=>simp [intOf];omega
             ·have kz:(0:Int) < (V1.size:Int):=by rw [hV1];omega
              have kzb:decide ((0:Int) < (V1.size:Int)) = true:=decide_eq_true kz;have HT:Hid (((ws.getD j [])).take (((ws.getD j [])).length - 1) = tailOne ws.length j (ws.getD j [])):=tailOne_01 _ _ _ Hn1.out ⟨hjn,fun h=>hz (by rw [h];rfl)⟩
              have hsl1:∀ W,(Instr.slice 9 (.string V1) none (some (.int .i64 ((V1.size:Int) - 1))) none).run Tryz.prog W = .ok (.string (sb (((ws.getD j [])).take (((ws.getD j [])).length - 1)))) W:=fun W=>by
               have:=run_slT W ((ws.getD j [])) (((ws.getD j [])).length - 1) (by omega);rw [HV1.out] at this
               rwa [show ((((ws.getD j [])).length - 1:Nat):Int) = (V1.size:Int) - 1 by rw [hV1];omega] at this
              generalize hX2:sb (((ws.getD j [])).take (((ws.getD j [])).length - 1)) = V2 at hsl1;have HX:Hid (sb (((ws.getD j [])).take (((ws.getD j [])).length - 1)) = V2):=hX2;clear hz hjn hV1 hX2;obtain ⟨X,hX⟩ : ∃ X:Str,X = (((ws.getD j [])).take (((ws.getD j [])).length - 1)):=⟨_,rfl⟩;obtain ⟨XC,hXC⟩ : ∃ XC,XC = [X].flatMap strC:=⟨_,rfl⟩;rw [← hX] at HX
              replace HT:Hid (X = tailOne ws.length j (ws.getD j [])):=by show _ = _;rw [hX];exact HT.out
              have HXC:=hIh hXC;clear hX hXC;go_wp2_with (at_builtin;refine wpList_append2 _ rfl (.tmp 113) (.tmp 115) 59 rfl 9 (.string ⟨#[]⟩) 1 16 Tryz.underlying59 infoStr rfl (by decide) _ m T rfl (Hown.out.alloc _) _ 1 XC rfl ?c1 ?c4 ?c2 ?c3 ?_)
              case c1=>rw [HXC.out,← HX.out];exact rd_oneS _ _ _
              case c4=>rw [HXC.out];exact flat_one strC strC_one [X]
              case c2=>have:=Hm.out;unfold maxLen;omega
              case c3=>have:=Hm.out;omega
              intro v' w2 ho2 hg2 hn2 _;obtain ⟨A',c',rfl⟩:=own_slice ho2;obtain ⟨hb2,Hk⟩:=RIn_next (x:=X) h1 hj Hblk.out Hnew.out HB.out HT.out (by rw [← HT0.out,← Hm.out,← HXC.out];exact ho2) hg2 hn2;have Hk:=hIh Hk;obtain ⟨-, -,z2, -, -,y2⟩:=cells3 hb2;clear ho2 hg2 hn2 hb2;go_wp2;go_roundw
              case rel=>exact Hk.out
              case measure=>simp [intOf];omega
            ·have kn:((j:Int) == (ws.length:Int) - 1) = false:=by simp;omega
             have HT:Hid (((ws.getD j [])) = tailOne ws.length j (ws.getD j [])):=tailOne_00 _ _ _ Hn1.out (by rintro ⟨h, -⟩;exact hjn h);have HX:Hid (sb ((ws.getD j [])) = V1):=HV1.out;clear hjn hV1;obtain ⟨X,hX⟩ : ∃ X:Str,X = ((ws.getD j [])):=⟨_,rfl⟩;obtain ⟨XC,hXC⟩ : ∃ XC,XC = [X].flatMap strC:=⟨_,rfl⟩;rw [← hX] at HX
             replace HT:Hid (X = tailOne ws.length j (ws.getD j [])):=by show _ = _;rw [hX];exact HT.out
             have HXC:=hIh hXC;clear hX hXC;go_wp2_with (at_builtin;refine wpList_append2 _ rfl (.tmp 113) (.tmp 115) 59 rfl 9 (.string ⟨#[]⟩) 1 16 Tryz.underlying59 infoStr rfl (by decide) _ m T rfl (Hown.out.alloc _) _ 1 XC rfl ?c1 ?c4 ?c2 ?c3 ?_)
             case c1=>rw [HXC.out,← HX.out];exact rd_oneS _ _ _
             case c4=>rw [HXC.out];exact flat_one strC strC_one [X]
             case c2=>have:=Hm.out;unfold maxLen;omega
             case c3=>have:=Hm.out;omega
             intro v' w2 ho2 hg2 hn2 _;obtain ⟨A',c',rfl⟩:=own_slice ho2;obtain ⟨hb2,Hk⟩:=RIn_next (x:=X) h1 hj Hblk.out Hnew.out HB.out HT.out (by rw [← HT0.out,← Hm.out,← HXC.out];exact ho2) hg2 hn2;have Hk:=hIh Hk;obtain ⟨-, -,z2, -, -,y2⟩:=cells3 hb2;clear ho2 hg2 hn2 hb2;go_wp2;go_roundw
             case rel=>exact Hk.out
             case measure=>simp [intOf];omega
          ·have hltj:¬ (j:Int) < ws.length:=by omega
           have hje:j = ws.length:=(by omega);obtain ⟨q0,q1,q2,g0,g1,g2⟩:=HS2.out wr (H1.out.trans (HB.out.mono H1.out.size))
           have HR:Hid (RdT wr (.slice A m cp) (tailR ws)):=by
            have:=RdS.of_own (f:=strC) (l:=tailN ws (j - 1)) (by rw [tailN_len,← HT0.out,← Hm.out];exact Hown.out);rw [hje] at this;exact this
           clear hj hlt2 hje;go_wp2;refine bodyPost_ret (results_cell_row rfl _ _ w.heap.size 98 #[.string K,.int .i64 1,.slice A m cp] (0,0) _ rfl (blk_setCell (blk_setCell (blk_setCell (blk_below Hbx.out (H1.out.trans (HB.out.mono H1.out.size))) 0 _) 1 _) 2 _) Tryz.underlying98 rfl (by kernel_rfl)) rfl ?_;rw [Hres.out,← HK.out];exact tmres_store (t:=⟨l.take i,1,tailR ws⟩) HR.out (fun k hk=>by have:=Hnew.out k hk;have:=H1.out.size;have:=HW0.out;omega) (HB0.out.trans ((H1.out.trans (HB.out.mono H1.out.size)).mono HB0.out.size))
        ·have hhd:ws.headD [] = ws.getD 0 []:=by cases ws <;> rfl
         have Hres:Hid (termR l = ⟨l.take i,0,tailR ws⟩):=(by show _ = _;rw [Hres0.out,hhd,if_neg hnot])
         have kn5:(W00.toList == [110,111,116,105,110]) = false:=by
          rw [beq_eq_false_iff_ne,← HW00.out,sb_toL];exact fun e=>hnot e
         have Hst2:Hid (RInLoop w1 K 0 ws (.int .i64 1) (w1.alloc (.cells #[.string K,.int .i64 0,.slice none 0 0] 98))):=⟨1,.slice none 0 0,rfl,by omega,by omega,Hb5.out,World.ownsRow_nil _ _ _ _,(fun k hk=>by cases hk),HB5.out⟩;clear hnot hhd Hres0;go_wp2
         go_loopw [6] (fun v6 wr=>RInLoop w1 K 0 ws v6 wr) (fun j _=>ws.length - (intOf j).toNat)
         case atStart=>exact Hst2.out
         case round=>
          clear Hst2;obtain ⟨j,vv,rfl,h1,hj,hblk,hown,hnew,hB⟩:=hrel;obtain ⟨m,hm⟩ : ∃ m,m = j - 1:=⟨_,rfl⟩;rw [← hm] at hown;obtain ⟨T,hT0⟩ : ∃ T,T = (tailN ws m).flatMap strC:=⟨_,rfl⟩;rw [← hT0] at hown;have Hm:=hIh hm;have HT0:=hIh (show T = (tailN ws (j - 1)).flatMap strC by rw [hT0,hm]);obtain ⟨A,cp,rfl⟩:=own_slice hown;obtain ⟨d0,d1,d2,e0,e1,e2⟩:=cells3 hblk;clear hm hT0;have Hblk:=hIh hblk;have Hown:=hIh hown;have Hnew:=hIh hnew;have HB:=hIh hB;clear hblk hown hnew hB
          by_cases hlt2:j < ws.length
          ·have hltj:(j:Int) < ws.length:=by omega
           have hj0:(0:Int) ≤ j:=(by omega);have hcj:=HcW.out wr HB.out j hlt2;have hVS:(sb (ws.getD j [])).size = (ws.getD j []).length:=sb_size _;generalize hgV:sb (ws.getD j []) = VS at hcj hVS;have HVS:=hIh hgV;clear hgV;have hml:=Hml.out j
           replace hj:j < ws.length:=hlt2
           clear hlt2
           by_cases hj1:j = 1
           ·have k1:((j:Int) == 1) = true:=by simp;omega
            by_cases hz0:(ws.getD j []).length = 0
            ·have k0:¬ (0:Int) < (VS.size:Int):=by rw [hVS];omega
             have k0b:decide ((0:Int) < (VS.size:Int)) = false:=decide_eq_false k0;have Hn1:Hid (¬ (j = 1 ∧ (ws.getD j []) ≠ [])):=(by rintro ⟨-,h⟩;exact h (List.eq_nil_of_length_eq_zero hz0));clear hj1;generalize VS = V1 at *;have hV1:=hVS;have HV1:=HVS;clear hVS HVS;have kb:(V1.size:Int) ≤ 1048576:=(by rw [hV1];(try rw [List.length_drop]);omega)
             by_cases hjn:j = ws.length - 1
             ·have kn:((j:Int) == (ws.length:Int) - 1) = true:=by simp;omega
              by_cases hz:((ws.getD j [])).length = 0
              ·have kz:¬ (0:Int) < (V1.size:Int):=by rw [hV1];omega
               have kzb:decide ((0:Int) < (V1.size:Int)) = false:=decide_eq_false kz;have HT:Hid (((ws.getD j [])) = tailOne ws.length j (ws.getD j [])):=tailOne_00 _ _ _ Hn1.out (by rintro ⟨-,h⟩;exact h (List.eq_nil_of_length_eq_zero hz));have HX:Hid (sb ((ws.getD j [])) = V1):=HV1.out;clear hz hz0 hjn hV1;obtain ⟨X,hX⟩ : ∃ X:Str,X = ((ws.getD j [])):=⟨_,rfl⟩;obtain ⟨XC,hXC⟩ : ∃ XC,XC = [X].flatMap strC:=⟨_,rfl⟩;rw [← hX] at HX
               replace HT:Hid (X = tailOne ws.length j (ws.getD j [])):=by show _ = _;rw [hX];exact HT.out
               have HXC:=hIh hXC;clear hX hXC;go_wp2_with (at_builtin;refine wpList_append2 _ rfl (.tmp 113) (.tmp 115) 59 rfl 9 (.string ⟨#[]⟩) 1 16 Tryz.underlying59 infoStr rfl (by decide) _ m T rfl (Hown.out.alloc _) _ 1 XC rfl ?c1 ?c4 ?c2 ?c3 ?_)
               case c1=>rw [HXC.out,← HX.out];exact rd_oneS _ _ _
               case c4=>rw [HXC.out];exact flat_one strC strC_one [X]
               case c2=>have:=Hm.out;unfold maxLen;omega
               case c3=>have:=Hm.out;omega
               intro v' w2 ho2 hg2 hn2 _;obtain ⟨A',c',rfl⟩:=own_slice ho2;obtain ⟨hb2,Hk⟩:=RIn_next (x:=X) h1 hj Hblk.out Hnew.out HB.out HT.out (by rw [← HT0.out,← Hm.out,← HXC.out];exact ho2) hg2 hn2;have Hk:=hIh Hk;obtain ⟨-, -,z2, -, -,y2⟩:=cells3 hb2;clear ho2 hg2 hn2 hb2;go_wp2;go_roundw
               case rel=>exact Hk.out
               case measure=>simp [intOf];omega
              ·exact absurd hz0 hz
             ·have kn:((j:Int) == (ws.length:Int) - 1) = false:=by simp;omega
              have HT:Hid (((ws.getD j [])) = tailOne ws.length j (ws.getD j [])):=tailOne_00 _ _ _ Hn1.out (by rintro ⟨h, -⟩;exact hjn h);have HX:Hid (sb ((ws.getD j [])) = V1):=HV1.out;clear hz0 hjn hV1;obtain ⟨X,hX⟩ : ∃ X:Str,X = ((ws.getD j [])):=⟨_,rfl⟩;obtain ⟨XC,hXC⟩ : ∃ XC,XC = [X].flatMap strC:=⟨_,rfl⟩;rw [← hX] at HX
              replace HT:Hid (X = tailOne ws.length j (ws.getD j [])):=by show _ = _;rw [hX];exact HT.out
              have HXC:=hIh hXC;clear hX hXC;go_wp2_with (at_builtin;refine wpList_append2 _ rfl (.tmp 113) (.tmp 115) 59 rfl 9 (.string ⟨#[]⟩) 1 16 Tryz.underlying59 infoStr rfl (by decide) _ m T rfl (Hown.out.alloc _) _ 1 XC rfl ?c1 ?c4 ?c2 ?c3 ?_)
              case c1=>rw [HXC.out,← HX.out];exact rd_oneS _ _ _
              case c4=>rw [HXC.out];exact flat_one strC strC_one [X]
              case c2=>have:=Hm.out;unfold maxLen;omega
              case c3=>have:=Hm.out;omega
              intro v' w2 ho2 hg2 hn2 _;obtain ⟨A',c',rfl⟩:=own_slice ho2;obtain ⟨hb2,Hk⟩:=RIn_next (x:=X) h1 hj Hblk.out Hnew.out HB.out HT.out (by rw [← HT0.out,← Hm.out,← HXC.out];exact ho2) hg2 hn2;have Hk:=hIh Hk;obtain ⟨-, -,z2, -, -,y2⟩:=cells3 hb2;clear ho2 hg2 hn2 hb2;go_wp2;go_roundw
              case rel=>exact Hk.out
              case measure=>simp [intOf];omega
            ·have k0:(0:Int) < (VS.size:Int):=by rw [hVS];omega
             have k0b:decide ((0:Int) < (VS.size:Int)) = true:=decide_eq_true k0;have Hn1:Hid (j = 1 ∧ (ws.getD j []) ≠ []):=⟨hj1,fun h=>hz0 (by rw [h];rfl)⟩;have hsl0:∀ W,(Instr.slice 9 (.string VS) (some (.int .i64 1)) none none).run Tryz.prog W = .ok (.string (sb ((ws.getD j []).drop 1))) W:=fun W=>(by rw [← HVS.out];exact run_slF W (ws.getD j []) 1 (by omega));have hV1:(sb ((ws.getD j []).drop 1)).size = ((ws.getD j []).drop 1).length:=sb_size _;generalize hg1:sb ((ws.getD j []).drop 1) = V1 at hsl0 hV1;have HV1:=hIh hg1;clear hz0 hj1 hg1 hVS;have kb:(V1.size:Int) ≤ 1048576:=(by rw [hV1];(try rw [List.length_drop]);omega)
             by_cases hjn:j = ws.length - 1
             ·have kn:((j:Int) == (ws.length:Int) - 1) = true:=by simp;omega
              by_cases hz:((ws.getD j []).drop 1).length = 0
              ·have kz:¬ (0:Int) < (V1.size:Int):=by rw [hV1];omega
               have kzb:decide ((0:Int) < (V1.size:Int)) = false:=decide_eq_false kz;have HT:Hid (((ws.getD j []).drop 1) = tailOne ws.length j (ws.getD j [])):=tailOne_10 _ _ _ Hn1.out (by rintro ⟨-,h⟩;exact h (List.eq_nil_of_length_eq_zero hz));have HX:Hid (sb ((ws.getD j []).drop 1) = V1):=HV1.out;clear hz hjn hV1;obtain ⟨X,hX⟩ : ∃ X:Str,X = ((ws.getD j []).drop 1):=⟨_,rfl⟩;obtain ⟨XC,hXC⟩ : ∃ XC,XC = [X].flatMap strC:=⟨_,rfl⟩;rw [← hX] at HX
               replace HT:Hid (X = tailOne ws.length j (ws.getD j [])):=by show _ = _;rw [hX];exact HT.out
               have HXC:=hIh hXC;clear hX hXC;go_wp2_with (at_builtin;refine wpList_append2 _ rfl (.tmp 113) (.tmp 115) 59 rfl 9 (.string ⟨#[]⟩) 1 16 Tryz.underlying59 infoStr rfl (by decide) _ m T rfl (Hown.out.alloc _) _ 1 XC rfl ?c1 ?c4 ?c2 ?c3 ?_)
               case c1=>rw [HXC.out,← HX.out];exact rd_oneS _ _ _
               case c4=>rw [HXC.out];exact flat_one strC strC_one [X]
               case c2=>have:=Hm.out;unfold maxLen;omega
               case c3=>have:=Hm.out;omega
               intro v' w2 ho2 hg2 hn2 _;obtain ⟨A',c',rfl⟩:=own_slice ho2;obtain ⟨hb2,Hk⟩:=RIn_next (x:=X) h1 hj Hblk.out Hnew.out HB.out HT.out (by rw [← HT0.out,← Hm.out,← HXC.out];exact ho2) hg2 hn2;have Hk:=hIh Hk;obtain ⟨-, -,z2, -, -,y2⟩:=cells3 hb2;clear ho2 hg2 hn2 hb2;go_wp2;go_roundw
               case rel=>exact Hk.out
               case measure=>simp [intOf];omega
              ·have kz:(0:Int) < (V1.size:Int):=by rw [hV1];omega
               have kzb:decide ((0:Int) < (V1.size:Int)) = true:=decide_eq_true kz;have HT:Hid (((ws.getD j []).drop 1).take (((ws.getD j []).drop 1).length - 1) = tailOne ws.length j (ws.getD j [])):=tailOne_11 _ _ _ Hn1.out ⟨hjn,fun h=>hz (by rw [h];rfl)⟩
               have hsl1:∀ W,(Instr.slice 9 (.string V1) none (some (.int .i64 ((V1.size:Int) - 1))) none).run Tryz.prog W = .ok (.string (sb (((ws.getD j []).drop 1).take (((ws.getD j []).drop 1).length - 1)))) W:=fun W=>by
                have:=run_slT W ((ws.getD j []).drop 1) (((ws.getD j []).drop 1).length - 1) (by omega);rw [HV1.out] at this
                rwa [show ((((ws.getD j []).drop 1).length - 1:Nat):Int) = (V1.size:Int) - 1 by rw [hV1];omega] at this
               generalize hX2:sb (((ws.getD j []).drop 1).take (((ws.getD j []).drop 1).length - 1)) = V2 at hsl1;have HX:Hid (sb (((ws.getD j []).drop 1).take (((ws.getD j []).drop 1).length - 1)) = V2):=hX2;clear hz hjn hV1 hX2;obtain ⟨X,hX⟩ : ∃ X:Str,X = (((ws.getD j []).drop 1).take (((ws.getD j []).drop 1).length - 1)):=⟨_,rfl⟩;obtain ⟨XC,hXC⟩ : ∃ XC,XC = [X].flatMap strC:=⟨_,rfl⟩;rw [← hX] at HX
               replace HT:Hid (X = tailOne ws.length j (ws.getD j [])):=by show _ = _;rw [hX];exact HT.out
               have HXC:=hIh hXC;clear hX hXC;go_wp2_with (at_builtin;refine wpList_append2 _ rfl (.tmp 113) (.tmp 115) 59 rfl 9 (.string ⟨#[]⟩) 1 16 Tryz.underlying59 infoStr rfl (by decide) _ m T rfl (Hown.out.alloc _) _ 1 XC rfl ?c1 ?c4 ?c2 ?c3 ?_)
               case c1=>rw [HXC.out,← HX.out];exact rd_oneS _ _ _
               case c4=>rw [HXC.out];exact flat_one strC strC_one [X]
               case c2=>have:=Hm.out;unfold maxLen;omega
               case c3=>have:=Hm.out;omega
               intro v' w2 ho2 hg2 hn2 _;obtain ⟨A',c',rfl⟩:=own_slice ho2;obtain ⟨hb2,Hk⟩:=RIn_next (x:=X) h1 hj Hblk.out Hnew.out HB.out HT.out (by rw [← HT0.out,← Hm.out,← HXC.out];exact ho2) hg2 hn2;have Hk:=hIh Hk;obtain ⟨-, -,z2, -, -,y2⟩:=cells3 hb2;clear ho2 hg2 hn2 hb2;go_wp2;go_roundw
               case rel=>exact Hk.out
               case measure=>simp [intOf];omega
             ·have kn:((j:Int) == (ws.length:Int) - 1) = false:=by simp;omega
              have HT:Hid (((ws.getD j []).drop 1) = tailOne ws.length j (ws.getD j [])):=tailOne_10 _ _ _ Hn1.out (by rintro ⟨h, -⟩;exact hjn h);have HX:Hid (sb ((ws.getD j []).drop 1) = V1):=HV1.out;clear hjn hV1;obtain ⟨X,hX⟩ : ∃ X:Str,X = ((ws.getD j []).drop 1):=⟨_,rfl⟩;obtain ⟨XC,hXC⟩ : ∃ XC,XC = [X].flatMap strC:=⟨_,rfl⟩;rw [← hX] at HX
              replace HT:Hid (X = tailOne ws.length j (ws.getD j [])):=by show _ = _;rw [hX];exact HT.out
              have HXC:=hIh hXC;clear hX hXC;go_wp2_with (at_builtin;refine wpList_append2 _ rfl (.tmp 113) (.tmp 115) 59 rfl 9 (.string ⟨#[]⟩) 1 16 Tryz.underlying59 infoStr rfl (by decide) _ m T rfl (Hown.out.alloc _) _ 1 XC rfl ?c1 ?c4 ?c2 ?c3 ?_)
              case c1=>rw [HXC.out,← HX.out];exact rd_oneS _ _ _
              case c4=>rw [HXC.out];exact flat_one strC strC_one [X]
              case c2=>have:=Hm.out;unfold maxLen;omega
              case c3=>have:=Hm.out;omega
              intro v' w2 ho2 hg2 hn2 _;obtain ⟨A',c',rfl⟩:=own_slice ho2;obtain ⟨hb2,Hk⟩:=RIn_next (x:=X) h1 hj Hblk.out Hnew.out HB.out HT.out (by rw [← HT0.out,← Hm.out,← HXC.out];exact ho2) hg2 hn2;have Hk:=hIh Hk;obtain ⟨-, -,z2, -, -,y2⟩:=cells3 hb2;clear ho2 hg2 hn2 hb2;go_wp2;go_roundw
              case rel=>exact Hk.out
              case measure=>simp [intOf];omega
           ·have k1:((j:Int) == 1) = false:=by simp;omega
            have Hn1:Hid (¬ (j = 1 ∧ (ws.getD j []) ≠ [])):=(by rintro ⟨h, -⟩;exact hj1 h);clear hj1;generalize VS = V1 at *;have hV1:=hVS;have HV1:=HVS;clear hVS HVS;have kb:(V1.size:Int) ≤ 1048576:=(by rw [hV1];(try rw [List.length_drop]);omega)
            by_cases hjn:j = ws.length - 1
            ·have kn:((j:Int) == (ws.length:Int) - 1) = true:=by simp;omega
             by_cases hz:((ws.getD j [])).length = 0
             ·have kz:¬ (0:Int) < (V1.size:Int):=by rw [hV1];omega
              have kzb:decide ((0:Int) < (V1.size:Int)) = false:=decide_eq_false kz;have HT:Hid (((ws.getD j [])) = tailOne ws.length j (ws.getD j [])):=tailOne_00 _ _ _ Hn1.out (by rintro ⟨-,h⟩;exact h (List.eq_nil_of_length_eq_zero hz));have HX:Hid (sb ((ws.getD j [])) = V1):=HV1.out;clear hz hjn hV1;obtain ⟨X,hX⟩ : ∃ X:Str,X = ((ws.getD j [])):=⟨_,rfl⟩;obtain ⟨XC,hXC⟩ : ∃ XC,XC = [X].flatMap strC:=⟨_,rfl⟩;rw [← hX] at HX
              replace HT:Hid (X = tailOne ws.length j (ws.getD j [])):=by show _ = _;rw [hX];exact HT.out
              have HXC:=hIh hXC;clear hX hXC;go_wp2_with (at_builtin;refine wpList_append2 _ rfl (.tmp 113) (.tmp 115) 59 rfl 9 (.string ⟨#[]⟩) 1 16 Tryz.underlying59 infoStr rfl (by decide) _ m T rfl (Hown.out.alloc _) _ 1 XC rfl ?c1 ?c4 ?c2 ?c3 ?_)
              case c1=>rw [HXC.out,← HX.out];exact rd_oneS _ _ _
              case c4=>rw [HXC.out];exact flat_one strC strC_one [X]
              case c2=>have:=Hm.out;unfold maxLen;omega
              case c3=>have:=Hm.out;omega
              intro v' w2 ho2 hg2 hn2 _;obtain ⟨A',c',rfl⟩:=own_slice ho2;obtain ⟨hb2,Hk⟩:=RIn_next (x:=X) h1 hj Hblk.out Hnew.out HB.out HT.out (by rw [← HT0.out,← Hm.out,← HXC.out];exact ho2) hg2 hn2;have Hk:=hIh Hk;obtain ⟨-, -,z2, -, -,y2⟩:=cells3 hb2;clear ho2 hg2 hn2 hb2;go_wp2;go_roundw
              case rel=>exact Hk.out
              case measure=>simp [intOf];omega
             ·have kz:(0:Int) < (V1.size:Int):=by rw [hV1];omega
              have kzb:decide ((0:Int) < (V1.size:Int)) = true:=decide_eq_true kz;have HT:Hid (((ws.getD j [])).take (((ws.getD j [])).length - 1) = tailOne ws.length j (ws.getD j [])):=tailOne_01 _ _ _ Hn1.out ⟨hjn,fun h=>hz (by rw [h];rfl)⟩
              have hsl1:∀ W,(Instr.slice 9 (.string V1) none (some (.int .i64 ((V1.size:Int) - 1))) none).run Tryz.prog W = .ok (.string (sb (((ws.getD j [])).take (((ws.getD j [])).length - 1)))) W:=fun W=>by
               have:=run_slT W ((ws.getD j [])) (((ws.getD j [])).length - 1) (by omega);rw [HV1.out] at this
               rwa [show ((((ws.getD j [])).length - 1:Nat):Int) = (V1.size:Int) - 1 by rw [hV1];omega] at this
              generalize hX2:sb (((ws.getD j [])).take (((ws.getD j [])).length - 1)) = V2 at hsl1;have HX:Hid (sb (((ws.getD j [])).take (((ws.getD j [])).length - 1)) = V2):=hX2;clear hz hjn hV1 hX2;obtain ⟨X,hX⟩ : ∃ X:Str,X = (((ws.getD j [])).take (((ws.getD j [])).length - 1)):=⟨_,rfl⟩;obtain ⟨XC,hXC⟩ : ∃ XC,XC = [X].flatMap strC:=⟨_,rfl⟩;rw [← hX] at HX
              replace HT:Hid (X = tailOne ws.length j (ws.getD j [])):=by show _ = _;rw [hX];exact HT.out
              have HXC:=hIh hXC;clear hX hXC;go_wp2_with (at_builtin;refine wpList_append2 _ rfl (.tmp 113) (.tmp 115) 59 rfl 9 (.string ⟨#[]⟩) 1 16 Tryz.underlying59 infoStr rfl (by decide) _ m T rfl (Hown.out.alloc _) _ 1 XC rfl ?c1 ?c4 ?c2 ?c3 ?_)
              case c1=>rw [HXC.out,← HX.out];exact rd_oneS _ _ _
              case c4=>rw [HXC.out];exact flat_one strC strC_one [X]
              case c2=>have:=Hm.out;unfold maxLen;omega
              case c3=>have:=Hm.out;omega
              intro v' w2 ho2 hg2 hn2 _;obtain ⟨A',c',rfl⟩:=own_slice ho2;obtain ⟨hb2,Hk⟩:=RIn_next (x:=X) h1 hj Hblk.out Hnew.out HB.out HT.out (by rw [← HT0.out,← Hm.out,← HXC.out];exact ho2) hg2 hn2;have Hk:=hIh Hk;obtain ⟨-, -,z2, -, -,y2⟩:=cells3 hb2;clear ho2 hg2 hn2 hb2;go_wp2;go_roundw
              case rel=>exact Hk.out
              case measure=>simp [intOf];omega
            ·have kn:((j:Int) == (ws.length:Int) - 1) = false:=by simp;omega
             have HT:Hid (((ws.getD j [])) = tailOne ws.length j (ws.getD j [])):=tailOne_00 _ _ _ Hn1.out (by rintro ⟨h, -⟩;exact hjn h);have HX:Hid (sb ((ws.getD j [])) = V1):=HV1.out;clear hjn hV1;obtain ⟨X,hX⟩ : ∃ X:Str,X = ((ws.getD j [])):=⟨_,rfl⟩;obtain ⟨XC,hXC⟩ : ∃ XC,XC = [X].flatMap strC:=⟨_,rfl⟩;rw [← hX] at HX
             replace HT:Hid (X = tailOne ws.length j (ws.getD j [])):=by show _ = _;rw [hX];exact HT.out
             have HXC:=hIh hXC;clear hX hXC;go_wp2_with (at_builtin;refine wpList_append2 _ rfl (.tmp 113) (.tmp 115) 59 rfl 9 (.string ⟨#[]⟩) 1 16 Tryz.underlying59 infoStr rfl (by decide) _ m T rfl (Hown.out.alloc _) _ 1 XC rfl ?c1 ?c4 ?c2 ?c3 ?_)
             case c1=>rw [HXC.out,← HX.out];exact rd_oneS _ _ _
             case c4=>rw [HXC.out];exact flat_one strC strC_one [X]
             case c2=>have:=Hm.out;unfold maxLen;omega
             case c3=>have:=Hm.out;omega
             intro v' w2 ho2 hg2 hn2 _;obtain ⟨A',c',rfl⟩:=own_slice ho2;obtain ⟨hb2,Hk⟩:=RIn_next (x:=X) h1 hj Hblk.out Hnew.out HB.out HT.out (by rw [← HT0.out,← Hm.out,← HXC.out];exact ho2) hg2 hn2;have Hk:=hIh Hk;obtain ⟨-, -,z2, -, -,y2⟩:=cells3 hb2;clear ho2 hg2 hn2 hb2;go_wp2;go_roundw
             case rel=>exact Hk.out
             case measure=>simp [intOf];omega
          ·have hltj:¬ (j:Int) < ws.length:=by omega
           have hje:j = ws.length:=(by omega);obtain ⟨q0,q1,q2,g0,g1,g2⟩:=HS2.out wr (H1.out.trans (HB.out.mono H1.out.size))
           have HR:Hid (RdT wr (.slice A m cp) (tailR ws)):=by
            have:=RdS.of_own (f:=strC) (l:=tailN ws (j - 1)) (by rw [tailN_len,← HT0.out,← Hm.out];exact Hown.out);rw [hje] at this;exact this
           clear hj hlt2 hje;go_wp2;refine bodyPost_ret (results_cell_row rfl _ _ w.heap.size 98 #[.string K,.int .i64 0,.slice A m cp] (0,0) _ rfl (blk_setCell (blk_setCell (blk_setCell (blk_below Hbx.out (H1.out.trans (HB.out.mono H1.out.size))) 0 _) 1 _) 2 _) Tryz.underlying98 rfl (by kernel_rfl)) rfl ?_;rw [Hres.out,← HK.out];exact tmres_store (t:=⟨l.take i,0,tailR ws⟩) HR.out (fun k hk=>by have:=Hnew.out k hk;have:=H1.out.size;have:=HW0.out;omega) (HB0.out.trans ((H1.out.trans (HB.out.mono H1.out.size)).mono HB0.out.size))
       ·have hne:c.toNat ≠ 61 ∧ c.toNat ≠ 33 ∧ c.toNat ≠ 32:=⟨fun h=>e61 (UInt8.toNat_inj.1 h),fun h=>e33 (UInt8.toNat_inj.1 h),fun h=>e32 (UInt8.toNat_inj.1 h)⟩
        obtain ⟨n1,n2,n3⟩:=hne;have Hk:Hid (RdLoop l (.int .i64 ((i:Int) + 1))):=⟨i + 1,hlt,rfl,scan_skip Hsc.out Hc.out e61 (fun h=>e33 h.1) e32⟩;generalize c.toNat = n at hix n1 n2 n3;have k61:((n:Int) == 61) = false:=(by simp;omega);have k33:((n:Int) == 33) = false:=(by simp;omega);have k32:((n:Int) == 32) = false:=(by simp;omega);clear e61 e33 e32 n1 n2 n3 Hsc Hc HslT HslF Hix HS2;go_wp2;go_round
        case rel=>exact Hk.out
        case measure=>simp [intOf];omega
    ·have hli:¬ (i:Int) < l.length:=by omega
     have Hres:Hid (termR l = ⟨l,2, []⟩):=scan_end Hsc.out (by omega);clear hi hlt Hsc;go_wp2;refine bodyPost_ret (results_cell_row rfl _ _ w.heap.size 98 #[.string S,.int .i64 2,.slice none 0 0] (0,0) _ rfl (blk_setCell (blk_setCell (blk_setCell (Hbx.out) 0 _) 1 _) 2 _) Tryz.underlying98 rfl (by kernel_rfl)) rfl ?_;rw [Hres.out,← HS.out];exact tmres_store (t:=⟨l,2, []⟩) (RdS.nil _ _ _) (fun k hk=>by cases hk) HB0.out
end Go.Proofs.YtpfkkagkbneilaaGreatDoor
