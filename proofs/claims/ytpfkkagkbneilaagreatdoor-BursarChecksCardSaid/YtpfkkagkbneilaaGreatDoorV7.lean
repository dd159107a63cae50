/- Texts G8, G9, H1 of the proof of BursarChecks, joined. -/
import Derived.Test.YtpfkkagkbneilaaGreatDoorV2
import Derived.Test.YtpfkkagkbneilaaGreatDoorV6
import Derived.Laws.EntriesVeiled
import Derived.Laws.Runes
import Derived.Laws.IdiomStrings
import Derived.Laws.RangeAny
namespace Go.Proofs.YtpfkkagkbneilaaGreatDoor
open Go.RowKit
set_option linter.unusedVariables false
set_option linter.unusedSimpArgs false
set_option maxRecDepth 100000
set_option maxHeartbeats 25600000
def scTexts:List ByteArray := [⟨#[97,108,108]⟩,⟨#[98,101,115,116]⟩,⟨#[110,111,116,98,101,115,116]⟩,⟨#[101,110,100,115]⟩,⟨#[110,111,116,101,110,100,115]⟩,⟨#[112,114,105,111,114,105,116,121,61]⟩]
def scOk (k a:Int):Prop:=(0 ≤ k ∧ k < 5 ∧ a = 0) ∨ (k = 5 ∧ 0 ≤ a ∧ a ≤ 9)
instance (k a:Int):Decidable (scOk k a):=by unfold scOk;infer_instance
def scWord (k a:Int):List UInt8:=(scTexts.getD k.toNat ⟨#[]⟩).data.toList ++ (if k = 5 then [UInt8.ofNat (48 + a.toNat)] else [])
theorem scOk_cases {k a:Int} (h:scOk k a):(k = 0 ∧ a = 0) ∨ (k = 1 ∧ a = 0) ∨ (k = 2 ∧ a = 0) ∨ (k = 3 ∧ a = 0) ∨ (k = 4 ∧ a = 0) ∨ (k = 5 ∧ a = 0) ∨ (k = 5 ∧ a = 1) ∨ (k = 5 ∧ a = 2) ∨ (k = 5 ∧ a = 3) ∨ (k = 5 ∧ a = 4) ∨ (k = 5 ∧ a = 5) ∨ (k = 5 ∧ a = 6) ∨ (k = 5 ∧ a = 7) ∨ (k = 5 ∧ a = 8) ∨ (k = 5 ∧ a = 9):=by
 unfold scOk at h;rcases h with ⟨h1,h2,rfl⟩ | ⟨rfl,h1,h2⟩
 ·have h:k = 0 ∨ k = 1 ∨ k = 2 ∨ k = 3 ∨ k = 4:=by omega
  clear h1 h2;rcases h with rfl | rfl | rfl | rfl | rfl <;> simp
 ·have h:a = 0 ∨ a = 1 ∨ a = 2 ∨ a = 3 ∨ a = 4 ∨ a = 5 ∨ a = 6 ∨ a = 7 ∨ a = 8 ∨ a = 9:=by omega
  clear h1 h2;rcases h with rfl | rfl | rfl | rfl | rfl | rfl | rfl | rfl | rfl | rfl <;> simp
theorem rvalid_calls (k a:Int) (w:World):Calls Tryz.prog 166 #[.agg #[.int .i64 k,.int .i64 a]] w fun e w'=>e = .returned (.bool (decide (scOk k a))) ∧ Below w.heap.size w w':=by
 by_cases h5:k = 5
 ·subst h5
  by_cases ha0:0 ≤ a
  ·have hda:decide (0 ≤ a) = true:=decide_eq_true ha0
   by_cases ha:a ≤ 9
   ·have Hr:Hid (decide (scOk 5 a) = true):=decide_eq_true (by unfold scOk;omega)
    have hdb:decide (a ≤ 9) = true:=decide_eq_true ha;go_enter Tryz.func166,Tryz.ntmps166;go_wp2;go_ret;exact ⟨by rw [Hr.out];rfl,(Below.refl _ _).alloc (Nat.le_refl _) _⟩
   ·have Hr:Hid (decide (scOk 5 a) = false):=decide_eq_false (by unfold scOk;omega)
    have hdb:decide (a ≤ 9) = false:=decide_eq_false ha;go_enter Tryz.func166,Tryz.ntmps166;go_wp2;go_ret;exact ⟨by rw [Hr.out];rfl,(Below.refl _ _).alloc (Nat.le_refl _) _⟩
  ·have Hr:Hid (decide (scOk 5 a) = false):=decide_eq_false (by unfold scOk;omega)
   have hda:decide (0 ≤ a) = false:=decide_eq_false ha0;go_enter Tryz.func166,Tryz.ntmps166;go_wp2;go_ret;exact ⟨by rw [Hr.out];rfl,(Below.refl _ _).alloc (Nat.le_refl _) _⟩
 ·have h5b:(k == 5) = false:=by simpa using h5
  by_cases hk0:0 ≤ k
  ·have hdk:decide (0 ≤ k) = true:=decide_eq_true hk0
   by_cases hk5:k < 5
   ·have hdl:decide (k < 5) = true:=decide_eq_true hk5
    by_cases ha:a = 0
    ·have Hr:Hid (decide (scOk k a) = true):=decide_eq_true (by unfold scOk;omega)
     have hda:(a == 0) = true:=(by simpa using ha);clear ha;go_enter Tryz.func166,Tryz.ntmps166;go_wp2;go_ret;exact ⟨by rw [Hr.out];rfl,(Below.refl _ _).alloc (Nat.le_refl _) _⟩
    ·have Hr:Hid (decide (scOk k a) = false):=decide_eq_false (by unfold scOk;omega)
     have hda:(a == 0) = false:=(by simpa using ha);go_enter Tryz.func166,Tryz.ntmps166;go_wp2;go_ret;exact ⟨by rw [Hr.out];rfl,(Below.refl _ _).alloc (Nat.le_refl _) _⟩
   ·have hdl:decide (k < 5) = false:=decide_eq_false hk5
    have Hr:Hid (decide (scOk k a) = false):=decide_eq_false (by unfold scOk;omega);go_enter Tryz.func166,Tryz.ntmps166;go_wp2;go_ret;exact ⟨by rw [Hr.out];rfl,(Below.refl _ _).alloc (Nat.le_refl _) _⟩
  ·have hdk:decide (0 ≤ k) = false:=decide_eq_false hk0
   have Hr:Hid (decide (scOk k a) = false):=decide_eq_false (by unfold scOk;omega);go_enter Tryz.func166,Tryz.ntmps166;go_wp2;go_ret;exact ⟨by rw [Hr.out];rfl,(Below.refl _ _).alloc (Nat.le_refl _) _⟩
theorem conv_one (w:World) (n:Nat) (hn:n < 256) (g:Nat) (hg:g = w.heap.size) (t:TypeId):(convert 66 9 (.slice (some ⟨g,0,none⟩) 1 1)).run Tryz.prog (w.alloc (.cells #[.int .u8 n] t)) = .ok (.string ⟨#[UInt8.ofNat n]⟩) (w.alloc (.cells #[.int .u8 n] t)):=by
 subst hg
 have h:=run_convert_bytes_back (P:=Tryz.prog) (w.alloc (.cells #[.int .u8 n] t)) 66 9 5 ⟨w.heap.size,0,none⟩ 1 [UInt8.ofNat n] Tryz.underlying66 Tryz.underlying5 Tryz.underlying9 (fun j hj=>by
  have:j = 0:=by simp at hj;omega
  subst this;refine ((cells1 (blk_new w (.cells #[.int .u8 n] t))).1).trans ?_
  simp;omega)
 exact h
theorem conv_at (w:World) (t u:TypeId) (cs:Array Value) (n:Nat) (hn:n < 256):(convert 66 9 (.slice (some ⟨w.heap.size + 1,0,none⟩) 1 1)).run Tryz.prog ((w.alloc (.cells cs u)).alloc (.cells #[.int .u8 n] t)) = .ok (.string ⟨#[UInt8.ofNat n]⟩) ((w.alloc (.cells cs u)).alloc (.cells #[.int .u8 n] t)):=
 conv_one _ n hn _ (by simp) t
theorem sc_box {w w1:World} {k a:Int} {t:TypeId} (h:Below (w.alloc (.cells #[.int .i64 k,.int .i64 a] t)).heap.size (w.alloc (.cells #[.int .i64 k,.int .i64 a] t)) w1):w1.heap[w.heap.size]? = some (.cells #[.int .i64 k,.int .i64 a] t (0,0)):=blk_below (blk_new w _) h
theorem sc_cells {w:World} {g:Nat} {u v:Value} {t:TypeId} (h:w.heap[g]? = some (.cells #[u,v] t (0,0))):w.cell? ⟨g,0,none⟩ = some u ∧ w.cell? ⟨g,1,none⟩ = some v ∧ ∀ o,(w.alloc o).cell? ⟨g,0,none⟩ = some u ∧ (w.alloc o).cell? ⟨g,1,none⟩ = some v:=
 ⟨by simp [World.cell?,h],by simp [World.cell?,h],fun o=>by have h2:=blk_alloc h o;exact ⟨by simp [World.cell?,h2],by simp [World.cell?,h2]⟩⟩
theorem rsprint_calls (k a:Int) (h:scOk k a) (w:World):Calls Tryz.prog 140 #[.agg #[.int .i64 k,.int .i64 a]] w fun e w'=>(∃ sv,e = .returned (.tuple #[sv,.int .i64 0]) ∧ StrIs sv (scWord k a)) ∧ Below w.heap.size w w':=by
 generalize hS:(⟨(scWord k a).toArray⟩ : ByteArray) = S;have HS:=hIh hS;have HW:=hIh (show S.data.toList = scWord k a from by rw [← hS]);clear hS;have hv:decide (scOk k a) = true:=decide_eq_true h;rcases scOk_cases h with ⟨rfl,rfl⟩ | ⟨rfl,rfl⟩ | ⟨rfl,rfl⟩ | ⟨rfl,rfl⟩ | ⟨rfl,rfl⟩ | ⟨rfl,rfl⟩ | ⟨rfl,rfl⟩ | ⟨rfl,rfl⟩ | ⟨rfl,rfl⟩ | ⟨rfl,rfl⟩ | ⟨rfl,rfl⟩ | ⟨rfl,rfl⟩ | ⟨rfl,rfl⟩ | ⟨rfl,rfl⟩ | ⟨rfl,rfl⟩
 all_goals
  go_enter Tryz.func140,Tryz.ntmps140;go_wp2_with (fail);go_at_call 166;refine (rvalid_calls _ _ _).mono ?_;rintro e w1 ⟨rfl,hw1⟩;rw [hv];have Hw1:=hIh hw1;have Hbox:=hIh (sc_box hw1);obtain ⟨c0,c1,cA⟩:=sc_cells Hbox.out;have cA0:=fun o=>(cA o).1;have cA1:=fun o=>(cA o).2;have cv0:=fun (cs:Array Value) (u t:TypeId)=>conv_at w1 t u cs 48 (by omega);have cv1:=fun (cs:Array Value) (u t:TypeId)=>conv_at w1 t u cs 49 (by omega);have cv2:=fun (cs:Array Value) (u t:TypeId)=>conv_at w1 t u cs 50 (by omega);have cv3:=fun (cs:Array Value) (u t:TypeId)=>conv_at w1 t u cs 51 (by omega);have cv4:=fun (cs:Array Value) (u t:TypeId)=>conv_at w1 t u cs 52 (by omega);have cv5:=fun (cs:Array Value) (u t:TypeId)=>conv_at w1 t u cs 53 (by omega);have cv6:=fun (cs:Array Value) (u t:TypeId)=>conv_at w1 t u cs 54 (by omega);have cv7:=fun (cs:Array Value) (u t:TypeId)=>conv_at w1 t u cs 55 (by omega);have cv8:=fun (cs:Array Value) (u t:TypeId)=>conv_at w1 t u cs 56 (by omega)
  have cv9:=fun (cs:Array Value) (u t:TypeId)=>conv_at w1 t u cs 57 (by omega);simp only [Int.cast_ofNat_Int] at cv0 cv1 cv2 cv3 cv4 cv5 cv6 cv7 cv8 cv9;clear hw1 cA Hbox;go_wp2;refine bodyPost_ret (v:=.tuple #[.string S,.int .i64 0]) ?h rfl ⟨⟨_,rfl,_,rfl,HW.out⟩,?b⟩
  case h=>simp [results,go_sem];exact HS.out
  case b=>
   have hB:=((Below.refl w.heap.size w).alloc (Nat.le_refl _) (.cells #[.int .i64 _,.int .i64 _] 27)).trans (Hw1.out.mono (by simp));have hL:=hB.size
   first
   | exact hB.alloc hL _
   | exact (hB.alloc hL _).alloc (by simp;omega) _
def okP (x:Nat × Nat):Bool:=decide (scOk x.1 x.2)
def scRow (k:Nat):List (Nat × Nat):=((List.range 10).map fun a=>(k,a)).filter okP
def scUp (k a:Nat):List (Nat × Nat):=(List.range k).flatMap scRow ++ ((List.range a).map fun a=>(k,a)).filter okP
def scAll:List (Nat × Nat):=scUp 6 0
def scC (x:Nat × Nat):List Value := [.int .i64 x.1,.int .i64 x.2]
theorem scC_len (x:Nat × Nat):(scC x).length = 2:=rfl
theorem scUp_next (k a:Nat):scUp k (a + 1) = scUp k a ++ (if okP (k,a) = true then [(k,a)] else []):=by
 unfold scUp;rw [List.range_succ,List.map_append,List.filter_append,← List.append_assoc]
 congr 1
 by_cases h:okP (k,a) = true <;> simp [List.filter,h]
theorem scUp_row (k:Nat):scUp (k + 1) 0 = scUp k 10:=by
 unfold scUp;rw [List.range_succ,List.flatMap_append];simp [scRow]
theorem scUp_len (k a:Nat) (hk:k ≤ 6) (ha:a ≤ 10):(scUp k a).length ≤ 70:=by
 have h1:∀ k,(scRow k).length ≤ 10:=fun k=>by
  unfold scRow;exact Nat.le_trans (List.length_filter_le _ _) (by simp)
 have h2:∀ k,((List.range k).flatMap scRow).length ≤ k * 10:=by
  intro k
  induction k with
  | zero=>simp
  | succ k ih=>rw [List.range_succ,List.flatMap_append,List.length_append];have:=h1 k;simp only [List.flatMap_cons,List.flatMap_nil,List.append_nil];omega
 unfold scUp;rw [List.length_append];have h3:(((List.range a).map fun a=>(k,a)).filter okP).length ≤ a:=Nat.le_trans (List.length_filter_le _ _) (by simp);have:=h2 k;omega
theorem infoSc:(Tryz.prog.info? 27).map (fun i=>(i.zero,i.size,i.bytes)) = some (some (.agg #[.int .i64 0,.int .i64 0]),2,16):=by kernel_rfl
def SALoop (w:World) (v1 v2:Value) (w1:World):Prop := ∃ k:Nat,k ≤ 6 ∧ v2 = .int .i64 k ∧ w1.ownsRow 0 27 2 v1 (scUp k 0).length ((scUp k 0).flatMap scC) ∧ (∀ j,v1.ownBlock = some j → w.heap.size ≤ j) ∧ Below w.heap.size w w1
def SAIn (w:World) (k:Nat) (v1 v3:Value) (w1:World):Prop := ∃ a:Nat,a ≤ 10 ∧ v3 = .int .i64 a ∧ w1.ownsRow 0 27 2 v1 (scUp k a).length ((scUp k a).flatMap scC) ∧ (∀ j,v1.ownBlock = some j → w.heap.size ≤ j) ∧ Below w.heap.size w w1
theorem rd_sc (w:World) (t:TypeId) (x:Nat × Nat):Rd (w.alloc (.cells #[.int .i64 x.1,.int .i64 x.2] t)) 2 (.slice (some ⟨w.heap.size,0,none⟩) 1 1) 1 (scC x):=by
 refine ⟨rfl,_,_,rfl,Nat.le_refl _,(fun h=>by cases h),fun ad hA j u hu=>?_⟩
 cases hA
 match j,hu with
 | 0,hu=>cases hu;rw [show (⟨w.heap.size,0,none⟩ : Addr).add 0 = ⟨w.heap.size,0,none⟩ from rfl];simp only [World.cell?,blk_new];rfl
 | 1,hu=>cases hu;rw [show (⟨w.heap.size,0,none⟩ : Addr).add 1 = ⟨w.heap.size,1,none⟩ from rfl];simp only [World.cell?,blk_new];rfl
theorem scC_one (x:Nat × Nat):∀ u ∈ scC x,u.oneCell' = true:=by
 intro u hu;simp only [scC,List.mem_cons,List.not_mem_nil,or_false] at hu;rcases hu with rfl | rfl <;> rfl
theorem scall_calls (w:World):Calls Tryz.prog 139 #[] w fun e w' => ∃ v,e = .returned v ∧ RdS scC 2 w' v scAll ∧ Below w.heap.size w w':=by
 have Hst:Hid (SALoop w (.slice none 0 0) (.int .i64 0) w):=⟨0,by omega,rfl,World.ownsRow_nil _ _ _ _,(fun j hj=>by cases hj),Below.refl _ _⟩;go_enter Tryz.func139,Tryz.ntmps139;go_wp2
 go_loopw [1,2] (fun v1 v2 w1=>SALoop w v1 v2 w1) (fun _ i _=>6 - (intOf i).toNat)
 case atStart=>exact Hst.out
 case round=>
  clear Hst;obtain ⟨k,hk,rfl,hown,hnew,hB⟩:=hrel;obtain ⟨A0,c0,rfl⟩:=own_slice hown
  by_cases hlt:k < 6
  ·have hlti:(k:Int) < 6:=by omega
   have Hst:Hid (SAIn w k (.slice A0 (scUp k 0).length c0) (.int .i64 0) wr):=⟨0,by omega,rfl,hown,hnew,hB⟩;generalize (scUp k 0).length = n0 at Hst;clear hown hnew hB;go_wp2
   go_loopw [1,3] (fun v1 v3 w1=>SAIn w k v1 v3 w1) (fun _ i _=>10 - (intOf i).toNat)
   case atStart=>exact Hst.out
   case round=>
    clear Hst;obtain ⟨a,ha,rfl,hown,hnew,hB⟩:=hrel;obtain ⟨A1,c1,rfl⟩:=own_slice hown;have hl70:=scUp_len k a (by omega) ha
    by_cases hlta:a < 10
    ·have hltai:(a:Int) < 10:=by omega
     have Hnext:=hIh (scUp_next k a);have Hval:=hIh (fun W=>rvalid_calls (k:Int) (a:Int) W);have Hown:=hIh hown;have Hnew:=hIh hnew;have HB:=hIh hB;have Hbx:=hIh (blk_new wr (.cells #[.int .i64 k,.int .i64 a] 27));have HBx:Hid (Below w.heap.size w (wr.alloc (.cells #[.int .i64 k,.int .i64 a] 27))):=hB.alloc hB.size _;have HOx:=hIh (own_below hown ((Below.refl _ _).alloc (Nat.le_refl _) (.cells #[.int .i64 k,.int .i64 a] 27)));generalize scUp k a = L at *;clear hown hnew hB
     by_cases hok:scOk (k:Int) (a:Int)
     ·rw [if_pos (by simpa [okP] using hok)] at Hnext
      rw [decide_eq_true hok] at Hval;clear hok
      go_wp2_with (first
       | (go_at_call 166;with_reducible refine (Hval.out _).mono ?_;rintro e w1 ⟨rfl,hw1⟩;have HW1:=hIh hw1;have Hb1:=hIh (blk_below Hbx.out hw1);have hc2:=sc_cells Hb1.out;obtain ⟨c21,c22, -⟩:=hc2)
       | (at_builtin;refine wpList_append2 _ rfl (.tmp 18) (.tmp 20) 207 rfl 27 (.agg #[.int .i64 0,.int .i64 0]) 2 16 Tryz.underlying207 infoSc rfl (by decide) _ L.length (L.flatMap scC) rfl ((own_below HOx.out HW1.out).alloc _) _ 1 (scC (k,a)) rfl (rd_sc _ _ (k,a)) (scC_one _) (by unfold maxLen;omega) (by omega) ?_))
      intro v' w2 ho2 hg2 hn2 _
      have Hk:Hid (SAIn w k v' (.int .i64 ((a:Int) + 1)) w2):=by
       have hB2:Below w.heap.size w w1:=HBx.out.trans (HW1.out.mono HBx.out.size);have hs:=hB2.size;have hs1:w.heap.size ≤ wr.heap.size:=HB.out.size;have hs2:wr.heap.size + 1 ≤ w1.heap.size:=(by have:=HW1.out.size;simpa using this);refine ⟨a + 1,by omega,rfl,?_,?_,?_⟩
       ·rw [Hnext.out,List.flatMap_append,List.length_append]
        simpa using ho2
       ·intro j hj
        rcases hn2 j hj with h1 | h1
        ·exact Hnew.out j h1
        ·have:w1.heap.size + 1 ≤ j:=by simpa using h1
         omega
       ·exact (hB2.alloc hs _).grown hg2 (by simp;omega) (fun j hj=>Hnew.out j hj)
      clear ho2 hg2 hn2;go_wp2;go_roundw
      case rel=>exact Hk.out
      case measure=>simp [intOf];omega
     ·rw [if_neg (by simpa [okP] using hok),List.append_nil] at Hnext
      rw [decide_eq_false hok] at Hval;clear hok
      have Hk:Hid (∀ W,Below (wr.alloc (.cells #[.int .i64 k,.int .i64 a] 27)).heap.size (wr.alloc (.cells #[.int .i64 k,.int .i64 a] 27)) W → SAIn w k (.slice A1 L.length c1) (.int .i64 ((a:Int) + 1)) W):=fun W hW=>
       ⟨a + 1,by omega,rfl,by rw [Hnext.out];exact own_below HOx.out hW,Hnew.out,HBx.out.trans (hW.mono HBx.out.size)⟩
      go_wp2_with (go_at_call 166;with_reducible refine (Hval.out _).mono ?_;rintro e w1 ⟨rfl,hw1⟩);go_roundw
      case rel=>exact Hk.out _ hw1
      case measure=>simp [intOf];omega
    ·obtain rfl:a = 10:=by omega
     have hltai:¬ ((10:Nat):Int) < 10:=(by omega);have Hk:Hid (SALoop w (.slice A1 (scUp k 10).length c1) (.int .i64 ((k:Int) + 1)) wr):=⟨k + 1,by omega,rfl,by rw [scUp_row];exact hown,hnew,hB⟩;generalize (scUp k 10).length = n1 at Hk;clear hown hnew hB;go_wp2;go_roundw
     case rel=>exact Hk.out
     case measure=>simp [intOf];omega
  ·obtain rfl:k = 6:=by omega
   have hlti:¬ ((6:Nat):Int) < 6:=(by omega);have Hr:Hid (RdS scC 2 wr (.slice A0 (scUp 6 0).length c0) scAll):=RdS.of_own hown;have HB:=hIh hB;generalize (scUp 6 0).length = n1 at Hr;clear hown hnew hB;go_wp2;go_ret;exact ⟨_,rfl,Hr.out,HB.out⟩
def SRes (o:Option (Nat × Nat)) (k a ec:Int):Prop:=(∃ x:Nat × Nat,o = some x ∧ k = x.1 ∧ a = x.2 ∧ ec = 0) ∨ (o = none ∧ ec ≠ 0)
theorem scAll_eq:scAll = [(0,0),(1,0),(2,0),(3,0),(4,0),(5,0),(5,1),(5,2),(5,3),(5,4),(5,5),(5,6),(5,7),(5,8),(5,9)]:=by decide
theorem scope_word:∀ x ∈ scAll,scopeS (scWord x.1 x.2) = some x:=by rw [scAll_eq];decide
theorem scope_some {s:Str} {x:Nat × Nat} (h:scopeS s = some x):x ∈ scAll ∧ scWord x.1 x.2 = s:=by
 rw [scAll_eq];unfold scopeS at h
 split at h
 ·cases h;subst_vars;exact ⟨by decide,by decide⟩
 split at h
 ·cases h;subst_vars;exact ⟨by decide,by decide⟩
 split at h
 ·cases h;subst_vars;exact ⟨by decide,by decide⟩
 split at h
 ·cases h;subst_vars;exact ⟨by decide,by decide⟩
 split at h
 ·cases h;subst_vars;exact ⟨by decide,by decide⟩
 unfold cutPre at h
 split at h
 ·rename_i d hd
  split at hd
  ·rename_i hp
   split at h
   ·rename_i hdg
    cases h
    obtain ⟨r,hr⟩:=List.isPrefixOf_iff_prefix.1 hp;have hd2:=Option.some.inj hd;rw [← hr,List.drop_left] at hd2;subst hd2
    have h2:48 ≤ d.toNat ∧ d.toNat ≤ 57:=by
     simp only [isDg,Bool.and_eq_true,decide_eq_true_eq,UInt8.le_iff_toNat_le] at hdg;exact hdg
    have h3:d.toNat - 48 ≤ 9:=(by omega)
    have hdn:d = UInt8.ofNat (48 + (d.toNat - 48)):=by
     rw [show 48 + (d.toNat - 48) = d.toNat by omega];simp
    rw [← hr];generalize d.toNat - 48 = m at h3 hdn;subst hdn;have h4:m = 0 ∨ m = 1 ∨ m = 2 ∨ m = 3 ∨ m = 4 ∨ m = 5 ∨ m = 6 ∨ m = 7 ∨ m = 8 ∨ m = 9:=(by omega);rcases h4 with rfl | rfl | rfl | rfl | rfl | rfl | rfl | rfl | rfl | rfl <;> exact ⟨by decide,by decide⟩
   ·cases h
  ·cases hd
 ·cases h
theorem sc_ok:∀ x ∈ scAll,scOk (x.1:Int) (x.2:Int):=by rw [scAll_eq];decide
theorem sc_len:scAll.length = 15:=by rw [scAll_eq];rfl
def RSLoop (w:World) (s:Str) (v5:Value) (w1:World):Prop := ∃ i:Nat,i ≤ 15 ∧ v5 = .int .i64 i ∧ (∀ j (h:j < scAll.length),j < i → scWord scAll[j].1 scAll[j].2 ≠ s) ∧ Below w.heap.size w w1
theorem cells2 {w:World} {g:Nat} {a b:Value} {t:TypeId} (h:w.heap[g]? = some (.cells #[a,b] t (0,0))):w.cell? ⟨g,0,none⟩ = some a ∧ w.cell? ⟨g,1,none⟩ = some b ∧ w.frozen? ⟨g,0,none⟩ = false ∧ w.frozen? ⟨g,1,none⟩ = false:=by
 simp [World.cell?,World.frozen?,h]
theorem rscparse_calls (w:World) (s:Str):Calls Tryz.prog 110 #[.string (sb s)] w fun e w' => ∃ k a ec:Int,e = .returned (.tuple #[.agg #[.int .i64 k,.int .i64 a],.int .i64 ec]) ∧ SRes (scopeS s) k a ec ∧ Below w.heap.size w w':=by
 have HB0:Hid (∀ o,Below w.heap.size w (w.alloc o)):=fun o=>(Below.refl _ _).alloc (Nat.le_refl _) o;have Hbx:=hIh (blk_new w (.cells #[.int .i64 0,.int .i64 0] 27));generalize hS:sb s = S;have HS:=hIh hS;clear hS;go_enter Tryz.func110,Tryz.ntmps110;go_wp2_with fail;refine (scall_calls _).mono ?_;rintro e w1 ⟨v,rfl,hrd,hw1⟩;obtain ⟨A,c,rfl⟩:=hrd.slice;have H1:Hid (Below w.heap.size w w1):=(HB0.out _).trans (hw1.mono (by simp));have Hb1:=hIh (blk_below Hbx.out hw1)
 obtain ⟨bb,off,cc,hv,hlc,hbl,hcell⟩ : ∃ b off c',Value.slice A scAll.length c = .slice (some ⟨b,off,none⟩) 15 c' ∧ 15 ≤ c' ∧ b < w1.heap.size ∧ ∀ i (hi:i < scAll.length),w1.cell? ⟨b,off + i * 2,none⟩ = some (.int .i64 scAll[i].1) ∧ w1.cell? ⟨b,off + (i * 2 + 1),none⟩ = some (.int .i64 scAll[i].2):=by
  obtain ⟨b,off,c',h1,h2,h3, -⟩:=hrd.cells scC_len (by decide) 0 (by rw [sc_len];decide);have h1':=h1;rw [show scAll.length = 15 from sc_len] at h1' h2;refine ⟨b,off,c',by rw [h1,sc_len],h2,h3,fun i hi=>?_⟩;obtain ⟨b',off',c'',g1, -, -,g4⟩:=hrd.cells scC_len (by decide) i hi;rw [h1] at g1
  cases g1
  have e0:=g4 0 _ (by decide) rfl;have e1:=g4 1 _ (by decide) rfl;exact ⟨e0,e1⟩
 rw [hv];have Hcell:=hIh hcell;have Hst:Hid (RSLoop w1 s (.int .i64 0) w1):=⟨0,by omega,rfl,fun j h hj=>by omega,Below.refl _ _⟩;clear hrd hw1 hv hcell HB0;go_wp2
 go_loopw [5] (fun v5 wx=>RSLoop w1 s v5 wx) (fun i _=>15 - (intOf i).toNat)
 case atStart=>exact Hst.out
 case round=>
  clear Hst;obtain ⟨i,hi,rfl,hno,hB⟩:=hrel;have Hno:=hIh hno;have HBx:=hIh hB;clear hno
  by_cases hlt:i < 15
  ·have hlti:(i:Int) < 15:=by omega
   have hi0:(0:Int) ≤ i:=(by omega);have hil:i < scAll.length:=(by rw [sc_len];exact hlt);obtain ⟨q1,q2⟩:=Hcell.out i hil;have r1:=(hB.cell (p:=⟨bb,off + i * 2,none⟩) hbl).trans q1;have r2:=(hB.cell (p:=⟨bb,off + (i * 2 + 1),none⟩) hbl).trans q2;have r3:wr.cell? ⟨bb,off + i * 2 + 1,none⟩ = some (.int .i64 scAll[i].2):=r2;have hmem:=List.getElem_mem hil;have Hok:=hIh (sc_ok _ hmem);have Hword:=hIh (scope_word _ hmem);have Hpr:=hIh (fun W=>rsprint_calls (scAll[i].1:Int) (scAll[i].2:Int) Hok.out W)
   have Hnx:=hIh (fun (hne:scWord scAll[i].1 scAll[i].2 ≠ s) W (hW:Below w1.heap.size w1 W)=>(show RSLoop w1 s (.int .i64 ((i:Int) + 1)) W from ⟨i + 1,by omega,rfl,fun j h hj=>by
    by_cases e:j = i
    ·subst e;exact hne
    ·exact Hno.out j h (by omega),hW⟩))
   generalize scAll[i] = x at q1 q2 r1 r2 r3 hmem Hok Hword Hpr Hnx;obtain ⟨k,a⟩:=x;simp only at q1 q2 r1 r2 r3 Hok Hword Hpr Hnx;have HBy:=hIh hB;clear q1 q2 hmem hB;go_wp2_with fail;refine (Hpr.out _).mono ?_;rintro e w2 ⟨⟨sv,rfl,S2,rfl,hS2⟩,hw2⟩;have H2:Hid (Below w1.heap.size w1 w2):=HBy.out.trans (hw2.mono HBy.out.size);have r4:=(hw2.cell (p:=⟨bb,off + i * 2,none⟩) (World.block_lt_of_cell? _ _ r1)).trans r1;have r5:=(hw2.cell (p:=⟨bb,off + i * 2 + 1,none⟩) (World.block_lt_of_cell? _ _ r3)).trans r3;have Hb2:=hIh (blk_below (blk_below Hb1.out HBy.out) hw2);have hcc:=cells2 Hb2.out;obtain ⟨cc0,cc1,cf0,cf1⟩:=hcc;have HS2:=hIh hS2;clear hw2 hS2 r1 r2 r3
   by_cases heq:S2 = S
   ·subst heq
    have hqb:=beqT' S2;have hx:scWord (k:Int) (a:Int) = s:=(by rw [← HS2.out,← HS.out];rfl);have Hres:Hid (scopeS s = some (k,a)):=(by show _ = _;rw [← hx];exact Hword.out);have Hset:=hIh ((H1.out.trans (H2.out.mono H1.out.size)).setCell (p:=⟨w.heap.size,0,none⟩) (Nat.le_refl _) (.int .i64 (k:Int)));clear hx;have Hset2:=hIh (Hset.out.setCell (p:=⟨w.heap.size,1,none⟩) (Nat.le_refl _) (.int .i64 (a:Int)));have Hfin:=hIh (cells2 (blk_setCell (blk_setCell Hb2.out 0 (.int .i64 (k:Int))) 1 (.int .i64 (a:Int))));go_wp2;obtain ⟨z0,z1, -, -⟩:=Hfin.out;refine bodyPost_ret (v:=.tuple #[.agg #[.int .i64 (k:Int),.int .i64 (a:Int)],.int .i64 0]) (by simp [results,Tryz.results110,go_sem,z0,z1]) rfl ⟨_,_,_,rfl,.inl ⟨(k,a),Hres.out,rfl,rfl,rfl⟩,Hset2.out⟩
   ·have hqb:=beqF' heq
    have hne:scWord (k:Int) (a:Int) ≠ s:=by
     intro e
     apply heq
     rw [of_sb S2,HS2.out,e,HS.out]
    have Hk:=hIh (Hnx.out hne _ H2.out);clear hne heq;go_wp2;go_roundw
    case rel=>exact Hk.out
    case measure=>simp [intOf];omega
  ·have hlti:¬ (i:Int) < 15:=by omega
   have Hres:Hid (scopeS s = none):=by
    show _ = _
    cases h:scopeS s with
    | none=>rfl
    | some x=>
     obtain ⟨h1,h2⟩:=scope_some h;obtain ⟨j,hj,rfl⟩:=List.getElem_of_mem h1;exact absurd h2 (Hno.out j hj (by rw [sc_len] at hj;omega))
   have H2:=hIh (H1.out.trans (hB.mono H1.out.size));have Hb2:=hIh (blk_below Hb1.out hB);have hcc:=cells2 Hb2.out;obtain ⟨cc0,cc1,cf0,cf1⟩:=hcc;have Hset:=hIh (H2.out.setCell (p:=⟨w.heap.size,0,none⟩) (Nat.le_refl _) (.int .i64 0));have Hset2:=hIh (Hset.out.setCell (p:=⟨w.heap.size,1,none⟩) (Nat.le_refl _) (.int .i64 0));have Hfin:=hIh (cells2 (blk_setCell (blk_setCell Hb2.out 0 (.int .i64 0)) 1 (.int .i64 0)));clear hB;go_wp2;obtain ⟨z0,z1, -, -⟩:=Hfin.out;refine bodyPost_ret (v:=.tuple #[.agg #[.int .i64 0,.int .i64 0],.int .i64 150]) (by simp [results,Tryz.results110,go_sem,z0,z1]) rfl ⟨_,_,_,rfl,.inr ⟨Hres.out,by decide⟩,Hset2.out⟩
def BSLoop (s:Str) (v9:Value):Prop := ∃ (i:Nat) (k:Int),i ≤ 6 ∧ k = i ∧ v9 = .int .i64 k ∧ (∀ j,j < i → j < 5 → s ≠ textsT.getD j []) ∧ (i = 6 → scopeS s = none)
theorem lcutpre_eq (w:World) (s p:Str):Calls Tryz.prog 124 #[.string (sb s),.string (sb p)] w fun e w'=>e = .returned (.tuple #[.string (sb ((cutPre p s).getD s)),.bool (cutPre p s).isSome]) ∧ w' = w:=by
 refine (Tryz.strings_CutPrefix (sb s) (sb p) w).mono ?_;rintro e w' ⟨rfl,rfl⟩;refine ⟨?_,rfl⟩;rw [sb_toList,sb_toList];unfold Lib.trimPrefix Lib.hasPrefix cutPre
 split
 ·rename_i h;rw [h];rfl
 ·rename_i h;rw [Bool.not_eq_true] at h;rw [h];rfl
theorem scope_front {s:Str} (i:Nat) (hi:i < 5):(cutPre (textsT.getD i []) s = some [] ↔ s = textsT.getD i []):=by
 unfold cutPre
 constructor
 ·intro h
  split at h
  ·rename_i hp
   obtain ⟨r,hr⟩:=List.isPrefixOf_iff_prefix.1 hp;have:=Option.some.inj h;rw [← hr,List.drop_left] at this;rw [← hr,this,List.append_nil]
  ·cases h
 ·intro h
  rw [h,if_pos (List.isPrefixOf_iff_prefix.2 (List.prefix_refl _)),List.drop_length]
theorem scope_five {s:Str} (h:∀ j,j < 5 → s ≠ textsT.getD j []):scopeS s = match cutPre [112,114,105,111,114,105,116,121,61] s with
  | some [d]=>if isDg d then some (5,d.toNat - 48) else none
  | _=>none:=by
 have h0:s ≠ [97,108,108]:=h 0 (by decide);have h1:s ≠ [98,101,115,116]:=h 1 (by decide);have h2:s ≠ [110,111,116,98,101,115,116]:=h 2 (by decide);have h3:s ≠ [101,110,100,115]:=h 3 (by decide);have h4:s ≠ [110,111,116,101,110,100,115]:=h 4 (by decide);unfold scopeS;rw [if_neg h0,if_neg h1,if_neg h2,if_neg h3,if_neg h4]
 rfl
theorem scope_hit {s:Str} (i:Nat) (hi:i < 5) (h:s = textsT.getD i []):scopeS s = some (i,0):=by
 subst h
 have:i = 0 ∨ i = 1 ∨ i = 2 ∨ i = 3 ∨ i = 4:=by omega
 rcases this with rfl | rfl | rfl | rfl | rfl <;> decide
theorem arr6 (F0 F1 F2 F3 F4 F5:ByteArray) (W:World):(Instr.index 195 (.agg #[.string F0,.string F1,.string F2,.string F3,.string F4,.string F5]) (.int .i64 0)).run Tryz.prog W = .ok (.string F0) W ∧ (Instr.index 195 (.agg #[.string F0,.string F1,.string F2,.string F3,.string F4,.string F5]) (.int .i64 1)).run Tryz.prog W = .ok (.string F1) W ∧ (Instr.index 195 (.agg #[.string F0,.string F1,.string F2,.string F3,.string F4,.string F5]) (.int .i64 2)).run Tryz.prog W = .ok (.string F2) W ∧ (Instr.index 195 (.agg #[.string F0,.string F1,.string F2,.string F3,.string F4,.string F5]) (.int .i64 3)).run Tryz.prog W = .ok (.string F3) W ∧ (Instr.index 195 (.agg #[.string F0,.string F1,.string F2,.string F3,.string F4,.string F5]) (.int .i64 4)).run Tryz.prog W = .ok (.string F4) W ∧ (Instr.index 195 (.agg #[.string F0,.string F1,.string F2,.string F3,.string F4,.string F5]) (.int .i64 5)).run Tryz.prog W = .ok (.string F5) W:=⟨by kernel_rfl,by kernel_rfl,by kernel_rfl,by kernel_rfl,by kernel_rfl,by kernel_rfl⟩
theorem bscparse_calls (w:World) (G:Glob w) (s:Str):Calls Tryz.prog 97 #[.string (sb s)] w fun e w' => ∃ k a ec:Int,e = .returned (.tuple #[.agg #[.int .i64 k,.int .i64 a],.int .i64 ec]) ∧ SRes (scopeS s) k a ec ∧ Below w.heap.size w w':=by
 have HB0:Hid (∀ o,Below w.heap.size w (w.alloc o)):=fun o=>(Below.refl _ _).alloc (Nat.le_refl _) o;have Hbx:=hIh (blk_new w (.cells #[.int .i64 0,.int .i64 0] 27));have G2:=G.below (HB0.out (.cells #[.int .i64 0,.int .i64 0] 27));have t0:=G2.txt 0 (by decide);have Hc0:=hIh (fun W=>lcutpre_eq W s (textsT.getD 0 []));change (w.alloc (.cells #[.int .i64 0,.int .i64 0] 27)).cell? ⟨2,0,none⟩ = some (.string (sb (textsT.getD 0 []))) at t0;generalize sb (textsT.getD 0 []) = F0 at t0 Hc0;have t1:=G2.txt 1 (by decide);have Hc1:=hIh (fun W=>lcutpre_eq W s (textsT.getD 1 []));change (w.alloc (.cells #[.int .i64 0,.int .i64 0] 27)).cell? ⟨2,1,none⟩ = some (.string (sb (textsT.getD 1 []))) at t1;generalize sb (textsT.getD 1 []) = F1 at t1 Hc1;have t2:=G2.txt 2 (by decide);have Hc2:=hIh (fun W=>lcutpre_eq W s (textsT.getD 2 []));change (w.alloc (.cells #[.int .i64 0,.int .i64 0] 27)).cell? ⟨2,2,none⟩ = some (.string (sb (textsT.getD 2 []))) at t2
 generalize sb (textsT.getD 2 []) = F2 at t2 Hc2;have t3:=G2.txt 3 (by decide);have Hc3:=hIh (fun W=>lcutpre_eq W s (textsT.getD 3 []));change (w.alloc (.cells #[.int .i64 0,.int .i64 0] 27)).cell? ⟨2,3,none⟩ = some (.string (sb (textsT.getD 3 []))) at t3;generalize sb (textsT.getD 3 []) = F3 at t3 Hc3;have t4:=G2.txt 4 (by decide);have Hc4:=hIh (fun W=>lcutpre_eq W s (textsT.getD 4 []));change (w.alloc (.cells #[.int .i64 0,.int .i64 0] 27)).cell? ⟨2,4,none⟩ = some (.string (sb (textsT.getD 4 []))) at t4;generalize sb (textsT.getD 4 []) = F4 at t4 Hc4;have t5:=G2.txt 5 (by decide);have Hc5:=hIh (fun W=>lcutpre_eq W s (textsT.getD 5 []));change (w.alloc (.cells #[.int .i64 0,.int .i64 0] 27)).cell? ⟨2,5,none⟩ = some (.string (sb (textsT.getD 5 []))) at t5;generalize sb (textsT.getD 5 []) = F5 at t5 Hc5;have hcc:=cells2 Hbx.out;obtain ⟨cc0,cc1,cf0,cf1⟩:=hcc
 have hnil:∀ (a:UInt8) (r:Str),(sb (a :: r)).toList.isEmpty = false ∧ ¬ (sb (a :: r)).toList = []:=fun a r=>by rw [sb_toL];exact ⟨rfl,by simp⟩
 have Hnil:=hIh hnil;have hz:(sb []).toList = []:=sb_toL [];have hzz:(sb []).size = 0:=rfl;have Hst:Hid (BSLoop s (.int .i64 0)):=⟨0,0,by omega,rfl,rfl,fun j h _=>by omega,fun h=>by omega⟩;have Hset:=hIh (fun (k a:Int)=>((HB0.out (.cells #[.int .i64 0,.int .i64 0] 27)).setCell (p:=⟨w.heap.size,0,none⟩) (Nat.le_refl _) (.int .i64 k)).setCell (p:=⟨w.heap.size,1,none⟩) (Nat.le_refl _) (.int .i64 a));have Hfin:=hIh (fun (k a:Int)=>cells2 (blk_setCell (blk_setCell Hbx.out 0 (.int .i64 k)) 1 (.int .i64 a)));generalize hE0:sb [] = E0 at hz hzz;have HE0:=hIh hE0;generalize hS:sb s = S at *;clear G G2 hnil hE0 hS;have ha0:=fun W=>(arr6 F0 F1 F2 F3 F4 F5 W).1;have ha1:=fun W=>(arr6 F0 F1 F2 F3 F4 F5 W).2.1;have ha2:=fun W=>(arr6 F0 F1 F2 F3 F4 F5 W).2.2.1;have ha3:=fun W=>(arr6 F0 F1 F2 F3 F4 F5 W).2.2.2.1;have ha4:=fun W=>(arr6 F0 F1 F2 F3 F4 F5 W).2.2.2.2.1;have ha5:=fun W=>(arr6 F0 F1 F2 F3 F4 F5 W).2.2.2.2.2
 go_enter Tryz.func97,Tryz.ntmps97;go_wp2
 go_loop [9] (fun v9=>BSLoop s v9) (fun i=>6 - (intOf i).toNat)
 case atStart=>exact Hst.out
 case round=>
  clear Hst;obtain ⟨i,k,hi,hk,rfl,hno,hend⟩:=hrel;have Hno:=hIh hno;have Hend:=hIh hend;clear hno hend
  have hcs:i = 0 ∨ i = 1 ∨ i = 2 ∨ i = 3 ∨ i = 4 ∨ i = 5 ∨ i = 6:=by omega
  rcases hcs with rfl | rfl | rfl | rfl | rfl | rfl | rfl
  ·obtain rfl:k = 0:=hk
   clear hi
   have Hk:Hid (s ≠ textsT.getD 0 [] → BSLoop s (.int .i64 (0 + 1))):=fun hne=>⟨1,1,by omega,rfl,rfl,fun j h1 h2=>by
    by_cases e:j = 0
    ·subst e;exact hne
    ·exact Hno.out j (by omega) h2,fun h=>by omega⟩
   cases hc:cutPre (textsT.getD 0 []) s with
   | none=>
    rw [hc] at Hc0;have Hk2:=hIh (Hk.out (fun e=>by have:=(scope_front 0 (by decide)).2 e;rw [hc] at this;cases this));clear Hk hc;go_wp2_with (go_at_call 124;with_reducible refine (Hc0.out _).mono ?_;rintro e w1 ⟨rfl,hw1⟩;obtain rfl:=hw1);go_round
    case rel=>exact Hk2.out
    case measure=>decide
   | some r=>
    rw [hc] at Hc0
    cases r with
    | nil=>
     have Hres:Hid (scopeS s = some (0,0)):=scope_hit 0 (by decide) ((scope_front 0 (by decide)).1 hc);have Hc:=hIh (fun W=>(show Calls Tryz.prog 124 #[.string S,.string F0] W fun e w'=>e = .returned (.tuple #[.string E0,.bool true]) ∧ w' = W from by rw [← HE0.out];exact Hc0.out W));clear Hk hc;go_wp2_with (go_at_call 124;with_reducible refine (Hc.out _).mono ?_;rintro e w1 ⟨rfl,hw1⟩;obtain rfl:=hw1);refine bodyPost_ret (v:=.tuple #[.agg #[.int .i64 0,.int .i64 0],.int .i64 0]) (by simp [results,Tryz.results97,go_sem]) rfl ⟨_,_,_,rfl,.inl ⟨(0,0),Hres.out,rfl,rfl,rfl⟩,HB0.out _⟩
    | cons a r=>
     have Hk2:=hIh (Hk.out (fun e=>by have:=(scope_front 0 (by decide)).2 e;rw [hc] at this;cases this));obtain ⟨g1,g2⟩:=Hnil.out a r;have Hc:=hIh (fun W=>(show Calls Tryz.prog 124 #[.string S,.string F0] W fun e w'=>e = .returned (.tuple #[.string (sb (a :: r)),.bool true]) ∧ w' = W from Hc0.out W));generalize sb (a :: r) = R at g1 g2 Hc;clear Hk hc;go_wp2_with (go_at_call 124;with_reducible refine (Hc.out _).mono ?_;rintro e w1 ⟨rfl,hw1⟩;obtain rfl:=hw1);go_round
     case rel=>exact Hk2.out
     case measure=>decide
  ·obtain rfl:k = 1:=hk
   clear hi
   have Hk:Hid (s ≠ textsT.getD 1 [] → BSLoop s (.int .i64 (1 + 1))):=fun hne=>⟨2,2,by omega,rfl,rfl,fun j h1 h2=>by
    by_cases e:j = 1
    ·subst e;exact hne
    ·exact Hno.out j (by omega) h2,fun h=>by omega⟩
   cases hc:cutPre (textsT.getD 1 []) s with
   | none=>
    rw [hc] at Hc1;have Hk2:=hIh (Hk.out (fun e=>by have:=(scope_front 1 (by decide)).2 e;rw [hc] at this;cases this));clear Hk hc;go_wp2_with (go_at_call 124;with_reducible refine (Hc1.out _).mono ?_;rintro e w1 ⟨rfl,hw1⟩;obtain rfl:=hw1);go_round
    case rel=>exact Hk2.out
    case measure=>decide
   | some r=>
    rw [hc] at Hc1
    cases r with
    | nil=>
     have Hres:Hid (scopeS s = some (1,0)):=scope_hit 1 (by decide) ((scope_front 1 (by decide)).1 hc);have Hc:=hIh (fun W=>(show Calls Tryz.prog 124 #[.string S,.string F1] W fun e w'=>e = .returned (.tuple #[.string E0,.bool true]) ∧ w' = W from by rw [← HE0.out];exact Hc1.out W));clear Hk hc;go_wp2_with (go_at_call 124;with_reducible refine (Hc.out _).mono ?_;rintro e w1 ⟨rfl,hw1⟩;obtain rfl:=hw1);refine bodyPost_ret (v:=.tuple #[.agg #[.int .i64 1,.int .i64 0],.int .i64 0]) (by simp [results,Tryz.results97,go_sem]) rfl ⟨_,_,_,rfl,.inl ⟨(1,0),Hres.out,rfl,rfl,rfl⟩,HB0.out _⟩
    | cons a r=>
     have Hk2:=hIh (Hk.out (fun e=>by have:=(scope_front 1 (by decide)).2 e;rw [hc] at this;cases this));obtain ⟨g1,g2⟩:=Hnil.out a r;have Hc:=hIh (fun W=>(show Calls Tryz.prog 124 #[.string S,.string F1] W fun e w'=>e = .returned (.tuple #[.string (sb (a :: r)),.bool true]) ∧ w' = W from Hc1.out W));generalize sb (a :: r) = R at g1 g2 Hc;clear Hk hc;go_wp2_with (go_at_call 124;with_reducible refine (Hc.out _).mono ?_;rintro e w1 ⟨rfl,hw1⟩;obtain rfl:=hw1);go_round
     case rel=>exact Hk2.out
     case measure=>decide
  ·obtain rfl:k = 2:=hk
   clear hi
   have Hk:Hid (s ≠ textsT.getD 2 [] → BSLoop s (.int .i64 (2 + 1))):=fun hne=>⟨3,3,by omega,rfl,rfl,fun j h1 h2=>by
    by_cases e:j = 2
    ·subst e;exact hne
    ·exact Hno.out j (by omega) h2,fun h=>by omega⟩
   cases hc:cutPre (textsT.getD 2 []) s with
   | none=>
    rw [hc] at Hc2;have Hk2:=hIh (Hk.out (fun e=>by have:=(scope_front 2 (by decide)).2 e;rw [hc] at this;cases this));clear Hk hc;go_wp2_with (go_at_call 124;with_reducible refine (Hc2.out _).mono ?_;rintro e w1 ⟨rfl,hw1⟩;obtain rfl:=hw1);go_round
    case rel=>exact Hk2.out
    case measure=>decide
   | some r=>
    rw [hc] at Hc2
    cases r with
    | nil=>
     have Hres:Hid (scopeS s = some (2,0)):=scope_hit 2 (by decide) ((scope_front 2 (by decide)).1 hc);have Hc:=hIh (fun W=>(show Calls Tryz.prog 124 #[.string S,.string F2] W fun e w'=>e = .returned (.tuple #[.string E0,.bool true]) ∧ w' = W from by rw [← HE0.out];exact Hc2.out W));clear Hk hc;go_wp2_with (go_at_call 124;with_reducible refine (Hc.out _).mono ?_;rintro e w1 ⟨rfl,hw1⟩;obtain rfl:=hw1);refine bodyPost_ret (v:=.tuple #[.agg #[.int .i64 2,.int .i64 0],.int .i64 0]) (by simp [results,Tryz.results97,go_sem]) rfl ⟨_,_,_,rfl,.inl ⟨(2,0),Hres.out,rfl,rfl,rfl⟩,HB0.out _⟩
    | cons a r=>
     have Hk2:=hIh (Hk.out (fun e=>by have:=(scope_front 2 (by decide)).2 e;rw [hc] at this;cases this));obtain ⟨g1,g2⟩:=Hnil.out a r;have Hc:=hIh (fun W=>(show Calls Tryz.prog 124 #[.string S,.string F2] W fun e w'=>e = .returned (.tuple #[.string (sb (a :: r)),.bool true]) ∧ w' = W from Hc2.out W));generalize sb (a :: r) = R at g1 g2 Hc;clear Hk hc;go_wp2_with (go_at_call 124;with_reducible refine (Hc.out _).mono ?_;rintro e w1 ⟨rfl,hw1⟩;obtain rfl:=hw1);go_round
     case rel=>exact Hk2.out
     case measure=>decide
  ·obtain rfl:k = 3:=hk
   clear hi
   have Hk:Hid (s ≠ textsT.getD 3 [] → BSLoop s (.int .i64 (3 + 1))):=fun hne=>⟨4,4,by omega,rfl,rfl,fun j h1 h2=>by
    by_cases e:j = 3
    ·subst e;exact hne
    ·exact Hno.out j (by omega) h2,fun h=>by omega⟩
   cases hc:cutPre (textsT.getD 3 []) s with
   | none=>
    rw [hc] at Hc3;have Hk2:=hIh (Hk.out (fun e=>by have:=(scope_front 3 (by decide)).2 e;rw [hc] at this;cases this));clear Hk hc;go_wp2_with (go_at_call 124;with_reducible refine (Hc3.out _).mono ?_;rintro e w1 ⟨rfl,hw1⟩;obtain rfl:=hw1);go_round
    case rel=>exact Hk2.out
    case measure=>decide
   | some r=>
    rw [hc] at Hc3
    cases r with
    | nil=>
     have Hres:Hid (scopeS s = some (3,0)):=scope_hit 3 (by decide) ((scope_front 3 (by decide)).1 hc);have Hc:=hIh (fun W=>(show Calls Tryz.prog 124 #[.string S,.string F3] W fun e w'=>e = .returned (.tuple #[.string E0,.bool true]) ∧ w' = W from by rw [← HE0.out];exact Hc3.out W));clear Hk hc;go_wp2_with (go_at_call 124;with_reducible refine (Hc.out _).mono ?_;rintro e w1 ⟨rfl,hw1⟩;obtain rfl:=hw1);refine bodyPost_ret (v:=.tuple #[.agg #[.int .i64 3,.int .i64 0],.int .i64 0]) (by simp [results,Tryz.results97,go_sem]) rfl ⟨_,_,_,rfl,.inl ⟨(3,0),Hres.out,rfl,rfl,rfl⟩,HB0.out _⟩
    | cons a r=>
     have Hk2:=hIh (Hk.out (fun e=>by have:=(scope_front 3 (by decide)).2 e;rw [hc] at this;cases this));obtain ⟨g1,g2⟩:=Hnil.out a r;have Hc:=hIh (fun W=>(show Calls Tryz.prog 124 #[.string S,.string F3] W fun e w'=>e = .returned (.tuple #[.string (sb (a :: r)),.bool true]) ∧ w' = W from Hc3.out W));generalize sb (a :: r) = R at g1 g2 Hc;clear Hk hc;go_wp2_with (go_at_call 124;with_reducible refine (Hc.out _).mono ?_;rintro e w1 ⟨rfl,hw1⟩;obtain rfl:=hw1);go_round
     case rel=>exact Hk2.out
     case measure=>decide
  ·obtain rfl:k = 4:=hk
   clear hi
   have Hk:Hid (s ≠ textsT.getD 4 [] → BSLoop s (.int .i64 (4 + 1))):=fun hne=>⟨5,5,by omega,rfl,rfl,fun j h1 h2=>by
    by_cases e:j = 4
    ·subst e;exact hne
    ·exact Hno.out j (by omega) h2,fun h=>by omega⟩
   cases hc:cutPre (textsT.getD 4 []) s with
   | none=>
    rw [hc] at Hc4;have Hk2:=hIh (Hk.out (fun e=>by have:=(scope_front 4 (by decide)).2 e;rw [hc] at this;cases this));clear Hk hc;go_wp2_with (go_at_call 124;with_reducible refine (Hc4.out _).mono ?_;rintro e w1 ⟨rfl,hw1⟩;obtain rfl:=hw1);go_round
    case rel=>exact Hk2.out
    case measure=>decide
   | some r=>
    rw [hc] at Hc4
    cases r with
    | nil=>
     have Hres:Hid (scopeS s = some (4,0)):=scope_hit 4 (by decide) ((scope_front 4 (by decide)).1 hc);have Hc:=hIh (fun W=>(show Calls Tryz.prog 124 #[.string S,.string F4] W fun e w'=>e = .returned (.tuple #[.string E0,.bool true]) ∧ w' = W from by rw [← HE0.out];exact Hc4.out W));clear Hk hc;go_wp2_with (go_at_call 124;with_reducible refine (Hc.out _).mono ?_;rintro e w1 ⟨rfl,hw1⟩;obtain rfl:=hw1);refine bodyPost_ret (v:=.tuple #[.agg #[.int .i64 4,.int .i64 0],.int .i64 0]) (by simp [results,Tryz.results97,go_sem]) rfl ⟨_,_,_,rfl,.inl ⟨(4,0),Hres.out,rfl,rfl,rfl⟩,HB0.out _⟩
    | cons a r=>
     have Hk2:=hIh (Hk.out (fun e=>by have:=(scope_front 4 (by decide)).2 e;rw [hc] at this;cases this));obtain ⟨g1,g2⟩:=Hnil.out a r;have Hc:=hIh (fun W=>(show Calls Tryz.prog 124 #[.string S,.string F4] W fun e w'=>e = .returned (.tuple #[.string (sb (a :: r)),.bool true]) ∧ w' = W from Hc4.out W));generalize sb (a :: r) = R at g1 g2 Hc;clear Hk hc;go_wp2_with (go_at_call 124;with_reducible refine (Hc.out _).mono ?_;rintro e w1 ⟨rfl,hw1⟩;obtain rfl:=hw1);go_round
     case rel=>exact Hk2.out
     case measure=>decide
  ·obtain rfl:k = 5:=hk
   clear hi;have H5:=hIh (scope_five (fun j hj=>Hno.out j hj hj));have Hk:Hid (scopeS s = none → BSLoop s (.int .i64 (5 + 1))):=fun hne=>⟨6,6,by omega,rfl,rfl,fun j h1 h2=>Hno.out j (by omega) h2,fun _=>hne⟩
   cases hc:cutPre (textsT.getD 5 []) s with
   | none=>
    rw [hc] at Hc5;have Hk2:=hIh (Hk.out (by rw [H5.out];rw [show ([112,114,105,111,114,105,116,121,61] : Str) = textsT.getD 5 [] from rfl,hc]));clear Hk hc;go_wp2_with (go_at_call 124;with_reducible refine (Hc5.out _).mono ?_;rintro e w1 ⟨rfl,hw1⟩;obtain rfl:=hw1);go_round
    case rel=>exact Hk2.out
    case measure=>decide
   | some r=>
    rw [hc] at Hc5;have hc' : cutPre [112,114,105,111,114,105,116,121,61] s = some r:=hc
    match r,hc,hc' with
    | [],hc,hc'=>
     have Hk2:=hIh (Hk.out (by rw [H5.out,hc']));have Hc:=hIh (fun W=>(show Calls Tryz.prog 124 #[.string S,.string F5] W fun e w'=>e = .returned (.tuple #[.string E0,.bool true]) ∧ w' = W from by rw [← HE0.out];exact Hc5.out W));clear Hk hc hc' H5;go_wp2_with (go_at_call 124;with_reducible refine (Hc.out _).mono ?_;rintro e w1 ⟨rfl,hw1⟩;obtain rfl:=hw1);go_round
     case rel=>exact Hk2.out
     case measure=>decide
    | [d],hc,hc'=>
     have Hc:=hIh (fun W=>(show Calls Tryz.prog 124 #[.string S,.string F5] W fun e w'=>e = .returned (.tuple #[.string (sb [d]),.bool true]) ∧ w' = W from Hc5.out W));have hix:∀ W,(Instr.index 9 (.string (sb [d])) (.int .i64 0)).run Tryz.prog W = .ok (.int .u8 (d.toNat:Int)) W:=fun W=>run_ix W [d] 0 d rfl;have hsz:(sb [d]).size = 1:=rfl
     by_cases hd:isDg d = true
     ·have Hres:Hid (scopeS s = some (5,d.toNat - 48)):=by show _ = _;rw [H5.out,hc'];simp only [hd,if_true]
      have hdd:48 ≤ d.toNat ∧ d.toNat ≤ 57:=by
       simp only [isDg,Bool.and_eq_true,decide_eq_true_eq,UInt8.le_iff_toNat_le] at hd;exact hd
      generalize d.toNat = n at hix Hres hdd;generalize sb [d] = D at Hc hix hsz;obtain ⟨m,hm⟩ : ∃ m,m = n - 48:=⟨_,rfl⟩;have hmi:(n:Int) - 48 = (m:Int):=(by omega);have Hmi:=hIh hmi;rw [← hm] at Hres;have g1:decide ((48:Int) ≤ n) = true:=decide_eq_true (by omega);have g2:decide ((n:Int) ≤ 57) = true:=decide_eq_true (by omega);obtain ⟨hd1,hd2⟩:=hdd;clear Hk hc hc' H5 hd hm hmi;go_wp2_with (go_at_call 124;with_reducible refine (Hc.out _).mono ?_;rintro e w1 ⟨rfl,hw1⟩;obtain rfl:=hw1);refine bodyPost_ret (v:=.tuple #[.agg #[.int .i64 5,.int .i64 ((n:Int) - 48)],.int .i64 0]) (by simp [results,Tryz.results97,go_sem]) rfl ⟨_,_,_,rfl,.inl ⟨(5,m),Hres.out,rfl,Hmi.out,rfl⟩,HB0.out _⟩
     ·have Hk2:=hIh (Hk.out (by rw [H5.out,hc'];simp only;rw [if_neg hd]))
      have hnd:¬ (48 ≤ d.toNat ∧ d.toNat ≤ 57):=fun h=>hd (by simp only [isDg,Bool.and_eq_true,decide_eq_true_eq,UInt8.le_iff_toNat_le];exact h);generalize d.toNat = n at hix hnd;generalize sb [d] = D at Hc hix hsz;clear Hk hc hc' H5 hd
      by_cases g:48 ≤ n
      ·have g1:decide ((48:Int) ≤ n) = true:=decide_eq_true (by omega)
       have g2:decide ((n:Int) ≤ 57) = false:=decide_eq_false (by omega);clear hnd;go_wp2_with (go_at_call 124;with_reducible refine (Hc.out _).mono ?_;rintro e w1 ⟨rfl,hw1⟩;obtain rfl:=hw1);go_round
       case rel=>exact Hk2.out
       case measure=>decide
      ·have g1:decide ((48:Int) ≤ n) = false:=decide_eq_false (by omega)
       clear hnd;go_wp2_with (go_at_call 124;with_reducible refine (Hc.out _).mono ?_;rintro e w1 ⟨rfl,hw1⟩;obtain rfl:=hw1);go_round
       case rel=>exact Hk2.out
       case measure=>decide
    | a :: b :: r,hc,hc'=>
     have Hk2:=hIh (Hk.out (by rw [H5.out,hc']));have Hc:=hIh (fun W=>(show Calls Tryz.prog 124 #[.string S,.string F5] W fun e w'=>e = .returned (.tuple #[.string (sb (a :: b :: r)),.bool true]) ∧ w' = W from Hc5.out W));have hsz:(sb (a :: b :: r)).size = r.length + 2:=(by rw [sb_size];rfl);have hszb:(((r.length + 2:Nat):Int) == 1) = false:=(by simp;omega);have hszb2:(((r.length:Int) + 2) == 1) = false:=(by simp;omega);generalize sb (a :: b :: r) = D at Hc hsz;clear Hk hc hc' H5;go_wp2_with (go_at_call 124;with_reducible refine (Hc.out _).mono ?_;rintro e w1 ⟨rfl,hw1⟩;obtain rfl:=hw1);go_round
     case rel=>exact Hk2.out
     case measure=>decide
  ·obtain rfl:k = 6:=hk
   have Hres:=hIh (Hend.out rfl);clear hi;go_wp2;refine bodyPost_ret (v:=.tuple #[.agg #[.int .i64 0,.int .i64 0],.int .i64 150]) (by simp [results,Tryz.results97,go_sem]) rfl ⟨_,_,_,rfl,.inr ⟨Hres.out,by decide⟩,HB0.out _⟩
def ncN (n:Nat):Bool:=(decide (97 ≤ n) && decide (n ≤ 122)) || (decide (48 ≤ n) && decide (n ≤ 57)) || decide (n = 45)
theorem nc_eq (c:UInt8):isNc c = ncN c.toNat:=by
 unfold isNc ncN
 have h:(c == 45) = decide (c.toNat = 45):=by
  rw [Bool.eq_iff_iff];simp only [beq_iff_eq,decide_eq_true_eq]
  constructor
  ·rintro rfl;rfl
  ·intro e;exact UInt8.toNat_inj.1 e
 rw [h];simp only [UInt8.le_iff_toNat_le]
 rfl
theorem nm_long {s:Str} (h:32 < s.length):isNm s = false:=by
 have:decide (s.length ≤ 32) = false:=decide_eq_false (by omega);simp [isNm,this]
theorem nm_first {s:Str} (h:s[0]? = some 45):isNm s = false:=by
 have h2:s.head? = some 45:=by rw [← h];cases s <;> rfl
 simp [isNm,h2]
theorem nm_last {s:Str} (h:s[s.length - 1]? = some 45):isNm s = false:=by
 have h2:s.getLast? = some 45:=by rw [List.getLast?_eq_getElem?,h]
 simp [isNm,h2]
theorem nm_bad {s:Str} {c:UInt8} {i:Nat} (h:s[i]? = some c) (hc:isNc c = false):isNm s = false:=by
 cases hh:isNm s with
 | false=>rfl
 | true=>
  simp only [isNm,Bool.and_eq_true] at hh;have:=List.all_eq_true.1 hh.2 c (List.mem_of_getElem? h);rw [hc] at this;cases this
theorem nm_ok {s:Str} (h0:s ≠ []) (h1:s.length ≤ 32) (h2:s[0]? ≠ some 45) (h3:s[s.length - 1]? ≠ some 45) (h4:∀ (i:Nat) (c:UInt8),s[i]? = some c → isNc c = true):isNm s = true:=by
 have e1:s.head? ≠ some 45:=fun e=>h2 (by rw [← e];cases s <;> rfl);have e2:s.getLast? ≠ some 45:=fun e=>h3 (by rw [← e,List.getLast?_eq_getElem?])
 have e3:s.all isNc = true:=List.all_eq_true.2 fun c hc=>by
  obtain ⟨i,hi⟩:=List.mem_iff_getElem?.1 hc;exact h4 i c hi
 simp [isNm,h0,h1,e1,e2,e3]
def NmLoop (l:Str) (v3:Value):Prop := ∃ i:Nat,i ≤ l.length ∧ v3 = .int .i64 i ∧ ∀ (j:Nat) (c:UInt8),j < i → l[j]? = some c → isNc c = true
theorem rname_calls (w:World) (l:Str):Calls Tryz.prog 187 #[.string (sb l)] w fun e w'=>e = .returned (.bool (isNm l)) ∧ w' = w:=by
 have hsz:(sb l).size = l.length:=sb_size l;have Hix:Hid (∀ (i:Nat) (c:UInt8) W,l[i]? = some c → (Instr.index 9 (.string (sb l)) (.int .i64 (i:Int))).run Tryz.prog W = .ok (.int .u8 (c.toNat:Int)) W):=fun i c W h=>run_ix W l i c h;generalize hS:sb l = S at hsz Hix;have HS:=hIh hS;clear hS
 by_cases h0:l.length < 1
 ·have hn:isNm l = false:=by rw [List.length_eq_zero_iff.1 (by omega:l.length = 0)];rfl
  rw [hn]
  have g:(l.length:Int) < 1:=by omega
  have gb:decide ((l.length:Int) < 1) = true:=decide_eq_true g;clear hn h0;go_enter Tryz.func187,Tryz.ntmps187;go_wp2;go_ret;exact ⟨rfl,rfl⟩
 have q0:¬ (l.length:Int) < 1:=by omega
 have q0b:decide ((l.length:Int) < 1) = false:=decide_eq_false q0
 by_cases h1:32 < l.length
 ·rw [nm_long h1]
  have g:32 < (l.length:Int):=by omega
  have gb:decide (32 < (l.length:Int)) = true:=decide_eq_true g;clear h1 h0;go_enter Tryz.func187,Tryz.ntmps187;go_wp2;go_ret;exact ⟨rfl,rfl⟩
 have q1:¬ 32 < (l.length:Int):=by omega
 have q1b:decide (32 < (l.length:Int)) = false:=decide_eq_false q1;obtain ⟨c0,hc0⟩ : ∃ c,l[0]? = some c:=⟨l[0]'(by omega),by simp [show 0 < l.length by omega]⟩;obtain ⟨c1,hc1⟩ : ∃ c,l[l.length - 1]? = some c:=⟨l[l.length - 1]'(by omega),by simp [show l.length - 1 < l.length by omega]⟩;have hx0:∀ W,(Instr.index 9 (.string S) (.int .i64 0)).run Tryz.prog W = .ok (.int .u8 (c0.toNat:Int)) W:=fun W=>Hix.out 0 c0 W hc0
 have hx1:∀ W,(Instr.index 9 (.string S) (.int .i64 ((l.length:Int) - 1))).run Tryz.prog W = .ok (.int .u8 (c1.toNat:Int)) W:=fun W=>by
  have:=Hix.out (l.length - 1) c1 W hc1
  rwa [show ((l.length - 1:Nat):Int) = (l.length:Int) - 1 by omega] at this
 have Hc0:=hIh hc0;have Hc1:=hIh hc1;clear hc0 hc1
 by_cases h2:c0.toNat = 45
 ·have hn:isNm l = false:=nm_first (by rw [Hc0.out,UInt8.toNat_inj.1 (show c0.toNat = (45:UInt8).toNat from h2)])
  rw [hn]
  have g:((c0.toNat:Int) == 45) = true:=by simp;omega
  clear hn h0 h1;generalize c0.toNat = n0 at *;go_enter Tryz.func187,Tryz.ntmps187;go_wp2;go_ret;exact ⟨rfl,rfl⟩
 have q2:((c0.toNat:Int) == 45) = false:=by simp;omega
 by_cases h3:c1.toNat = 45
 ·have hn:isNm l = false:=nm_last (by rw [Hc1.out,UInt8.toNat_inj.1 (show c1.toNat = (45:UInt8).toNat from h3)])
  rw [hn]
  have g:((c1.toNat:Int) == 45) = true:=by simp;omega
  clear hn h0 h1 h2;go_enter Tryz.func187,Tryz.ntmps187;go_wp2;go_ret;exact ⟨rfl,rfl⟩
 have q3:((c1.toNat:Int) == 45) = false:=by simp;omega
 have Hok:Hid ((∀ (i:Nat) (c:UInt8),l[i]? = some c → isNc c = true) → isNm l = true):=fun h=>nm_ok (by intro e;rw [e] at h0;simp at h0) (by omega) (by rw [Hc0.out];intro e;cases e;exact h2 rfl) (by rw [Hc1.out];intro e;cases e;exact h3 rfl) h
 have hle:l.length ≤ 32:=by omega
 clear h0 h1 h2 h3;go_enter Tryz.func187,Tryz.ntmps187;go_wp2;have Hst:Hid (NmLoop l (.int .i64 0)):=⟨0,by omega,rfl,fun j c h=>by omega⟩;clear hx0 hx1 q0 q1 q2 q3 q0b q1b
 go_loop [3] (fun v3=>NmLoop l v3) (fun i=>l.length - (intOf i).toNat)
 case atStart=>exact Hst.out
 case round=>
  clear Hst;obtain ⟨i,hi,rfl,hno⟩:=hrel;have Hno:=hIh hno;clear hno
  by_cases hlt:i < l.length
  ·obtain ⟨c,hc⟩ : ∃ c,l[i]? = some c:=⟨l[i],by simp [hlt]⟩
   have Hc:=hIh hc;have hix:=fun W=>Hix.out i c W hc;have hli:(i:Int) < l.length:=(by omega)
   have Hnx:Hid (ncN c.toNat = true → NmLoop l (.int .i64 ((i:Int) + 1))):=fun h=>⟨i + 1,hlt,rfl,fun j c' hj hc'=>by
    by_cases e:j = i
    ·subst e;rw [Hc.out] at hc';cases hc';rw [nc_eq];exact h
    ·exact Hno.out j c' (by omega) hc'⟩
   have Hbd:Hid (ncN c.toNat = false → isNm l = false):=fun h=>nm_bad Hc.out (by rw [nc_eq];exact h);have hu:=u8_lt c;clear hc;generalize c.toNat = n at hix Hnx Hbd hu;clear Hc;rcases (by omega:(n < 45) ∨ (n = 45) ∨ (45 < n ∧ n < 48) ∨ (48 ≤ n ∧ n ≤ 57) ∨ (57 < n ∧ n < 97) ∨ (97 ≤ n ∧ n ≤ 122) ∨ (122 < n)) with hh | hh | hh | hh | hh | hh | hh
   ·have g1:decide ((97:Int) ≤ n) = false:=by simp;omega
    have g2:decide ((n:Int) ≤ 122) = true:=(by simp;omega);have g3:decide ((48:Int) ≤ n) = false:=(by simp;omega);have g4:decide ((n:Int) ≤ 57) = true:=(by simp;omega);have g5:((n:Int) == 45) = false:=(by simp;omega);have g6:((n:Int) != 45) = true:=(by simp;omega);have hb:ncN n = false:=(by unfold ncN;simp;omega);have Hk:=hIh (Hbd.out hb);clear Hnx Hbd hb hh;go_wp2;go_ret;exact ⟨by rw [Hk.out];rfl,rfl⟩
   ·have g1:decide ((97:Int) ≤ n) = false:=by simp;omega
    have g2:decide ((n:Int) ≤ 122) = true:=(by simp;omega);have g3:decide ((48:Int) ≤ n) = false:=(by simp;omega);have g4:decide ((n:Int) ≤ 57) = true:=(by simp;omega);have g5:((n:Int) == 45) = true:=(by simp;omega);have g6:((n:Int) != 45) = false:=(by simp;omega);have hb:ncN n = true:=(by unfold ncN;simp;omega);have Hk:=hIh (Hnx.out hb);clear Hnx Hbd hb hh;go_wp2;go_round
    case rel=>exact Hk.out
    case measure=>simp [intOf];omega
   ·have g1:decide ((97:Int) ≤ n) = false:=by simp;omega
    have g2:decide ((n:Int) ≤ 122) = true:=(by simp;omega);have g3:decide ((48:Int) ≤ n) = false:=(by simp;omega);have g4:decide ((n:Int) ≤ 57) = true:=(by simp;omega);have g5:((n:Int) == 45) = false:=(by simp;omega);have g6:((n:Int) != 45) = true:=(by simp;omega);have hb:ncN n = false:=(by unfold ncN;simp;omega);have Hk:=hIh (Hbd.out hb);clear Hnx Hbd hb hh;go_wp2;go_ret;exact ⟨by rw [Hk.out];rfl,rfl⟩
   ·have g1:decide ((97:Int) ≤ n) = false:=by simp;omega
    have g2:decide ((n:Int) ≤ 122) = true:=(by simp;omega);have g3:decide ((48:Int) ≤ n) = true:=(by simp;omega);have g4:decide ((n:Int) ≤ 57) = true:=(by simp;omega);have g5:((n:Int) == 45) = false:=(by simp;omega);have g6:((n:Int) != 45) = true:=(by simp;omega);have hb:ncN n = true:=(by unfold ncN;simp;omega);have Hk:=hIh (Hnx.out hb);clear Hnx Hbd hb hh;go_wp2;go_round
    case rel=>exact Hk.out
    case measure=>simp [intOf];omega
   ·have g1:decide ((97:Int) ≤ n) = false:=by simp;omega
    have g2:decide ((n:Int) ≤ 122) = true:=(by simp;omega);have g3:decide ((48:Int) ≤ n) = true:=(by simp;omega);have g4:decide ((n:Int) ≤ 57) = false:=(by simp;omega);have g5:((n:Int) == 45) = false:=(by simp;omega);have g6:((n:Int) != 45) = true:=(by simp;omega);have hb:ncN n = false:=(by unfold ncN;simp;omega);have Hk:=hIh (Hbd.out hb);clear Hnx Hbd hb hh;go_wp2;go_ret;exact ⟨by rw [Hk.out];rfl,rfl⟩
   ·have g1:decide ((97:Int) ≤ n) = true:=by simp;omega
    have g2:decide ((n:Int) ≤ 122) = true:=(by simp;omega);have g3:decide ((48:Int) ≤ n) = true:=(by simp;omega);have g4:decide ((n:Int) ≤ 57) = false:=(by simp;omega);have g5:((n:Int) == 45) = false:=(by simp;omega);have g6:((n:Int) != 45) = true:=(by simp;omega);have hb:ncN n = true:=(by unfold ncN;simp;omega);have Hk:=hIh (Hnx.out hb);clear Hnx Hbd hb hh;go_wp2;go_round
    case rel=>exact Hk.out
    case measure=>simp [intOf];omega
   ·have g1:decide ((97:Int) ≤ n) = true:=by simp;omega
    have g2:decide ((n:Int) ≤ 122) = false:=(by simp;omega);have g3:decide ((48:Int) ≤ n) = true:=(by simp;omega);have g4:decide ((n:Int) ≤ 57) = false:=(by simp;omega);have g5:((n:Int) == 45) = false:=(by simp;omega);have g6:((n:Int) != 45) = true:=(by simp;omega);have hb:ncN n = false:=(by unfold ncN;simp;omega);have Hk:=hIh (Hbd.out hb);clear Hnx Hbd hb hh;go_wp2;go_ret;exact ⟨by rw [Hk.out];rfl,rfl⟩
  ·have hli:¬ (i:Int) < l.length:=by omega
   have Hk:Hid (isNm l = true):=Hok.out fun j c hc=>Hno.out j c (by have:=(List.getElem?_eq_some_iff.1 hc).1;omega) hc;clear hi;go_wp2;go_ret;exact ⟨by rw [Hk.out];rfl,rfl⟩
def plN (n:Int):Bool:=(decide (97 ≤ n) && decide (n ≤ 122)) || (decide (48 ≤ n) && decide (n ≤ 57))
theorem plain_calls (w:World) (n:Nat):Calls Tryz.prog 207 #[.int .i32 (n:Int)] w fun e w'=>e = .returned (.bool (plN n)) ∧ w' = w:=by
 rcases (by omega:n < 48 ∨ (48 ≤ n ∧ n ≤ 57) ∨ (57 < n ∧ n < 97) ∨ (97 ≤ n ∧ n ≤ 122) ∨ 122 < n) with hh | hh | hh | hh | hh
 ·have g1:decide ((97:Int) ≤ n) = false:=by simp;omega
  have g2:decide ((n:Int) ≤ 122) = true:=by simp;omega
  have g3:decide ((48:Int) ≤ n) = false:=by simp;omega
  have g4:decide ((n:Int) ≤ 57) = true:=by simp;omega
  have hb:plN n = false:=by unfold plN;simp;omega
  rw [hb];clear hb hh;go_enter Tryz.func207,Tryz.ntmps207;go_wp2;go_ret;exact ⟨rfl,rfl⟩
 ·have g1:decide ((97:Int) ≤ n) = false:=by simp;omega
  have g2:decide ((n:Int) ≤ 122) = true:=by simp;omega
  have g3:decide ((48:Int) ≤ n) = true:=by simp;omega
  have g4:decide ((n:Int) ≤ 57) = true:=by simp;omega
  have hb:plN n = true:=by unfold plN;simp;omega
  rw [hb];clear hb hh;go_enter Tryz.func207,Tryz.ntmps207;go_wp2;go_ret;exact ⟨rfl,rfl⟩
 ·have g1:decide ((97:Int) ≤ n) = false:=by simp;omega
  have g2:decide ((n:Int) ≤ 122) = true:=by simp;omega
  have g3:decide ((48:Int) ≤ n) = true:=by simp;omega
  have g4:decide ((n:Int) ≤ 57) = false:=by simp;omega
  have hb:plN n = false:=by unfold plN;simp;omega
  rw [hb];clear hb hh;go_enter Tryz.func207,Tryz.ntmps207;go_wp2;go_ret;exact ⟨rfl,rfl⟩
 ·have g1:decide ((97:Int) ≤ n) = true:=by simp;omega
  have g2:decide ((n:Int) ≤ 122) = true:=by simp;omega
  have g3:decide ((48:Int) ≤ n) = true:=by simp;omega
  have g4:decide ((n:Int) ≤ 57) = false:=by simp;omega
  have hb:plN n = true:=by unfold plN;simp;omega
  rw [hb];clear hb hh;go_enter Tryz.func207,Tryz.ntmps207;go_wp2;go_ret;exact ⟨rfl,rfl⟩
 ·have g1:decide ((97:Int) ≤ n) = true:=by simp;omega
  have g2:decide ((n:Int) ≤ 122) = false:=by simp;omega
  have g3:decide ((48:Int) ≤ n) = true:=by simp;omega
  have g4:decide ((n:Int) ≤ 57) = false:=by simp;omega
  have hb:plN n = false:=by unfold plN;simp;omega
  rw [hb];clear hb hh;go_enter Tryz.func207,Tryz.ntmps207;go_wp2;go_ret;exact ⟨rfl,rfl⟩
def NmWLoop (w:World) (l:Str) (wr:World):Prop := ∃ i:Nat,i ≤ l.length ∧ wr = w.iter (sb l) i ∧ ∀ (j:Nat) (c:UInt8),j < i → l[j]? = some c → isNc c = true
theorem next_low (w:World) (l:Str) (i:Nat) (c:UInt8) (h:l[i]? = some c) (ha:c.toNat < 128) (ty:TypeId):(Instr.next (.pointer (some ⟨w.heap.size,0,none⟩)) true ty).run Tryz.prog (w.iter (sb l) i) = .ok (.tuple #[.bool true,.int .i64 i,.int .i32 (c.toNat:Int)]) (w.iter (sb l) (i + 1)):=by
 obtain ⟨hlt,rfl⟩:=List.getElem?_eq_some_iff.1 h;exact run_next_ascii w (sb l) i ty (by rw [sb_size];exact hlt) ha
theorem next_high (w:World) (l:Str) (i:Nat) (c:UInt8) (h:l[i]? = some c) (ha:128 ≤ c.toNat):∃ n j:Nat,128 ≤ n ∧ n ≤ 2147483647 ∧ ∀ ty,(Instr.next (.pointer (some ⟨w.heap.size,0,none⟩)) true ty).run Tryz.prog (w.iter (sb l) i) = .ok (.tuple #[.bool true,.int .i64 i,.int .i32 (n:Int)]) (w.iter (sb l) j):=by
 obtain ⟨hlt,rfl⟩:=List.getElem?_eq_some_iff.1 h
 have hs:i < (sb l).size:=by rw [sb_size];exact hlt
 exact ⟨_,_,(decode_high (sb l) i hs ha).1,decode_le _ _,fun ty=>run_next_any w (sb l) i ty hs⟩
theorem iter_bel (w:World) (s:ByteArray) (i:Nat):Below w.heap.size w (w.iter s i):=(Below.refl _ _).alloc (Nat.le_refl _) _
theorem bname_calls (w:World) (l:Str):Calls Tryz.prog 199 #[.string (sb l)] w fun e w'=>e = .returned (.bool (isNm l)) ∧ Below w.heap.size w w':=by
 have hsz:(sb l).size = l.length:=sb_size l;have Hix:Hid (∀ (i:Nat) (c:UInt8) W,l[i]? = some c → (Instr.index 9 (.string (sb l)) (.int .i64 (i:Int))).run Tryz.prog W = .ok (.int .u8 (c.toNat:Int)) W):=fun i c W h=>run_ix W l i c h;generalize hS:sb l = S at hsz Hix;have HS:=hIh hS;clear hS
 by_cases h0:l.length < 1
 ·have hn:isNm l = false:=by rw [List.length_eq_zero_iff.1 (by omega:l.length = 0)];rfl
  rw [hn]
  have g:(l.length:Int) < 1:=by omega
  have gb:decide ((l.length:Int) < 1) = true:=decide_eq_true g;clear hn h0;go_enter Tryz.func199,Tryz.ntmps199;go_wp2;go_ret;exact ⟨rfl,Below.refl _ _⟩
 have q0:¬ (l.length:Int) < 1:=by omega
 have q0b:decide ((l.length:Int) < 1) = false:=decide_eq_false q0
 by_cases h1:32 < l.length
 ·rw [nm_long h1]
  have g:32 < (l.length:Int):=by omega
  have gb:decide (32 < (l.length:Int)) = true:=decide_eq_true g;clear h1 h0;go_enter Tryz.func199,Tryz.ntmps199;go_wp2;go_ret;exact ⟨rfl,Below.refl _ _⟩
 have q1:¬ 32 < (l.length:Int):=by omega
 have q1b:decide (32 < (l.length:Int)) = false:=decide_eq_false q1;obtain ⟨c0,hc0⟩ : ∃ c,l[0]? = some c:=⟨l[0]'(by omega),by simp [show 0 < l.length by omega]⟩;obtain ⟨c1,hc1⟩ : ∃ c,l[l.length - 1]? = some c:=⟨l[l.length - 1]'(by omega),by simp [show l.length - 1 < l.length by omega]⟩;have hx0:∀ W,(Instr.index 9 (.string S) (.int .i64 0)).run Tryz.prog W = .ok (.int .u8 (c0.toNat:Int)) W:=fun W=>Hix.out 0 c0 W hc0
 have hx1:∀ W,(Instr.index 9 (.string S) (.int .i64 ((l.length:Int) - 1))).run Tryz.prog W = .ok (.int .u8 (c1.toNat:Int)) W:=fun W=>by
  have:=Hix.out (l.length - 1) c1 W hc1
  rwa [show ((l.length - 1:Nat):Int) = (l.length:Int) - 1 by omega] at this
 have Hc0:=hIh hc0;have Hc1:=hIh hc1;clear hc0 hc1
 by_cases h2:c0.toNat = 45
 ·have hn:isNm l = false:=nm_first (by rw [Hc0.out,UInt8.toNat_inj.1 (show c0.toNat = (45:UInt8).toNat from h2)])
  rw [hn]
  have g:((c0.toNat:Int) == 45) = true:=by simp;omega
  clear hn h0 h1;generalize c0.toNat = n0 at *;go_enter Tryz.func199,Tryz.ntmps199;go_wp2;go_ret;exact ⟨rfl,Below.refl _ _⟩
 have q2:((c0.toNat:Int) == 45) = false:=by simp;omega
 by_cases h3:c1.toNat = 45
 ·have hn:isNm l = false:=nm_last (by rw [Hc1.out,UInt8.toNat_inj.1 (show c1.toNat = (45:UInt8).toNat from h3)])
  rw [hn]
  have g:((c1.toNat:Int) == 45) = true:=by simp;omega
  clear hn h0 h1 h2;go_enter Tryz.func199,Tryz.ntmps199;go_wp2;go_ret;exact ⟨rfl,Below.refl _ _⟩
 have q3:((c1.toNat:Int) == 45) = false:=by simp;omega
 have Hok:Hid ((∀ (i:Nat) (c:UInt8),l[i]? = some c → isNc c = true) → isNm l = true):=fun h=>nm_ok (by intro e;rw [e] at h0;simp at h0) (by omega) (by rw [Hc0.out];intro e;cases e;exact h2 rfl) (by rw [Hc1.out];intro e;cases e;exact h3 rfl) h
 have hle:l.length ≤ 32:=by omega
 clear h0 h1 h2 h3;go_enter Tryz.func199,Tryz.ntmps199;go_wp2;have Hst:Hid (NmWLoop w l (w.iter S 0)):=⟨0,by omega,by rw [HS.out],fun j c h=>by omega⟩;have HSz:=hIh hsz;clear hx0 hx1 q0 q1 q2 q3 q0b q1b hsz
 go_loopw [4] (fun _ wr=>NmWLoop w l wr) (fun _ wr=>l.length - wr.iterPos w.heap.size)
 case atStart=>exact Hst.out
 case round=>
  clear Hst;obtain ⟨i,hi,rfl,hno⟩:=hrel;have Hno:=hIh hno;clear hno
  by_cases hlt:i < l.length
  ·obtain ⟨c,hc⟩ : ∃ c,l[i]? = some c:=⟨l[i],by simp [hlt]⟩
   have Hc:=hIh hc
   have Hnx:Hid (ncN c.toNat = true → NmWLoop w l (w.iter (sb l) (i + 1))):=fun h=>⟨i + 1,hlt,rfl,fun j c' hj hc'=>by
    by_cases e:j = i
    ·subst e;rw [Hc.out] at hc';cases hc';rw [nc_eq];exact h
    ·exact Hno.out j c' (by omega) hc'⟩
   have Hbd:Hid (ncN c.toNat = false → isNm l = false):=fun h=>nm_bad Hc.out (by rw [nc_eq];exact h);have hu:=u8_lt c
   by_cases ha:c.toNat < 128
   ·have hnx:=next_low w l i c hc ha
    have Hib:=hIh (iter_bel w (sb l) (i + 1));have Hpos:Hid (l.length - (w.iter (sb l) (i + 1)).iterPos w.heap.size < l.length - (w.iter (sb l) i).iterPos w.heap.size):=(by show _ < _;rw [World.iterPos_iter,World.iterPos_iter];omega);clear hc;generalize c.toNat = n at hnx Hnx Hbd hu ha;generalize w.iter (sb l) (i + 1) = w2 at hnx Hnx Hib Hpos;generalize w.iter (sb l) i = w1 at hnx Hpos;clear Hc;rcases (by omega:(n < 45) ∨ (n = 45) ∨ (45 < n ∧ n < 48) ∨ (48 ≤ n ∧ n ≤ 57) ∨ (57 < n ∧ n < 97) ∨ (97 ≤ n ∧ n ≤ 122) ∨ (122 < n)) with hh | hh | hh | hh | hh | hh | hh
    ·have g1:decide ((97:Int) ≤ n) = false:=by simp;omega
     have g2:decide ((n:Int) ≤ 122) = true:=(by simp;omega);have g3:decide ((48:Int) ≤ n) = false:=(by simp;omega);have g4:decide ((n:Int) ≤ 57) = true:=(by simp;omega);have g5:((n:Int) == 45) = false:=(by simp;omega);have g6:((n:Int) != 45) = true:=(by simp;omega);have hb:ncN n = false:=(by unfold ncN;simp;omega);have hp:plN n = false:=(by unfold plN;simp;omega);have Hpl:=hIh (plain_calls w2 n);rw [hp] at Hpl;have Hk:=hIh (Hbd.out hb);clear Hnx Hbd hb hh hp;go_wp2_with (go_at_call 207;with_reducible refine Hpl.out.mono ?_;rintro e w3 ⟨rfl,hw3⟩;obtain rfl:=hw3);go_ret;exact ⟨by rw [Hk.out];rfl,Hib.out⟩
    ·have g1:decide ((97:Int) ≤ n) = false:=by simp;omega
     have g2:decide ((n:Int) ≤ 122) = true:=(by simp;omega);have g3:decide ((48:Int) ≤ n) = false:=(by simp;omega);have g4:decide ((n:Int) ≤ 57) = true:=(by simp;omega);have g5:((n:Int) == 45) = true:=(by simp;omega);have g6:((n:Int) != 45) = false:=(by simp;omega);have hb:ncN n = true:=(by unfold ncN;simp;omega);have hp:plN n = false:=(by unfold plN;simp;omega);have Hpl:=hIh (plain_calls w2 n);rw [hp] at Hpl;have Hk:=hIh (Hnx.out hb);clear Hnx Hbd hb hh hp;go_wp2_with (go_at_call 207;with_reducible refine Hpl.out.mono ?_;rintro e w3 ⟨rfl,hw3⟩;obtain rfl:=hw3);go_roundw
     case rel=>exact Hk.out
     case measure=>exact Hpos.out
    ·have g1:decide ((97:Int) ≤ n) = false:=by simp;omega
     have g2:decide ((n:Int) ≤ 122) = true:=(by simp;omega);have g3:decide ((48:Int) ≤ n) = false:=(by simp;omega);have g4:decide ((n:Int) ≤ 57) = true:=(by simp;omega);have g5:((n:Int) == 45) = false:=(by simp;omega);have g6:((n:Int) != 45) = true:=(by simp;omega);have hb:ncN n = false:=(by unfold ncN;simp;omega);have hp:plN n = false:=(by unfold plN;simp;omega);have Hpl:=hIh (plain_calls w2 n);rw [hp] at Hpl;have Hk:=hIh (Hbd.out hb);clear Hnx Hbd hb hh hp;go_wp2_with (go_at_call 207;with_reducible refine Hpl.out.mono ?_;rintro e w3 ⟨rfl,hw3⟩;obtain rfl:=hw3);go_ret;exact ⟨by rw [Hk.out];rfl,Hib.out⟩
    ·have g1:decide ((97:Int) ≤ n) = false:=by simp;omega
     have g2:decide ((n:Int) ≤ 122) = true:=(by simp;omega);have g3:decide ((48:Int) ≤ n) = true:=(by simp;omega);have g4:decide ((n:Int) ≤ 57) = true:=(by simp;omega);have g5:((n:Int) == 45) = false:=(by simp;omega);have g6:((n:Int) != 45) = true:=(by simp;omega);have hb:ncN n = true:=(by unfold ncN;simp;omega);have hp:plN n = true:=(by unfold plN;simp;omega);have Hpl:=hIh (plain_calls w2 n);rw [hp] at Hpl;have Hk:=hIh (Hnx.out hb);clear Hnx Hbd hb hh hp;go_wp2_with (go_at_call 207;with_reducible refine Hpl.out.mono ?_;rintro e w3 ⟨rfl,hw3⟩;obtain rfl:=hw3);go_roundw
     case rel=>exact Hk.out
     case measure=>exact Hpos.out
    ·have g1:decide ((97:Int) ≤ n) = false:=by simp;omega
     have g2:decide ((n:Int) ≤ 122) = true:=(by simp;omega);have g3:decide ((48:Int) ≤ n) = true:=(by simp;omega);have g4:decide ((n:Int) ≤ 57) = false:=(by simp;omega);have g5:((n:Int) == 45) = false:=(by simp;omega);have g6:((n:Int) != 45) = true:=(by simp;omega);have hb:ncN n = false:=(by unfold ncN;simp;omega);have hp:plN n = false:=(by unfold plN;simp;omega);have Hpl:=hIh (plain_calls w2 n);rw [hp] at Hpl;have Hk:=hIh (Hbd.out hb);clear Hnx Hbd hb hh hp;go_wp2_with (go_at_call 207;with_reducible refine Hpl.out.mono ?_;rintro e w3 ⟨rfl,hw3⟩;obtain rfl:=hw3);go_ret;exact ⟨by rw [Hk.out];rfl,Hib.out⟩
    ·have g1:decide ((97:Int) ≤ n) = true:=by simp;omega
     have g2:decide ((n:Int) ≤ 122) = true:=(by simp;omega);have g3:decide ((48:Int) ≤ n) = true:=(by simp;omega);have g4:decide ((n:Int) ≤ 57) = false:=(by simp;omega);have g5:((n:Int) == 45) = false:=(by simp;omega);have g6:((n:Int) != 45) = true:=(by simp;omega);have hb:ncN n = true:=(by unfold ncN;simp;omega);have hp:plN n = true:=(by unfold plN;simp;omega);have Hpl:=hIh (plain_calls w2 n);rw [hp] at Hpl;have Hk:=hIh (Hnx.out hb);clear Hnx Hbd hb hh hp;go_wp2_with (go_at_call 207;with_reducible refine Hpl.out.mono ?_;rintro e w3 ⟨rfl,hw3⟩;obtain rfl:=hw3);go_roundw
     case rel=>exact Hk.out
     case measure=>exact Hpos.out
    ·have g1:decide ((97:Int) ≤ n) = true:=by simp;omega
     have g2:decide ((n:Int) ≤ 122) = false:=(by simp;omega);have g3:decide ((48:Int) ≤ n) = true:=(by simp;omega);have g4:decide ((n:Int) ≤ 57) = false:=(by simp;omega);have g5:((n:Int) == 45) = false:=(by simp;omega);have g6:((n:Int) != 45) = true:=(by simp;omega);have hb:ncN n = false:=(by unfold ncN;simp;omega);have hp:plN n = false:=(by unfold plN;simp;omega);have Hpl:=hIh (plain_calls w2 n);rw [hp] at Hpl;have Hk:=hIh (Hbd.out hb);clear Hnx Hbd hb hh hp;go_wp2_with (go_at_call 207;with_reducible refine Hpl.out.mono ?_;rintro e w3 ⟨rfl,hw3⟩;obtain rfl:=hw3);go_ret;exact ⟨by rw [Hk.out];rfl,Hib.out⟩
   ·obtain ⟨n,j,hn1,hn2,hnx⟩:=next_high w l i c hc (by omega)
    have Hk:Hid (isNm l = false):=Hbd.out (by unfold ncN;simp;omega);have Hib:=hIh (iter_bel w (sb l) j);have hp:plN n = false:=(by unfold plN;simp;omega);generalize w.iter (sb l) j = w2 at hnx Hib;generalize w.iter (sb l) i = w1 at hnx;have Hpl:=hIh (plain_calls w2 n);rw [hp] at Hpl;have g5:((n:Int) == 45) = false:=(by simp;omega);have g6:((n:Int) != 45) = true:=(by simp;omega);clear Hnx Hbd hp hc Hc ha hu;go_wp2_with (go_at_call 207;with_reducible refine Hpl.out.mono ?_;rintro e w3 ⟨rfl,hw3⟩;obtain rfl:=hw3);go_ret;exact ⟨by rw [Hk.out];rfl,Hib.out⟩
  ·have Hk:Hid (isNm l = true):=Hok.out fun j c hc=>Hno.out j c (by have:=(List.getElem?_eq_some_iff.1 hc).1;omega) hc
   have Hib:=hIh (iter_bel w (sb l) i);have hnx:=fun ty=>run_next_end (P:=Tryz.prog) w (sb l) i ty (by rw [sb_size];exact hlt);generalize w.iter (sb l) i = w1 at hnx Hib;clear hi;go_wp2;go_ret;exact ⟨by rw [Hk.out];rfl,Hib.out⟩
end Go.Proofs.YtpfkkagkbneilaaGreatDoor
