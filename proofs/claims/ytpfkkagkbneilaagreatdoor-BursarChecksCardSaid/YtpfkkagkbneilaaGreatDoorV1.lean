/- Texts A0, D1, D2, D3, D4 of the proof of BursarChecks, joined. -/
import Derived.Test.YtpfkkagkbneilaaGreatDoorProg
import Derived.WalkKit
import Derived.Lib.Hide
import Derived.Lib.AppendStr
import Derived.Deep.QuietTactic
import Derived.BigQuiet
import Derived.KernelRfl
import Derived.Deep.Draws
import Derived.Laws.AppendOwnNone
import Derived.Deep.RegionHeld3
import Derived.Deep.OwnRows
namespace Go.Proofs.YtpfkkagkbneilaaGreatDoor
open Go.RowKit
set_option linter.unusedVariables false
set_option linter.unusedSimpArgs false
set_option maxRecDepth 100000
set_option maxHeartbeats 25600000
theorem hIh {p:Prop} (h:p):Hid p:=Lib.hid h
structure Fr (S:Nat → Prop) (w w' : World):Prop where
 os:w'.os = w.os
 tape:w'.tape = w.tape
 output:w'.output = w.output
 size:w.heap.size ≤ w'.heap.size
 block:∀ k,k < w.heap.size → ¬ S k → w'.heap[k]? = w.heap[k]?
section
variable {S T:Nat → Prop} {w w1 w2:World}
theorem Fr.refl (S:Nat → Prop) (w:World):Fr S w w:=⟨rfl,rfl,rfl,Nat.le_refl _,fun _ _ _=>rfl⟩
theorem Fr.trans (h:Fr S w w1) (k:Fr T w1 w2) (hs:∀ k,T k → S k ∨ w.heap.size ≤ k):Fr S w w2:=
 ⟨k.os.trans h.os,k.tape.trans h.tape,k.output.trans h.output,Nat.le_trans h.size k.size,fun i hi hn=>
  (k.block i (Nat.lt_of_lt_of_le hi h.size) (fun ht=>(hs i ht).elim hn (fun h3=>by omega))).trans (h.block i hi hn)⟩
theorem Fr.mono (h:Fr S w w1) (hs:∀ k,S k → T k):Fr T w w1:=⟨h.os,h.tape,h.output,h.size,fun i hi hn=>h.block i hi (fun hk=>hn (hs i hk))⟩
theorem Fr.drew (h:Fr S w w1):Fr S w w1.drew:=⟨h.os,h.tape,h.output,h.size,h.block⟩
theorem Fr.drewN (h:Fr S w w1) (n:Nat):Fr S w (w1.drewN n):=⟨h.os,h.tape,h.output,h.size,h.block⟩
theorem Fr.of_below (h:Below w.heap.size w w1) (S:Nat → Prop):Fr S w w1:=⟨h.os,h.tape,h.output,h.size,fun k hk _=>h.block k hk⟩
theorem Fr.below (h:Fr S w w1) (k:Below w1.heap.size w1 w2):Fr S w w2:=h.trans (Fr.of_below k (fun _=>False)) (fun _ hk=>hk.elim)
theorem Fr.alloc (h:Fr S w w1) (o:Obj):Fr S w (w1.alloc o):=h.below ((Below.refl _ _).alloc (Nat.le_refl _) o)
theorem Fr.setCell (h:Fr S w w1) {p:Addr} (hp:S p.block ∨ w.heap.size ≤ p.block) (u:Value):Fr S w (w1.setCell p u):=
 h.trans (T:=fun k=>k = p.block) ⟨rfl,rfl,rfl,by simp [World.setCell],fun i _ hn=>Below.heap_setCell w1 p u i hn⟩ (fun k hk=>by rw [hk];exact hp)
theorem Fr.grown (h:Fr S w w1) {row:Option Nat} (hg:w1.grownBy w2 row) (hr:∀ k,row = some k → S k ∨ w.heap.size ≤ k):Fr S w w2:=
 h.trans (T:=fun k=>row = some k) ⟨hg.os,hg.tape,hg.output,hg.size,fun i hi hn=>hg.block i hi (fun he=>hn he.symm)⟩ hr
theorem Fr.to_below {B:Nat} (h:Fr S w w1) (hS:∀ k,S k → B ≤ k) (hB:B ≤ w.heap.size):Below B w w1:=
 ⟨h.os,h.tape,h.output,h.size,fun k hk=>h.block k (by omega) (fun hs=>by have:=hS k hs;omega)⟩
theorem Fr.blk (h:Fr S w w1) {k:Nat} {o:Obj} (hb:w.heap[k]? = some o) (hn:¬ S k):w1.heap[k]? = some o:=
 (h.block k (Array.getElem?_eq_some_iff.1 hb).1 hn).trans hb
theorem Fr.cell (h:Fr S w w1) {a:Addr} {v:Value} (hc:w.cell? a = some v) (hn:¬ S a.block):w1.cell? a = some v:=
 (World.cell?_of_block (w:=w) (h.block a.block (World.block_lt_of_cell? w a hc) hn)).trans hc
theorem Fr.owns (h:Fr S w w1) {base:Nat} {e:TypeId} {size n:Nat} {v:Value} {xs:List Value} (ho:w.ownsRow base e size v n xs) (hn:∀ k,v.ownBlock = some k → ¬ S k) :
  w1.ownsRow base e size v n xs:=by
 refine ⟨ho.1,?_⟩;rcases ho.2 with h1 | ⟨g,cap,cur,rfl,hb,hg,r⟩
 ·exact .inl h1
 ·exact .inr ⟨g,cap,cur,rfl,hb,h.blk hg (hn g rfl),r⟩
end
def Only (g:Nat):Nat → Prop:=fun k=>k = g
structure Step (S S' : Nat → Prop) (w w' : World):Prop where
 fr:Fr S w w'
 new:∀ k,S' k → S k ∨ w.heap.size ≤ k
theorem Step.refl (S:Nat → Prop) (w:World):Step S S w w:=⟨Fr.refl S w,fun _ h=>.inl h⟩
theorem Step.trans {S S' S'' : Nat → Prop} {w w1 w2:World} (h:Step S S' w w1) (k:Step S' S'' w1 w2):Step S S'' w w2:=
 ⟨h.fr.trans k.fr h.new,fun i hi=>(k.new i hi).elim (h.new i) (fun h2=>.inr (Nat.le_trans h.fr.size h2))⟩
theorem Step.alloc {S S' : Nat → Prop} {w w1:World} (h:Step S S' w w1) (o:Obj):Step S S' w (w1.alloc o):=⟨h.fr.alloc o,h.new⟩
theorem Step.drewN {S S' : Nat → Prop} {w w1:World} (h:Step S S' w w1) (n:Nat):Step S S' w (w1.drewN n):=⟨h.fr.drewN n,h.new⟩
theorem Step.below {S S' : Nat → Prop} {w w1 w2:World} (h:Step S S' w w1) (hb:Below w1.heap.size w1 w2):Step S S' w w2:=⟨h.fr.below hb,h.new⟩
theorem cells3 {w:World} {g:Nat} {a b c:Value} {t:TypeId} (h:w.heap[g]? = some (.cells #[a,b,c] t (0,0))) :
  w.cell? ⟨g,0,none⟩ = some a ∧ w.cell? ⟨g,1,none⟩ = some b ∧ w.cell? ⟨g,2,none⟩ = some c ∧
  w.frozen? ⟨g,0,none⟩ = false ∧ w.frozen? ⟨g,1,none⟩ = false ∧ w.frozen? ⟨g,2,none⟩ = false:=by
 simp [World.cell?,World.frozen?,h]
theorem blk_setCell {w:World} {g:Nat} {t:TypeId} {cs:Array Value} (h:w.heap[g]? = some (.cells cs t (0,0))) (i:Nat) (u:Value) :
  (w.setCell ⟨g,i,none⟩ u).heap[g]? = some (.cells (cs.setIfInBounds i u) t (0,0)):=by
 simp [World.setCell,Array.getElem?_modify,h]
theorem blk_far {w:World} {g:Nat} {o:Obj} (h:w.heap[g]? = some o) {p:Addr} (hp:g ≠ p.block) (u:Value):(w.setCell p u).heap[g]? = some o:=
 (Below.heap_setCell w p u g hp).trans h
theorem blk_alloc {w:World} {g:Nat} {o:Obj} (h:w.heap[g]? = some o) (o' : Obj):(w.alloc o').heap[g]? = some o:=
 (Below.heap_alloc w o' g (Array.getElem?_eq_some_iff.1 h).1).trans h
theorem blk_lt {w:World} {g:Nat} {o:Obj} (h:w.heap[g]? = some o):g < w.heap.size:=(Array.getElem?_eq_some_iff.1 h).1
theorem blk_new (w:World) (o:Obj):(w.alloc o).heap[w.heap.size]? = some o:=by
 show (w.heap.push o)[w.heap.size]? = _;simp
theorem blk_grown {w w1:World} {g:Nat} {o:Obj} {row:Option Nat} (h:w.heap[g]? = some o) (hg:w.grownBy w1 row) (hne:row ≠ some g):w1.heap[g]? = some o:=
 (hg.block g (blk_lt h) (fun e=>hne e.symm)).trans h
theorem own_ne_blk {w:World} {base:Nat} {e t:TypeId} {size n g:Nat} {v:Value} {xs:List Value} {cs:Array Value} {fr:Nat × Nat} (h:w.ownsRow base e size v n xs) (hg:w.heap[g]? = some (.cells cs t fr)) (hne:e ≠ t) :
  v.ownBlock ≠ some g:=by
 rcases h.2 with ⟨rfl, -⟩ | ⟨g',cap,cur,rfl, -,hb, -⟩
 ·simp [Value.ownBlock]
 ·intro hk;simp [Value.ownBlock] at hk;subst hk;rw [hb] at hg;cases hg;exact hne rfl
theorem own_slice {w:World} {base n:Nat} {e:TypeId} {size:Nat} {v:Value} {xs:List Value} (h:w.ownsRow base e size v n xs):∃ A c,v = .slice A n c:=by
 rcases h.2 with ⟨rfl,rfl⟩ | ⟨g',cap,cur,rfl, -⟩
 ·exact ⟨none,0,rfl⟩
 ·exact ⟨_,_,rfl⟩
def Rd (w:World) (size:Nat) (v:Value) (n:Nat) (xs:List Value):Prop:=
 xs.length = n * size ∧ ∃ A c,v = .slice A n c ∧ n ≤ c ∧ (A = none → n = 0) ∧ ∀ ad,A = some ad → ∀ j u,xs[j]? = some u → w.cell? (ad.add j) = some u
theorem Rd.of_own {w:World} {base n:Nat} {e:TypeId} {size:Nat} {v:Value} {xs:List Value} (h:w.ownsRow base e size v n xs):Rd w size v n xs:=by
 refine ⟨h.1,?_⟩;rcases h.2 with ⟨rfl,rfl⟩ | ⟨g',cap,cur,rfl, -,hb,hc, -⟩
 ·exact ⟨none,0,rfl,Nat.le_refl _,fun _=>rfl,fun ad h=>(by cases h)⟩
 ·exact ⟨_,_,rfl,hc,(fun h=>by cases h),fun ad hA j u hu=>(by cases hA;exact h.cells rfl j u hu)⟩
theorem Rd.fr {S:Nat → Prop} {w w1:World} {size n:Nat} {v:Value} {xs:List Value} (h:Rd w size v n xs) (hf:Fr S w w1) (hn:∀ k,v.ownBlock = some k → ¬ S k):Rd w1 size v n xs:=by
 obtain ⟨h1,A,c,rfl,h2,h3,h4⟩:=h;refine ⟨h1,A,c,rfl,h2,h3,fun ad hA j u hu=>hf.cell (h4 ad hA j u hu) ?_⟩
 have:(ad.add j).block = ad.block:=by unfold Addr.add;split <;> rfl
 rw [this];exact hn _ (by rw [hA];rfl)
theorem Rd.below {w w1:World} {size n:Nat} {v:Value} {xs:List Value} (h:Rd w size v n xs) (hb:Below w.heap.size w w1):Rd w1 size v n xs:=
 h.fr (Fr.of_below hb (fun _=>False)) (fun _ _ h=>h)
section
variable {P:Program} (w:World)
theorem run_append2 (t ty e:TypeId) (i:TypeInfo) (z:Value) (size bytes:Nat) (ht:P.underlying t = some (.slice e)) (hi:P.info? e = some i) (hz:i.zero = some z)
  (hsize:i.size = size) (hby:i.bytes = bytes) (hzs:z.cells.size = size) (hsz:0 < size)
  (v:Value) (n:Nat) (xs:List Value) (hown:w.ownsRow 0 e size v n xs)
  (x:Value) (m:Nat) (news:List Value) (hx:Rd w size x m news) (h1:∀ u ∈ news,u.oneCell' = true)
  (h63:n + m ≤ maxLen) (hbytes:(n + m) * bytes ≤ 140737488355328) :
  ∃ v' w',(Builtin.append_ #[t,t] ty #[v,x]).run P w = .ok v' w' ∧ w'.ownsRow 0 e size v' (n + m) (xs ++ news) ∧ w.grownBy w' v.ownBlock ∧
   (∀ k,v'.ownBlock = some k → v.ownBlock = some k ∨ w.heap.size ≤ k) ∧ (v' = .slice none 0 0 ↔ v = .slice none 0 0 ∧ m = 0):=by
 obtain ⟨hl,A,c,rfl,hmc,hA,hnews⟩:=hx
 cases A with
 | none=>
  obtain rfl:=hA rfl;have hn:news = []:=List.eq_nil_of_length_eq_zero (by simpa using hl);subst hn;rcases hown.2 with ⟨rfl,rfl⟩ | ⟨g,cap,cur,rfl,hbg,hg,hnc,hcm,hcs,htake⟩
  ·have hx:xs = []:=List.eq_nil_of_length_eq_zero (by simpa using hown.1)
   subst hx;refine ⟨.slice none 0 0,w,?_,World.ownsRow_nil w 0 e size,⟨rfl,rfl,rfl,Nat.le_refl _,fun _ _ _=>rfl⟩,by simp [Value.ownBlock],by simp⟩;simp [Builtin.append_,run_underlying ht,sizeOf,typeInfo,hi,Builtin.lenOf,Builtin.firstCells]
  ·refine ⟨_,w,?_,by simpa using hown,⟨rfl,rfl,rfl,Nat.le_refl _,fun _ _ _=>rfl⟩,fun k hk=>.inl hk,by simp⟩
   simp [Builtin.append_,run_underlying ht,sizeOf,typeInfo,hi,Builtin.lenOf,Builtin.firstCells,hnc,storeCells]
 | some a=>
  have hnews:=hnews a rfl;obtain ⟨v',w',hr,h2,h3,h4⟩:=run_append_own (P:=P) w 0 t ty e i z size bytes ht hi hz hsize hby hzs hsz v n xs hown a m c news hl hnews h1 h63 hbytes (Nat.zero_le _);refine ⟨v',w',hr,h2,h3,?_,h4⟩;subst hsize;subst hby;rcases hown.2 with ⟨rfl,rfl⟩ | ⟨g,cap,cur,rfl,hbg,hg,hnc,hcm,hcs,htake⟩
  ·have hx:xs = []:=List.eq_nil_of_length_eq_zero (by simpa using hown.1)
   subst hx;obtain ⟨v2,w2,hr2,h5, -⟩:=run_append_own (P:=P) w w.heap.size t ty e i z _ _ ht hi hz rfl rfl hzs hsz (.slice none 0 0) 0 [] (World.ownsRow_nil w _ e _) a m c news hl hnews h1 h63 hbytes (Nat.le_refl _);rw [hr] at hr2
   cases hr2
   exact fun k hk=>.inr (h5.lt k hk).1
  ·by_cases hroom:n + m ≤ cap
   ·have hfit:n * i.size + news.length ≤ cur.size:=by rw [hl,hcs,← Nat.add_mul];exact Nat.mul_le_mul_right _ hroom
    have hr2:=run_append_room (P:=P) w t ty e i ht hi g n cap cur hg a m c news hl hnews h1 hroom hfit;rw [hr] at hr2
    cases hr2
    exact fun k hk=>.inl hk
   ·have holds:∀ j u,xs[j]? = some u → w.cell? ((⟨g,0,none⟩ : Addr).add j) = some u:=hown.cells (g:=g) rfl
    have hr2:=run_append_grow (P:=P) w t ty e i z ht hi hz ⟨g,0,none⟩ n cap xs hown.1 holds a m c news hl hnews (by omega) (by simp only [maxLen] at h63;omega) (growslice_fits (by omega) hbytes);rw [hr] at hr2
    cases hr2
    exact fun k hk=>.inr (by simp [Value.ownBlock] at hk;omega)
theorem wpList_append2 {ops:Array Oper} {rest:List Oper} {o:Oper} {a:Act} {Q:Exit → Act → World → Prop} (hgd:o.guard = none) (s x:Operand) (t:TypeId)
  (ho:o.op = .call { callee:=.builtin .append,args := #[s,x],argTypes := #[t,t] })
  (e:TypeId) (z:Value) (size bytes:Nat) (ht:P.underlying t = some (.slice e)) (hinfo:(P.info? e).map (fun i=>(i.zero,i.size,i.bytes)) = some (some z,size,bytes))
  (hzs:z.cells.size = size) (hsz:0 < size)
  (v:Value) (n:Nat) (xs:List Value) (hs:a.eval s = v) (hown:w.ownsRow 0 e size v n xs)
  (vx:Value) (m:Nat) (news:List Value) (hx:a.eval x = vx) (hrd:Rd w size vx m news) (h1:∀ u ∈ news,u.oneCell' = true)
  (h63:n + m ≤ maxLen) (hbytes:(n + m) * bytes ≤ 140737488355328)
  (h:∀ v' w',w'.ownsRow 0 e size v' (n + m) (xs ++ news) → w.grownBy w' v.ownBlock → (∀ k,v'.ownBlock = some k → v.ownBlock = some k ∨ w.heap.size ≤ k) → (v' = .slice none 0 0 ↔ v = .slice none 0 0 ∧ m = 0) → wpList P ops Q rest (a.put o.dst v') w'):wpList P ops Q (o :: rest) a w:=by
 obtain ⟨i,hi,hz,hsize,hby⟩:=info_parts hinfo;refine wpList_plain hgd fun K hK=>?_;obtain ⟨v',w',hr,h2,h3,h4,h5⟩:=run_append2 (P:=P) w t o.type e i z size bytes ht hi hz hsize hby hzs hsz v n xs hown vx m news hrd h1 h63 hbytes;unfold Oper.wp execOp;simp only [ho,resolve,invoke,builtin,Sem.run_bind,Sem.run_pure,Result.andThen_ok,List.map_toArray,List.map_cons,List.map_nil,hs,hx,hr];exact hK _ _ (h v' w' h2 h3 h4 h5)
theorem step_append2 {ops:Array Oper} {o:Oper} {a:Act} {K:Act → World → Prop} {Q:Exit → Act → World → Prop} {E:Prop} (hgd:o.guard = none) (s x:Operand) (t:TypeId)
  (ho:o.op = .call { callee:=.builtin .append,args := #[s,x],argTypes := #[t,t] })
  (e:TypeId) (z:Value) (size bytes:Nat) (ht:P.underlying t = some (.slice e)) (hinfo:(P.info? e).map (fun i=>(i.zero,i.size,i.bytes)) = some (some z,size,bytes))
  (hzs:z.cells.size = size) (hsz:0 < size)
  (v:Value) (n:Nat) (xs:List Value) (hs:a.eval s = v) (hown:w.ownsRow 0 e size v n xs)
  (vx:Value) (m:Nat) (news:List Value) (hx:a.eval x = vx) (hrd:Rd w size vx m news) (h1:∀ u ∈ news,u.oneCell' = true)
  (h63:n + m ≤ maxLen) (hbytes:(n + m) * bytes ≤ 140737488355328)
  (h:∀ v' w',w'.ownsRow 0 e size v' (n + m) (xs ++ news) → w.grownBy w' v.ownBlock → (∀ k,v'.ownBlock = some k → v.ownBlock = some k ∨ w.heap.size ≤ k) → K (a.put o.dst v') w') :
  if Region.wanted o (yielded ops a.tmps) = true then Oper.wp P o a w K Q else E:=by
 have hw:Region.wanted o (yielded ops a.tmps) = true:=by simp [Region.wanted,hgd]
 rw [if_pos hw];obtain ⟨i,hi,hz,hsize,hby⟩:=info_parts hinfo;obtain ⟨v',w',hr,h2,h3,h4,h5⟩:=run_append2 (P:=P) w t o.type e i z size bytes ht hi hz hsize hby hzs hsz v n xs hown vx m news hrd h1 h63 hbytes;unfold Oper.wp execOp;simp only [ho,resolve,invoke,builtin,Sem.run_bind,Sem.run_pure,Result.andThen_ok,List.map_toArray,List.map_cons,List.map_nil,hs,hx,hr];exact h v' w' h2 h3 h4
end
def u8s (l:List UInt8):List Value:=l.map fun b=>.int .u8 b.toNat
section
variable {P:Program} (w:World)
end
def RdB (w:World) (v:Value) (l:List UInt8):Prop:=Rd w 1 v l.length (u8s l)
theorem RdB.slice {w:World} {v:Value} {l:List UInt8} (h:RdB w v l):∃ A c,v = .slice A l.length c:=by
 obtain ⟨-,A,c,h, -⟩:=h;exact ⟨A,c,h⟩
theorem RdB.of_own {w:World} {e:TypeId} {base:Nat} {v:Value} {l:List UInt8} (h:w.ownsRow base e 1 v l.length (u8s l)):RdB w v l:=Rd.of_own h
theorem RdB.one (w:World) (t:TypeId) (b:UInt8):RdB (w.alloc (.cells #[.int .u8 b.toNat] t)) (.slice (some ⟨w.heap.size,0,none⟩) 1 1) [b]:=by
 refine ⟨rfl,_,_,rfl,Nat.le_refl _,(fun h=>by cases h),fun ad hA j u hu=>?_⟩
 cases hA
 match j,hu with
 | 0,hu=>cases hu;rw [show (⟨w.heap.size,0,none⟩ : Addr).add 0 = ⟨w.heap.size,0,none⟩ from rfl];simp only [World.cell?,blk_new];rfl
theorem dT {a b:Nat} (h:a < b):decide ((a:Int) < (b:Int)) = true:=decide_eq_true (by omega)
theorem dF {a b:Nat} (h:¬ a < b):decide ((a:Int) < (b:Int)) = false:=decide_eq_false (by omega)
def dig (n:Nat):List Nat:=if n = 0 then [] else n % 10 :: dig (n / 10)
 termination_by n
 decreasing_by omega
def vald:List Nat → Nat
 | []=>0
 | d :: r=>d + 10 * vald r
def DLt (l:List Nat):Prop := ∀ d ∈ l,d < 10
def trim:List Nat → List Nat
 | [] => []
 | d :: r=>if d = 0 ∧ trim r = [] then [] else d :: trim r
theorem dig_zero:dig 0 = []:=by rw [dig,if_pos rfl]
theorem dig_pos {n:Nat} (h:0 < n):dig n = n % 10 :: dig (n / 10):=by rw [dig,if_neg (by omega)]
theorem vald_dig (n:Nat):vald (dig n) = n:=by
 induction n using Nat.strongRecOn with
 | ind n ih=>
  by_cases h:n = 0
  ·subst h;rw [dig_zero];rfl
  ·rw [dig_pos (by omega),vald,ih (n / 10) (by omega)];omega
theorem dlt_dig (n:Nat):DLt (dig n):=by
 induction n using Nat.strongRecOn with
 | ind n ih=>
  by_cases h:n = 0
  ·subst h;rw [dig_zero];intro d hd;cases hd
  ·rw [dig_pos (by omega)]
   intro d hd;rcases List.mem_cons.1 hd with rfl | hd
   ·omega
   ·exact ih (n / 10) (by omega) d hd
theorem dig_eq_nil {n:Nat}:dig n = [] ↔ n = 0:=by
 constructor
 ·intro h;have:=vald_dig n;rw [h] at this;exact this.symm
 ·rintro rfl;exact dig_zero
theorem trim_eq {l:List Nat} (h:DLt l):trim l = dig (vald l):=by
 induction l with
 | nil=>rw [vald,dig_zero];rfl
 | cons d r ih=>
  have hd:d < 10:=h d List.mem_cons_self;have ih:=ih (fun x hx=>h x (List.mem_cons_of_mem _ hx));rw [trim,vald]
  by_cases h0:d = 0 ∧ vald r = 0
  ·rw [if_pos ⟨h0.1,by rw [ih,dig_eq_nil];exact h0.2⟩,h0.1,h0.2];exact dig_zero.symm
  ·rw [if_neg (fun h=>h0 ⟨h.1,by have:=h.2;rw [ih,dig_eq_nil] at this;exact this⟩),ih,dig_pos (n:=d + 10 * vald r) (by omega),show (d + 10 * vald r) % 10 = d from by omega,show (d + 10 * vald r) / 10 = vald r from by omega]
theorem vald_app (a b:List Nat):vald (a ++ b) = vald a + 10 ^ a.length * vald b:=by
 induction a with
 | nil=>simp [vald]
 | cons d r ih=>
  rw [List.cons_append,vald,vald,ih,List.length_cons,Nat.pow_succ,Nat.mul_add,Nat.mul_comm (10 ^ r.length) 10,Nat.mul_assoc];omega
theorem vald_lt {l:List Nat} (h:DLt l):vald l < 10 ^ l.length:=by
 induction l with
 | nil=>simp [vald]
 | cons d r ih=>
  have hd:d < 10:=h d List.mem_cons_self;have ih:=ih (fun x hx=>h x (List.mem_cons_of_mem _ hx));rw [vald,List.length_cons,Nat.pow_succ];omega
theorem dig_len_le {n k:Nat} (h:n < 10 ^ k):(dig n).length ≤ k:=by
 induction k generalizing n with
 | zero=>
      have:n = 0:=(by simpa using h);subst this;rw [dig_zero];exact Nat.le_refl _
 | succ k ih=>
  by_cases h0:n = 0
  ·subst h0;rw [dig_zero];exact Nat.zero_le _
  ·rw [dig_pos (by omega),List.length_cons]
   have:=ih (n:=n / 10) (by rw [Nat.pow_succ] at h;omega);omega
theorem vald_take_succ (l:List Nat) (k:Nat) (hk:k < l.length):vald (l.take (k + 1)) = vald (l.take k) + 10 ^ k * l[k]:=by
 rw [List.take_add_one,List.getElem?_eq_getElem hk,vald_app,List.length_take,Nat.min_eq_left (by omega)];simp [vald]
theorem dig_lt_of_len {a b:Nat} (h:(dig a).length < (dig b).length):a < b:=by
 have h1:=vald_lt (dlt_dig a);rw [vald_dig] at h1;rcases Nat.lt_or_ge b (10 ^ (dig a).length) with h2 | h2
 ·have:=dig_len_le h2;omega
 ·omega
theorem dig_cmp {x y:List Nat} (hx:DLt x) (hy:DLt y) (hl:x.length = y.length) (i:Nat) (hi:i < x.length) (hup:∀ j (h1:j < x.length) (h2:j < y.length),i < j → x[j] = y[j])
  (hlt:x[i] < y[i]'(by omega)):vald x < vald y:=by
 have ex:x = x.take i ++ (x[i] :: x.drop (i + 1)):=by rw [← List.drop_eq_getElem_cons hi,List.take_append_drop]
 have ey:y = y.take i ++ (y[i]'(by omega) :: y.drop (i + 1)):=by rw [← List.drop_eq_getElem_cons (by omega),List.take_append_drop]
 have ed:x.drop (i + 1) = y.drop (i + 1):=by
  apply List.ext_getElem (by simp;omega)
  intro n h1 h2;simp only [List.getElem_drop];exact hup _ _ _ (by omega)
 have h1:=vald_lt (l:=x.take i) (fun d hd=>hx d (List.mem_of_mem_take hd));rw [List.length_take,Nat.min_eq_left (by omega)] at h1;rw [ex,ey,vald_app,vald_app,ed,List.length_take,List.length_take,Nat.min_eq_left (by omega),Nat.min_eq_left (by omega),vald,vald]
 have h2:10 ^ i * (x[i] + 10 * vald (y.drop (i + 1))) + 10 ^ i ≤ 10 ^ i * (y[i]'(by omega) + 10 * vald (y.drop (i + 1))):=by
  rw [← Nat.mul_succ];exact Nat.mul_le_mul_left _ (by omega)
 omega
def ints (l:List Nat):List Value:=l.map fun (d:Nat)=>.int .i64 (d:Int)
theorem ints_len (l:List Nat):(ints l).length = l.length:=by simp [ints]
theorem ints_app (a b:List Nat):ints (a ++ b) = ints a ++ ints b:=by simp [ints]
theorem ints_one (l:List Nat):∀ u ∈ ints l,u.oneCell' = true:=by
 intro u hu;simp only [ints,List.mem_map] at hu;obtain ⟨b, -,rfl⟩:=hu;rfl
def RdI (w:World) (v:Value) (l:List Nat):Prop:=Rd w 1 v l.length (ints l)
theorem RdI.slice {w:World} {v:Value} {l:List Nat} (h:RdI w v l):∃ A c,v = .slice A l.length c:=by
 obtain ⟨-,A,c,h, -⟩:=h;exact ⟨A,c,h⟩
theorem RdI.of_own {w:World} {e:TypeId} {base:Nat} {v:Value} {l:List Nat} (h:w.ownsRow base e 1 v l.length (ints l)):RdI w v l:=Rd.of_own h
theorem RdI.one (w:World) (t:TypeId) (d:Nat):RdI (w.alloc (.cells #[.int .i64 d] t)) (.slice (some ⟨w.heap.size,0,none⟩) 1 1) [d]:=by
 refine ⟨rfl,_,_,rfl,Nat.le_refl _,(fun h=>by cases h),fun ad hA j u hu=>?_⟩
 cases hA
 match j,hu with
 | 0,hu=>cases hu;rw [show (⟨w.heap.size,0,none⟩ : Addr).add 0 = ⟨w.heap.size,0,none⟩ from rfl];simp only [World.cell?,blk_new];rfl
theorem RdI.nil (w:World):RdI w (.slice none 0 0) []:=⟨rfl,none,0,rfl,Nat.le_refl _,fun _=>rfl,fun ad h=>by cases h⟩
theorem Rd.some {w:World} {size n:Nat} {v:Value} {xs:List Value} (h:Rd w size v n xs) (hn:xs ≠ []) :
  ∃ b off c,v = .slice (some ⟨b,off,none⟩) n c ∧ n ≤ c ∧ b < w.heap.size ∧ ∀ j u,xs[j]? = some u → w.cell? ⟨b,off + j,none⟩ = some u:=by
 obtain ⟨h1,A,c,rfl,h2,h3,h4⟩:=h
 cases A with
 | none=>
  have:=h3 rfl;subst this;exact absurd (List.eq_nil_of_length_eq_zero (by simpa using h1)) hn
 | some ad=>
  have h4:=h4 ad rfl;obtain ⟨x,r,rfl⟩:=List.exists_cons_of_ne_nil hn;have h0:=h4 0 x rfl;obtain ⟨b,off,sp⟩:=ad
  have hsp:sp = none:=by
   cases sp with
   | none=>rfl
   | some q=>simp [Addr.add,World.cell?] at h0;split at h0 <;> simp at h0
  subst hsp;refine ⟨b,off,c,rfl,h2,?_,fun j u hu=>?_⟩
  ·exact World.block_lt_of_cell? w (a:=⟨b,off,none⟩) h0
  ·have:=h4 j u hu
   have e:(⟨b,off,none⟩ : Addr).add j = ⟨b,off + j,none⟩:=(by unfold Addr.add;split <;> simp_all);rw [e] at this;exact this
theorem RdI.some {w:World} {v:Value} {l:List Nat} (h:RdI w v l) (hn:l ≠ []) :
  ∃ b off c,v = .slice (some ⟨b,off,none⟩) l.length c ∧ l.length ≤ c ∧ b < w.heap.size ∧ ∀ k (hk:k < l.length),w.cell? ⟨b,off + k,none⟩ = some (.int .i64 (l[k] : Nat)):=by
 obtain ⟨b,off,c,hv,hc,hb,hcell⟩:=Rd.some h (by intro e;exact hn (by simpa [ints] using e));exact ⟨b,off,c,hv,hc,hb,fun k hk=>hcell k _ (by simp [ints,hk])⟩
theorem drewB {B:Nat} {w w1:World} (h:Below B w w1) (n:Nat):Below B w (w1.drewN n):=⟨h.os,h.tape,h.output,h.size,h.block⟩
theorem infoInt:(Tryz.prog.info? 3).map (fun i=>(i.zero,i.size,i.bytes)) = some (some (.int .i64 0),1,8):=by kernel_rfl
def LPost (w:World) (ds:List Nat):Ending → World → Prop:=fun e w' => ∃ sv,e = .returned (.agg #[sv]) ∧ RdI w' sv ds ∧ (∀ k,sv.ownBlock = some k → w.heap.size ≤ k) ∧ Below w.heap.size w w'
def LgLoop (w:World) (v:Nat) (v0 v3:Value) (w1:World):Prop:=
 ∃ (done:List Nat) (x:Nat),v0 = .int .i64 x ∧ x ≤ v ∧ dig v = done ++ dig x ∧ w1.heap[w.heap.size]? = some (.cells #[.slice none 0 0] 201 (0,0)) ∧ w1.ownsRow 0 3 1 v3 done.length (ints done) ∧ (∀ k,v3.ownBlock = some k → w.heap.size ≤ k) ∧ Below w.heap.size w w1
theorem long_calls (w:World) (v:Nat) (hv:v ≤ 9223372036854775807):Calls Tryz.prog 158 #[.int .i64 v] w (LPost w (dig v)):=by
 have hdl:(dig v).length ≤ 19:=dig_len_le (Nat.lt_of_le_of_lt hv (by decide));go_enter Tryz.func158,Tryz.ntmps158;go_wp2
 go_loopw [0,3] (fun v0 v3 w1=>LgLoop w v v0 v3 w1) (fun v0 _ _=>(intOf v0).toNat)
 case atStart=>exact ⟨[],v,rfl,Nat.le_refl _,rfl,blk_new _ _,World.ownsRow_nil _ _ _ _,(fun k hk=>by cases hk),(Below.refl _ _).alloc (Nat.le_refl _) _⟩
 case round=>
  obtain ⟨done,x,rfl,hxv,hf,hcell,hown,hnew,hb⟩:=hrel;have Hf:=hIh hf;clear hf;obtain ⟨A,c,rfl⟩:=own_slice hown;have hl:=congrArg List.length Hf.out;rw [List.length_append] at hl;have hne:=own_ne_blk hown hcell (by decide)
  by_cases h:0 < x
  ·have hlt:decide ((0:Int) < x) = true:=by simp;omega
   have hl2:done.length + 1 ≤ 20:=(by omega);clear hl;have hm:(x:Int) % 10 = ((x % 10:Nat):Int):=(by omega);have Hm:=hIh hm;clear hm;have Hnew:=hIh hnew;clear hnew;go_wp2_with (at_builtin;refine wpList_append2 _ rfl (.tmp 6) (.tmp 9) 65 rfl 3 (.int .i64 0) 1 8 Tryz.underlying65 infoInt rfl (by decide) _ done.length (ints done) rfl (hown.alloc _) _ 1 (ints [x % 10]) rfl ?c1 (ints_one _) ?c2 ?c3 ?_)
   case c1=>rw [Hm.out];exact RdI.one _ _ _
   case c2=>unfold maxLen;omega
   case c3=>omega
   intro v' w2 ho2 hg2 hn2 _
   have Hk:Hid (LgLoop w v (.int .i64 ((x / 10:Nat):Int)) v' w2):=by
    refine ⟨done ++ [x % 10],x / 10,rfl,by omega,?_,?_,?_,?_,?_⟩
    ·rw [Hf.out,dig_pos h];simp
    ·exact blk_grown (blk_alloc hcell _) hg2 hne
    ·rw [ints_app,List.length_append];exact ho2
    ·intro k hk
     rcases hn2 k hk with h1 | h1
     ·exact Hnew.out k h1
     ·have:=hb.size;have h2:wr.heap.size + 1 ≤ k:=by simpa using h1
      omega
    ·refine (hb.alloc hb.size _).grown hg2 ?_ ?_
     ·have:=hb.size;simp;omega
     ·intro k hk;exact Hnew.out k hk
   clear ho2 hg2 hn2 hown hb hcell;have hdiv:((x / 10:Nat):Int) = (x:Int) / 10:=(by omega);rw [hdiv] at Hk;clear hdiv;go_wp2;go_roundw
   case rel=>exact Hk.out
   case measure=>simp [intOf];omega
  ·have hlt:decide ((0:Int) < x) = false:=by simp;omega
   obtain rfl:x = 0:=(by omega);have hd:dig v = done:=(by rw [Hf.out,dig_zero,List.append_nil]);have Hd:=hIh hd;clear hd hl;have hc1:wr.cell? ⟨w.heap.size,0,none⟩ = some (.slice none 0 0):=(by simp [World.cell?,hcell]);have hf1:wr.frozen? ⟨w.heap.size,0,none⟩ = false:=(by simp [World.frozen?,hcell]);have Hnew:=hIh hnew;have Hown:=hIh hown;clear hnew hown;go_wp2;refine bodyPost_ret (v:=.agg #[.slice A done.length c]) (by simp [results,Tryz.results158,go_sem,hc1]) rfl ⟨_,rfl,?_,Hnew.out,?_⟩
   ·rw [Hd.out]
    exact (RdI.of_own Hown.out).fr ((Fr.refl (Only w.heap.size) wr).setCell (p:=⟨w.heap.size,0,none⟩) (.inl rfl) _) (fun k hk e=>hne (by rw [hk,show k = w.heap.size from e]))
   ·exact hb.setCell (p:=⟨w.heap.size,0,none⟩) (Nat.le_refl _) _
theorem cells1 {w:World} {g:Nat} {a:Value} {t:TypeId} (h:w.heap[g]? = some (.cells #[a] t (0,0))):w.cell? ⟨g,0,none⟩ = some a ∧ w.frozen? ⟨g,0,none⟩ = false:=by
 simp [World.cell?,World.frozen?,h]
theorem RdI.below {w w1:World} {v:Value} {l:List Nat} (h:RdI w v l) (hb:Below w.heap.size w w1):RdI w1 v l:=Rd.below h hb
theorem trim_take {l:List Nat}:∀ {n:Nat},n ≤ l.length → (∀ j (h:j < l.length),n ≤ j → l[j] = 0) → (∀ h:0 < n, ∀ h2:n - 1 < l.length,l[n - 1] ≠ 0) → trim l = l.take n:=by
 induction l with
 | nil=>intro n hn _ _;simp [trim]
 | cons d r ih=>
  intro n hn hz hp
  cases n with
  | zero=>
   have hd:d = 0:=hz 0 (by simp) (by omega);have hr:trim r = r.take 0:=ih (by omega) (fun j h _=>by have:=hz (j + 1) (by simpa using h) (by omega);simpa using this) (fun h=>by omega);rw [trim,if_pos ⟨hd,by simpa using hr⟩];simp
  | succ n=>
   have hr:trim r = r.take n:=ih (by simpa using hn) (fun j h hj=>by have:=hz (j + 1) (by simpa using h) (by omega);simpa using this) (fun h h2=>by
    have:=hp (by omega) (by simpa using (by omega:n < r.length + 1));obtain ⟨m,rfl⟩ : ∃ m,n = m + 1:=⟨n - 1,by omega⟩
    simpa using this)
   rw [trim,if_neg,hr]; · rfl
   rintro ⟨h1,h2⟩;rw [hr] at h2
   by_cases h0:n = 0
   ·subst h0
    exact hp (by omega) (by simp) (by simpa using h1)
   ·have:(r.take n).length = 0:=by rw [h2];rfl
    rw [List.length_take] at this;simp at hn;omega
theorem cut_head {w:World} {A:Option Addr} {c:Nat} {l:List Nat} (h:RdI w (.slice A l.length c) l) (n:Nat) (hn:n ≤ l.length):RdI w (.slice A n c) (l.take n):=by
 obtain ⟨h1,A',c',hv,h2,h3,h4⟩:=h
 cases hv
 have hlen:(l.take n).length = n:=by rw [List.length_take];omega
 unfold RdI;rw [hlen];refine ⟨by rw [ints_len,hlen,Nat.mul_one],_,_,rfl,by omega,fun hA=>by have:=h3 hA;omega,fun ad hA j u hu=>?_⟩;refine h4 ad hA j u ?_
 have hj:j < n:=by
  have:=(List.getElem?_eq_some_iff.1 hu).1;rw [ints_len,hlen] at this;exact this
 rw [← hu];simp only [ints,List.getElem?_map,List.getElem?_take,if_pos hj]
def CutPost (w:World) (v:Value) (ds:List Nat):Ending → World → Prop:=fun e w' => ∃ sv,e = .returned (.agg #[sv]) ∧ RdI w' sv ds ∧ (∀ k,sv.ownBlock = some k → v.ownBlock = some k) ∧ Below w.heap.size w w'
def CLoop (l:List Nat) (i:Value):Prop := ∃ n:Nat,n ≤ l.length ∧ i = .int .i64 n ∧ ∀ j (h:j < l.length),n ≤ j → l[j] = 0
theorem cut_calls (w:World) (v:Value) (l:List Nat) (h:RdI w v l) (hl:l.length ≤ 4194304):Calls Tryz.prog 161 #[v] w (CutPost w v (trim l)):=by
 obtain ⟨A,c,rfl⟩:=h.slice
 have hlc:l.length ≤ c:=by obtain ⟨-,A',c',hv,h2, -⟩:=h;cases hv;exact h2
 have Hfin:Hid (∀ n,n ≤ l.length → (∀ j (h:j < l.length),n ≤ j → l[j] = 0) → (∀ h:0 < n, ∀ h2:n - 1 < l.length,l[n - 1] ≠ 0) →
   CutPost w (.slice A l.length c) (trim l) (.returned (.agg #[.slice A n c])) (w.alloc (.cells #[.slice A n c] 201))):=by
  intro n hn h1 h2;refine ⟨_,rfl,by rw [trim_take hn h1 h2];exact (cut_head h n hn).below ((Below.refl _ _).alloc (Nat.le_refl _) _),fun k hk=>?_,(Below.refl _ _).alloc (Nat.le_refl _) _⟩
  cases A with
  | none=>cases hk
  | some a=>exact hk
 by_cases h0:l = []
 ·subst h0
  have g2:=Hfin.out 0 (Nat.le_refl _) (fun j h=>by simp at h) (fun h=>by omega);have hlen:([] : List Nat).length = 0:=rfl;rw [hlen] at g2 ⊢;have G2:=hIh g2;clear g2 Hfin h hlen;go_enter Tryz.func161,Tryz.ntmps161;go_wp2;refine wp_loop_rounds 1 ?_;rw [rounds_succ];go_wp2;exact bodyPost_ret (v:=.agg #[.slice A 0 c]) (by simp [results,Tryz.results161,go_sem]) rfl G2.out
 ·obtain ⟨b,off,c',hv,hc,hb,hcell⟩:=h.some h0
  cases hv
  have Hcell:=hIh hcell;clear hcell;go_enter Tryz.func161,Tryz.ntmps161;go_wp2
  go_loop [3] (fun i=>CLoop l i) (fun i=>(intOf i).toNat)
  case atStart=>exact ⟨l.length,Nat.le_refl _,rfl,fun j h1 h2=>by omega⟩
  case round=>
   obtain ⟨n,hn,rfl,hz⟩:=hrel;have Hz:=hIh hz;clear hz
   by_cases hn0:0 < n
   ·have hn0d:decide ((0:Int) < n) = true:=decide_eq_true (by omega)
    have hnl:n - 1 < l.length:=(by omega);have hq:=Hcell.out (n - 1) hnl
    have hq2:(w.alloc (.cells #[.slice none 0 0] 201)).cell? ⟨b,off + (n - 1),none⟩ = some (.int .i64 (l[n - 1] : Nat)):=by
     have:=((Below.refl w.heap.size w).alloc (Nat.le_refl _) (.cells #[.slice none 0 0] 201)).cell (p:=⟨b,off + (n - 1),none⟩) hb;rw [this];exact hq
    have hi1:(0:Int) ≤ (n:Int) - 1:=(by omega);have hi2:(n:Int) - 1 < l.length:=(by omega);have hi3:((n:Int) - 1).toNat = n - 1:=(by omega)
    by_cases hd:l[n - 1] = 0
    ·rw [hd] at hq hq2
     have Hk:Hid (CLoop l (.int .i64 ((n:Int) - 1))):=⟨n - 1,by omega,by rw [show ((n - 1:Nat):Int) = (n:Int) - 1 from by omega],fun j h1 h2=>by
      by_cases e:j = n - 1
      ·subst e;exact hd
      ·exact Hz.out j h1 (by omega)⟩
     clear hd;go_wp2;go_round
     case rel=>exact Hk.out
     case measure=>simp [intOf];omega
    ·have g2:=Hfin.out n hn Hz.out (fun _ _=>hd)
     have G2:=hIh g2;have hdd:((l[n - 1] : Int) == 0) = false:=(by simp;omega);have hdp:¬ l[n - 1] = 0:=hd;generalize l[n - 1] = y at hq hq2 hdd hdp;clear g2 hd;go_wp2;exact bodyPost_ret (v:=.agg #[.slice (some ⟨b,off,none⟩) n c]) (by simp [results,Tryz.results161,go_sem]) rfl G2.out
   ·obtain rfl:n = 0:=by omega
    have g2:=Hfin.out 0 hn Hz.out (fun h=>by omega);have G2:=hIh g2;clear g2;go_wp2;exact bodyPost_ret (v:=.agg #[.slice (some ⟨b,off,none⟩) 0 c]) (by simp [results,Tryz.results161,go_sem]) rfl G2.out
theorem at_calls (w:World) (v:Value) (l:List Nat) (h:RdI w v l) (i:Nat) (hi:i ≤ 1048576) (hl:l.length ≤ 1048576) :
  Calls Tryz.prog 184 #[.agg #[v],.int .i64 i] w fun e w'=>e = .returned (.int .i64 (l.getD i 0:Nat)) ∧ Below w.heap.size w w':=by
 by_cases hlt:i < l.length
 ·obtain ⟨b,off,c,rfl,hc,hb,hcell⟩:=h.some (by intro e;rw [e] at hlt;simp at hlt)
  have hq:=hcell i hlt
  have hq2:∀ o,(w.alloc o).cell? ⟨b,off + i,none⟩ = some (.int .i64 (l[i] : Nat)):=fun o=>by
   rw [((Below.refl w.heap.size w).alloc (Nat.le_refl _) o).cell (p:=⟨b,off + i,none⟩) hb];exact hq
  have hg:l.getD i 0 = l[i]:=by simp [List.getD,hlt]
  rw [hg];have hltd:=dT hlt;generalize l[i] = y at hq hq2;clear hcell hg;go_enter Tryz.func184,Tryz.ntmps184;go_wp2;go_ret;exact ⟨rfl,(Below.refl _ _).alloc (Nat.le_refl _) _⟩
 ·obtain ⟨A,c,rfl⟩:=h.slice
  have hg:l.getD i 0 = 0:=by simp [List.getD,List.getElem?_eq_none (by omega:l.length ≤ i)]
  rw [hg];have hltd:=dF hlt;clear hg;go_enter Tryz.func184,Tryz.ntmps184;go_wp2;go_ret;exact ⟨rfl,(Below.refl _ _).alloc (Nat.le_refl _) _⟩
def LsLoop (w:World) (x y:List Nat) (i:Value) (w1:World):Prop := ∃ n:Nat,n ≤ x.length ∧ i = .int .i64 ((n:Int) - 1) ∧ (∀ j (h1:j < x.length) (h2:j < y.length),n ≤ j → x[j] = y[j]) ∧ Below w.heap.size w w1 ∧
 ∃ vx vy,w1.heap[w.heap.size]? = some (.cells #[vx] 201 (0,0)) ∧ w1.heap[w.heap.size + 1]? = some (.cells #[vy] 201 (0,0)) ∧ RdI w vx x ∧ RdI w vy y
theorem less_calls (w:World) (va vb:Value) (a b:Nat) (ha:RdI w va (dig a)) (hb:RdI w vb (dig b)) (hla:(dig a).length ≤ 1048576) (hlb:(dig b).length ≤ 1048576) :
  Calls Tryz.prog 185 #[.agg #[va],.agg #[vb]] w fun e w'=>e = .returned (.bool (decide (a < b))) ∧ Below w.heap.size w w':=by
 have hda:=dlt_dig a;have hdb:=dlt_dig b;have hva:=vald_dig a;have hvb:=vald_dig b;have hlen1:=@dig_lt_of_len a b;have hlen2:=@dig_lt_of_len b a
 have HV:Hid (decide (a < b) = decide (vald (dig a) < vald (dig b))):=by rw [hva,hvb];rfl
 generalize dig a = x at ha hda hla hlen1 hlen2 HV;generalize dig b = y at hb hdb hlb hlen1 hlen2 HV;clear hva hvb;obtain ⟨A,c,rfl⟩:=ha.slice;obtain ⟨A2,c2,rfl⟩:=hb.slice
 by_cases hl:x.length = y.length
 ·have hne:((x.length:Int) != y.length) = false:=by simp;omega
  have Hl:=hIh hl;have hBB:∀ o o2,Below w.heap.size w ((w.alloc o).alloc o2):=fun o o2=>((Below.refl _ _).alloc (Nat.le_refl _) _).alloc (by simp) _
  have Hst:Hid (LsLoop w x y (.int .i64 ((x.length:Int) - 1)) ((w.alloc (.cells #[.slice A x.length c] 201)).alloc (.cells #[.slice A2 y.length c2] 201))):=
   ⟨x.length,Nat.le_refl _,rfl,fun j h1 _ h2=>by omega,hBB _ _,_,_,blk_alloc (blk_new _ _) _,by simpa using blk_new (w.alloc (.cells #[.slice A x.length c] 201)) (.cells #[.slice A2 y.length c2] 201),ha,hb⟩
  have heq:x.length = y.length:=hl;clear hlen1 hlen2 hl heq hBB;go_enter Tryz.func185,Tryz.ntmps185;go_wp2
  go_loopw [5] (fun i w1=>LsLoop w x y i w1) (fun i _=>(intOf i + 1).toNat)
  case atStart=>exact Hst.out
  case round=>
   obtain ⟨n,hn,rfl,hup,hB,vx,vy,hbx,hby,hrx,hry⟩:=hrel;have Hup:=hIh hup;clear hup;obtain ⟨cx, -⟩:=cells1 hbx;obtain ⟨cy, -⟩:=cells1 hby
   by_cases hn0:0 < n
   ·obtain ⟨n,rfl⟩ : ∃ m,n = m + 1:=⟨n - 1,by omega⟩
    have hnx:n < x.length:=(by omega);have hny:n < y.length:=(by have:=Hl.out;omega);rw [show ((n + 1:Nat):Int) - 1 = (n:Int) from by omega];obtain ⟨bx,ox,kx,rfl,hkx,hbbx,hcx⟩:=hrx.some (by intro e;rw [e] at hnx;simp at hnx);obtain ⟨by_,oy,ky,rfl,hky,hbby,hcy⟩:=hry.some (by intro e;rw [e] at hny;simp at hny);have q1:=(hB.cell (p:=⟨bx,ox + n,none⟩) hbbx).trans (hcx n hnx);have q2:=(hB.cell (p:=⟨by_,oy + n,none⟩) hbby).trans (hcy n hny);have hn0d:decide ((0:Int) ≤ n) = true:=decide_eq_true (by omega);have hyl:(n:Int) < y.length:=(by omega);have hxl:(n:Int) < x.length:=(by omega)
    have hcs:(x[n] = y[n]) ∨ (x[n] < y[n] ∧ Hid (decide (a < b) = true)) ∨ (y[n] < x[n] ∧ Hid (decide (a < b) = false)):=by
     by_cases h1:x[n] = y[n]
     ·exact .inl h1
     ·by_cases h2:x[n] < y[n]
      ·refine .inr (.inl ⟨h2,HV.out.trans (decide_eq_true (dig_cmp hda hdb Hl.out n hnx (fun j h1 h2 h3=>Hup.out j h1 h2 (by omega)) h2))⟩)
      ·refine .inr (.inr ⟨by omega,HV.out.trans (decide_eq_false ?_)⟩)
       have:=dig_cmp hdb hda Hl.out.symm n hny (fun j h1 h2 h3=>(Hup.out j h2 h1 (by omega)).symm) (by omega:y[n] < x[n]);omega
    have Hnx:Hid (x[n] = y[n] → ∀ m,LsLoop w x y (.int .i64 ((n:Int) - 1)) (wr.drewN m)):=fun he m=>⟨n,by omega,rfl,fun j h1 h2 h3=>by
      by_cases e:j = n
      ·subst e;exact he
      ·exact Hup.out j h1 h2 (by omega),drewB hB m,_,_,hbx,hby,hrx,hry⟩
    generalize x[n] = p at q1 hcs Hnx;generalize y[n] = q at q2 hcs Hnx;have HB:=hIh hB;clear hB hcx hcy hrx hry;rcases hcs with rfl | ⟨h1,Hr⟩ | ⟨h1,Hr⟩
    ·have Hnx2:=hIh (Hnx.out rfl)
     clear Hnx;go_wp2;go_quiet (fail);go_wp2;go_roundw
     case rel=>exact Hnx2.out _
     case measure=>first | (simp [intOf];done) | (simp [intOf];omega)
    ·have hpq:((p:Int) != q) = true:=by simp;omega
     have hpq' : ¬ p = q:=(by omega);have hd:=dT h1;go_wp2;go_quiet (fail);go_wp2;go_quiet (fail);go_wp2;go_ret;exact ⟨by rw [Hr.out];rfl,drewB (drewB HB.out _) _⟩
    ·have hpq:((p:Int) != q) = true:=by simp;omega
     have hpq' : ¬ p = q:=(by omega);have hd:=dF (a:=p) (b:=q) (by omega);have hd' : ¬ p < q:=(by omega);go_wp2;go_quiet (fail);go_wp2;go_quiet (fail);go_wp2;go_ret;exact ⟨by rw [Hr.out];rfl,drewB (drewB HB.out _) _⟩
   ·obtain rfl:n = 0:=by omega
    have hxy:x = y:=List.ext_getElem Hl.out (fun j h1 h2=>Hup.out j h1 h2 (by omega));have Hr:Hid (decide (a < b) = false):=HV.out.trans (decide_eq_false (by rw [hxy];omega));clear hxy;go_wp2;go_ret;exact ⟨by rw [Hr.out];rfl,hB⟩
 ·have hne:((x.length:Int) != y.length) = true:=by simp;omega
  have hne' : ¬ x.length = y.length:=hl
  by_cases hlt:x.length < y.length
  ·have hres:Hid (decide (a < b) = true):=decide_eq_true (hlen1 hlt)
   have hltd:=dT hlt;clear hlen1 hlen2 hl;go_enter Tryz.func185,Tryz.ntmps185;go_wp2;go_ret;exact ⟨by rw [hres.out];rfl,((Below.refl _ _).alloc (Nat.le_refl _) _).alloc (by simp) _⟩
  ·have hres:Hid (decide (a < b) = false):=decide_eq_false (by have:=hlen2 (by omega);omega)
   have hltd:=dF hlt;clear hlen1 hlen2 hl;go_enter Tryz.func185,Tryz.ntmps185;go_wp2;go_ret;exact ⟨by rw [hres.out];rfl,((Below.refl _ _).alloc (Nat.le_refl _) _).alloc (by simp) _⟩
theorem vald_take_getD (l:List Nat) (k:Nat):vald (l.take (k + 1)) = vald (l.take k) + 10 ^ k * l.getD k 0:=by
 by_cases h:k < l.length
 ·rw [vald_take_succ l k h];simp [List.getD,h]
 ·rw [List.take_of_length_le (by omega),List.take_of_length_le (by omega)]
  simp [List.getD,List.getElem?_eq_none (by omega:l.length ≤ k)]
theorem getD_lt {l:List Nat} (h:DLt l) (k:Nat):l.getD k 0 < 10:=by
 by_cases hk:k < l.length
 ·simp [List.getD,hk];exact h _ (List.getElem_mem hk)
 ·simp [List.getD,List.getElem?_eq_none (by omega:l.length ≤ k)]
def MLoop (w:World) (x y:List Nat) (va vb v5 v6 v7:Value) (w1:World):Prop := ∃ (k:Nat) (out:List Nat) (bw:Nat),k ≤ x.length ∧ v7 = .int .i64 k ∧ v6 = .int .i64 bw ∧ bw ≤ 1 ∧ out.length = k ∧ DLt out ∧
 vald (x.take k) + bw * 10 ^ k = vald out + vald (y.take k) ∧ w1.ownsRow 0 3 1 v5 out.length (ints out) ∧ (∀ j,v5.ownBlock = some j → w.heap.size ≤ j) ∧
 w1.heap[w.heap.size]? = some (.cells #[va] 201 (0,0)) ∧ w1.heap[w.heap.size + 1]? = some (.cells #[vb] 201 (0,0)) ∧
 w1.heap[w.heap.size + 1 + 1]? = some (.cells #[.slice none 0 0] 201 (0,0)) ∧ Below w.heap.size w w1
theorem own_below {w w1:World} {base:Nat} {e:TypeId} {size n:Nat} {v:Value} {xs:List Value} (ho:w.ownsRow base e size v n xs) (hb:Below w.heap.size w w1):w1.ownsRow base e size v n xs:=
 (Fr.of_below hb (fun _=>False)).owns ho (fun _ _ h=>h)
theorem blk_below {w w1:World} {g:Nat} {o:Obj} (h:w.heap[g]? = some o) (hb:Below w.heap.size w w1):w1.heap[g]? = some o:=by
 rw [hb.block g (blk_lt h)];exact h
theorem msum {P X Y V p q d bw bn:Nat} (h:X + bw * P = V + Y) (hd:p + 10 * bn = d + q + bw):X + P * p + bn * (P * 10) = V + P * d + (Y + P * q):=by
 have e:P * (p + 10 * bn) = P * (d + q + bw):=by rw [hd]
 rw [Nat.mul_add,Nat.mul_add,Nat.mul_add] at e;rw [show bn * (P * 10) = P * (10 * bn) from by rw [Nat.mul_comm bn,Nat.mul_assoc]];rw [Nat.mul_comm bw P] at h;omega
theorem MLoop.next {w w' w2:World} {x y out:List Nat} {va vb v5 v' : Value} {k bw p q d bn:Nat} {t:TypeId} (hk:k < x.length) (hol:out.length = k) (hdo:DLt out) (hd10:d < 10) (hbn:bn ≤ 1)
  (hval:vald (x.take k) + bw * 10 ^ k = vald out + vald (y.take k)) (HX:vald (x.take (k + 1)) = vald (x.take k) + 10 ^ k * p) (HY:vald (y.take (k + 1)) = vald (y.take k) + 10 ^ k * q) (hd:p + 10 * bn = d + q + bw)
  (hnew:∀ j,v5.ownBlock = some j → w.heap.size ≤ j) (hB:Below w.heap.size w w')
  (b0:w'.heap[w.heap.size]? = some (.cells #[va] 201 (0,0))) (b1:w'.heap[w.heap.size + 1]? = some (.cells #[vb] 201 (0,0))) (b2:w'.heap[w.heap.size + 1 + 1]? = some (.cells #[.slice none 0 0] 201 (0,0)))
  (ho' : w'.ownsRow 0 3 1 v5 out.length (ints out))
  (ho2:w2.ownsRow 0 3 1 v' (out.length + 1) (ints out ++ ints [d])) (hg2:(w'.alloc (.cells #[.int .i64 (d:Int)] t)).grownBy w2 v5.ownBlock) (hn2:∀ j,v'.ownBlock = some j → v5.ownBlock = some j ∨ w'.heap.size + 1 ≤ j) :
  MLoop w x y va vb v' (.int .i64 bn) (.int .i64 ((k:Int) + 1)) w2:=by
 subst hol;have hs:=hB.size;refine ⟨out.length + 1,out ++ [d],bn,hk,by simp,rfl,hbn,by simp,?_,?_,?_,?_,?_,?_,?_,?_⟩
 ·intro z hz;rcases List.mem_append.1 hz with h | h
  ·exact hdo z h
  ·rw [List.mem_singleton.1 h];exact hd10
 ·rw [HX,HY,vald_app,Nat.pow_succ,show vald [d] = d from by simp [vald]];exact msum hval hd
 ·rw [ints_app,List.length_append];exact ho2
 ·intro j hj
  rcases hn2 j hj with h1 | h1
  ·exact hnew j h1
  ·omega
 ·exact blk_grown (blk_alloc b0 _) hg2 (own_ne_blk ho' b0 (by decide))
 ·exact blk_grown (blk_alloc b1 _) hg2 (own_ne_blk ho' b1 (by decide))
 ·exact blk_grown (blk_alloc b2 _) hg2 (own_ne_blk ho' b2 (by decide))
 ·exact (hB.alloc hs _).grown hg2 (by simp;omega) (fun j hj=>hnew j hj)
theorem minus_calls (w:World) (va vb:Value) (a b:Nat) (hba:b ≤ a) (ha:RdI w va (dig a)) (hb:RdI w vb (dig b)) (hla:(dig a).length ≤ 1048576) (hlb:(dig b).length ≤ 1048576) :
  Calls Tryz.prog 186 #[.agg #[va],.agg #[vb]] w (LPost w (dig (a - b))):=by
 have hda:=dlt_dig a;have hdb:=dlt_dig b;have hva:=vald_dig a;have hvb:=vald_dig b
 have Hlen:Hid ((dig b).length ≤ (dig a).length):=by
  show _ ≤ _;rcases Nat.lt_or_ge (dig a).length (dig b).length with h | h
  ·have:=dig_lt_of_len h;omega
  ·exact h
 generalize dig a = x at ha hda hla hva Hlen;generalize dig b = y at hb hdb hlb hvb Hlen;have Hva:=hIh hva;have Hvb:=hIh hvb;clear hva hvb;obtain ⟨A,c,rfl⟩:=ha.slice;obtain ⟨A2,c2,rfl⟩:=hb.slice
 have Hst:Hid (MLoop w x y (.slice A x.length c) (.slice A2 y.length c2) (.slice none 0 0) (.int .i64 0) (.int .i64 0) (((w.alloc (.cells #[.slice A x.length c] 201)).alloc (.cells #[.slice A2 y.length c2] 201)).alloc (.cells #[.slice none 0 0] 201))):=
  ⟨0, [],0,Nat.zero_le _,rfl,rfl,by omega,rfl,(fun d hd=>by cases hd),by simp [vald],World.ownsRow_nil _ _ _ _,(fun j hj=>by cases hj),blk_alloc (blk_alloc (blk_new _ _) _) _,blk_alloc (by simpa using blk_new (w.alloc (.cells #[.slice A x.length c] 201)) _) _,
   by simpa using blk_new ((w.alloc (.cells #[.slice A x.length c] 201)).alloc (.cells #[.slice A2 y.length c2] 201)) _,(((Below.refl _ _).alloc (Nat.le_refl _) _).alloc (by simp) _).alloc (by simp;omega) _⟩
 go_enter Tryz.func186,Tryz.ntmps186;go_wp2
 go_loopw [5,6,7] (fun v5 v6 v7 w1=>MLoop w x y (.slice A x.length c) (.slice A2 y.length c2) v5 v6 v7 w1) (fun _ _ i _=>x.length - (intOf i).toNat)
 case atStart=>exact Hst.out
 case round=>
  obtain ⟨k,out,bw,hk,rfl,rfl,hbw,hol,hdo,hval,hown,hnew,b0,b1,b2,hB⟩:=hrel;have Hval:=hIh hval;have Hol:=hIh hol;have Hnew:=hIh hnew;clear hval hol hnew;obtain ⟨A3,c3,rfl⟩:=own_slice hown;obtain ⟨d0, -⟩:=cells1 b0;obtain ⟨d1, -⟩:=cells1 b1
  by_cases hlt:k < x.length
  ·have hltd:=dT hlt
   obtain ⟨bx,ox,kx,hv,hkx,hbbx,hcx⟩:=ha.some (by intro e;rw [e] at hlt;simp at hlt)
   cases hv
   have q1:=(hB.cell (p:=⟨bx,ox + k,none⟩) hbbx).trans (hcx k hlt);have hx10:=hda _ (List.getElem_mem hlt);have hy10:=getD_lt hdb k;have Hx:=vald_take_succ x k hlt;have Hy:=vald_take_getD y k;have hat:∀ W,Below w.heap.size w W → Calls Tryz.prog 184 #[.agg #[.slice A2 y.length c2],.int .i64 k] W fun e w'=>e = .returned (.int .i64 (y.getD k 0:Nat)) ∧ Below W.heap.size W w':=fun W hW=>at_calls W _ y (hb.below hW) k (by omega) hlb
   have Hat:=hIh hat
   clear hat hcx;generalize x[k] = p at q1 hx10 Hx;generalize y.getD k 0 = q at Hat hy10 Hy;have HX:=hIh Hx;have HY:=hIh Hy;clear Hx Hy;have HB:=hIh hB;have hbB:=fun W (h:Below wr.heap.size wr W)=>hB.trans (h.mono hB.size);clear hB
   have HS:Hid (∀ W,Below wr.heap.size wr W → W.cell? ⟨w.heap.size,0,none⟩ = some (.slice (some ⟨bx,ox,none⟩) x.length c) ∧ W.cell? ⟨bx,ox + k,none⟩ = some (.int .i64 p) ∧ W.cell? ⟨w.heap.size + 1,0,none⟩ = some (.slice A2 y.length c2) ∧ Below wr.heap.size wr W):=by
    intro W hW;refine ⟨(hW.cell (p:=⟨w.heap.size,0,none⟩) (World.block_lt_of_cell? _ _ d0)).trans d0,(hW.cell (p:=⟨bx,ox + k,none⟩) (World.block_lt_of_cell? _ _ q1)).trans q1,(hW.cell (p:=⟨w.heap.size + 1,0,none⟩) (World.block_lt_of_cell? _ _ d1)).trans d1,hW⟩
   have HB0:Hid (Below wr.heap.size wr wr.drew):=drewB (Below.refl _ _) 1;have HT:Hid (∀ W W',Below wr.heap.size wr W → Below W.heap.size W W' → Below wr.heap.size wr W'):=fun W W' h1 h2=>h1.trans (h2.mono h1.size);go_wp2
   go_region_held3 (fun w'=>w'.cell? ⟨w.heap.size,0,none⟩ = some (.slice (some ⟨bx,ox,none⟩) x.length c) ∧ w'.cell? ⟨bx,ox + k,none⟩ = some (.int .i64 p) ∧ w'.cell? ⟨w.heap.size + 1,0,none⟩ = some (.slice A2 y.length c2) ∧ Below wr.heap.size wr w') (first | exact HS.out _ HB0.out | (exact HS.out _ (HT.out _ _ (by assumption) (by assumption))))
    ((go_at_call 184;refine (Hat.out _ ?hx).mono ?_;exact hbB _ (by assumption);rintro e w' ⟨rfl,hq⟩))
   have hB2:=hbB _ (HT.out _ _ (by assumption) hq);have hW:=HT.out _ _ (by assumption) hq;have z0:=blk_below b0 hW;have z1:=blk_below b1 hW;have z2:=blk_below b2 hW;have hown2:=own_below hown hW;obtain ⟨cc,cf⟩:=cells1 z2;have e1:IntKind.i64.wrap ((p:Int) - q) = (p:Int) - q:=(by rw [IntKind.wrap_i64];omega);have e2:IntKind.i64.wrap ((p:Int) - q - bw) = (p:Int) - q - bw:=(by rw [IntKind.wrap_i64];omega);rw [e1,e2];clear e1 e2 hbB b0 b1 b2 hown
   by_cases hlow:p < q + bw
   ·obtain ⟨d,hdq⟩ : ∃ d:Nat,p + 10 * 1 = d + q + bw:=⟨p + 10 - q - bw,by omega⟩
    have hdd:(p:Int) - q - bw + 10 = d:=(by omega);have hd10:d < 10:=(by omega);have hneg:decide ((p:Int) - q - bw < 0) = true:=decide_eq_true (by omega);go_wp2_with (at_builtin;refine wpList_append2 _ rfl (.tmp 31) (.tmp 33) 65 rfl 3 (.int .i64 0) 1 8 Tryz.underlying65 infoInt rfl (by decide) _ out.length (ints out) rfl (hown2.alloc _) _ 1 (ints [d]) rfl ?c1 (ints_one _) ?c2 ?c3 ?_)
    case c1=>exact RdI.one _ _ _
    case c2=>have:=Hol.out;unfold maxLen;omega
    case c3=>have:=Hol.out;omega
    intro v' w2 ho2 hg2 hn2 _;have Hk:=hIh (MLoop.next (bn:=1) hlt Hol.out hdo hd10 (by omega) Hval.out HX.out HY.out hdq Hnew.out hB2 z0 z1 z2 hown2 ho2 hg2 hn2);clear ho2 hg2 hn2 hown2 hB2 z0 z1 z2;go_wp2;go_roundw
    case rel=>exact Hk.out
    case measure=>simp [intOf];omega
   ·obtain ⟨d,hdq⟩ : ∃ d:Nat,p + 10 * 0 = d + q + bw:=⟨p - q - bw,by omega⟩
    have hdd:(p:Int) - q - bw = d:=(by omega);have hd10:d < 10:=(by omega);rw [hdd];have hneg:decide ((d:Int) < 0) = false:=decide_eq_false (by omega);go_wp2_with (at_builtin;refine wpList_append2 _ rfl (.tmp 31) (.tmp 33) 65 rfl 3 (.int .i64 0) 1 8 Tryz.underlying65 infoInt rfl (by decide) _ out.length (ints out) rfl (hown2.alloc _) _ 1 (ints [d]) rfl ?c1 (ints_one _) ?c2 ?c3 ?_)
    case c1=>exact RdI.one _ _ _
    case c2=>have:=Hol.out;unfold maxLen;omega
    case c3=>have:=Hol.out;omega
    intro v' w2 ho2 hg2 hn2 _;have Hk:=hIh (MLoop.next (bn:=0) hlt Hol.out hdo hd10 (by omega) Hval.out HX.out HY.out hdq Hnew.out hB2 z0 z1 z2 hown2 ho2 hg2 hn2);clear ho2 hg2 hn2 hown2 hB2 z0 z1 z2;go_wp2;go_roundw
    case rel=>exact Hk.out
    case measure=>simp [intOf];omega
  ·have hkx:k = x.length:=by omega
   have hltd:=dF hlt;have hw:Hid (wr.heap[w.heap.size + 1 + 1]? = some (.cells #[.slice none 0 0] 201 (0,0))):=b2;have hcall:∀ W,Below wr.heap.size wr W → Calls Tryz.prog 161 #[.slice A3 out.length c3] W (CutPost W (.slice A3 out.length c3) (trim out)):=fun W hW=>cut_calls W _ out (RdI.of_own (own_below hown hW)) (by have:=Hol.out;omega);obtain ⟨cc,cf⟩:=cells1 b2;have Hcall:=hIh hcall;clear hcall
   have hres:Hid (trim out = dig (a - b)):=by
    show _ = _;have h1:=Hval.out;subst hkx;have h2:=vald_lt hdo;rw [List.take_of_length_le (Nat.le_refl _),List.take_of_length_le Hlen.out,Hva.out,Hvb.out] at h1;rw [Hol.out] at h2;rw [trim_eq hdo]
    congr 1
    rcases (by omega:bw = 0 ∨ bw = 1) with rfl | rfl
    ·rw [Nat.zero_mul] at h1;omega
    ·rw [Nat.one_mul] at h1;omega
   go_wp2_with fail;refine (Hcall.out _ (Below.refl _ _)).mono ?_;rintro e w1 ⟨sv,rfl,hr,hsv,hw1⟩;obtain ⟨A4,c4,rfl⟩:=hr.slice;have z2:=blk_below hw.out hw1;obtain ⟨cd,cg⟩:=cells1 z2;have hns:(Value.slice A4 (trim out).length c4).ownBlock ≠ some (w.heap.size + 1 + 1):=fun h=>own_ne_blk hown b2 (by decide) (hsv _ h);have Hf:=hIh (((hB.trans (hw1.mono hB.size)).setCell (p:=⟨w.heap.size + 1 + 1,0,none⟩) (by show _ ≤ _;simp;omega) (.slice A4 (trim out).length c4)));have Hr:=hIh (hr.fr ((Fr.refl (Only (w.heap.size + 1 + 1)) w1).setCell (p:=⟨w.heap.size + 1 + 1,0,none⟩) (.inl rfl) (.slice A4 (trim out).length c4)) (fun k hk e=>hns (by rw [hk,show k = _ from e])));have Hn:Hid (∀ k,(Value.slice A4 (trim out).length c4).ownBlock = some k → w.heap.size ≤ k):=fun k hk=>Hnew.out k (hsv k hk);have Hc:=hIh (cells1 (blk_setCell z2 0 (.slice A4 (trim out).length c4))).1;clear hr hsv hw1 hns;go_wp2
   have HC:=Hc.out;refine bodyPost_ret (v:=.agg #[.slice A4 (trim out).length c4]) (by simp [results,Tryz.results186,go_sem,HC]) rfl ⟨_,rfl,?_,Hn.out,Hf.out⟩;rw [← hres.out];exact Hr.out
def IBlk (w:World) (g:Nat) (l:List Nat):Prop:=w.heap[g]? = some (.cells (ints l).toArray 3 (0,0))
theorem ints_getElem? (l:List Nat) (k:Nat) (hk:k < l.length):(ints l)[k]? = some (.int .i64 (l[k] : Nat)):=by simp [ints,hk]
theorem IBlk.cell {w:World} {g:Nat} {l:List Nat} (h:IBlk w g l) (k:Nat) (hk:k < l.length):w.cell? ⟨g,k,none⟩ = some (.int .i64 (l[k] : Nat)):=by
 unfold IBlk at h;simp [World.cell?,h,ints,hk]
theorem IBlk.frozen {w:World} {g:Nat} {l:List Nat} (h:IBlk w g l) (k:Nat):w.frozen? ⟨g,k,none⟩ = false:=by
 unfold IBlk at h;simp [World.frozen?,h]
theorem IBlk.set {w:World} {g:Nat} {l:List Nat} (h:IBlk w g l) (k d:Nat):IBlk (w.setCell ⟨g,k,none⟩ (.int .i64 (d:Int))) g (l.set k d):=by
 unfold IBlk;rw [blk_setCell h];simp [ints,List.map_set]
theorem IBlk.far {w:World} {g:Nat} {l:List Nat} (h:IBlk w g l) {p:Addr} (hp:g ≠ p.block) (u:Value):IBlk (w.setCell p u) g l:=blk_far h hp u
theorem IBlk.below {w w1:World} {g:Nat} {l:List Nat} (h:IBlk w g l) (hb:Below w.heap.size w w1):IBlk w1 g l:=blk_below h hb
theorem IBlk.rd {w:World} {g:Nat} {l:List Nat} (h:IBlk w g l) {n:Nat} (hn:l.length = n):RdI w (.slice (some ⟨g,0,none⟩) n n) l:=by
 subst hn;refine ⟨by simp [ints],_,_,rfl,Nat.le_refl _,(fun h=>by cases h),fun ad hA j u hu=>?_⟩
 cases hA
 have hj:j < l.length:=by
  have:=(List.getElem?_eq_some_iff.1 hu).1;simpa [ints] using this
 rw [ints_getElem? l j hj] at hu
 cases hu
 have e:(⟨g,0,none⟩ : Addr).add j = ⟨g,j,none⟩:=by unfold Addr.add;split <;> simp_all
 rw [e];exact h.cell j hj
theorem IBlk.new (w:World) (n:Nat):IBlk (w.alloc (.cells (madeCells #[.int .i64 0] n) 3)) w.heap.size (List.replicate n 0):=by
 unfold IBlk;rw [blk_new]
 congr 2
 apply Array.ext
 ·simp [ints,size_madeCells]
 ·intro i h1 h2;simp [ints,madeCells,Nat.mod_one]
theorem vald_set {l:List Nat} {k d:Nat} (hk:k < l.length):vald (l.set k d) + 10 ^ k * l[k] = vald l + 10 ^ k * d:=by
 induction l generalizing k with
 | nil=>simp at hk
 | cons a r ih=>
  cases k with
  | zero=>simp [vald];omega
  | succ k=>
   have:=ih (k:=k) (by simpa using hk);simp only [List.set_cons_succ,vald,List.getElem_cons_succ,Nat.pow_succ];rw [Nat.mul_comm (10 ^ k) 10,Nat.mul_assoc,Nat.mul_assoc];omega
theorem vald_zeros (n:Nat):vald (List.replicate n 0) = 0:=by
 induction n with
 | zero=>rfl
 | succ n ih=>rw [List.replicate_succ,vald,ih]
def TB (w:World) (va vb:Value) (out:List Nat) (w1:World):Prop:=
 w1.heap[w.heap.size]? = some (.cells #[va] 201 (0,0)) ∧ w1.heap[w.heap.size + 1]? = some (.cells #[vb] 201 (0,0)) ∧
 w1.heap[w.heap.size + 1 + 1]? = some (.cells #[.slice none 0 0] 201 (0,0)) ∧ IBlk w1 (w.heap.size + 1 + 1 + 1) out ∧ Below w.heap.size w w1
def TOut (N:Nat) (w:World) (x y:List Nat) (va vb v6:Value) (w1:World):Prop := ∃ (i:Nat) (out:List Nat),i ≤ x.length ∧ v6 = .int .i64 i ∧ out.length = N ∧ DLt out ∧
 vald out = vald (x.take i) * vald y ∧ TB w va vb out w1
def TIn (N:Nat) (w:World) (x y:List Nat) (i p:Nat) (va vb v7 v8:Value) (w1:World):Prop := ∃ (c j:Nat) (out:List Nat),v7 = .int .i64 c ∧ v8 = .int .i64 j ∧ c ≤ 9 ∧ j ≤ y.length + 1 ∧ out.length = N ∧ DLt out ∧
 vald out + c * 10 ^ (i + j) = vald (x.take i) * vald y + 10 ^ i * (p * vald (y.take j)) ∧ TB w va vb out w1
theorem TB.below {w w1 w2:World} {va vb:Value} {out:List Nat} (h:TB w va vb out w1) (hb:Below w1.heap.size w1 w2):TB w va vb out w2:=
 ⟨blk_below h.1 hb,blk_below h.2.1 hb,blk_below h.2.2.1 hb,h.2.2.2.1.below hb,h.2.2.2.2.trans (hb.mono h.2.2.2.2.size)⟩
theorem TB.set {w w1:World} {va vb:Value} {out:List Nat} (h:TB w va vb out w1) (k d:Nat):TB w va vb (out.set k d) (w1.setCell ⟨w.heap.size + 1 + 1 + 1,k,none⟩ (.int .i64 (d:Int))):=
 ⟨blk_far h.1 (by show w.heap.size ≠ w.heap.size + 1 + 1 + 1;omega) _,blk_far h.2.1 (by show w.heap.size + 1 ≠ w.heap.size + 1 + 1 + 1;omega) _,blk_far h.2.2.1 (by show w.heap.size + 1 + 1 ≠ w.heap.size + 1 + 1 + 1;omega) _,h.2.2.2.1.set k d,h.2.2.2.2.setCell (by show _ ≤ _;simp;omega) _⟩
theorem tbound {X Y p P i m c v:Nat} (h:v + c * P = X * Y + 10 ^ i * (p * Y)) (hX:X < 10 ^ i) (hp:p < 10) (hY:Y < 10 ^ m) (hc:0 < c):P < 10 ^ (i + m + 1):=by
 have h1:P ≤ X * Y + 10 ^ i * (p * Y):=by
  have:=Nat.le_mul_of_pos_left P hc;omega
 have h2:X * Y + 10 ^ i * (p * Y) = (X + 10 ^ i * p) * Y:=by rw [Nat.add_mul,Nat.mul_assoc]
 rw [h2] at h1
 have h3:X + 10 ^ i * p < 10 ^ (i + 1):=by
  have:10 ^ i * p ≤ 10 ^ i * 9:=Nat.mul_le_mul_left _ (by omega);rw [Nat.pow_succ];omega
 have h4:(X + 10 ^ i * p) * Y < 10 ^ (i + 1) * 10 ^ m:=Nat.mul_lt_mul'' h3 hY;rw [← Nat.pow_add] at h4;rw [show i + m + 1 = i + 1 + m from by omega];omega
theorem tsum {V V' R p t q o d c c' v I J P:Nat} (hIJ:P = I * J) (h:V + c * P = R + I * (p * t)) (hs:V' + P * o = V + P * d) (hv:v = o + p * q + c) (hd:d + 10 * c' = v):V' + c' * (P * 10) = R + I * (p * (t + J * q)):=by
 subst hv
 have e1:P * (d + 10 * c') = P * (o + p * q + c):=by rw [hd]
 rw [Nat.mul_add,Nat.mul_add,Nat.mul_add] at e1
 have e2:I * (p * (t + J * q)) = I * (p * t) + P * (p * q):=by
  subst hIJ;rw [Nat.mul_add,Nat.mul_add];congr 1;rw [Nat.mul_assoc,Nat.mul_left_comm p J q]
 have e3:c' * (P * 10) = P * (10 * c'):=by rw [Nat.mul_comm c',Nat.mul_assoc]
 rw [e2,e3];rw [Nat.mul_comm c P] at h;omega
theorem times_calls (w:World) (va vb:Value) (a b:Nat) (ha:RdI w va (dig a)) (hb:RdI w vb (dig b)) (hla:(dig a).length ≤ 1048576) (hlb:(dig b).length ≤ 1048576) :
  Calls Tryz.prog 160 #[.agg #[va],.agg #[vb]] w (LPost w (dig (a * b))):=by
 have hda:=dlt_dig a;have hdb:=dlt_dig b;have Hva:Hid (vald (dig a) = a):=vald_dig a;have Hvb:Hid (vald (dig b) = b):=vald_dig b;generalize dig a = x at ha hda hla Hva;generalize dig b = y at hb hdb hlb Hvb;obtain ⟨A,c0,rfl⟩:=ha.slice;obtain ⟨A2,c2,rfl⟩:=hb.slice;have hmk:=run_make_row' (P:=Tryz.prog) 65 3 (.int .i64 0) 8 Tryz.underlying65 infoInt rfl .i64 .i64 (x.length + y.length + 1) (by omega) (by omega)
 have hN:(x.length:Int) + y.length + 1 = ((x.length + y.length + 1:Nat):Int):=by omega
 rw [← hN] at hmk;clear hN;obtain ⟨N,hNN⟩ : ∃ N,x.length + y.length + 1 = N:=⟨_,rfl⟩;rw [hNN] at hmk;have HN:=hIh hNN
 have Hst:Hid (TOut N w x y (.slice A x.length c0) (.slice A2 y.length c2) (.int .i64 0) ((((w.alloc (.cells #[.slice A x.length c0] 201)).alloc (.cells #[.slice A2 y.length c2] 201)).alloc (.cells #[.slice none 0 0] 201)).alloc (.cells (madeCells #[.int .i64 0] N) 3))):=
  ⟨0,List.replicate N 0,Nat.zero_le _,rfl,by simp,(fun d hd=>by have:=(List.mem_replicate.1 hd).2;omega),by simp [vald,vald_zeros],blk_alloc (blk_alloc (blk_alloc (blk_new _ _) _) _) _,blk_alloc (blk_alloc (by simpa using blk_new (w.alloc (.cells #[.slice A x.length c0] 201)) _) _) _,
   blk_alloc (by simpa using blk_new ((w.alloc (.cells #[.slice A x.length c0] 201)).alloc (.cells #[.slice A2 y.length c2] 201)) _) _,
   by simpa using IBlk.new (((w.alloc (.cells #[.slice A x.length c0] 201)).alloc (.cells #[.slice A2 y.length c2] 201)).alloc (.cells #[.slice none 0 0] 201)) N,(((((Below.refl _ _).alloc (Nat.le_refl _) _).alloc (by simp) _).alloc (by simp;omega) _).alloc (by simp;omega) _)⟩
 clear hNN;go_enter Tryz.func160,Tryz.ntmps160;go_wp2
 go_loopw [6] (fun v6 w1=>TOut N w x y (.slice A x.length c0) (.slice A2 y.length c2) v6 w1) (fun i _=>x.length - (intOf i).toNat)
 case atStart=>exact Hst.out
 case round=>
  obtain ⟨i,out,hi,rfl,hol,hdo,hval,hTB⟩:=hrel;have Hval:=hIh hval;have Hol:=hIh hol;have HTB:=hIh hTB;clear hval hol;obtain ⟨d0, -⟩:=cells1 hTB.1;obtain ⟨d1, -⟩:=cells1 hTB.2.1
  by_cases hlt:i < x.length
  ·have hltd:=dT hlt
   obtain ⟨bx,ox,kx,hv,hkx,hbbx,hcx⟩:=ha.some (by intro e;rw [e] at hlt;simp at hlt)
   cases hv
   have hpc:=hcx i hlt;have hp10:=hda _ (List.getElem_mem hlt);have HX:=hIh (vald_take_succ x i hlt);clear hcx;generalize x[i] = p at hpc hp10 HX
   have HXlt:Hid (vald (x.take i) < 10 ^ i):=by
    have:=vald_lt (l:=x.take i) (fun d hd=>hda d (List.mem_of_mem_take hd))
    rwa [List.length_take,Nat.min_eq_left hi] at this
   have HYlt:=hIh (vald_lt hdb);have Hst2:Hid (TIn N w x y i p (.slice (some ⟨bx,ox,none⟩) x.length c0) (.slice A2 y.length c2) (.int .i64 0) (.int .i64 0) wr):=⟨0,0,out,rfl,rfl,by omega,by omega,Hol.out,hdo,by rw [Hval.out];simp [vald],HTB.out⟩;clear hTB HTB;go_wp2
   go_loopw [7,8] (fun v7 v8 w1=>TIn N w x y i p (.slice (some ⟨bx,ox,none⟩) x.length c0) (.slice A2 y.length c2) v7 v8 w1) (fun _ j _=>y.length + 1 - (intOf j).toNat)
   case atStart=>exact Hst2.out
   case round=>
    obtain ⟨c,j,out2,rfl,rfl,hc9,hj,hol2,hdo2,hval2,hTB⟩:=hrel;have Hval2:=hIh hval2;have Hol2:=hIh hol2;have HTB:=hIh hTB;obtain ⟨d0, -⟩:=cells1 hTB.1;obtain ⟨d1, -⟩:=cells1 hTB.2.1
    by_cases hgo:j < y.length ∨ 0 < c
    ·have hjm:j ≤ y.length:=by
      rcases hgo with h | h
      ·omega
      ·rcases Nat.lt_or_ge y.length j with hlj | hlj
       ·exfalso
        have h1:=hval2;rw [List.take_of_length_le (by omega:y.length ≤ j)] at h1;have h2:=tbound h1 HXlt.out hp10 HYlt.out h;have h3:=Nat.pow_lt_pow_iff_right (a:=10) (by decide) |>.1 h2;omega
       ·exact hlj
     clear hval2;obtain ⟨k,hk⟩ : ∃ k,k = i + j:=⟨_,rfl⟩;have hkk:(i:Int) + j = k:=(by omega);have hkw:IntKind.i64.wrap (k:Int) = k:=(by rw [IntKind.wrap_i64];omega);have hk0:(0:Int) ≤ k:=(by omega);have hkN1:(k:Int) < (N:Int):=(by have:=HN.out;omega);have hkl:k < out2.length:=(by have:=HN.out;have:=Hol2.out;omega);have hkN:k < N:=(by have:=HN.out;omega);have hoc:=hTB.2.2.2.1.cell k hkl;have hof:=hTB.2.2.2.1.frozen k;have ho10:=hdo2 _ (List.getElem_mem hkl);have hq10:=getD_lt hdb j;have HY:=hIh (vald_take_getD y j);have HS2:=hIh (fun d=>vald_set (d:=d) hkl);have hB:=hTB.2.2.2.2;have Hat:Hid (∀ W,Below wr.heap.size wr W → Calls Tryz.prog 184 #[.agg #[.slice A2 y.length c2],.int .i64 j] W fun e w'=>e = .returned (.int .i64 (y.getD j 0:Nat)) ∧ Below W.heap.size W w'):=fun W hW=>at_calls W _ y (hb.below (hB.trans (hW.mono hB.size))) j (by omega) hlb;have q1:=(hB.cell (p:=⟨bx,ox + i,none⟩) hbbx).trans hpc
     generalize out2[k] = o at hoc ho10 HS2;generalize y.getD j 0 = q at Hat hq10 HY;have HT:Hid (∀ W W',Below wr.heap.size wr W → Below W.heap.size W W' → Below wr.heap.size wr W'):=fun W W' h1 h2=>h1.trans (h2.mono h1.size);have HB0:Hid (Below wr.heap.size wr wr.drew):=drewB (Below.refl _ _) 1
     have HS:Hid (∀ W,Below wr.heap.size wr W → W.cell? ⟨w.heap.size,0,none⟩ = some (.slice (some ⟨bx,ox,none⟩) x.length c0) ∧ W.cell? ⟨bx,ox + i,none⟩ = some (.int .i64 p) ∧ W.cell? ⟨w.heap.size + 1,0,none⟩ = some (.slice A2 y.length c2) ∧ W.cell? ⟨w.heap.size + 1 + 1 + 1,k,none⟩ = some (.int .i64 o) ∧ Below wr.heap.size wr W):=by
      intro W hW;refine ⟨(hW.cell (p:=⟨w.heap.size,0,none⟩) (World.block_lt_of_cell? _ _ d0)).trans d0,(hW.cell (p:=⟨bx,ox + i,none⟩) (World.block_lt_of_cell? _ _ q1)).trans q1,(hW.cell (p:=⟨w.heap.size + 1,0,none⟩) (World.block_lt_of_cell? _ _ d1)).trans d1,(hW.cell (p:=⟨w.heap.size + 1 + 1 + 1,k,none⟩) (World.block_lt_of_cell? _ _ hoc)).trans hoc,hW⟩
     have hpq:p * q ≤ 81:=Nat.mul_le_mul (by omega:p ≤ 9) (by omega:q ≤ 9);have hpq2:(p:Int) * q = ((p * q:Nat):Int):=(by simp);obtain ⟨v,hv⟩ : ∃ v,v = o + p * q + c:=⟨_,rfl⟩;have Hv:=hIh hv;have e1:IntKind.i64.wrap ((p:Int) * q) = ((p * q:Nat):Int):=(by rw [hpq2,IntKind.wrap_i64];omega);have e2:IntKind.i64.wrap ((o:Int) + ((p * q:Nat):Int)) = (o:Int) + ((p * q:Nat):Int):=(by rw [IntKind.wrap_i64];omega);have e3:IntKind.i64.wrap ((o:Int) + ((p * q:Nat):Int) + c) = v:=(by rw [IntKind.wrap_i64];omega);have E1:=hIh e1;have E2:=hIh e2;have E3:=hIh e3;clear hTB hB e1 e2 e3 hpq2;have hcond:j < y.length ∨ (¬ j < y.length ∧ 0 < c):=(by omega);have hv99:v ≤ 99:=(by omega);have hm:(v:Int) % 10 = ((v % 10:Nat):Int):=(by omega);have hm2:(v:Int) / 10 = ((v / 10:Nat):Int):=(by omega)
     have Hnext:Hid (∀ W,Below wr.heap.size wr W → TIn N w x y i p (.slice (some ⟨bx,ox,none⟩) x.length c0) (.slice A2 y.length c2) (.int .i64 ((v / 10:Nat):Int)) (.int .i64 ((j:Int) + 1)) (W.setCell ⟨w.heap.size + 1 + 1 + 1,k,none⟩ (.int .i64 ((v % 10:Nat):Int)))):=by
      intro W hW;refine ⟨v / 10,j + 1,out2.set k (v % 10),rfl,rfl,by omega,by omega,by simp [Hol2.out],?_,?_,(HTB.out.below hW).set k (v % 10)⟩
      ·intro d hd
       rcases List.mem_or_eq_of_mem_set hd with h | rfl
       ·exact hdo2 d h
       ·omega
      ·rw [HY.out]
       have h1:=Hval2.out;have h2:=HS2.out (v % 10);subst hk;rw [show i + (j + 1) = i + j + 1 from by omega,Nat.pow_succ];exact tsum (d:=v % 10) (by rw [Nat.pow_add]) h1 h2 Hv.out (by omega)
     have Hm:=hIh hm.symm;have Hm2:=hIh hm2.symm;clear hm hm2 hv hk hj hkl hgo hpq hp10 hq10 ho10 hc9;rcases hcond with hc1 | ⟨hc1,hc2⟩
     all_goals go_wp2
     all_goals
      go_region_held3 (fun w' : World=>w'.cell? ⟨w.heap.size,0,none⟩ = some (.slice (some ⟨bx,ox,none⟩) x.length c0) ∧ w'.cell? ⟨bx,ox + i,none⟩ = some (.int .i64 p) ∧ w'.cell? ⟨w.heap.size + 1,0,none⟩ = some (.slice A2 y.length c2) ∧ w'.cell? ⟨w.heap.size + 1 + 1 + 1,k,none⟩ = some (.int .i64 o) ∧ Below wr.heap.size wr w')
       (first | exact HS.out _ HB0.out | (exact HS.out _ (HT.out _ _ (by assumption) (by assumption))))
       ((go_at_call 184;refine (Hat.out _ (by assumption)).mono ?_;rintro e w' ⟨rfl,hq⟩))
      rw [E1.out,E2.out,E3.out];have hW:=HT.out _ _ (by assumption) hq;have hTB2:=HTB.out.below hW;have z1:=hTB2.2.2.2.1.cell k (by have:=HN.out;have:=Hol2.out;omega);have z2:=hTB2.2.2.2.1.frozen k;have Hk:=hIh (Hnext.out _ hW);rw [Hm.out,Hm2.out] at Hk;clear hTB2 Hnext HB0 HS HT E1 E2 E3;go_wp2;go_roundw
      case rel=>exact Hk.out
      case measure=>simp [intOf];omega
    ·have hc0:c = 0:=by omega
     have hjm:¬ j < y.length:=(by omega);subst hc0
     have Hnext:Hid (TOut N w x y (.slice (some ⟨bx,ox,none⟩) x.length c0) (.slice A2 y.length c2) (.int .i64 ((i:Int) + 1)) wr):=by
      refine ⟨i + 1,out2,by omega,rfl,hol2,hdo2,?_,HTB.out⟩;have h1:=hval2;rw [Nat.zero_mul,Nat.add_zero,List.take_of_length_le (by omega:y.length ≤ j)] at h1;rw [h1,HX.out,Nat.add_mul,Nat.mul_assoc]
     clear hval2 hTB HTB hc9;go_wp2;go_roundw
     case rel=>exact Hnext.out
     case measure=>simp [intOf];omega
  ·have hin:i = x.length:=by omega
   have hltd:=dF hlt;have hB:=hTB.2.2.2.2
   have hcall:∀ W,Below wr.heap.size wr W → Calls Tryz.prog 161 #[.slice (some ⟨w.heap.size + 1 + 1 + 1,0,none⟩) N N] W (CutPost W (.slice (some ⟨w.heap.size + 1 + 1 + 1,0,none⟩) N N) (trim out)):=fun W hW=>by
    have h1:=cut_calls W _ out ((hTB.2.2.2.1.below hW).rd Hol.out) (by have:=HN.out;have:=Hol.out;omega);exact h1
   have Hcall:=hIh hcall;have hz2:=hTB.2.2.1
   have hres:Hid (trim out = dig (a * b)):=by
    show _ = _;have h1:=Hval.out;rw [hin,List.take_of_length_le (Nat.le_refl _),Hva.out,Hvb.out] at h1;rw [trim_eq hdo,h1]
   clear hcall hTB HTB;go_wp2_with fail;refine (Hcall.out _ (Below.refl _ _)).mono ?_;rintro e w1 ⟨sv,rfl,hr,hsv,hw1⟩;obtain ⟨A4,c4,rfl⟩:=hr.slice;have z2:=blk_below hz2 hw1;obtain ⟨cd,cg⟩:=cells1 z2
   have hns:(Value.slice A4 (trim out).length c4).ownBlock ≠ some (w.heap.size + 1 + 1):=fun h=>by
    have:=hsv _ h;simp [Value.ownBlock] at this
   have Hf:=hIh (((hB.trans (hw1.mono hB.size)).setCell (p:=⟨w.heap.size + 1 + 1,0,none⟩) (by show _ ≤ _;simp;omega) (.slice A4 (trim out).length c4)));have Hr:=hIh (hr.fr ((Fr.refl (Only (w.heap.size + 1 + 1)) w1).setCell (p:=⟨w.heap.size + 1 + 1,0,none⟩) (.inl rfl) (.slice A4 (trim out).length c4)) (fun k hk e=>hns (by rw [hk,show k = _ from e])))
   have Hn:Hid (∀ k,(Value.slice A4 (trim out).length c4).ownBlock = some k → w.heap.size ≤ k):=fun k hk=>by
    have:=hsv k hk;simp [Value.ownBlock] at this;omega
   have Hc:=hIh (cells1 (blk_setCell z2 0 (.slice A4 (trim out).length c4))).1;clear hr hsv hw1 hns;go_wp2;have HC:=Hc.out;refine bodyPost_ret (v:=.agg #[.slice A4 (trim out).length c4]) (by simp [results,Tryz.results160,go_sem,HC]) rfl ⟨_,rfl,?_,Hn.out,Hf.out⟩;rw [← hres.out];exact Hr.out
end Go.Proofs.YtpfkkagkbneilaaGreatDoor
