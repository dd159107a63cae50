/- Texts P3, P4, P5, F8, F9 of the proof of BursarChecks, joined. -/
import Derived.Test.YtpfkkagkbneilaaGreatDoorV2
import Derived.Deep.RegionHeld3
import Derived.Deep.DeepCutAuto
namespace Go.Proofs.YtpfkkagkbneilaaGreatDoor
open Go.RowKit
set_option linter.unusedVariables false
set_option linter.unusedSimpArgs false
set_option maxRecDepth 100000
set_option maxHeartbeats 25600000
structure Amt where
 name:Str
 val:Nat
deriving DecidableEq
structure Ptt where
 name:Str
 reqs:List Amt
 lims:List Amt
deriving DecidableEq
structure Rl where
 res:Str
 mn:Int
 mx:Int
 df:Int
 rq:Int
 rt:Int
deriving DecidableEq
structure ObD where
 path:Str
 name:Str
 labels:List (Str × Str)
 prio:Int
 ends:Int
 parts:List Ptt
deriving DecidableEq
def ObD.zero:ObD:=⟨[], [], [],0,0, []⟩
structure QuD where
 path:Str
 name:Str
 kind:Nat
 arg:Nat
 hard:List Amt
deriving DecidableEq
def QuD.zero:QuD:=⟨[], [],0,0, []⟩
structure LiD where
 path:Str
 name:Str
 rules:List Rl
deriving DecidableEq
def LiD.zero:LiD:=⟨[], [], []⟩
structure BiD where
 path:Str
 name:Str
 subj:Str
 verb:Nat
deriving DecidableEq
def BiD.zero:BiD:=⟨[], [], [],0⟩
structure ReqD where
 op:Nat
 path:Str
 name:Str
 obj:ObD
 quo:QuD
 lim:LiD
 bin:BiD
 terms:List Tm
 ver:Nat
 most:Int
 frm:Str
 deep:Bool
 dry:Bool
deriving DecidableEq
def ReqD.zero:ReqD:=⟨0, [], [],.zero,.zero,.zero,.zero, [],0,0, [],false,false⟩
def blank (b:UInt8):Bool:=b == 32 || b == 9
def dropB (s:Str):Str:=s.dropWhile blank
theorem dropWhile_len (p:UInt8 → Bool) (s:Str):(s.dropWhile p).length ≤ s.length:=by
 induction s with
 | nil=>simp
 | cons a r ih=>rw [List.dropWhile_cons];split <;> simp <;> omega
def cutW (i:Nat) (s:Str):List (Nat × Str):=
 match s with
 | [] => []
 | a :: r=>if blank a then cutW (i + 1) r else (i,(a :: r).takeWhile (fun b => !blank b)) :: cutW (i + ((a :: r).takeWhile (fun b => !blank b)).length) ((a :: r).dropWhile (fun b => !blank b))
 termination_by s.length
 decreasing_by
  ·simp
  ·rename_i h
   rw [List.dropWhile_cons];simp only [h,Bool.not_false,if_true,List.length_cons];have:=dropWhile_len (fun b => !blank b) r;omega
def words (s:Str):List Str:=(cutW 0 s).map (·.2)
def behindS (s:Str):Nat → Str
 | 0=>dropB s
 | n + 1=>dropB ((behindS s n).dropWhile (fun b => !blank b))
def trimRB (s:Str):Str:=(s.reverse.dropWhile blank).reverse
def digitsS (s:Str) (most:Nat):Option Nat:=if s ≠ [] ∧ s.length ≤ most ∧ s.all isDg = true ∧ numv s ≤ 4611686018427387904 then some (numv s) else none
def numS (s:Str):Option Int:=match s with
 | 45 :: r=>(digitsS r 10).map fun n => -(n:Int)
 | s=>(digitsS s 10).map fun n=>(n:Int)
def optS (name:Str):List Str → Option Str × List Str
 | []=>(none, [])
 | t :: r=>match cutPre (name ++ [61]) t with
  | some v=>(some v,r)
  | none=>(none,t :: r)
def mustS (l:List Str):Option (Nat × List Str):=match optS [109,117,115,116] l with
 | (some v,r)=>(digitsS v 19).map fun n=>(n,r)
 | (none,r)=>some (0,r)
def smallS (name:Str) (other:Int) (l:List Str):Option (Int × List Str):=match optS name l with
 | (some v,r)=>(numS v).map fun n=>(n,r)
 | (none,r)=>some (other,r)
def setS (name:Str) (l:List Str):Option (Int × List Str):=match optS name l with
 | (some v,r)=>(qparse v).map fun (n:Nat)=>((n:Int),r)
 | (none,r)=>some (-1,r)
def amountsS:List Str → Option (List Amt × List Str)
 | []=>some ([], [])
 | t :: r=>match cutAt [61] t with
  | none=>some ([],t :: r)
  | some (n,v)=>match qparse v with
   | none=>none
   | some q=>(amountsS r).map fun x=>(⟨n,q⟩ :: x.1,x.2)
def amountsIf (word:Str):List Str → Option (List Amt × List Str)
 | []=>some ([], [])
 | t :: r=>if t = word then amountsS r else some ([],t :: r)
theorem amountsS_len:∀ {l:List Str} {x:List Amt × List Str},amountsS l = some x → x.2.length ≤ l.length
 | [],x,h=>by cases h;simp
 | t :: r,x,h=>by
  unfold amountsS at h
  split at h
  ·cases h;simp
  ·split at h
   ·cases h
   ·obtain ⟨y,hy,rfl⟩:=Option.map_eq_some_iff.1 h
    have:=amountsS_len hy;simp only [List.length_cons];omega
theorem amountsIf_len {w:Str} {l:List Str} {x:List Amt × List Str} (h:amountsIf w l = some x):x.2.length ≤ l.length:=by
 cases l with
 | nil=>cases h;simp
 | cons t r=>
  simp only [amountsIf] at h
  split at h
  ·have:=amountsS_len h;simp only [List.length_cons];omega
  ·cases h;simp
def wLabel:Str := [108,97,98,101,108]
def wPart:Str := [112,97,114,116]
def wReq:Str := [114,101,113]
def wLim:Str := [108,105,109]
def wRule:Str := [114,117,108,101]
def labelsS:List Str → Option (List (Str × Str) × List Str)
 | []=>some ([], [])
 | [t]=>if t = wLabel then none else some ([], [t])
 | t :: u :: r=>if t = wLabel then (match cutAt [61] u with
   | none=>none
   | some (k,v)=>(labelsS r).map fun x=>((k,v) :: x.1,x.2))
  else some ([],t :: u :: r)
def partS (name:Str) (r:List Str):Option (Ptt × List Str):=
 (amountsIf wReq r).bind fun x=>(amountsIf wLim x.2).map fun y=>(⟨name,x.1,y.1⟩,y.2)
theorem partS_len {n:Str} {l:List Str} {x:Ptt × List Str} (h:partS n l = some x):x.2.length ≤ l.length:=by
 unfold partS at h;obtain ⟨y,hy,h2⟩:=Option.bind_eq_some_iff.1 h;obtain ⟨z,hz,rfl⟩:=Option.map_eq_some_iff.1 h2;have:=amountsIf_len hy;have:=amountsIf_len hz;simp only;omega
def partsS (l:List Str):Option (List Ptt × List Str):=
 match l with
 | []=>some ([], [])
 | t :: l=>if t = wPart then (match l with
   | []=>none
   | n :: r=>match h:partS n r with
    | none=>none
    | some (p,r')=>(partsS r').map fun x=>(p :: x.1,x.2))
  else some ([],t :: l)
 termination_by l.length
 decreasing_by
  have:=partS_len h;simp only [List.length_cons] at this ⊢;omega
def ruleS (res:Str) (l:List Str):Option (Rl × List Str):=
 (setS [109,105,110] l).bind fun a=>(setS [109,97,120] a.2).bind fun b=>(setS [100,101,102,97,117,108,116] b.2).bind fun c=>(setS [114,101,113,117,101,115,116] c.2).bind fun d=>
  (setS [114,97,116,105,111] d.2).map fun e=>(⟨res,a.1,b.1,c.1,d.1,e.1⟩,e.2)
theorem optS_len (n:Str) (l:List Str):(optS n l).2.length ≤ l.length:=by
 cases l with
 | nil=>simp [optS]
 | cons t r=>simp only [optS];split <;> simp
theorem setS_len {n:Str} {l:List Str} {x:Int × List Str} (h:setS n l = some x):x.2.length ≤ l.length:=by
 unfold setS at h;have h1:=optS_len n l
 split at h
 ·rename_i v r e
  obtain ⟨y,hy,rfl⟩:=Option.map_eq_some_iff.1 h;rw [e] at h1;exact h1
 ·rename_i r e
  cases h;rw [e] at h1;exact h1
theorem ruleS_len {n:Str} {l:List Str} {x:Rl × List Str} (h:ruleS n l = some x):x.2.length ≤ l.length:=by
 unfold ruleS at h;obtain ⟨a,ha,h⟩:=Option.bind_eq_some_iff.1 h;obtain ⟨b,hb,h⟩:=Option.bind_eq_some_iff.1 h;obtain ⟨c,hc,h⟩:=Option.bind_eq_some_iff.1 h;obtain ⟨d,hd,h⟩:=Option.bind_eq_some_iff.1 h;obtain ⟨e,he,rfl⟩:=Option.map_eq_some_iff.1 h;have:=setS_len ha;have:=setS_len hb;have:=setS_len hc;have:=setS_len hd;have:=setS_len he;simp only;omega
def rulesS (l:List Str):Option (List Rl × List Str):=
 match l with
 | []=>some ([], [])
 | t :: l=>if t = wRule then (match l with
   | []=>none
   | n :: r=>match h:ruleS n r with
    | none=>none
    | some (p,r')=>(rulesS r').map fun x=>(p :: x.1,x.2))
  else some ([],t :: l)
 termination_by l.length
 decreasing_by
  have:=ruleS_len h;simp only [List.length_cons] at this ⊢;omega
def scopeS (s:Str):Option (Nat × Nat):=
 if s = [97,108,108] then some (0,0) else if s = [98,101,115,116] then some (1,0) else if s = [110,111,116,98,101,115,116] then some (2,0)
 else if s = [101,110,100,115] then some (3,0) else if s = [110,111,116,101,110,100,115] then some (4,0)
 else match cutPre [112,114,105,111,114,105,116,121,61] s with
  | some [d]=>if isDg d then some (5,d.toNat - 48) else none
  | _=>none
def ended {α : Type} (x : α):List Str → Option α
 | []=>some x
 | _=>none
def namedD (op:Nat):List Str → Option ReqD
 | [p,n]=>some { ReqD.zero with op:=op,path:=p,name:=n }
 | _=>none
def nodeD:List Str → Option ReqD
 | [a,p]=>if a = [97,100,100] then some { ReqD.zero with op:=1,path:=p } else if a = [100,114,111,112] then some { ReqD.zero with op:=2,path:=p } else none
 | _=>none
def wDrop:Str := [100,114,111,112]
def wSet:Str := [115,101,116]
def quotaD:List Str → Option ReqD
 | a :: r=>if a = wDrop then namedD 4 r else if a = wSet then (match r with
   | p :: n :: s :: r=>(scopeS s).bind fun sc=>(amountsS r).bind fun x=>ended { ReqD.zero with op:=3,path:=p,name:=n,quo:=⟨p,n,sc.1,sc.2,x.1⟩ } x.2
   | _=>none)
  else none
 | _=>none
def limitD:List Str → Option ReqD
 | a :: r=>if a = wDrop then namedD 6 r else if a = wSet then (match r with
   | p :: n :: r=>(rulesS r).bind fun x=>ended { ReqD.zero with op:=5,path:=p,name:=n,lim:=⟨p,n,x.1⟩ } x.2
   | _=>none)
  else none
 | _=>none
def objectD (op:Nat):List Str → Option ReqD
 | p :: n :: r=>(smallS [112,114,105,111] 0 r).bind fun a=>(smallS [101,110,100,115] 0 a.2).bind fun b=>(mustS b.2).bind fun c=>(labelsS c.2).bind fun d=>(partsS d.2).bind fun e=>
   ended { ReqD.zero with op:=op,path:=p,name:=n,obj:=⟨p,n,d.1,a.1,b.1,e.1⟩,ver:=c.1 } e.2
 | _=>none
def dropD:List Str → Option ReqD
 | p :: n :: r=>(mustS r).bind fun c=>ended { ReqD.zero with op:=9,path:=p,name:=n,ver:=c.1 } c.2
 | _=>none
def nodesD:List Str → Option ReqD
 | [p]=>some { ReqD.zero with op:=10,path:=p }
 | _=>none
def wDeep:Str := [100,101,101,112]
def wWhere:Str := [119,104,101,114,101]
def listD (sel:Nat → Option (List Tm)):List Str → Option ReqD
 | p :: r=>
  let deep:=r.head? == some wDeep
  let r:=if deep then r.drop 1 else r
  let f:=optS [102,114,111,109] r
  (smallS [109,111,115,116] 100 f.2).bind fun m=>
   let q:ReqD:={ ReqD.zero with op:=11,path:=p,deep:=deep,frm:=f.1.getD [],most:=m.1 }
   match m.2 with
   | []=>some q
   | w :: l=>if w = wWhere then (sel l.length).map fun t=>{ q with terms:=t } else none
 | _=>none
def watchD:List Str → Option ReqD
 | p :: v :: r=>(digitsS v 19).bind fun n=>(smallS [109,111,115,116] 100 r).bind fun m=>ended { ReqD.zero with op:=13,path:=p,ver:=n,most:=m.1 } m.2
 | _=>none
def verbS (w:Str):Option Nat:=
 if w = [114,101,97,100] then some 0 else if w = [119,114,105,116,101] then some 1 else if w = [103,111,118,101,114,110] then some 2 else if w = [98,105,110,100] then some 3 else none
def bindD:List Str → Option ReqD
 | [p,n,s,v]=>(verbS v).map fun k=>{ ReqD.zero with op:=14,path:=p,name:=n,bin:=⟨p,n,s,k⟩ }
 | _=>none
def formD (sel:Nat → Option (List Tm)) (w:Str) (r:List Str):Option ReqD:=
 if w = [110,111,100,101] then nodeD r
 else if w = [113,117,111,116,97] then quotaD r
 else if w = [108,105,109,105,116] then limitD r
 else if w = [99,114,101,97,116,101] then objectD 7 r
 else if w = [117,112,100,97,116,101] then objectD 8 r
 else if w = [101,118,105,99,116] then objectD 16 r
 else if w = [100,101,108,101,116,101] then dropD r
 else if w = [103,101,116] then namedD 10 r
 else if w = [110,111,100,101,115] then nodesD r
 else if w = [108,105,115,116] then listD sel r
 else if w = [115,116,97,116,117,115] then namedD 12 r
 else if w = [119,97,116,99,104] then watchD r
 else if w = [98,105,110,100] then bindD r
 else if w = [117,110,98,105,110,100] then namedD 15 r
 else if w = [115,121,110,99] then ended { ReqD.zero with op:=17 } r
 else if w = [99,104,101,99,107,112,111,105,110,116] then ended { ReqD.zero with op:=18 } r
 else if w = [115,116,97,116] then ended { ReqD.zero with op:=19 } r
 else none
def selText (line:Str) (n:Nat):Str:=trimRB (behindS line n)
def requestD (rd:Str → Option (List Tm)) (line:Str):Option ReqD:=
 match words line with
 | []=>none
 | w :: r=>formD (fun k=>rd (selText line ((words line).length - k))) w r
def wDry:Str := [100,114,121]
def dryS (line:Str):Bool × Str:=if (words line).head? = some wDry then (true,behindS line 1) else (false,line)
def askD (rd:Str → Option (List Tm)) (t:Str):Option ReqD:=
 if (10:UInt8) ∈ t then none else
 (requestD rd (dryS (t.takeWhile (· != 35))).2).map fun q=>{ q with dry:=(dryS (t.takeWhile (· != 35))).1 }
def dval (b:UInt8):Nat:=b.toNat - 48
def numd (d:List Nat):Nat:=d.foldl (fun n x=>n * 10 + x) 0
theorem numv_numd (l:Str):numv l = numd (l.map dval):=by
 unfold numv numd;rw [List.foldl_map];rfl
def scanP (n dots:Nat) (d:List Nat) (b:Nat):Str → Option (List Nat × Nat × Str)
 | []=>some (d,b, [])
 | c :: r=>if isDg c then scanP (n + 1) dots (d ++ [dval c]) (b + dots) r
  else if c = 46 then (if n = 0 ∨ 1 ≤ dots ∨ (r.head?.map isDg).getD false = false then none else scanP (n + 1) (dots + 1) d b r)
  else some (d,b,c :: r)
def qfin (d:List Nat) (b f:Nat):Option Nat:=if (numd d * f + 10 ^ b - 1) / 10 ^ b ≤ 9223372036854775807 then some ((numd d * f + 10 ^ b - 1) / 10 ^ b) else none
def rscan (t:Str):Option Nat:=(scanP 0 0 [] 0 t).bind fun x=>if x.1.length < 1 ∨ 19 < x.1.length then none else (qlook x.2.2).bind fun f=>qfin x.1 x.2.1 f
theorem scan_dg {w:Str} (ha:∀ b ∈ w,isDg b = true):∀ (n dots:Nat) (d:List Nat) (b:Nat) (r:Str),scanP n dots d b (w ++ r) = scanP (n + w.length) dots (d ++ w.map dval) (b + dots * w.length) r:=by
 induction w with
 | nil=>intro n dots d b r;simp
 | cons a w ih=>
  intro n dots d b r;rw [List.cons_append,scanP,if_pos (ha a List.mem_cons_self),ih (fun x hx=>ha x (List.mem_cons_of_mem _ hx))];simp only [List.length_cons,List.map_cons,List.append_assoc,List.singleton_append]
  congr 1
  ·omega
  ·rw [Nat.mul_add];omega
theorem look_none {c:UInt8} {r:Str} (h:isDg c = true ∨ c = 46):qlook (c :: r) = none:=by
 cases h2:qlook (c :: r) with
 | none=>rfl
 | some f=>
  rcases suf_head (mem_look h2) with h3 | ⟨c',r',h3,h4,h5⟩
  ·cases h3
  ·cases h3
   rcases h with h | h
   ·rw [h] at h4;cases h4
   ·exact absurd h h5
theorem dropWhile_head {t r:Str} {c:UInt8} (h:t.dropWhile isDg = c :: r):isDg c = false:=by
 have:=List.head?_dropWhile_not isDg t;rw [h] at this
 simpa using this
theorem rscan_eq (t:Str):rscan t = qparse t:=by
 have ht:t = t.takeWhile isDg ++ t.dropWhile isDg:=(List.takeWhile_append_dropWhile).symm;unfold rscan
 conv=>lhs;rw [ht]
 rw [scan_dg tw_mem];simp only [Nat.zero_add,Nat.zero_mul,List.nil_append];unfold qparse
 by_cases hw:t.takeWhile isDg = []
 ·rw [if_pos hw,hw]
  cases hd:t.dropWhile isDg with
  | nil=>simp [scanP]
  | cons c r=>
   have hc:=dropWhile_head hd
   by_cases h46:c = 46
   ·simp [scanP,hc,h46,isDg]
   ·simp [scanP,hc,h46]
 ·rw [if_neg hw]
  have hwl:0 < (t.takeWhile isDg).length:=List.length_pos_iff.2 hw
  have fin:∀ (w p:Str) (f:Nat),(if (w.map dval ++ p.map dval).length < 1 ∨ 19 < (w.map dval ++ p.map dval).length then none else qfin (w.map dval ++ p.map dval) p.length f) = if (w.map dval ++ p.map dval).length < 1 then none else qval w p f:=by
   intro w p f;have e:numd (w.map dval ++ p.map dval) = numv (w ++ p):=(by rw [numv_numd,List.map_append]);simp only [qval,qfin,e,List.length_append,List.length_map]
   by_cases h1:w.length + p.length < 1
   ·simp [h1]
   ·by_cases h2:w.length + p.length ≤ 19
    ·rw [if_neg (by omega),if_neg h1]
     simp [h2]
    ·rw [if_pos (by omega),if_neg h1,if_neg (fun h=>h2 h.1)]
  have fin2:∀ (w p s:Str),0 < w.length → (if (w.map dval ++ p.map dval).length < 1 ∨ 19 < (w.map dval ++ p.map dval).length then none else (qlook s).bind fun f=>qfin (w.map dval ++ p.map dval) p.length f) = (qlook s).bind (qval w p):=by
   intro w p s h0
   cases hq:qlook s with
   | none=>simp
   | some f=>
    have:=fin w p f;rw [if_neg (by rw [List.length_append,List.length_map];omega:¬ (w.map dval ++ p.map dval).length < 1)] at this
    simpa using this
  cases hd:t.dropWhile isDg with
  | nil=>
   have:=fin2 (t.takeWhile isDg) [] [] hwl;simp only [List.map_nil,List.append_nil,List.length_nil] at this
   simpa [scanP] using this
  | cons c r=>
   have hc:=dropWhile_head hd
   by_cases h46:c = 46
   ·subst h46
    simp only [if_true];rw [scanP,if_neg (by rw [hc];decide),if_pos rfl]
    by_cases hp:r.takeWhile isDg = []
    ·rw [if_pos hp,if_pos]
     ·rfl
     ·right;right
      cases r with
      | nil=>rfl
      | cons a q=>
       by_cases ha:isDg a = true
       ·simp [List.takeWhile_cons,ha] at hp
       ·simpa using ha
    ·rw [if_neg hp,if_neg]
     ·have hr:r = r.takeWhile isDg ++ r.dropWhile isDg:=(List.takeWhile_append_dropWhile).symm
      conv=>lhs;rw [hr]
      rw [scan_dg tw_mem];have hq:=fin2 (t.takeWhile isDg) (r.takeWhile isDg) (r.dropWhile isDg) hwl
      cases hd2:r.dropWhile isDg with
      | nil=>
       rw [hd2] at hq
       simpa [scanP] using hq
      | cons a q=>
       have ha:=dropWhile_head hd2
       by_cases ha46:a = 46
       ·subst ha46
        rw [scanP,if_neg (by rw [ha];decide),if_pos rfl,look_none (.inr rfl),if_pos]
        ·rfl
        ·right;left;omega
       ·rw [hd2] at hq
        rw [scanP,if_neg (by rw [ha];decide),if_neg ha46]
        simpa using hq
     ·rintro (h | h | h)
      ·omega
      ·omega
      ·cases r with
       | nil=>exact hp rfl
       | cons a q=>
        apply hp
        simp only [List.head?_cons,Option.map_some,Option.getD_some] at h;simp [List.takeWhile_cons,h]
   ·rw [scanP,if_neg (by rw [hc];decide),if_neg h46]
    have:=fin2 (t.takeWhile isDg) [] (c :: r) hwl;simp only [List.map_nil,List.append_nil,List.length_nil] at this
    simpa [h46] using this
def nb (b:UInt8):Bool := !blank b
theorem cutW_eq (i:Nat) (s:Str):cutW i s = match dropB s with
  | [] => []
  | c :: r=>(i + (s.length - (dropB s).length),(c :: r).takeWhile nb) :: cutW (i + (s.length - (dropB s).length) + ((c :: r).takeWhile nb).length) ((c :: r).dropWhile nb):=by
 induction s generalizing i with
 | nil=>simp [cutW,dropB]
 | cons a r ih=>
  by_cases h:blank a = true
  ·have e:dropB (a :: r) = dropB r:=by simp [dropB,List.dropWhile_cons,h]
   rw [cutW,if_pos h,ih (i + 1),e];have hl:=dropWhile_len blank r
   cases hd:dropB r with
   | nil=>rfl
   | cons c q=>
    have hl2:(dropB r).length ≤ r.length:=hl;rw [hd] at hl2;simp only;rw [show i + 1 + (r.length - (c :: q).length) = i + ((a :: r).length - (c :: q).length) from by simp only [List.length_cons] at hl2 ⊢;omega]
  ·have e:dropB (a :: r) = a :: r:=by simp [dropB,List.dropWhile_cons,h]
   rw [cutW,if_neg h,e];simp only [Nat.sub_self,Nat.add_zero]
   rfl
theorem cutW_shift (i:Nat) (s:Str):cutW i s = (cutW 0 s).map fun x=>(i + x.1,x.2):=by
 have key:∀ (n:Nat) (s:Str),s.length ≤ n → ∀ i j,cutW (i + j) s = (cutW j s).map fun x=>(i + x.1,x.2):=by
  intro n
  induction n with
  | zero=>
   intro s hs i j;have:s = []:=List.eq_nil_of_length_eq_zero (by omega);subst this;simp [cutW]
  | succ n ih=>
   intro s hs i j
   cases s with
   | nil=>simp [cutW]
   | cons a r=>
    rw [cutW,cutW]
    split
    ·rw [Nat.add_assoc];exact ih r (by simpa using hs) i (j + 1)
    ·rename_i h
     rw [List.map_cons,Nat.add_assoc]
     congr 1
     refine ih _ ?_ i _;rw [List.dropWhile_cons];simp only [h,Bool.not_false,if_true];have:=dropWhile_len (fun b => !blank b) r;simp only [List.length_cons] at hs;omega
 have:=key s.length s (Nat.le_refl _) i 0
 simpa using this
theorem words_eq (s:Str):words s = match dropB s with
  | [] => []
  | c :: r=>(c :: r).takeWhile nb :: words ((c :: r).dropWhile nb):=by
 unfold words;rw [cutW_eq]
 split
 ·rfl
 ·rw [List.map_cons,cutW_shift]
  congr 1
  rw [List.map_map];rfl
theorem dropB_idem (s:Str):dropB (dropB s) = dropB s:=by
 induction s with
 | nil=>rfl
 | cons a r ih=>
  by_cases h:blank a = true
  ·simp only [dropB,List.dropWhile_cons,h,if_true];exact ih
  ·simp [dropB,List.dropWhile_cons,h]
theorem words_dropB (s:Str):words (dropB s) = words s:=by rw [words_eq,words_eq,dropB_idem]
theorem behindS_succ (s:Str) (n:Nat):behindS s (n + 1) = behindS ((dropB s).dropWhile nb) n:=by
 induction n with
 | zero=>rfl
 | succ n ih=>rw [behindS,ih];rfl
theorem takeWhile_nb_nil {c:UInt8} {r s:Str} (h:dropB s = c :: r):(c :: r).takeWhile nb ≠ [] ∧ blank c = false:=by
 have:blank c = false:=by
  have:=List.head?_dropWhile_not blank s;rw [show s.dropWhile blank = c :: r from h] at this
  simpa using this
 exact ⟨by simp [List.takeWhile_cons,nb,this],this⟩
theorem words_behind (s:Str) (n:Nat):words (behindS s n) = (words s).drop n:=by
 induction n generalizing s with
 | zero=>exact words_dropB s
 | succ n ih=>
  rw [behindS_succ,ih]
  conv=>rhs;rw [words_eq]
  cases hd:dropB s with
  | nil=>simp [words,cutW]
  | cons c r=>rfl
theorem drop_pre {s a b:Str} (h:s = a ++ b) (n:Nat):s.drop (a.length + n) = b.drop n:=by subst h;simp
theorem behind_word {s:Str} {n:Nat} {p:Nat} {w:Str} (h:(cutW 0 s)[n]? = some (p,w)):s.drop p = behindS s n ∧ w = (behindS s n).takeWhile nb ∧ w ≠ [] ∧ p + w.length ≤ s.length ∧ p < s.length:=by
 induction n generalizing s p with
 | zero=>
  rw [cutW_eq] at h
  cases hd:dropB s with
  | nil=>rw [hd] at h;simp at h
  | cons c r=>
   rw [hd] at h;simp only [Nat.zero_add,List.getElem?_cons_zero,Option.some.injEq,Prod.mk.injEq] at h;obtain ⟨rfl,rfl⟩:=h;have hsplit:s = s.takeWhile blank ++ dropB s:=(List.takeWhile_append_dropWhile).symm
   have hlen:s.length - (c :: r).length = (s.takeWhile blank).length:=by
    have:=congrArg List.length hsplit;rw [List.length_append,hd] at this;omega
   have hwl:((c :: r).takeWhile nb).length ≤ (c :: r).length:=by
    have:=congrArg List.length (List.takeWhile_append_dropWhile (p:=nb) (l:=c :: r));rw [List.length_append] at this;omega
   have hs:=congrArg List.length hsplit;rw [List.length_append,hd] at hs;refine ⟨?_,?_,(takeWhile_nb_nil hd).1,?_,?_⟩
   ·rw [hlen];exact drop_pre hsplit 0
   ·show _ = (dropB s).takeWhile nb
    rw [hd]
   ·omega
   ·simp only [List.length_cons] at hs ⊢;omega
 | succ n ih=>
  rw [cutW_eq] at h
  cases hd:dropB s with
  | nil=>rw [hd] at h;simp at h
  | cons c r=>
   rw [hd] at h;simp only [Nat.zero_add,List.getElem?_cons_succ] at h;rw [cutW_shift] at h;rw [List.getElem?_map] at h;obtain ⟨⟨q,u⟩,hq,he⟩:=Option.map_eq_some_iff.1 h;simp only [Prod.mk.injEq] at he;obtain ⟨rfl,rfl⟩:=he;obtain ⟨h1,h2,h3,h4,h5⟩:=ih hq;have e:behindS s (n + 1) = behindS ((c :: r).dropWhile nb) n:=(by rw [behindS_succ,hd]);have hsplit:s = s.takeWhile blank ++ dropB s:=(List.takeWhile_append_dropWhile).symm
   have hlen:s.length - (c :: r).length = (s.takeWhile blank).length:=by
    have:=congrArg List.length hsplit;rw [List.length_append,hd] at this;omega
   have hsp2:(c :: r) = (c :: r).takeWhile nb ++ (c :: r).dropWhile nb:=(List.takeWhile_append_dropWhile).symm;have l1:=congrArg List.length hsplit;have l2:=congrArg List.length hsp2;rw [List.length_append,hd] at l1;rw [List.length_append] at l2;refine ⟨?_,by rw [e];exact h2,h3,by omega,by omega⟩;rw [e,← h1,hlen,Nat.add_assoc,drop_pre hsplit,hd];exact drop_pre hsp2 q
theorem cutW_len (s:Str):(cutW 0 s).length = (words s).length:=by simp [words]
theorem behind_none {s:Str} {n:Nat} (h:(words s).length ≤ n):behindS s n = []:=by
 have h1:words (behindS s n) = []:=by rw [words_behind,List.drop_eq_nil_of_le h]
 rw [words_eq] at h1
 have h2:dropB (behindS s n) = behindS s n:=by cases n <;> exact dropB_idem _
 rw [h2] at h1
 split at h1
 ·assumption
 ·cases h1
theorem allB_trim {y z:Str} {c:UInt8} (hz:∀ b ∈ z,blank b = true) (hc:blank c = false):trimRB (y ++ [c] ++ z) = y ++ [c]:=by
 unfold trimRB;rw [List.reverse_append,List.dropWhile_append_of_pos (by intro b hb;exact hz b (List.mem_reverse.1 hb)),List.reverse_append,List.reverse_singleton,List.singleton_append,List.dropWhile_cons,if_neg (by rw [hc];decide)];simp
theorem allB_dropB {z:Str} (h:dropB z = []):∀ b ∈ z,blank b = true:=by
 intro b hb
 have:z = z.takeWhile blank:=by
  have e:=List.takeWhile_append_dropWhile (p:=blank) (l:=z);rw [show z.dropWhile blank = [] from h,List.append_nil] at e;exact e.symm
 rw [this] at hb
 have hall:∀ (l:Str) (b:UInt8),b ∈ l.takeWhile blank → blank b = true:=by
  intro l
  induction l with
  | nil=>intro b hb;simp at hb
  | cons a r ih=>
   intro b hb
   by_cases h:blank a = true
   ·simp only [List.takeWhile_cons,h,if_true,List.mem_cons] at hb
    rcases hb with rfl | hb
    ·exact h
    ·exact ih b hb
   ·simp [List.takeWhile_cons,h] at hb
 exact hall _ _ hb
theorem sel_between {s:Str} {n m:Nat} {p q:Nat} {w u:Str} (hn:(cutW 0 s)[n]? = some (p,w)) (hm:(cutW 0 s)[m]? = some (q,u)) (hlast:m + 1 = (words s).length) (hnm:n ≤ m) :
  p ≤ q + u.length ∧ (s.drop p).take (q + u.length - p) = selText s n:=by
 obtain ⟨a1,a2,a3,a4,a5⟩:=behind_word hn;obtain ⟨b1,b2,b3,b4,b5⟩:=behind_word hm
 have hmono:∀ k j,k ≤ j → (behindS s j).length ≤ (behindS s k).length:=by
  intro k j hkj
  induction j with
  | zero=>
       obtain rfl:k = 0:=(by omega);exact Nat.le_refl _
  | succ j ih=>
   rcases Nat.lt_or_ge j k with h | h
   ·obtain rfl:k = j + 1:=by omega
    exact Nat.le_refl _
   ·have h1:=ih h
    have h2:(behindS s (j + 1)).length ≤ (behindS s j).length:=Nat.le_trans (dropWhile_len blank _) (dropWhile_len _ _);omega
 have hpq:p ≤ q:=by
  have h:=hmono n m hnm;rw [← a1,← b1,List.length_drop,List.length_drop] at h;omega
 refine ⟨by omega,?_⟩
 have hz:dropB ((behindS s m).dropWhile nb) = []:=by
  have h:=behind_none (s:=s) (n:=m + 1) (by omega);exact h
 have hz2:=allB_dropB hz;obtain ⟨y,c,hy⟩:=last_split b3
 have hcb:blank c = false:=by
  have:c ∈ (behindS s m).takeWhile nb:=by rw [← b2,hy];simp
  have hall:∀ (l:Str) (b:UInt8),b ∈ l.takeWhile nb → nb b = true:=by
   intro l
   induction l with
   | nil=>intro b hb;simp at hb
   | cons a r ih=>
    intro b hb
    by_cases h:nb a = true
    ·simp only [List.takeWhile_cons,h,if_true,List.mem_cons] at hb
     rcases hb with rfl | hb
     ·exact h
     ·exact ih b hb
    ·simp [List.takeWhile_cons,h] at hb
  have:=hall _ _ this
  simpa [nb] using this
 have hsp:s.drop q = u ++ (behindS s m).dropWhile nb:=by
  rw [b1]
  conv=>lhs;rw [← List.takeWhile_append_dropWhile (p:=nb) (l:=behindS s m)]
  rw [← b2]
 have hmid:s.drop p = (s.drop p).take (q - p) ++ s.drop q:=by
  conv=>lhs;rw [← List.take_append_drop (q - p) (s.drop p)]
  rw [List.drop_drop]
  congr 2;omega
 unfold selText;rw [← a1]
 have hlen:((s.drop p).take (q - p)).length = q - p:=by rw [List.length_take,List.length_drop];omega
 conv=>rhs;rw [hmid,hsp,hy]
 rw [show (s.drop p).take (q - p) ++ (y ++ [c] ++ (behindS s m).dropWhile nb) = ((s.drop p).take (q - p) ++ y) ++ [c] ++ (behindS s m).dropWhile nb from by simp,allB_trim hz2 hcb]
 conv=>lhs;rw [hmid,hsp]
 rw [show q + u.length - p = ((s.drop p).take (q - p) ++ u).length from by rw [List.length_append,hlen];omega,← List.append_assoc,List.take_left,hy];simp
def tokR (pend:Option Str):Str → List Str
 | []=>pend.toList
 | c :: r=>if blank c then pend.toList ++ tokR none r else tokR (some (pend.getD [] ++ [c])) r
theorem tokR_eq (s:Str):tokR none s = words s ∧ ∀ w,tokR (some w) s = (w ++ s.takeWhile nb) :: words (s.dropWhile nb):=by
 induction s with
 | nil=>simp [tokR,words,cutW]
 | cons c r ih=>
  by_cases h:blank c = true
  ·refine ⟨?_,fun w=>?_⟩
   ·rw [tokR,if_pos h,ih.1,← words_dropB (c :: r),← words_dropB r]
    simp [dropB,List.dropWhile_cons,h]
   ·rw [tokR,if_pos h,ih.1]
    have h2:nb c = false:=(by simp [nb,h])
    have h3:words (c :: r) = words r:=by
     rw [← words_dropB (c :: r),← words_dropB r];simp [dropB,List.dropWhile_cons,h]
    simp [List.takeWhile_cons,List.dropWhile_cons,h2,h3]
  ·have h2:nb c = true:=by simp [nb,h]
   refine ⟨?_,fun w=>?_⟩
   ·rw [tokR,if_neg h,ih.2]
    have:dropB (c :: r) = c :: r:=(by simp [dropB,List.dropWhile_cons,h]);rw [words_eq (c :: r),this];simp [List.takeWhile_cons,List.dropWhile_cons,h2]
   ·rw [tokR,if_neg h,ih.2]
    simp [List.takeWhile_cons,List.dropWhile_cons,h2]
theorem tokR_nb {u:Str} (hu:∀ b ∈ u,blank b = false) (hne:u ≠ []) (pend:Option Str) (r:Str):tokR pend (u ++ r) = tokR (some (pend.getD [] ++ u)) r:=by
 induction u generalizing pend with
 | nil=>exact absurd rfl hne
 | cons a q ih=>
  rw [List.cons_append,tokR,if_neg (by rw [hu a List.mem_cons_self];decide)]
  by_cases hq:q = []
  ·subst hq;rfl
  ·rw [ih (fun b hb=>hu b (List.mem_cons_of_mem _ hb)) hq]
   simp
def PLoop (w:World) (x y:List Nat) (va vb v5 v6 v7:Value) (w1:World):Prop := ∃ (k:Nat) (out:List Nat) (c:Nat),v7 = .int .i64 k ∧ v6 = .int .i64 c ∧ c ≤ 1 ∧ k ≤ x.length + y.length + 1 ∧ out.length = k ∧ DLt out ∧
 vald out + c * 10 ^ k = vald (x.take k) + vald (y.take k) ∧ w1.ownsRow 0 3 1 v5 out.length (ints out) ∧ (∀ j,v5.ownBlock = some j → w.heap.size ≤ j) ∧
 w1.heap[w.heap.size]? = some (.cells #[va] 201 (0,0)) ∧ w1.heap[w.heap.size + 1]? = some (.cells #[vb] 201 (0,0)) ∧
 w1.heap[w.heap.size + 1 + 1]? = some (.cells #[.slice none 0 0] 201 (0,0)) ∧ Below w.heap.size w w1
theorem psum {P X Y V p q v c:Nat} (h:V + c * P = X + Y) (hv:v = p + q + c):V + P * (v % 10) + v / 10 * (P * 10) = X + P * p + (Y + P * q):=by
 have e:P * (v % 10) + v / 10 * (P * 10) = P * v:=by
  rw [show v / 10 * (P * 10) = P * (10 * (v / 10)) from by rw [Nat.mul_comm,Nat.mul_assoc],← Nat.mul_add]
  congr 1;omega
 have e2:P * v = P * p + P * q + c * P:=by rw [hv,Nat.mul_add,Nat.mul_add,Nat.mul_comm c P]
 omega
theorem PLoop.next {w w' w2:World} {x y out:List Nat} {va vb v5 v' : Value} {k c p q v:Nat} {t:TypeId} (hk:k ≤ x.length + y.length) (hol:out.length = k) (hdo:DLt out) (hv:v = p + q + c) (hv19:v ≤ 19)
  (hval:vald out + c * 10 ^ k = vald (x.take k) + vald (y.take k)) (HX:vald (x.take (k + 1)) = vald (x.take k) + 10 ^ k * p) (HY:vald (y.take (k + 1)) = vald (y.take k) + 10 ^ k * q)
  (hnew:∀ j,v5.ownBlock = some j → w.heap.size ≤ j) (hB:Below w.heap.size w w')
  (b0:w'.heap[w.heap.size]? = some (.cells #[va] 201 (0,0))) (b1:w'.heap[w.heap.size + 1]? = some (.cells #[vb] 201 (0,0))) (b2:w'.heap[w.heap.size + 1 + 1]? = some (.cells #[.slice none 0 0] 201 (0,0)))
  (ho' : w'.ownsRow 0 3 1 v5 out.length (ints out))
  (ho2:w2.ownsRow 0 3 1 v' (out.length + 1) (ints out ++ ints [v % 10])) (hg2:(w'.alloc (.cells #[.int .i64 ((v % 10:Nat):Int)] t)).grownBy w2 v5.ownBlock) (hn2:∀ j,v'.ownBlock = some j → v5.ownBlock = some j ∨ w'.heap.size + 1 ≤ j) :
  PLoop w x y va vb v' (.int .i64 ((v / 10:Nat):Int)) (.int .i64 ((k:Int) + 1)) w2:=by
 subst hol;have hs:=hB.size;refine ⟨out.length + 1,out ++ [v % 10],v / 10,by simp,rfl,by omega,by omega,by simp,?_,?_,?_,?_,?_,?_,?_,?_⟩
 ·intro z hz;rcases List.mem_append.1 hz with h | h
  ·exact hdo z h
  ·rw [List.mem_singleton.1 h];omega
 ·rw [HX,HY,vald_app,Nat.pow_succ,show vald [v % 10] = v % 10 from by simp [vald]];exact psum hval hv
 ·rw [ints_app,List.length_append];exact ho2
 ·intro j hj
  rcases hn2 j hj with h1 | h1
  ·exact hnew j h1
  ·omega
 ·exact blk_grown (blk_alloc b0 _) hg2 (own_ne_blk ho' b0 (by decide))
 ·exact blk_grown (blk_alloc b1 _) hg2 (own_ne_blk ho' b1 (by decide))
 ·exact blk_grown (blk_alloc b2 _) hg2 (own_ne_blk ho' b2 (by decide))
 ·exact (hB.alloc hs _).grown hg2 (by simp;omega) (fun j hj=>hnew j hj)
theorem plus_calls (w:World) (va vb:Value) (a b:Nat) (ha:RdI w va (dig a)) (hb:RdI w vb (dig b)) (hla:(dig a).length ≤ 524288) (hlb:(dig b).length ≤ 524288) :
  Calls Tryz.prog 163 #[.agg #[va],.agg #[vb]] w (LPost w (dig (a + b))):=by
 have hda:=dlt_dig a;have hdb:=dlt_dig b;have hva:=vald_dig a;have hvb:=vald_dig b;generalize dig a = x at ha hda hla hva;generalize dig b = y at hb hdb hlb hvb;have Hva:=hIh hva;have Hvb:=hIh hvb;clear hva hvb;obtain ⟨A,c0,rfl⟩:=ha.slice;obtain ⟨A2,c2,rfl⟩:=hb.slice
 have Hst:Hid (PLoop w x y (.slice A x.length c0) (.slice A2 y.length c2) (.slice none 0 0) (.int .i64 0) (.int .i64 0) (((w.alloc (.cells #[.slice A x.length c0] 201)).alloc (.cells #[.slice A2 y.length c2] 201)).alloc (.cells #[.slice none 0 0] 201))):=
  ⟨0, [],0,rfl,rfl,by omega,Nat.zero_le _,rfl,(fun d hd=>by cases hd),by simp [vald],World.ownsRow_nil _ _ _ _,(fun j hj=>by cases hj),blk_alloc (blk_alloc (blk_new _ _) _) _,blk_alloc (by simpa using blk_new (w.alloc (.cells #[.slice A x.length c0] 201)) _) _,
   by simpa using blk_new ((w.alloc (.cells #[.slice A x.length c0] 201)).alloc (.cells #[.slice A2 y.length c2] 201)) _,(((Below.refl _ _).alloc (Nat.le_refl _) _).alloc (by simp) _).alloc (by simp;omega) _⟩
 go_enter Tryz.func163,Tryz.ntmps163;go_wp2
 go_loopw [5,6,7] (fun v5 v6 v7 w1=>PLoop w x y (.slice A x.length c0) (.slice A2 y.length c2) v5 v6 v7 w1) (fun _ _ i _=>x.length + y.length + 1 - (intOf i).toNat)
 case atStart=>exact Hst.out
 case round=>
  obtain ⟨k,out,c,rfl,rfl,hc1,hkm,hol,hdo,hval,hown,hnew,b0,b1,b2,hB⟩:=hrel;have Hval:=hIh hval;have Hol:=hIh hol;have Hnew:=hIh hnew;obtain ⟨A3,c3,rfl⟩:=own_slice hown;obtain ⟨d0, -⟩:=cells1 b0;obtain ⟨d1, -⟩:=cells1 b1
  by_cases hgo:k < x.length ∨ k < y.length ∨ 0 < c
  ·have hk:k ≤ x.length + y.length:=by
    rcases Nat.lt_or_ge (x.length + y.length) k with h | h
    ·exfalso
     have hc:c = 1:=(by omega);have h1:=hval;rw [List.take_of_length_le (by omega:x.length ≤ k),List.take_of_length_le (by omega:y.length ≤ k),hc,Nat.one_mul] at h1;have h2:=vald_lt hda;have h3:=vald_lt hdb;have h4:10 ^ x.length ≤ 10 ^ (k - 1):=Nat.pow_le_pow_right (by decide) (by omega);have h5:10 ^ y.length ≤ 10 ^ (k - 1):=Nat.pow_le_pow_right (by decide) (by omega);have h6:10 ^ k = 10 ^ (k - 1) * 10:=(by rw [← Nat.pow_succ];congr 1;omega);omega
    ·exact h
   clear hval hol hnew;have hx10:=getD_lt hda k;have hy10:=getD_lt hdb k;have HX:=hIh (vald_take_getD x k);have HY:=hIh (vald_take_getD y k);have Hat1:Hid (∀ W,Below w.heap.size w W → Calls Tryz.prog 184 #[.agg #[.slice A x.length c0],.int .i64 k] W fun e w'=>e = .returned (.int .i64 (x.getD k 0:Nat)) ∧ Below W.heap.size W w'):=fun W hW=>at_calls W _ x (ha.below hW) k (by omega) (by omega);have Hat2:Hid (∀ W,Below w.heap.size w W → Calls Tryz.prog 184 #[.agg #[.slice A2 y.length c2],.int .i64 k] W fun e w'=>e = .returned (.int .i64 (y.getD k 0:Nat)) ∧ Below W.heap.size W w'):=fun W hW=>at_calls W _ y (hb.below hW) k (by omega) (by omega);generalize x.getD k 0 = p at Hat1 hx10 HX;generalize y.getD k 0 = q at Hat2 hy10 HY;have HB:=hIh hB;have HbB:=hIh (fun W (h:Below wr.heap.size wr W)=>hB.trans (h.mono hB.size));clear hB
   have HS:Hid (∀ W,Below wr.heap.size wr W → W.cell? ⟨w.heap.size,0,none⟩ = some (.slice A x.length c0) ∧ W.cell? ⟨w.heap.size + 1,0,none⟩ = some (.slice A2 y.length c2)):=by
    intro W hW;exact ⟨(hW.cell (p:=⟨w.heap.size,0,none⟩) (World.block_lt_of_cell? _ _ d0)).trans d0,(hW.cell (p:=⟨w.heap.size + 1,0,none⟩) (World.block_lt_of_cell? _ _ d1)).trans d1⟩
   have HB0:Hid (Below wr.heap.size wr wr.drew):=drewB (Below.refl _ _) 1;have HT:Hid (∀ W W',Below wr.heap.size wr W → Below W.heap.size W W' → Below wr.heap.size wr W'):=fun W W' h1 h2=>h1.trans (h2.mono h1.size);obtain ⟨v,hv⟩ : ∃ v,v = p + q + c:=⟨_,rfl⟩;have e1:IntKind.i64.wrap ((p:Int) + q) = (p:Int) + q:=(by rw [IntKind.wrap_i64];omega);have e2:IntKind.i64.wrap ((p:Int) + q + c) = (v:Int):=(by rw [IntKind.wrap_i64];omega);have E1:=hIh e1;have E2:=hIh e2;have Hv:=hIh hv;have hv19:v ≤ 19:=(by omega);have hm:(v:Int) % 10 = ((v % 10:Nat):Int):=(by omega);have hm2:(v:Int) / 10 = ((v / 10:Nat):Int):=(by omega);have Hm:=hIh hm.symm;have Hm2:=hIh hm2.symm;have Hb0:=hIh b0;have Hb1:=hIh b1;have Hb2:=hIh b2;have Hown:=hIh hown;have hcond:k < x.length ∨ (¬ k < x.length ∧ k < y.length) ∨ (¬ k < x.length ∧ ¬ k < y.length ∧ 0 < c):=(by omega);clear e1 e2 hv hm hm2 hgo b0 b1 b2 hown
   go_upto_region 4 with fail
   go_cut [24] from 9 to 27 (fun v24 wx=>v24 = .bool true ∧ wx = wr)
   case first=>
    clear Hat1 Hat2 HS HT HB0 HbB;rcases hcond with hc1 | ⟨hc1,hc2⟩ | ⟨hc1,hc2,hc3⟩
    all_goals
     go_wp2_with fail;go_meet
     case rel=>exact ⟨rfl,rfl⟩
   case rest=>
    obtain ⟨rfl,rfl⟩:=hcut;clear hcond;go_wp2
    go_region_held3 (fun W=>W.cell? ⟨w.heap.size,0,none⟩ = some (.slice A x.length c0) ∧ W.cell? ⟨w.heap.size + 1,0,none⟩ = some (.slice A2 y.length c2))
     (first | exact HS.out _ HB0.out | exact HS.out _ HW1.out | exact HS.out _ HW2.out)
     (first
      | ((go_at_call 184);((with_reducible refine (Hat1.out _ (HbB.out _ HB0.out)).mono ?_));(rintro e w1 ⟨rfl,hw1⟩);(have HW1:=hIh (HT.out _ _ HB0.out hw1));(clear hw1))
      | ((go_at_call 184);((with_reducible refine (Hat2.out _ (HbB.out _ HW1.out)).mono ?_));(rintro e w2 ⟨rfl,hw2⟩);(have HW2:=hIh (HT.out _ _ HW1.out hw2));(clear hw2)))
    rw [E1.out,E2.out];have z0:=blk_below Hb0.out HW2.out;have z1:=blk_below Hb1.out HW2.out;have z2:=blk_below Hb2.out HW2.out;have hown2:=own_below Hown.out HW2.out;have hB2:=HbB.out _ HW2.out;go_wp2_with (at_builtin;refine wpList_append2 _ rfl (.tmp 36) (.tmp 39) 65 rfl 3 (.int .i64 0) 1 8 Tryz.underlying65 infoInt rfl (by decide) _ out.length (ints out) rfl (hown2.alloc _) _ 1 (ints [v % 10]) rfl ?c1 (ints_one _) ?c2 ?c3 ?_)
    case c1=>rw [← Hm.out];exact RdI.one _ _ _
    case c2=>have:=Hol.out;unfold maxLen;omega
    case c3=>have:=Hol.out;omega
    intro v' w3 ho2 hg2 hn2 _;rw [← Hm.out] at hg2;have Hk:=hIh (PLoop.next hk Hol.out hdo Hv.out hv19 Hval.out HX.out HY.out Hnew.out hB2 z0 z1 z2 hown2 ho2 hg2 hn2);rw [Hm2.out] at Hk;clear ho2 hg2 hn2 hown2 hB2 z0 z1 z2;go_wp2;go_roundw
    case rel=>exact Hk.out
    case measure=>simp [intOf];omega
  ·have hx:¬ k < x.length:=fun h=>hgo (.inl h)
   have hy:¬ k < y.length:=fun h=>hgo (.inr (.inl h));obtain rfl:c = 0:=(by have:¬ 0 < c:=fun h=>hgo (.inr (.inr h));omega);have hw:Hid (wr.heap[w.heap.size + 1 + 1]? = some (.cells #[.slice none 0 0] 201 (0,0))):=b2;have Hcall:Hid (∀ W,Below wr.heap.size wr W → Calls Tryz.prog 161 #[.slice A3 out.length c3] W (CutPost W (.slice A3 out.length c3) (trim out))):=fun W hW=>cut_calls W _ out (RdI.of_own (own_below hown hW)) (by have:=Hol.out;omega);obtain ⟨cc,cf⟩:=cells1 b2
   have hres:Hid (trim out = dig (a + b)):=by
    show _ = _;have h1:=Hval.out;rw [List.take_of_length_le (by omega),List.take_of_length_le (by omega),Hva.out,Hvb.out,Nat.zero_mul,Nat.add_zero] at h1;rw [trim_eq hdo,h1]
   have Hown:=hIh hown;have HB:=hIh hB;have hlo:x.length ≤ k:=(by omega);have hlo2:y.length ≤ k:=(by omega);clear hgo hval hol hnew hown hB b0 b1 b2 hda hdb ha hb hdo;go_wp2_with fail;refine (Hcall.out _ (Below.refl _ _)).mono ?_;rintro e w1 ⟨sv,rfl,hr,hsv,hw1⟩;obtain ⟨A4,c4,rfl⟩:=hr.slice;have z2:=blk_below hw.out hw1;obtain ⟨cd,cg⟩:=cells1 z2;have hns:(Value.slice A4 (trim out).length c4).ownBlock ≠ some (w.heap.size + 1 + 1):=fun h=>own_ne_blk Hown.out hw.out (by decide) (hsv _ h);have Hf:=hIh (((HB.out.trans (hw1.mono HB.out.size)).setCell (p:=⟨w.heap.size + 1 + 1,0,none⟩) (by show _ ≤ _;simp;omega) (.slice A4 (trim out).length c4)));have Hr:=hIh (hr.fr ((Fr.refl (Only (w.heap.size + 1 + 1)) w1).setCell (p:=⟨w.heap.size + 1 + 1,0,none⟩) (.inl rfl) (.slice A4 (trim out).length c4)) (fun k hk e=>hns (by rw [hk,show k = _ from e])));have Hn:Hid (∀ k,(Value.slice A4 (trim out).length c4).ownBlock = some k → w.heap.size ≤ k):=fun k hk=>Hnew.out k (hsv k hk)
   have Hc:=hIh (cells1 (blk_setCell z2 0 (.slice A4 (trim out).length c4))).1;clear hr hsv hw1 hns;go_wp2;have HC:=Hc.out;refine bodyPost_ret (v:=.agg #[.slice A4 (trim out).length c4]) (by simp [results,Tryz.results163,go_sem,HC]) rfl ⟨_,rfl,?_,Hn.out,Hf.out⟩;rw [← hres.out];exact Hr.out
def VLoop (w:World) (x:List Nat) (va v4 v5:Value) (w1:World):Prop := ∃ n:Nat,n ≤ x.length ∧ v5 = .int .i64 ((n:Int) - 1) ∧ v4 = .int .i64 ((vald (x.drop n):Nat):Int) ∧
 w1.heap[w.heap.size]? = some (.cells #[va] 201 (0,0)) ∧ Below w.heap.size w w1
theorem vald_drop (l:List Nat) (k:Nat) (hk:k < l.length):vald (l.drop k) = l[k] + 10 * vald (l.drop (k + 1)):=by
 rw [List.drop_eq_getElem_cons hk,vald]
theorem vald_drop_le (l:List Nat) (k:Nat):vald (l.drop k) ≤ vald l:=by
 induction l generalizing k with
 | nil=>simp
 | cons d r ih=>
  cases k with
  | zero=>exact Nat.le_refl _
  | succ k=>have:=ih k;simp only [List.drop_succ_cons,vald];omega
theorem value_calls (w:World) (va:Value) (a:Nat) (ha:RdI w va (dig a)) (hl:(dig a).length ≤ 1048576) :
  Calls Tryz.prog 164 #[.agg #[va]] w fun e w'=>e = .returned (.tuple #[.int .i64 ((if a ≤ 9223372036854775807 then a else 0:Nat):Int),.bool (decide (a ≤ 9223372036854775807))]) ∧ Below w.heap.size w w':=by
 obtain ⟨A,c,rfl⟩:=ha.slice;have Ha:=hIh ha;have hva:=vald_dig a;have hda:=dlt_dig a
 have hmx:(dig 9223372036854775807).length ≤ 1048576:=by have:=dig_len_le (n:=9223372036854775807) (k:=19) (by decide);omega
 have HB0:Hid (Below w.heap.size w (w.alloc (.cells #[.slice A (dig a).length c] 201))):=(Below.refl _ _).alloc (Nat.le_refl _) _;have Hbx:Hid ((w.alloc (.cells #[.slice A (dig a).length c] 201)).heap[w.heap.size]? = some (.cells #[.slice A (dig a).length c] 201 (0,0))):=blk_new _ _;obtain ⟨d0, -⟩:=cells1 Hbx.out;have Hmx:=hIh hmx;have Hval:=hIh hva;have Hdlt:=hIh hda;clear ha hmx hva hda
 by_cases hle:a ≤ 9223372036854775807
 ·have hlt:(decide (9223372036854775807 < a)) = false:=decide_eq_false (by omega)
  rw [if_pos hle];have hled:decide (a ≤ 9223372036854775807) = true:=decide_eq_true hle;rw [hled];clear hled;go_enter Tryz.func164,Tryz.ntmps164;go_wp2
  go_region_held3 (fun W=>W.cell? ⟨w.heap.size,0,none⟩ = some (.slice A (dig a).length c))
   (first | exact (cells1 Hbx.out).1 | exact (cells1 (blk_below Hbx.out H1.out)).1 | exact (cells1 (blk_below Hbx.out H2.out)).1)
   (first
    | ((go_at_call 158);(refine (long_calls _ 9223372036854775807 (by omega)).mono ?_);(rintro e w1 ⟨l1,rfl,hr1,hn1,hw1⟩);(obtain ⟨A1,c1,rfl⟩:=hr1.slice);(have Hr1:=hIh hr1);(have H1:=hIh ((drewB (Below.refl (w.alloc (.cells #[.slice A (dig a).length c] 201)).heap.size _) 1).trans hw1));(clear hr1 hn1 hw1))
    | ((go_at_call 185);(refine (less_calls _ _ _ 9223372036854775807 a Hr1.out (Ha.out.below (HB0.out.trans (H1.out.mono HB0.out.size))) Hmx.out hl).mono ?_);(rintro e w2 ⟨rfl,hw2⟩);(have H2:=hIh (H1.out.trans (hw2.mono H1.out.size)));(clear hw2)))
  have Hst:Hid (VLoop w (dig a) (.slice A (dig a).length c) (.int .i64 0) (.int .i64 (((dig a).length:Int) - 1)) w2):=
   ⟨(dig a).length,Nat.le_refl _,rfl,by simp [vald],blk_below Hbx.out H2.out,HB0.out.trans (H2.out.mono HB0.out.size)⟩
  obtain ⟨d2, -⟩:=cells1 (blk_below Hbx.out H2.out);have Hle:=hIh hle;clear d0 hle H1 Hr1;go_wp2
  go_loopw [4,5] (fun v4 v5 w1=>VLoop w (dig a) (.slice A (dig a).length c) v4 v5 w1) (fun _ i _=>(intOf i + 1).toNat)
  case atStart=>exact Hst.out
  case round=>
   clear Hst d2;obtain ⟨n,hn,rfl,rfl,hb,hB⟩:=hrel;obtain ⟨e0, -⟩:=cells1 hb
   by_cases hn0:0 < n
   ·obtain ⟨m,rfl⟩ : ∃ m,n = m + 1:=⟨n - 1,by omega⟩
    rw [show ((m + 1:Nat):Int) - 1 = (m:Int) from by omega];obtain ⟨bx,ox,kx,hk,hkx,hbbx,hcx⟩:=Ha.out.some (by intro e;rw [e] at hn;simp at hn)
    cases hk
    have hm:m < (dig a).length:=(by omega);have q1:=(hB.cell (p:=⟨bx,ox + m,none⟩) hbbx).trans (hcx m hm);have hm0:decide ((0:Int) ≤ m) = true:=decide_eq_true (by omega);have hml:(m:Int) < (dig a).length:=(by omega);have hv:=vald_drop (dig a) m hm;have hvl:=vald_drop_le (dig a) m;rw [Hval.out] at hvl;have hMx:=Hle.out;have Hnx:Hid (VLoop w (dig a) (.slice (some ⟨bx,ox,none⟩) (dig a).length c) (.int .i64 ((vald ((dig a).drop m):Nat):Int)) (.int .i64 ((m:Int) - 1)) wr):=⟨m,by omega,rfl,rfl,hb,hB⟩;rw [hv] at Hnx hvl;generalize (dig a)[m] = d at q1 Hnx hvl hv;generalize vald ((dig a).drop (m + 1)) = V at Hnx hvl hv;have e1:((d + 10 * V:Nat):Int) = (V:Int) * 10 + d:=(by omega);rw [e1] at Hnx;have hw1:(V:Int) * 10 + d ≤ 9223372036854775807:=(by omega);clear hcx hb hv e1 hn hn0 hvl hMx;go_wp2;go_roundw
    case rel=>exact Hnx.out
    case measure=>simp [intOf]
   ·obtain rfl:n = 0:=by omega
    have hv:vald ((dig a).drop 0) = a:=(by rw [List.drop_zero];exact Hval.out);rw [hv];have HB:=hIh hB;clear hb hB hv;go_wp2;go_ret2;exact ⟨rfl,HB.out⟩
 ·have hlt:(decide (9223372036854775807 < a)) = true:=decide_eq_true (by omega)
  have hled:decide (a ≤ 9223372036854775807) = false:=decide_eq_false hle;rw [if_neg hle,hled];clear hled hle;go_enter Tryz.func164,Tryz.ntmps164;go_wp2
  go_region_held3 (fun W=>W.cell? ⟨w.heap.size,0,none⟩ = some (.slice A (dig a).length c))
   (first | exact (cells1 Hbx.out).1 | exact (cells1 (blk_below Hbx.out H1.out)).1 | exact (cells1 (blk_below Hbx.out H2.out)).1)
   (first
    | ((go_at_call 158);(refine (long_calls _ 9223372036854775807 (by omega)).mono ?_);(rintro e w1 ⟨l1,rfl,hr1,hn1,hw1⟩);(obtain ⟨A1,c1,rfl⟩:=hr1.slice);(have Hr1:=hIh hr1);(have H1:=hIh ((drewB (Below.refl (w.alloc (.cells #[.slice A (dig a).length c] 201)).heap.size _) 1).trans hw1));(clear hr1 hn1 hw1))
    | ((go_at_call 185);(refine (less_calls _ _ _ 9223372036854775807 a Hr1.out (Ha.out.below (HB0.out.trans (H1.out.mono HB0.out.size))) Hmx.out hl).mono ?_);(rintro e w2 ⟨rfl,hw2⟩);(have H2:=hIh (H1.out.trans (hw2.mono H1.out.size)));(clear hw2)))
  clear d0 H1 Hr1;go_wp2;go_ret2;exact ⟨rfl,HB0.out.trans (H2.out.mono HB0.out.size)⟩
end Go.Proofs.YtpfkkagkbneilaaGreatDoor
