/- Texts K16, K17, K18, K19, L1 of the proof of BursarChecks, joined. -/
import Derived.Test.YtpfkkagkbneilaaGreatDoorV15
import Derived.Maps.Own
import Derived.Defers
import Derived.Recover
import Derived.Laws.Rows
import Derived.Deep.MidRow
import Derived.Deep.DeepCutAuto
import Derived.IntWalk
namespace Go.Proofs.YtpfkkagkbneilaaGreatDoor
open Go.RowKit
set_option linter.unusedVariables false
set_option linter.unusedSimpArgs false
set_option maxRecDepth 100000
set_option maxHeartbeats 25600000
section
open Go.RowKit Go.MapKept
theorem form1_calls {g gq:Nat} {q:Nat → Prop} {line:Str} {w0:World} (w:World) (G:∀ W,FQ g gq w0 W → Glob W) (l:List Str) (cs:Array Value) (h:RS g gq q line w0 w l cs) (sd:Sd g gq q) (hg:4 ≤ g) (hsm:∀ t ∈ l,t.length ≤ 1048576) (hln:l.length ≤ 1048577) :
  Calls Tryz.prog 49 #[.pointer (some ⟨g,0,none⟩),.pointer (some ⟨gq,0,none⟩)] w (ObP g gq q line w0 cs 7 l):=by
 have Ho:Hid (Calls Tryz.prog 50 #[.pointer (some ⟨g,0,none⟩),.pointer (some ⟨gq,0,none⟩),.int .i64 7] w (ObP g gq q line w0 cs 7 l)):=object_calls 7 w G l cs h sd hg hsm hln;generalize hP:ObP g gq q line w0 cs 7 l = P at Ho
 have Hpan:Hid (∀ e w',P e w' → e = .returned (.tuple #[]) ∨ e = (.panicked [{ v:=.iface 74 (.agg #[]),recovered:=false }])):=fun e w' h=>by
  rw [← hP] at h;rcases h with ⟨p,n,r,a,b,c,d,x,lv,pv,pl, -, -, -, -, -, -, -,rfl, -⟩ | ⟨-,rfl, -⟩
  ·exact .inl rfl
  ·exact .inr rfl
 clear h sd G hg hsm hln hP;go_enter Tryz.func49,Tryz.ntmps49;go_wp2_with fail
 with_reducible refine Ho.out.mono ?_
 intro e w2 hp;rcases Hpan.out e w2 hp with rfl | rfl
 ·have Hp:=hIh hp
  clear hp;go_wp2;refine bodyPost_ret (v:=.tuple #[]) (by simp [results,go_sem]) rfl ?_;exact Hp.out
 ·have Hp:=hIh hp
  clear hp;go_wp2;exact pan_end Hp.out
theorem form2_calls {g gq:Nat} {q:Nat → Prop} {line:Str} {w0:World} (w:World) (G:∀ W,FQ g gq w0 W → Glob W) (l:List Str) (cs:Array Value) (h:RS g gq q line w0 w l cs) (sd:Sd g gq q) (hg:4 ≤ g) (hsm:∀ t ∈ l,t.length ≤ 1048576) (hln:l.length ≤ 1048577) :
  Calls Tryz.prog 51 #[.pointer (some ⟨g,0,none⟩),.pointer (some ⟨gq,0,none⟩)] w (ObP g gq q line w0 cs 8 l):=by
 have Ho:Hid (Calls Tryz.prog 50 #[.pointer (some ⟨g,0,none⟩),.pointer (some ⟨gq,0,none⟩),.int .i64 8] w (ObP g gq q line w0 cs 8 l)):=object_calls 8 w G l cs h sd hg hsm hln;generalize hP:ObP g gq q line w0 cs 8 l = P at Ho
 have Hpan:Hid (∀ e w',P e w' → e = .returned (.tuple #[]) ∨ e = (.panicked [{ v:=.iface 74 (.agg #[]),recovered:=false }])):=fun e w' h=>by
  rw [← hP] at h;rcases h with ⟨p,n,r,a,b,c,d,x,lv,pv,pl, -, -, -, -, -, -, -,rfl, -⟩ | ⟨-,rfl, -⟩
  ·exact .inl rfl
  ·exact .inr rfl
 clear h sd G hg hsm hln hP;go_enter Tryz.func51,Tryz.ntmps51;go_wp2_with fail
 with_reducible refine Ho.out.mono ?_
 intro e w2 hp;rcases Hpan.out e w2 hp with rfl | rfl
 ·have Hp:=hIh hp
  clear hp;go_wp2;refine bodyPost_ret (v:=.tuple #[]) (by simp [results,go_sem]) rfl ?_;exact Hp.out
 ·have Hp:=hIh hp
  clear hp;go_wp2;exact pan_end Hp.out
theorem form3_calls {g gq:Nat} {q:Nat → Prop} {line:Str} {w0:World} (w:World) (G:∀ W,FQ g gq w0 W → Glob W) (l:List Str) (cs:Array Value) (h:RS g gq q line w0 w l cs) (sd:Sd g gq q) (hg:4 ≤ g) (hsm:∀ t ∈ l,t.length ≤ 1048576) (hln:l.length ≤ 1048577) :
  Calls Tryz.prog 52 #[.pointer (some ⟨g,0,none⟩),.pointer (some ⟨gq,0,none⟩)] w (ObP g gq q line w0 cs 16 l):=by
 have Ho:Hid (Calls Tryz.prog 50 #[.pointer (some ⟨g,0,none⟩),.pointer (some ⟨gq,0,none⟩),.int .i64 16] w (ObP g gq q line w0 cs 16 l)):=object_calls 16 w G l cs h sd hg hsm hln;generalize hP:ObP g gq q line w0 cs 16 l = P at Ho
 have Hpan:Hid (∀ e w',P e w' → e = .returned (.tuple #[]) ∨ e = (.panicked [{ v:=.iface 74 (.agg #[]),recovered:=false }])):=fun e w' h=>by
  rw [← hP] at h;rcases h with ⟨p,n,r,a,b,c,d,x,lv,pv,pl, -, -, -, -, -, -, -,rfl, -⟩ | ⟨-,rfl, -⟩
  ·exact .inl rfl
  ·exact .inr rfl
 clear h sd G hg hsm hln hP;go_enter Tryz.func52,Tryz.ntmps52;go_wp2_with fail
 with_reducible refine Ho.out.mono ?_
 intro e w2 hp;rcases Hpan.out e w2 hp with rfl | rfl
 ·have Hp:=hIh hp
  clear hp;go_wp2;refine bodyPost_ret (v:=.tuple #[]) (by simp [results,go_sem]) rfl ?_;exact Hp.out
 ·have Hp:=hIh hp
  clear hp;go_wp2;exact pan_end Hp.out
abbrev FE:=ByteArray × Nat
def mkE (x:FE × Nat):MapEntry:={ key:=.string x.1.1,val:=.func (.func x.1.2) #[] #[],born:=x.2 }
def fEnts (l:List FE):Array MapEntry:=(l.zipIdx.map mkE).toArray
def lookF (S:ByteArray):List FE → Option Nat
 | []=>none
 | e :: r=>if (S == e.1) = true then some e.2 else lookF S r
def lookI (S:ByteArray):List FE → Nat → Option (Nat × Value)
 | [],_=>none
 | e :: r,i=>if (S == e.1) = true then some (i,.func (.func e.2) #[] #[]) else lookI S r (i + 1)
theorem findNow_ents (S:ByteArray):∀ (l:List FE) (k i:Nat),Instr.findNow .string (.string S) ((l.zipIdx k).map mkE) i = some (lookI S l i)
 | [],_,_=>rfl
 | e :: r,k,i=>by
  rw [List.zipIdx_cons,List.map_cons];unfold Instr.findNow lookI
  cases h:S == e.1 with
  | true=>simp [mkE,Instr.sameNow,h]
  | false=>
   simp only [mkE,Instr.sameNow,h];exact findNow_ents S r (k + 1) (i + 1)
theorem lookI_none {S:ByteArray}:∀ {l:List FE} {i:Nat},lookF S l = none → lookI S l i = none
 | [],_,_=>rfl
 | e :: r,i,h=>by
  unfold lookF at h;unfold lookI
  split at h
  ·cases h
  ·rename_i hn;rw [if_neg hn];exact lookI_none h
theorem lookI_some {S:ByteArray} {n:Nat}:∀ {l:List FE} {i:Nat},lookF S l = some n → ∃ j,lookI S l i = some (j,.func (.func n) #[] #[])
 | [],_,h=>by cases h
 | e :: r,i,h=>by
  unfold lookF at h;unfold lookI
  split at h
  ·rename_i hn;cases h;exact ⟨i,by rw [if_pos hn]⟩
  ·rename_i hn;rw [if_neg hn];exact lookI_some h
theorem fEnts_push (l:List FE) (e:FE):fEnts (l ++ [e]) = (fEnts l).push (mkE (e,l.length)):=by
 unfold fEnts;rw [List.zipIdx_append,List.map_append,List.push_toArray];simp [List.zipIdx_cons]
structure FMap (w0 w:World) (b:Nat) (l:List FE):Prop where
 blk:w.heap[b]? = some (.map (fEnts l) l.length)
 bel:Below w0.heap.size w0 w
 le:w0.heap.size ≤ b
theorem FMap.below {w0 w w1:World} {b:Nat} {l:List FE} (h:FMap w0 w b l) (hb:Below w.heap.size w w1):FMap w0 w1 b l:=⟨(hb.block b (blk_lt h.blk)).trans h.blk,h.bel.trans (hb.mono h.bel.size),h.le⟩
theorem formMap_und:Tryz.prog.underlying 82 = some (.map 9 80):=Tryz.underlying82
theorem wpList_insF {ops:Array Oper} {rest:List Oper} {o:Oper} {a:Act} {Q:Exit → Act → World → Prop} {w0 w:World} {b:Nat} {l:List FE} (H:Hid (FMap w0 w b l)) (hg:o.guard = none) (m x v:Operand) (hop:o.op = Op.insert 82 m x v) (hm:a.eval m = .map (some b)) (S:ByteArray) (hx:a.eval x = .string S) (n:Nat) (hv:a.eval v = .func (.func n) #[] #[]) (hno:lookF S l = none)
  (hK:∀ w',Hid (FMap w0 w' b (l ++ [(S,n)])) → wpList Tryz.prog ops Q rest (a.put o.dst undef) w'):wpList Tryz.prog ops Q (o :: rest) a w:=by
 refine wpList_plain hg fun K' hK'=>?_;obtain ⟨hb,hbel,hle⟩:=H.out;have hf:=findNow_ents S l 0 0;rw [lookI_none hno] at hf;have hf2:Instr.findNow .string (.string S) (fEnts l).toList 0 = some none:=hf
 have hrun:(Instr.mapUpdate 82 (.map (some b)) (.string S) (.func (.func n) #[] #[])).run Tryz.prog w = .ok () { w with heap:=w.heap.setIfInBounds b (.map ((fEnts l).push ⟨.string S,.func (.func n) #[] #[],l.length⟩) (l.length + 1)) }:=by
  simp [Instr.mapUpdate,run_underlying formMap_und,MapKept.run_getObj_map hb,run_checkKey (P:=Tryz.prog) (kt:=9) (d:=.string) (k:=.string S) Tryz.underlying9 trivial,run_findKey Tryz.underlying9 hf2,MapKept.run_setObj_map _ hb,Result.andThen]
 unfold Oper.wp;simp [execOp,hop,hm,hx,hv,hrun,Result.andThen];refine hK' _ _ (hK _ ⟨?_,?_,hle⟩)
 ·rw [fEnts_push,List.length_append]
  have:=blk_lt hb;simp [this,mkE]
 ·refine ⟨hbel.os,hbel.tape,hbel.output,?_,fun k hk=>?_⟩
  ·simpa using hbel.size
  ·rw [← hbel.block k hk]
   have:b ≠ k:=(by omega);simp [Array.getElem?_setIfInBounds,this]
theorem run_lookF {w:World} {b:Nat} {l:List FE} (hb:w.heap[b]? = some (.map (fEnts l) l.length)) (S:ByteArray):(Instr.lookup 82 (.map (some b)) (.string S) true).run Tryz.prog w = .ok (match lookF S l with
  | some n=>.tuple #[.func (.func n) #[] #[],.bool true]
  | none=>.tuple #[.nilFunc,.bool false]) w:=by
 have hf:=findNow_ents S l 0 0
 have hz:(zeroValue 80).run Tryz.prog w = .ok .nilFunc w:=by kernel_rfl
 cases hl:lookF S l with
 | none=>
  rw [lookI_none hl] at hf;have hf2:Instr.findNow .string (.string S) (fEnts l).toList 0 = some none:=hf;simp [Instr.lookup,run_underlying formMap_und,MapKept.run_getObj_map hb,run_checkKey (P:=Tryz.prog) (kt:=9) (d:=.string) (k:=.string S) Tryz.underlying9 trivial,run_findKey Tryz.underlying9 hf2,hz,Result.andThen]
 | some n=>
  obtain ⟨j,hj⟩:=lookI_some (i:=0) hl;rw [hj] at hf;have hf2:Instr.findNow .string (.string S) (fEnts l).toList 0 = some (some (j,.func (.func n) #[] #[])):=hf;simp [Instr.lookup,run_underlying formMap_und,MapKept.run_getObj_map hb,run_checkKey (P:=Tryz.prog) (kt:=9) (d:=.string) (k:=.string S) Tryz.underlying9 trivial,run_findKey Tryz.underlying9 hf2,Result.andThen]
def formL:List (Str × Nat) := [([110,111,100,101],46),([113,117,111,116,97],47),([108,105,109,105,116],48),([99,114,101,97,116,101],49),([117,112,100,97,116,101],51),([101,118,105,99,116],52),([100,101,108,101,116,101],53),([103,101,116],54),([110,111,100,101,115],56),([108,105,115,116],57),([115,116,97,116,117,115],58),([119,97,116,99,104],59),([98,105,110,100],60),([117,110,98,105,110,100],61),([115,121,110,99],62),([99,104,101,99,107,112,111,105,110,116],63),([115,116,97,116],64)]
def formF:List FE:=formL.map fun x=>(sb x.1,x.2)
theorem formL_enter:∀ x ∈ formL, ∀ (args:Array Value) (w:World),(callFunc x.2 args).run Tryz.prog w = .ok (.enter x.2 args) w:=by
 intro x hx args w;simp only [formL,List.mem_cons,List.not_mem_nil,or_false] at hx;rcases hx with rfl | rfl | rfl | rfl | rfl | rfl | rfl | rfl | rfl | rfl | rfl | rfl | rfl | rfl | rfl | rfl | rfl <;> kernel_rfl
theorem forms_calls (w:World):Calls Tryz.prog 30 #[] w fun e w' => ∃ b,e = .returned (.map (some b)) ∧ FMap w w' b formF:=by
 have hmm:=@run_makeMap Tryz.prog;have HM:Hid (FMap w (w.alloc (.map #[] 0)) w.heap.size []):=⟨blk_new _ _,bel_alloc _ _,Nat.le_refl _⟩;go_enter Tryz.func30,Tryz.ntmps30;go_wp2_with (refine wpList_insF HM rfl _ _ _ rfl rfl _ rfl _ rfl (by decide) ?_;intro w1 HM1;clear HM;have HM:=HM1;clear HM1);go_ret;exact ⟨_,rfl,HM.out⟩
end
def reqCells (r:ReqD) (lv pv hv rv tv:Value):Array Value := #[.int .i64 (r.op:Int),.string (sb []),.string (sb r.path),.string (sb r.name),
 .string (sb r.obj.path),.string (sb r.obj.name),lv,.int .i64 r.obj.prio,.int .i64 r.obj.ends,pv,.int .i64 0,
 .string (sb r.quo.path),.string (sb r.quo.name),.int .i64 (r.quo.kind:Int),.int .i64 (r.quo.arg:Int),hv,
 .string (sb r.lim.path),.string (sb r.lim.name),rv,
 .string (sb r.bin.path),.string (sb r.bin.name),.string (sb r.bin.subj),.int .i64 (r.bin.verb:Int),
 tv,.int .i64 (r.ver:Int),.int .i64 r.most,.string (sb r.frm),.bool r.deep,.bool r.dry]
def ReqN (B:Nat) (lv pv hv rv tv:Value) (pl:List PtV) (tl:List (Tm × Value)):Prop:=RNew B lv pv pl ∧ (∀ k,hv.ownBlock = some k → B ≤ k) ∧ (∀ k,rv.ownBlock = some k → B ≤ k) ∧ (∀ k,tv.ownBlock = some k → B ≤ k) ∧ ∀ e ∈ tl, ∀ k,e.2.ownBlock = some k → B ≤ k
def ReqV (B:Nat) (w:World) (cs:Array Value) (r:ReqD):Prop := ∃ (lv pv hv rv tv:Value) (pl:List PtV) (tl:List (Tm × Value)),cs = reqCells r lv pv hv rv tv ∧ RdS lbC 2 w lv r.obj.labels ∧ (PRow w pv pl ∧ pl.map Prod.fst = r.obj.parts) ∧ RdS amtC 2 w hv r.quo.hard ∧ RdS ruC 6 w rv r.lim.rules ∧ (TRow w tv tl ∧ tl.map Prod.fst = r.terms) ∧ ReqN B lv pv hv rv tv pl tl
theorem ReqV.fr {B:Nat} {w w1:World} {cs:Array Value} {r:ReqD} (h:ReqV B w cs r) {S:Nat → Prop} (hf:Fr S w w1) (hS:∀ k,B ≤ k → ¬ S k):ReqV B w1 cs r:=by
 obtain ⟨lv,pv,hv,rv,tv,pl,tl,h1,h2,⟨h3,h4⟩,h5,h6,⟨h7,h8⟩,⟨n1,n2,n3⟩,n4,n5,n6,n7⟩:=h;exact ⟨lv,pv,hv,rv,tv,pl,tl,h1,RdS.fr h2 hf (fun k hk=>hS k (n1 k hk)),⟨⟨RdS.fr h3.1 hf (fun k hk=>hS k (n2 k hk)),fun e he=>⟨RdS.fr (h3.2 e he).1 hf (fun k hk=>hS k ((n3 e he).1 k hk)),RdS.fr (h3.2 e he).2 hf (fun k hk=>hS k ((n3 e he).2 k hk))⟩⟩,h4⟩,RdS.fr h5 hf (fun k hk=>hS k (n4 k hk)),RdS.fr h6 hf (fun k hk=>hS k (n5 k hk)),⟨h7.fr hf (fun k hk=>hS k (n6 k hk)) (fun e he k hk=>hS k (n7 e he k hk)),h8⟩,⟨n1,n2,n3⟩,n4,n5,n6,n7⟩
theorem ReqV.below {B:Nat} {w w1:World} {cs:Array Value} {r:ReqD} (h:ReqV B w cs r) (hb:Below w.heap.size w w1):ReqV B w1 cs r:=h.fr (Fr.of_below hb (fun _=>False)) (fun _ _ h=>h)
theorem ReqV.mono {B B' : Nat} {w:World} {cs:Array Value} {r:ReqD} (h:ReqV B w cs r) (hB:B' ≤ B):ReqV B' w cs r:=by
 obtain ⟨lv,pv,hv,rv,tv,pl,tl,h1,h2,h3,h5,h6,h7,⟨n1,n2,n3⟩,n4,n5,n6,n7⟩:=h;exact ⟨lv,pv,hv,rv,tv,pl,tl,h1,h2,h3,h5,h6,h7,⟨fun k hk=>Nat.le_trans hB (n1 k hk),fun k hk=>Nat.le_trans hB (n2 k hk),fun e he=>⟨fun k hk=>Nat.le_trans hB ((n3 e he).1 k hk),fun k hk=>Nat.le_trans hB ((n3 e he).2 k hk)⟩⟩,fun k hk=>Nat.le_trans hB (n4 k hk),fun k hk=>Nat.le_trans hB (n5 k hk),fun k hk=>Nat.le_trans hB (n6 k hk),fun e he k hk=>Nat.le_trans hB (n7 e he k hk)⟩
theorem no_own (B:Nat):∀ k,(Value.slice none 0 0).ownBlock = some k → B ≤ k:=fun k hk=>by cases hk
theorem RNew.nil (B:Nat):RNew B (.slice none 0 0) (.slice none 0 0) []:=⟨no_own B,no_own B,fun e he=>by cases he⟩
def zeroCells:Array Value:=reqCells ReqD.zero (.slice none 0 0) (.slice none 0 0) (.slice none 0 0) (.slice none 0 0) (.slice none 0 0)
def FlatR (r:ReqD):Prop:=r.obj.labels = [] ∧ r.obj.parts = [] ∧ r.quo.hard = [] ∧ r.lim.rules = [] ∧ r.terms = []
theorem PRow.nil (w:World):PRow w (.slice none 0 0) []:=⟨RdS.nil _ _ _,fun e he=>by cases he⟩
theorem TRow.nil (w:World):TRow w (.slice none 0 0) []:=⟨RdS.nil _ _ _,fun e he=>by cases he⟩
theorem ReqV.flat (B:Nat) (w:World) {r:ReqD} (h:FlatR r):ReqV B w (reqCells r (.slice none 0 0) (.slice none 0 0) (.slice none 0 0) (.slice none 0 0) (.slice none 0 0)) r:=by
 obtain ⟨h1,h2,h3,h4,h5⟩:=h;refine ⟨_,_,_,_,_, [], [],rfl,?_,⟨PRow.nil w,?_⟩,?_,?_,⟨TRow.nil w,?_⟩,RNew.nil B,no_own B,no_own B,no_own B,fun e he=>by cases he⟩
 ·rw [h1];exact RdS.nil _ _ _
 ·rw [h2];rfl
 ·rw [h3];exact RdS.nil _ _ _
 ·rw [h4];exact RdS.nil _ _ _
 ·rw [h5];rfl
def FoP (g gq:Nat) (q:Nat → Prop) (line:Str) (w0:World) (o:Option ReqD) (e:Ending) (w' : World):Prop:=
 (∃ rest cs,e = .returned (.tuple #[]) ∧ RS g gq q line w0 w' rest cs ∧ (rest = [] → ∃ rq,o = some rq ∧ ReqV w0.heap.size w' cs rq) ∧ (rest ≠ [] → o = none)) ∨ (o = none ∧ e = (.panicked [{ v:=.iface 74 (.agg #[]),recovered:=false }]) ∧ FQ g gq w0 w')
def Flat (o:Option (Array Value × List Str)) (D:Option ReqD):Prop:=(o = none → D = none) ∧ ∀ x,o = some x → (x.2 = [] → ∃ rq,D = some rq ∧ x.1 = reqCells rq (.slice none 0 0) (.slice none 0 0) (.slice none 0 0) (.slice none 0 0) (.slice none 0 0) ∧ FlatR rq) ∧ (x.2 ≠ [] → D = none)
theorem MtQ.fo {g gq:Nat} {q:Nat → Prop} {line:Str} {w0 w' : World} {o:Option (Array Value × List Str)} {D:Option ReqD} {e:Ending} (h:MtQ g gq q line w0 o e w') (hf:Flat o D):FoP g gq q line w0 D e w':=by
 rcases h with ⟨x,h1,h2,h3⟩ | ⟨h1,h2,h3⟩
 ·obtain ⟨a1,a2⟩:=hf.2 x h1
  refine .inl ⟨x.2,x.1,h2,h3,fun hr=>?_,a2⟩;obtain ⟨rq,b1,b2,b3⟩:=a1 hr;exact ⟨rq,b1,by rw [b2];exact ReqV.flat _ _ b3⟩
 ·exact .inr ⟨hf.1 h1,h2,h3⟩
theorem Flat.nn:Flat none none:=⟨fun _=>rfl,fun x hx=>by cases hx⟩
theorem Flat.nil {cs:Array Value} {rq:ReqD} (h1:cs = reqCells rq (.slice none 0 0) (.slice none 0 0) (.slice none 0 0) (.slice none 0 0) (.slice none 0 0)) (h2:FlatR rq):Flat (some (cs, [])) (some rq):=⟨fun h=>(by cases h),fun x hx=>by cases hx;exact ⟨fun _=>⟨rq,rfl,h1,h2⟩,fun h=>absurd rfl h⟩⟩
theorem Flat.cons {cs:Array Value} {t:Str} {r:List Str}:Flat (some (cs,t :: r)) none:=⟨fun h=>(by cases h),fun x hx=>by cases hx;exact ⟨fun h=>(by cases h),fun _=>rfl⟩⟩
theorem Flat.end {cs:Array Value} {rq:ReqD} (r:List Str) (h1:cs = reqCells rq (.slice none 0 0) (.slice none 0 0) (.slice none 0 0) (.slice none 0 0) (.slice none 0 0)) (h2:FlatR rq):Flat (some (cs,r)) (ended rq r):=by
 cases r with
 | nil=>exact Flat.nil h1 h2
 | cons t r=>exact Flat.cons
theorem flat_named (op:Nat) (l:List Str):Flat (opNamedM (op:Int) zeroCells l) (namedD op l):=by
 match l with
 | []=>exact Flat.nn
 | [p]=>exact Flat.nn
 | [p,n]=>exact Flat.nil rfl ⟨rfl,rfl,rfl,rfl,rfl⟩
 | p :: n :: t :: r=>exact Flat.cons
theorem flat_op (op:Nat) (l:List Str):Flat (opM (op:Int) zeroCells l) (ended { ReqD.zero with op:=op } l):=Flat.end l rfl ⟨rfl,rfl,rfl,rfl,rfl⟩
theorem flat_nodes (l:List Str):Flat (pathM zeroCells 10 l) (nodesD l):=by
 match l with
 | []=>exact Flat.nn
 | [p]=>exact Flat.nil rfl ⟨rfl,rfl,rfl,rfl,rfl⟩
 | p :: n :: r=>exact Flat.cons
theorem flat_node (l:List Str):Flat (nodeM zeroCells l) (nodeD l):=by
 match l with
 | []=>exact Flat.nn
 | [a]=>
  show Flat (if a = wAdd then none else if a = wDrop then none else none) none
  split
  ·exact Flat.nn
  ·split <;> exact Flat.nn
 | [a,p]=>
  show Flat (if a = wAdd then some (_, []) else if a = wDrop then some (_, []) else none) (if a = wAdd then some _ else if a = wDrop then some _ else none)
  split
  ·exact Flat.nil rfl ⟨rfl,rfl,rfl,rfl,rfl⟩
  ·split
   ·exact Flat.nil rfl ⟨rfl,rfl,rfl,rfl,rfl⟩
   ·exact Flat.nn
 | a :: p :: t :: r=>
  show Flat (if a = wAdd then some (_,t :: r) else if a = wDrop then some (_,t :: r) else none) none
  split
  ·exact Flat.cons
  ·split
   ·exact Flat.cons
   ·exact Flat.nn
theorem flat_drop (l:List Str):Flat (dropM zeroCells l) (dropD l):=by
 match l with
 | []=>exact Flat.nn
 | [p]=>exact Flat.nn
 | p :: n :: r=>
  show Flat ((mustS r).map fun m=>(_,m.2)) ((mustS r).bind fun c=>ended _ c.2)
  cases mustS r with
  | none=>exact Flat.nn
  | some c=>exact Flat.end c.2 rfl ⟨rfl,rfl,rfl,rfl,rfl⟩
theorem flat_watch (l:List Str):Flat (watchM zeroCells l) (watchD l):=by
 match l with
 | []=>exact Flat.nn
 | [p]=>exact Flat.nn
 | p :: v :: r=>
  show Flat ((digitsS v 19).bind fun n=>(smallS wMost 100 r).map fun m=>(_,m.2)) ((digitsS v 19).bind fun n=>(smallS wMost 100 r).bind fun m=>ended _ m.2)
  cases digitsS v 19 with
  | none=>exact Flat.nn
  | some n=>
   show Flat ((smallS wMost 100 r).map fun m=>(_,m.2)) ((smallS wMost 100 r).bind fun m=>ended _ m.2)
   cases smallS wMost 100 r with
   | none=>exact Flat.nn
   | some m=>exact Flat.end m.2 rfl ⟨rfl,rfl,rfl,rfl,rfl⟩
theorem flat_bind (l:List Str):Flat (bindM zeroCells l) (bindD l):=by
 match l with
 | []=>exact Flat.nn
 | [p]=>exact Flat.nn
 | [p,n]=>exact Flat.nn
 | [p,n,s]=>exact Flat.nn
 | [p,n,s,v]=>
  show Flat ((verbS v).map fun k=>(_, [])) ((verbS v).map fun k=>_)
  cases verbS v with
  | none=>exact Flat.nn
  | some k=>exact Flat.nil rfl ⟨rfl,rfl,rfl,rfl,rfl⟩
 | p :: n :: s :: v :: t :: r=>
  show Flat ((verbS v).map fun k=>(_,t :: r)) none
  cases verbS v with
  | none=>exact Flat.nn
  | some k=>exact Flat.cons
section
variable {g gq:Nat} {q:Nat → Prop} {line:Str} {w0 w' : World} {l:List Str} {e:Ending}
theorem FoP.ret {rest:List Str} {cs:Array Value} {rq:ReqD} (hR:RS g gq q line w0 w' rest cs) (hv:ReqV w0.heap.size w' cs rq):FoP g gq q line w0 (ended rq rest) (.returned (.tuple #[])) w':=by
 refine .inl ⟨rest,cs,rfl,hR,fun hr=>?_,fun hr=>?_⟩
 ·subst hr;exact ⟨rq,rfl,hv⟩
 ·cases rest with
  | nil=>exact absurd rfl hr
  | cons t r=>rfl
theorem QuP.fo (h:QuP g gq q line w0 zeroCells l e w'):FoP g gq q line w0 (quotaD l) e w':=by
 rcases h with ⟨p,n,s,r,sc,x,hv,rfl,h2,h3,rfl,h5,h6,h7⟩ | ⟨h1,x,h2,rfl,h4⟩ | ⟨h1,h2,h3⟩
 ·rw [quotaD_set]
  show FoP _ _ _ _ _ ((scopeS s).bind _) _ _;rw [h2];show FoP _ _ _ _ _ ((amountsS r).bind _) _ _;rw [h3];exact FoP.ret h5 ⟨(.slice none 0 0),(.slice none 0 0),hv,(.slice none 0 0),(.slice none 0 0), [], [],rfl,RdS.nil _ _ _,⟨PRow.nil _,rfl⟩,h6,RdS.nil _ _ _,⟨TRow.nil _,rfl⟩,RNew.nil _,h7,no_own _,no_own _,fun e he=>by cases he⟩
 ·obtain ⟨r,rfl⟩ : ∃ r,l = wDrop :: r:=by cases l with
   | nil=>cases h1
   | cons t r=>exact ⟨r,by cases h1;rfl⟩
  have hq:quotaD (wDrop :: r) = namedD 4 r:=by simp [quotaD]
  rw [hq];exact (show MtQ g gq q line w0 (opNamedM 4 zeroCells r) (.returned (.tuple #[])) w' from .inl ⟨x,h2,rfl,h4⟩).fo (flat_named 4 r)
 ·exact .inr ⟨h1,h2,h3⟩
theorem LiP.fo (h:LiP g gq q line w0 zeroCells l e w'):FoP g gq q line w0 (limitD l) e w':=by
 rcases h with ⟨p,n,r,x,hv,rfl,h2,rfl,h5,h6,h7⟩ | ⟨h1,x,h2,rfl,h4⟩ | ⟨h1,h2,h3⟩
 ·rw [limitD_set]
  show FoP _ _ _ _ _ ((rulesS r).bind _) _ _;rw [h2];exact FoP.ret h5 ⟨(.slice none 0 0),(.slice none 0 0),(.slice none 0 0),hv,(.slice none 0 0), [], [],rfl,RdS.nil _ _ _,⟨PRow.nil _,rfl⟩,RdS.nil _ _ _,h6,⟨TRow.nil _,rfl⟩,RNew.nil _,no_own _,h7,no_own _,fun e he=>by cases he⟩
 ·obtain ⟨r,rfl⟩ : ∃ r,l = wDrop :: r:=by cases l with
   | nil=>cases h1
   | cons t r=>exact ⟨r,by cases h1;rfl⟩
  have hq:limitD (wDrop :: r) = namedD 6 r:=by simp [limitD]
  rw [hq];exact (show MtQ g gq q line w0 (opNamedM 6 zeroCells r) (.returned (.tuple #[])) w' from .inl ⟨x,h2,rfl,h4⟩).fo (flat_named 6 r)
 ·exact .inr ⟨h1,h2,h3⟩
theorem obFin_zero (op:Nat) (p n:Str) (ver:Nat) (lv:Value) (a b:Int) (pv:Value) (d:List (Str × Str)) (x:List Ptt):obFin zeroCells (op:Int) p n ver lv a b pv = reqCells { ReqD.zero with op:=op,path:=p,name:=n,obj:=⟨p,n,d,a,b,x⟩,ver:=ver } lv pv (.slice none 0 0) (.slice none 0 0) (.slice none 0 0):=by
 simp only [obFin,zeroCells,reqCells,List.setIfInBounds_toArray,List.set_cons_zero,List.set_cons_succ]
theorem ObP.fo {op:Nat} (h:ObP g gq q line w0 zeroCells op l e w'):FoP g gq q line w0 (objectD op l) e w':=by
 rcases h with ⟨p,n,r,a,b,c,d,x,lv,pv,pl,rfl,h1,h2,h3,h4,h5,h6,rfl,h8,h9,h10,h11⟩ | ⟨h1,h2,h3⟩
 ·show FoP _ _ _ _ _ ((smallS [112,114,105,111] 0 r).bind _) _ _
  rw [h1];show FoP _ _ _ _ _ ((smallS [101,110,100,115] 0 a.2).bind _) _ _;rw [h2];show FoP _ _ _ _ _ ((mustS b.2).bind _) _ _;rw [h3];show FoP _ _ _ _ _ ((labelsS c.2).bind _) _ _;rw [h4];show FoP _ _ _ _ _ ((partsS d.2).bind _) _ _;rw [h5];rw [obFin_zero op p n c.1 lv a.1 b.1 pv d.1 x.1] at h8;exact FoP.ret h8 ⟨lv,pv,(.slice none 0 0),(.slice none 0 0),(.slice none 0 0),pl, [],rfl,h9,⟨h10,h6⟩,RdS.nil _ _ _,RdS.nil _ _ _,⟨TRow.nil _,rfl⟩,h11,no_own _,no_own _,no_own _,fun e he=>by cases he⟩
 ·exact .inr ⟨h1,h2,h3⟩
theorem lsCells_zero (p:Str) (d:Bool) (f:Option Str) (m:Int):lsCells zeroCells p d f m = reqCells { ReqD.zero with op:=11,path:=p,deep:=d,frm:=f.getD [],most:=m } (.slice none 0 0) (.slice none 0 0) (.slice none 0 0) (.slice none 0 0) (.slice none 0 0):=by
 cases f with
 | none=>rfl
 | some v=>rfl
theorem LsP.fo (h:LsP g gq q line w0 zeroCells l e w'):FoP g gq q line w0 (listD (selB line) l) e w':=by
 rcases h with ⟨p,r,m,rfl,h1,h2,rfl,h4⟩ | ⟨p,r,m,l2,tl,v,rfl,h1,h2,h3,h4,h5,rfl,h6⟩ | ⟨h1,h2,h3⟩
 ·rw [listD_eq,h1]
  rw [lsCells_zero] at h4;refine .inl ⟨m.2,_,rfl,h4,fun hr=>?_,fun hr=>?_⟩
  ·refine ⟨_,?_,ReqV.flat _ _ ⟨rfl,rfl,rfl,rfl,rfl⟩⟩
   show (match m.2 with | []=>_ | w :: l=>_) = _;rw [hr]
  ·show (match m.2 with | []=>_ | w :: l=>_) = _
   cases hm:m.2 with
   | nil=>exact absurd hm hr
   | cons w l=>exact if_neg (fun e=>h2 (by rw [hm,e];rfl))
 ·rw [listD_eq,h1]
  rw [lsCells_zero] at h6;refine .inl ⟨[],_,rfl,h6,fun _=>⟨{ ReqD.zero with op:=11,path:=p,deep:=r.head? == some wDeep,frm:=(optS wFrom (lsR r)).1.getD [],most:=m.1,terms:=tl.map Prod.fst },?_,(.slice none 0 0),(.slice none 0 0),(.slice none 0 0),(.slice none 0 0),v, [],tl,rfl,RdS.nil _ _ _,⟨PRow.nil _,rfl⟩,RdS.nil _ _ _,RdS.nil _ _ _,⟨h4,rfl⟩,RNew.nil _,no_own _,no_own _,h5.1,h5.2⟩,fun hr=>absurd rfl hr⟩;show (match m.2 with | []=>_ | w :: l=>_) = _;rw [h2];show (if wWhere = wWhere then (selB line l2.length).map _ else none) = _;rw [if_pos rfl,h3]
  rfl
 ·exact .inr ⟨h1,h2,h3⟩
end
theorem ba_refl (S:ByteArray):(S == S) = true:=by
 show (S.data == S.data) = true;simp
theorem ba_eq {S T:ByteArray} (h:(S == T) = true):S = T:=by
 have h2:(S.data == T.data) = true:=h
 cases S;cases T
 simpa using h2
def lookS (t:Str):List (Str × Nat) → Option Nat
 | []=>none
 | x :: r=>if t = x.1 then some x.2 else lookS t r
theorem lookS_mem {t:Str} {n:Nat}:∀ {L:List (Str × Nat)},lookS t L = some n → ∃ x ∈ L,x.2 = n
 | [],h=>by cases h
 | x :: r,h=>by
  unfold lookS at h
  split at h
  ·cases h;exact ⟨x,by simp,rfl⟩
  ·obtain ⟨y,hy,e⟩:=lookS_mem h;exact ⟨y,List.mem_cons_of_mem _ hy,e⟩
theorem form_enter {t:Str} {n:Nat} (h:lookS t formL = some n) (args:Array Value) (w:World):(callFunc n args).run Tryz.prog w = .ok (.enter n args) w:=by
 obtain ⟨x,hx,rfl⟩:=lookS_mem h;exact formL_enter x hx args w
theorem lookF_map (t:Str):∀ L:List (Str × Nat),lookF (sb t) (L.map fun x=>(sb x.1,x.2)) = lookS t L
 | []=>rfl
 | x :: r=>by
  show (if (sb t == sb x.1) = true then some x.2 else lookF (sb t) (r.map _)) = if t = x.1 then some x.2 else lookS t r
  by_cases h:t = x.1
  ·rw [if_pos h,if_pos (by rw [h];exact ba_refl _)]
  ·rw [if_neg h,if_neg (fun e=>h (sb_inj.1 (ba_eq e)))]
   exact lookF_map t r
structure FoA (g gq:Nat) (q:Nat → Prop) (line:Str) (w0 w:World) (l:List Str):Prop where
 G:∀ W,FQ g gq w0 W → Glob W
 rs:RS g gq q line w0 w l zeroCells
 sd:Sd g gq q
 hg:4 ≤ g
 sm:∀ t ∈ l,t.length ≤ 1048576
 ln:l.length ≤ 1048577
 lline:line.length ≤ 1048576
 lw:l.length ≤ (words line).length
def FoC (line:Str) (l:List Str) (o:Option ReqD) (n:Nat):Prop := ∀ (g gq:Nat) (q:Nat → Prop) (w0 w:World),FoA g gq q line w0 w l → Calls Tryz.prog n #[.pointer (some ⟨g,0,none⟩),.pointer (some ⟨gq,0,none⟩)] w (FoP g gq q line w0 o)
theorem form_look (line t:Str) (l:List Str):(∃ n,lookS t formL = some n ∧ FoC line l (formD (selB line) t l) n) ∨ (lookS t formL = none ∧ formD (selB line) t l = none):=by
 unfold formD formL;simp only [lookS]
 by_cases h0:t = [110,111,100,101]
 ·rw [if_pos h0,if_pos h0]
  exact .inl ⟨_,rfl,fun g gq q w0 w h=>(node_calls w l zeroCells h.rs h.sd).mono fun e w' hp=>hp.fo (flat_node l)⟩
 rw [if_neg h0,if_neg h0]
 by_cases h1:t = [113,117,111,116,97]
 ·rw [if_pos h1,if_pos h1]
  exact .inl ⟨_,rfl,fun g gq q w0 w h=>(quota_calls w h.G l zeroCells h.rs h.sd h.hg h.sm h.ln).mono fun e w' hp=>hp.fo⟩
 rw [if_neg h1,if_neg h1]
 by_cases h2:t = [108,105,109,105,116]
 ·rw [if_pos h2,if_pos h2]
  exact .inl ⟨_,rfl,fun g gq q w0 w h=>(limit_calls w h.G l zeroCells h.rs h.sd h.sm h.ln).mono fun e w' hp=>hp.fo⟩
 rw [if_neg h2,if_neg h2]
 by_cases h3:t = [99,114,101,97,116,101]
 ·rw [if_pos h3,if_pos h3]
  exact .inl ⟨_,rfl,fun g gq q w0 w h=>(form1_calls w h.G l zeroCells h.rs h.sd h.hg h.sm h.ln).mono fun e w' hp=>hp.fo⟩
 rw [if_neg h3,if_neg h3]
 by_cases h4:t = [117,112,100,97,116,101]
 ·rw [if_pos h4,if_pos h4]
  exact .inl ⟨_,rfl,fun g gq q w0 w h=>(form2_calls w h.G l zeroCells h.rs h.sd h.hg h.sm h.ln).mono fun e w' hp=>hp.fo⟩
 rw [if_neg h4,if_neg h4]
 by_cases h5:t = [101,118,105,99,116]
 ·rw [if_pos h5,if_pos h5]
  exact .inl ⟨_,rfl,fun g gq q w0 w h=>(form3_calls w h.G l zeroCells h.rs h.sd h.hg h.sm h.ln).mono fun e w' hp=>hp.fo⟩
 rw [if_neg h5,if_neg h5]
 by_cases h6:t = [100,101,108,101,116,101]
 ·rw [if_pos h6,if_pos h6]
  exact .inl ⟨_,rfl,fun g gq q w0 w h=>(drop_calls w l zeroCells h.rs h.sd).mono fun e w' hp=>hp.fo (flat_drop l)⟩
 rw [if_neg h6,if_neg h6]
 by_cases h7:t = [103,101,116]
 ·rw [if_pos h7,if_pos h7]
  exact .inl ⟨_,rfl,fun g gq q w0 w h=>(form4_calls w l zeroCells h.rs h.sd).mono fun e w' hp=>hp.fo (flat_named 10 l)⟩
 rw [if_neg h7,if_neg h7]
 by_cases h8:t = [110,111,100,101,115]
 ·rw [if_pos h8,if_pos h8]
  exact .inl ⟨_,rfl,fun g gq q w0 w h=>(form5_calls w l zeroCells h.rs h.sd).mono fun e w' hp=>hp.fo (flat_nodes l)⟩
 rw [if_neg h8,if_neg h8]
 by_cases h9:t = [108,105,115,116]
 ·rw [if_pos h9,if_pos h9]
  exact .inl ⟨_,rfl,fun g gq q w0 w h=>(list_calls w h.G l zeroCells h.rs h.sd h.lline h.lw).mono fun e w' hp=>hp.fo⟩
 rw [if_neg h9,if_neg h9]
 by_cases h10:t = [115,116,97,116,117,115]
 ·rw [if_pos h10,if_pos h10]
  exact .inl ⟨_,rfl,fun g gq q w0 w h=>(form6_calls w l zeroCells h.rs h.sd).mono fun e w' hp=>hp.fo (flat_named 12 l)⟩
 rw [if_neg h10,if_neg h10]
 by_cases h11:t = [119,97,116,99,104]
 ·rw [if_pos h11,if_pos h11]
  exact .inl ⟨_,rfl,fun g gq q w0 w h=>(watch_calls w l zeroCells h.rs h.sd).mono fun e w' hp=>hp.fo (flat_watch l)⟩
 rw [if_neg h11,if_neg h11]
 by_cases h12:t = [98,105,110,100]
 ·rw [if_pos h12,if_pos h12]
  exact .inl ⟨_,rfl,fun g gq q w0 w h=>(bind_calls w h.G l zeroCells h.rs h.sd).mono fun e w' hp=>hp.fo (flat_bind l)⟩
 rw [if_neg h12,if_neg h12]
 by_cases h13:t = [117,110,98,105,110,100]
 ·rw [if_pos h13,if_pos h13]
  exact .inl ⟨_,rfl,fun g gq q w0 w h=>(form7_calls w l zeroCells h.rs h.sd).mono fun e w' hp=>hp.fo (flat_named 15 l)⟩
 rw [if_neg h13,if_neg h13]
 by_cases h14:t = [115,121,110,99]
 ·rw [if_pos h14,if_pos h14]
  exact .inl ⟨_,rfl,fun g gq q w0 w h=>(form8_calls w l zeroCells h.rs h.sd).mono fun e w' hp=>hp.fo (flat_op 17 l)⟩
 rw [if_neg h14,if_neg h14]
 by_cases h15:t = [99,104,101,99,107,112,111,105,110,116]
 ·rw [if_pos h15,if_pos h15]
  exact .inl ⟨_,rfl,fun g gq q w0 w h=>(form9_calls w l zeroCells h.rs h.sd).mono fun e w' hp=>hp.fo (flat_op 18 l)⟩
 rw [if_neg h15,if_neg h15]
 by_cases h16:t = [115,116,97,116]
 ·rw [if_pos h16,if_pos h16]
  exact .inl ⟨_,rfl,fun g gq q w0 w h=>(form10_calls w l zeroCells h.rs h.sd).mono fun e w' hp=>hp.fo (flat_op 19 l)⟩
 rw [if_neg h16,if_neg h16];exact .inr ⟨rfl,rfl⟩
def setAll (C:Array Value):Nat → List Value → Array Value
 | _, []=>C
 | o,v :: r=>setAll (C.setIfInBounds o v) (o + 1) r
theorem setCells_blk {g:Nat} {t:TypeId}:∀ (vs:List Value) (o:Nat) (C:Array Value) (w:World),w.heap[g]? = some (.cells C t (0,0)) → (w.setCells g o vs).heap[g]? = some (.cells (setAll C o vs) t (0,0))
 | [],_,_,_,h=>h
 | v :: r,o,C,w,h=>setCells_blk r (o + 1) _ _ (blk_setCell h o v)
theorem setCells_fr (g:Nat):∀ (vs:List Value) (o:Nat) (w:World),Fr (fun k=>k = g) w (w.setCells g o vs)
 | [],_,w=>Fr.refl _ _
 | v :: r,o,w=>((Fr.refl (fun k=>k = g) w).setCell (p:=⟨g,o,none⟩) (.inl rfl) v).trans (setCells_fr g r (o + 1) _) (fun k hk=>.inl hk)
theorem setAll_get:∀ (vs:List Value) (o:Nat) (C:Array Value),o + vs.length ≤ C.size → (setAll C o vs).size = C.size ∧ ∀ j,(setAll C o vs)[j]? = if o ≤ j ∧ j < o + vs.length then vs[j - o]? else C[j]?
 | [],o,C,_=>⟨rfl,fun j=>by
  rw [if_neg (by simp only [List.length_nil];omega)];rfl⟩
 | v :: r,o,C,h=>by
  simp only [List.length_cons] at h;obtain ⟨h1,h2⟩:=setAll_get r (o + 1) (C.setIfInBounds o v) (by simp;omega)
  have hsz:(C.setIfInBounds o v).size = C.size:=by simp
  refine ⟨by show (setAll (C.setIfInBounds o v) (o + 1) r).size = _;rw [h1,hsz],fun j=>?_⟩;show (setAll (C.setIfInBounds o v) (o + 1) r)[j]? = _;rw [h2 j]
  by_cases hj:j = o
  ·subst hj
   rw [if_neg (by omega),if_pos (by simp only [List.length_cons];omega)];have hj:j < C.size:=(by omega);simp [hj]
  ·by_cases h3:o + 1 ≤ j ∧ j < o + 1 + r.length
   ·rw [if_pos h3,if_pos (by simp only [List.length_cons];omega)]
    rw [show j - o = (j - (o + 1)) + 1 from by omega,List.getElem?_cons_succ]
   ·rw [if_neg h3,if_neg (by simp only [List.length_cons];omega)]
    rw [Array.getElem?_setIfInBounds_ne (by omega)]
theorem setAll_full (C cs:Array Value) (h:cs.size = C.size):setAll C 0 cs.toList = cs:=by
 obtain ⟨h1,h2⟩:=setAll_get cs.toList 0 C (by simp;omega)
 apply Array.ext_getElem?
 intro j;rw [h2 j]
 split
 ·simp
 ·rename_i hn
  simp only [Nat.zero_le,Nat.zero_add,Array.length_toList,true_and] at hn;rw [Array.getElem?_eq_none (by omega),Array.getElem?_eq_none (by omega)]
theorem there_blk {w:World} {g:Nat} {C:Array Value} {t:TypeId} (h:w.heap[g]? = some (.cells C t (0,0))) {n:Nat} (hn:n ≤ C.size):w.there g 0 n:=fun j hj=>by
 obtain ⟨h1,h2⟩:=cellsN (i:=j) h (by omega);rw [Nat.zero_add];exact ⟨by rw [h1];rfl,h2⟩
theorem infoReq:(Tryz.prog.info? 38).map (·.size) = some 29:=by kernel_rfl
theorem zeroCells_size:zeroCells.size = 29:=rfl
theorem reqCells_size (r:ReqD) (lv pv hv rv tv:Value):(reqCells r lv pv hv rv tv).size = 29:=rfl
theorem ReqV.size {B:Nat} {w:World} {cs:Array Value} {r:ReqD} (h:ReqV B w cs r):cs.size = 29:=by
 obtain ⟨lv,pv,hv,rv,tv,pl,tl,rfl, -⟩:=h;rfl
theorem ReqV.one {B:Nat} {w:World} {cs:Array Value} {r:ReqD} (h:ReqV B w cs r):cs.all (·.oneCell') = true:=by
 obtain ⟨lv,pv,hv,rv,tv,pl,tl,rfl,h1,⟨h2, -⟩,h3,h4,⟨h5, -⟩, -⟩:=h;obtain ⟨A1,c1,rfl⟩:=h1.slice;obtain ⟨A2,c2,rfl⟩:=h2.1.slice;obtain ⟨A3,c3,rfl⟩:=h3.slice;obtain ⟨A4,c4,rfl⟩:=h4.slice;obtain ⟨A5,c5,rfl⟩:=h5.1.slice;simp [reqCells,Value.oneCell']
theorem zero_one:zeroCells.all (·.oneCell') = true:=by simp [zeroCells,reqCells,Value.oneCell']
theorem req_store {w:World} {g:Nat} {C cs:Array Value} (h:w.heap[g]? = some (.cells C 38 (0,0))) (hC:C.size = 29) (hs:cs.size = 29):(w.setCells g 0 cs.toList).heap[g]? = some (.cells cs 38 (0,0)) ∧ Fr (fun k=>k = g) w (w.setCells g 0 cs.toList):=
 ⟨by have:=setCells_blk cs.toList 0 C w h;rwa [setAll_full C cs (by omega)] at this,setCells_fr g _ _ _⟩
def CatchP (gq gk:Nat) (w w' : World):Prop:=w'.heap[gq]? = some (.cells zeroCells 38 (0,0)) ∧ w'.heap[gk]? = some (.cells #[.bool false] 4 (0,0)) ∧ Fr (fun k=>k = gq ∨ k = gk) w w'
theorem catch_panicking (gq gk:Nat) (w:World) (C:Array Value) (b:Value) (hq:w.heap[gq]? = some (.cells C 38 (0,0))) (hC:C.size = 29) (hk:w.heap[gk]? = some (.cells #[b] 4 (0,0))) (older:List PanicEntry) :
  CallsD Tryz.prog 28 #[.pointer (some ⟨gq,0,none⟩),.pointer (some ⟨gk,0,none⟩)] (.panicking ({ v:=.iface 74 (.agg #[]),recovered:=false } :: older)) w fun e u' w'=>
   e = .returned (.tuple #[]) ∧ u' = .panicking ({ v:=.iface 74 (.agg #[]),recovered:=true } :: older) ∧ CatchP gq gk w w':=by
 have hlq:=blk_lt hq;have hlk:=blk_lt hk
 have hne:gq ≠ gk:=fun e=>by rw [e,hk] at hq;cases hq
 have Hth:Hid (∀ W,Fr (fun _=>False) w W → W.there gq 0 29):=fun W hf=>there_blk (hf.blk hq (fun h=>h)) (by omega);refine callsD_of_wpS Tryz.func28 rfl fun c₀ cs hu=>?_
 apply wpS_seq
 apply wpS_region
 simp [wpOpsS,go_sem,recoverD,hu,Tryz.ntmps28,Exit.thenS];refine wpS_of_wp ?_;have htm : #[Value.pointer (some ⟨gq,0,none⟩),.pointer (some ⟨gk,0,none⟩)] ++ ((Array.replicate 15 undef).setIfInBounds 3 (.iface 74 (.agg #[]))).setIfInBounds 0 (.iface 74 (.agg #[])) = #[.pointer (some ⟨gq,0,none⟩),.pointer (some ⟨gk,0,none⟩),.iface 74 (.agg #[]),undef,undef,.iface 74 (.agg #[]),undef,undef,undef,undef,undef,undef,undef,undef,undef,undef,undef]:=rfl;rw [htm]
 have hta:∀ w,(Instr.typeAssert (.iface 74 (.agg #[])) 20 74 true).run Tryz.prog w = .ok (.tuple #[.agg #[],.bool true]) w:=fun _=>by kernel_rfl
 have hA:(w.alloc (.cells #[] 74)).heap[gq]? = some (.cells C 38 (0,0)):=blk_alloc hq _;have Hth1:Hid ((w.alloc (.cells #[] 74)).there gq 0 zeroCells.size):=there_blk hA (by rw [zeroCells_size];omega);obtain ⟨W2,hW2⟩ : ∃ W2,W2 = (w.alloc (.cells #[] 74)).setCells gq 0 zeroCells.toList:=⟨_,rfl⟩;obtain ⟨hb2,hf2⟩:=req_store hA hC zeroCells_size;rw [← hW2] at hb2 hf2;have hk2:W2.heap[gk]? = some (.cells #[b] 4 (0,0)):=hf2.blk (blk_alloc hk _) (fun e=>hne e.symm);obtain ⟨d0,e0⟩:=cellsN (i:=0) hk2 (show 0 < 1 by omega);have Hfin:Hid (CatchP gq gk w (W2.setCell ⟨gk,0,none⟩ (.bool false))):=⟨(blk_far hb2 (by show gq ≠ gk;exact hne) _),blk_setCell hk2 0 _,(((Fr.refl (fun k=>k = gq ∨ k = gk) w).alloc _).trans hf2 (fun k hk=>.inl (.inl hk))).setCell (p:=⟨gk,0,none⟩) (.inl (.inr rfl)) _⟩;have HW2:=hIh hW2;clear htm hA hW2 hb2 hf2 hk2 hq hC hk Hth;go_wp2_with ((refine wpList_store_mid (op:=⟨none,.store 38 (.tmp 0) (.tmp 16),_,_,_,_⟩) rfl 38 (.tmp 0) (.tmp 16) rfl gq 0 zeroCells rfl rfl Hth1.out infoReq zero_one ?_);rw [← HW2.out])
 exact ⟨rfl,_,rfl,.tuple #[],by simp [results,Tryz.results28],rfl,rfl,Hfin.out⟩
theorem catch_idle (gq gk:Nat) (w:World) :
  CallsD Tryz.prog 28 #[.pointer (some ⟨gq,0,none⟩),.pointer (some ⟨gk,0,none⟩)] .returning w fun e u' w'=>e = .returned (.tuple #[]) ∧ u' = .returning ∧ w' = w:=by
 refine callsD_of_wpS Tryz.func28 rfl fun c₀ cs hu=>?_
 apply wpS_seq
 apply wpS_region
 simp [wpOpsS,go_sem,recoverD,hu,Tryz.ntmps28,Exit.thenS];refine wpS_of_wp ?_;have htm : #[Value.pointer (some ⟨gq,0,none⟩),.pointer (some ⟨gk,0,none⟩)] ++ ((Array.replicate 15 undef).setIfInBounds 3 .nilIface).setIfInBounds 0 .nilIface = #[.pointer (some ⟨gq,0,none⟩),.pointer (some ⟨gk,0,none⟩),.nilIface,undef,undef,.nilIface,undef,undef,undef,undef,undef,undef,undef,undef,undef,undef,undef]:=rfl;rw [htm];clear htm;go_wp2;refine ⟨rfl,.returning,?_,.tuple #[],by simp [results,Tryz.results28],rfl,rfl,rfl⟩;rw [← hu]
def RqP (line:Str) (w:World) (e:Ending) (w' : World):Prop := ∃ cs b,e = .returned (.tuple #[.agg cs,.bool b]) ∧ ((b = true ∧ ∃ rq,requestD (selParse termB) line = some rq ∧ ReqV w.heap.size w' cs rq) ∨ (b = false ∧ requestD (selParse termB) line = none ∧ cs = zeroCells)) ∧ Below w.heap.size w w'
theorem request_eq {line t:Str} {r:List Str} (h:words line = t :: r):requestD (selParse termB) line = formD (selB line) t r:=by
 unfold requestD;rw [h];unfold selB;rw [h]
theorem request_nil {line:Str} (h:words line = []):requestD (selParse termB) line = none:=by
 unfold requestD;rw [h]
theorem words_mem {s t:Str} (h:t ∈ words s):t.length ≤ s.length:=by
 have key:∀ n (s:Str),s.length ≤ n → ∀ t ∈ words s,t.length ≤ s.length:=by
  intro n
  induction n with
  | zero=>
   intro s hs t ht;have:s = []:=List.eq_nil_of_length_eq_zero (by omega);subst this;simp [words,cutW] at ht
  | succ n ih=>
   intro s hs t ht;rw [words_eq] at ht
   cases hd:dropB s with
   | nil=>rw [hd] at ht;cases ht
   | cons c r=>
    rw [hd] at ht;have h1' : (c :: r).length ≤ s.length:=(by rw [← hd];exact dropWhile_len blank s);have hnb:=takeWhile_nb_nil hd;have hsp:=congrArg List.length (List.takeWhile_append_dropWhile (p:=nb) (l:=c :: r));rw [List.length_append] at hsp;rcases List.mem_cons.1 ht with rfl | ht
    ·omega
    ·have h2:((c :: r).dropWhile nb).length ≤ r.length:=by
      have e:nb c = true:=(by simp [nb,hnb.2]);simp only [List.dropWhile_cons,e,if_true];exact dropWhile_len nb r
     simp only [List.length_cons] at h1';have:=ih _ (by omega) t ht;omega
 exact key s.length s (Nat.le_refl _) t h
theorem reqU:Tryz.prog.underlying 38 = some (.struct (match Tryz.prog.underlying 38 with | some (.struct f)=>f | _ => #[])):=by kernel_rfl
theorem results13 (tmps:Array Value) (w:World) (gq gk:Nat) (cs:Array Value) (b:Bool) (h2:tmps.getD 2 undef = .pointer (some ⟨gq,0,none⟩)) (h3:tmps.getD 3 undef = .pointer (some ⟨gk,0,none⟩)) (hq:w.heap[gq]? = some (.cells cs 38 (0,0))) (hs:cs.size = 29) (hk:w.heap[gk]? = some (.cells #[.bool b] 4 (0,0))) :
  (results Tryz.f13 tmps).run Tryz.prog w = .ok (.tuple #[.agg cs,.bool b]) w:=by
 have h2' : tmps[2]?.getD undef = .pointer (some ⟨gq,0,none⟩):=by simpa using h2
 have h3' : tmps[3]?.getD undef = .pointer (some ⟨gk,0,none⟩):=by simpa using h3
 have hc:=(cellsN (i:=0) hk (show 0 < 1 by omega)).1;have hl:=run_loadVar_row (P:=Tryz.prog) w gq 38 38 cs (0,0) _ hq reqU rfl (by rw [hs];exact infoReq)
 have hb:(loadVar 4 ⟨gk,0,none⟩).run Tryz.prog w = .ok (.bool b) w:=by simp [go_sem,hc]
 simp [results,Tryz.results13,h2',h3',asAddr,hl,hb,Result.andThen]
theorem door_fault {line:Str} {w W:World} {gq:Nat} {tmps:Array Value} {C:Array Value} {b:Value} (hn:requestD (selParse termB) line = none) (hgq:gq = w.heap.size) (hq:W.heap[gq]? = some (.cells C 38 (0,0))) (hC:C.size = 29) (hk:W.heap[gq + 1]? = some (.cells #[b] 4 (0,0))) (hb:Below w.heap.size w W)
  (h2:tmps.getD 2 undef = .pointer (some ⟨gq,0,none⟩)) (h3:tmps.getD 3 undef = .pointer (some ⟨gq + 1,0,none⟩)) :
  bodyPostD Tryz.prog Tryz.f13 (RqP line w) (Exit.panic [{ v:=.iface 74 (.agg #[]),recovered:=false }]) { tmps:=tmps,defers := [{ target:=Target.fn (Fn.func 28) #[.pointer (some ⟨gq,0,none⟩),.pointer (some ⟨gq + 1,0,none⟩)],args := #[] }] } W:=by
 refine leaves_cons (f:=28) (args := #[.pointer (some ⟨gq,0,none⟩),.pointer (some ⟨gq + 1,0,none⟩)]) (by simp) (by simp [go_sem]) ?_;refine (catch_panicking gq (gq + 1) W C b hq hC hk []).mono ?_;rintro e u' w'' ⟨rfl,rfl,h5,h6,h7⟩;show Leaves _ _ _ _ [] .returning w'';refine ⟨_,results13 tmps w'' gq (gq + 1) zeroCells false h2 h3 h5 zeroCells_size h6,zeroCells,false,rfl,.inr ⟨rfl,hn,rfl⟩,hb.trans (h7.to_below (fun k hk=>by rcases hk with rfl | rfl <;> omega) hb.size)⟩
theorem door_ret {line:Str} {w W:World} {gq:Nat} {tmps:Array Value} {cs:Array Value} {rq:ReqD} (hn:requestD (selParse termB) line = some rq) (hq:W.heap[gq]? = some (.cells cs 38 (0,0))) (hv:ReqV w.heap.size W cs rq) (hk:W.heap[gq + 1]? = some (.cells #[.bool true] 4 (0,0))) (hb:Below w.heap.size w W)
  (h2:tmps.getD 2 undef = .pointer (some ⟨gq,0,none⟩)) (h3:tmps.getD 3 undef = .pointer (some ⟨gq + 1,0,none⟩)) :
  bodyPostD Tryz.prog Tryz.f13 (RqP line w) Exit.ret { tmps:=tmps,defers := [{ target:=Target.fn (Fn.func 28) #[.pointer (some ⟨gq,0,none⟩),.pointer (some ⟨gq + 1,0,none⟩)],args := #[] }] } W:=by
 refine leaves_cons (f:=28) (args := #[.pointer (some ⟨gq,0,none⟩),.pointer (some ⟨gq + 1,0,none⟩)]) (by simp) (by simp [go_sem]) ?_;refine (catch_idle gq (gq + 1) W).mono ?_;rintro e u' w'' ⟨rfl,rfl,rfl⟩;show Leaves _ _ _ _ [] .returning w'';exact ⟨_,results13 tmps w'' gq (gq + 1) cs true h2 h3 hq hv.size hk,cs,true,rfl,.inl ⟨rfl,rq,hn,hv⟩,hb⟩
theorem request_calls (w:World) (G:Glob w) (line:Str) (hl:line.length ≤ 1048576):Calls Tryz.prog 13 #[.string (sb line)] w (RqP line w):=by
 have hmf:∀ (fn:Fn) (first cap:Array Value) (w:World),(Instr.makeFunc fn first cap).run Tryz.prog w = .ok (.func fn first cap) w:=fun _ _ _ _=>rfl;obtain ⟨gq,hgq⟩ : ∃ gq,gq = w.heap.size:=⟨_,rfl⟩;obtain ⟨W2,hW2⟩ : ∃ W2,W2 = (w.alloc (.cells zeroCells 38)).alloc (.cells #[.bool false] 4):=⟨_,rfl⟩
 have hb2:W2.heap[gq]? = some (.cells zeroCells 38 (0,0)) ∧ W2.heap[gq + 1]? = some (.cells #[.bool false] 4 (0,0)) ∧ Below w.heap.size w W2 ∧ W2.heap.size = gq + 2:=by
  rw [hW2,hgq];exact ⟨blk_alloc (blk_new _ _) _,blk_new2 _ _ _,(bel_alloc _ _).trans ((bel_alloc _ _).mono (by rw [alloc_size];omega)),by rw [alloc_size,alloc_size]⟩
 have Hb2:=hIh hb2
 have Htk:Hid (∀ W,W = W2 → Calls Tryz.prog 26 #[.string (sb line)] W fun e w' => ∃ A n c,e = .returned (.slice A n c) ∧ n = (words line).length ∧ RdT w' (.slice A n c) (words line) ∧ (∀ k,(Value.slice A n c).ownBlock = some k → W2.heap.size ≤ k) ∧ Below W2.heap.size W2 w'):=fun W hW=>by
  rw [hW];refine (tokens_calls W2 line hl).mono ?_;rintro e w' ⟨v,rfl,h1,h2,h3⟩;obtain ⟨A,c,rfl⟩:=h1.slice;exact ⟨A,_,c,rfl,rfl,h1,h2,h3⟩
 have HG:=hIh G;have Hl:=hIh hl;generalize hS:sb line = S at Htk;have HS:=hIh hS;have HW2:=hIh hW2;have Hgq:=hIh hgq;have hgs:w.heap.size = gq:=hgq.symm;clear G hl hb2 hS hW2 hgq;go_enter_defers Tryz.func13,Tryz.ntmps13;go_wp2_with fail;refine (Htk.out _ ?hw).mono ?_
 case hw=>rw [HW2.out];rfl
 rintro e w3 ⟨A,n,c,rfl,hn,hrd,hown,hw3⟩;obtain ⟨g,hg⟩ : ∃ g,g = w3.heap.size:=⟨_,rfl⟩;obtain ⟨W4,hW4⟩ : ∃ W4,W4 = w3.alloc (.cells #[.slice A n c,.string S] 78):=⟨_,rfl⟩;have hs3:=hw3.size
 have hB4:Below w3.heap.size w3 W4:=by rw [hW4];exact bel_alloc _ _
 have H4:Hid (W4.heap[g]? = some (.cells #[.slice A n c,.string (sb line)] 78 (0,0)) ∧ W4.heap[gq]? = some (.cells zeroCells 38 (0,0)) ∧ W4.heap[gq + 1]? = some (.cells #[.bool false] 4 (0,0)) ∧ Below w.heap.size w W4 ∧ gq + 2 ≤ g):=by
  refine ⟨by rw [hW4,hg,HS.out];exact blk_new _ _,?_,?_,?_,by rw [hg];have:=Hb2.out.2.2.2;omega⟩
  ·exact blk_below (blk_below Hb2.out.1 hw3) hB4
  ·exact blk_below (blk_below Hb2.out.2.1 hw3) hB4
  ·exact Hb2.out.2.2.1.trans ((hw3.trans (hB4.mono hs3)).mono Hb2.out.2.2.1.size)
 have HR4:Hid (RS g gq (fun k=>k = gq) line W4 W4 (words line) zeroCells):=by
  have hrd4:RdT W4 (.slice A n c) (words line):=RdS.below hrd hB4;refine ⟨⟨_,H4.out.1,hrd4,fun hl k hk=>⟨?_,?_⟩⟩,H4.out.2.1,zeroCells_size,FQ.refl H4.out.2.1 zeroCells_size (by have:=H4.out.2.2.2.2;omega)⟩
  ·have:=RdS.lt strC_len (by decide) hrd hl k hk;omega
  ·have:=hown k hk;have:=Hb2.out.2.2.2;show ¬ k = gq;omega
 have Hsd:Hid (Sd g gq (fun k=>k = gq)):=⟨by have:=H4.out.2.2.2.2;omega,rfl,by have:=H4.out.2.2.2.2;show ¬ g = gq;omega⟩;have Hn:=hIh hn;have HW4:=hIh hW4;have hg2:w3.heap.size = g:=hg.symm;obtain ⟨cc0, -, -, -⟩:=cells2 H4.out.1;have hnl:n = (words line).length:=hn;clear hn hrd hown hw3 hg hW4 hB4 hs3 Htk hnl
 cases hwd:words line with
 | nil=>
  have Hno:=hIh (request_nil hwd)
  obtain rfl:n = 0:=by rw [Hn.out,hwd];rfl
  clear hwd;go_wp2_with (go_at_call 29;with_reducible refine (needF_calls _ _).mono ?_;rintro e wz ⟨rfl,hwz⟩;obtain rfl:=hwz.symm);rw [← HW4.out];exact door_fault Hno.out Hgq.out H4.out.2.1 zeroCells_size H4.out.2.2.1 H4.out.2.2.2.1 rfl rfl
 | cons tw r=>
  have Hreq:=hIh (request_eq hwd);rw [hwd] at HR4
  have hn1:0 < n:=by rw [Hn.out,hwd];simp
  have hn0:(0:Int) < (n:Int):=by omega
  have hn0b:decide ((0:Int) < (n:Int)) = true:=decide_eq_true hn0
  have Hfo:Hid (∀ W,W = W4 → Calls Tryz.prog 30 #[] W fun e w' => ∃ b,e = .returned (.map (some b)) ∧ FMap W4 w' b formF):=fun W hW=>by rw [hW];exact forms_calls W4
  have Hwd:=hIh hwd;clear hwd;go_wp2_with (go_at_call 29;with_reducible refine (needT_calls _ _).mono ?_;rintro e wz ⟨rfl,hwz⟩;obtain rfl:=hwz.symm);rw [← HW4.out];refine (Hfo.out _ rfl).mono ?_;rintro e w5 ⟨b,rfl,hM⟩;have H5:=hIh (HR4.out.below hM.bel);have Hw:=hIh (H5.out.wordL Hsd.out);have HM:=hIh hM;clear hM Hfo cc0 hn1 hn0 hn0b;go_wp2_with fail
  with_reducible refine Hw.out.mono ?_
  rintro e w6 ⟨rfl,hR6,hF6⟩;have HR6:=hIh hR6;have hmb:w6.heap[b]? = some (.map (fEnts formF) formF.length):=hF6.blk HM.out.blk (fun e=>by have:=HM.out.le;have:=blk_lt H4.out.1;omega);have hlk:=run_lookF hmb (sb tw);rw [show lookF (sb tw) formF = lookS tw formL from lookF_map tw formL] at hlk
  have Hk:Hid (∀ W,FQ g gq W4 W → W.heap[gq + 1]? = some (.cells #[.bool false] 4 (0,0)) ∧ Below w.heap.size w W):=fun W hq=>by
   have h1:=H4.out.2.2.2.2;have h2:=Hgq.out;exact ⟨hq.toFr.blk H4.out.2.2.1 (fun e=>by omega),H4.out.2.2.2.1.trans (hq.toFr.to_below (B:=w.heap.size) (fun k hk=>by rcases hk with rfl | rfl <;> omega) H4.out.2.2.2.1.size)⟩
  have HGf:Hid (∀ W,FQ g gq W4 W → Glob W):=fun W hq=>by
   have h1:=H4.out.2.2.2.2;have h2:=Hgq.out;have h3:=HG.out.size;exact (HG.out.below H4.out.2.2.2.1).keep hq.toFr (fun k hk=>by rcases hk with rfl | rfl <;> omega)
  have Hg4:Hid (4 ≤ g):=by have h1:=H4.out.2.2.2.2;have h2:=Hgq.out;have h3:=HG.out.size;show _ ≤ _;omega
  clear hmb hF6 hR6 Hw HM;rcases form_look line tw r with ⟨nf,hl,hC⟩ | ⟨hl,hno⟩
  case inr=>
   rw [hl] at hlk;have Hno:Hid (requestD (selParse termB) line = none):=(by show _ = _;rw [Hreq.out,hno]);clear hl hno;go_wp2_with (go_at_call 29;with_reducible refine (needF_calls _ _).mono ?_;rintro e wz ⟨rfl,hwz⟩;obtain rfl:=hwz.symm);exact door_fault Hno.out Hgq.out HR6.out.rq HR6.out.sz (Hk.out _ HR6.out.fr).1 (Hk.out _ HR6.out.fr).2 rfl rfl
  case inl=>
   rw [hl] at hlk;have HA:FoA g gq (fun k=>k = gq) line W4 w6 r:=⟨HGf.out,HR6.out,Hsd.out,Hg4.out,fun t ht=>Nat.le_trans (words_mem (by rw [Hwd.out];exact List.mem_cons_of_mem _ ht)) Hl.out,by have h1:=words_len line;have h2:=Hl.out;rw [Hwd.out] at h1;simp only [List.length_cons] at h1;omega,Hl.out,by rw [Hwd.out];simp⟩;have HC:=hIh (hC g gq (fun k=>k = gq) W4 w6 HA);have hcf:=form_enter hl;clear hl hC HA;go_wp2_with (go_at_call 29;with_reducible refine (needT_calls _ _).mono ?_;rintro e wz ⟨rfl,hwz⟩;obtain rfl:=hwz.symm);(with_reducible refine HC.out.mono ?_);rintro e w7 (⟨rest,cs,rfl,hR7,hy,hno⟩ | ⟨ho,rfl,hF7⟩)
   case inr=>
    have Hno:Hid (requestD (selParse termB) line = none):=(by show _ = _;rw [Hreq.out,ho]);have HF7:=hIh hF7;obtain ⟨C7,hC7,hs7⟩:=hF7.blk;have HC7:=hIh hC7;clear ho hF7 hC7;go_wp2;exact door_fault Hno.out Hgq.out HC7.out hs7 (Hk.out _ HF7.out).1 (Hk.out _ HF7.out).2 rfl rfl
   case inl=>
    have HR7:=hIh hR7
    cases rest with
    | cons t2 r2=>
     have Hno:Hid (requestD (selParse termB) line = none):=(by show _ = _;rw [Hreq.out,hno (by simp)]);obtain ⟨b2,off,c2,hb, -, -, -, -⟩:=hR7.rd.cons;obtain ⟨d0, -, -, -⟩:=cells2 hb;obtain ⟨m2,hm2⟩ : ∃ m2,m2 = r2.length:=⟨_,rfl⟩;have hlen:(t2 :: r2).length = m2 + 1:=(by simp [hm2]);rw [hlen] at d0;have hz:(((m2:Int) + 1) == 0) = false:=(by simp;omega);clear hR7 hy hno hb hm2 hlen hlk;go_wp2_with (go_at_call 29;with_reducible refine (needF_calls _ _).mono ?_;rintro e wz ⟨rfl,hwz⟩;obtain rfl:=hwz.symm);exact door_fault Hno.out Hgq.out HR7.out.rq HR7.out.sz (Hk.out _ HR7.out.fr).1 (Hk.out _ HR7.out.fr).2 rfl rfl
    | nil=>
     obtain ⟨rq,ho,hv⟩:=hy rfl;have Hys:Hid (requestD (selParse termB) line = some rq):=(by show _ = _;rw [Hreq.out,ho]);have Hv:=hIh hv;obtain ⟨A2,c2,hb⟩:=hR7.rd.nil;obtain ⟨d0, -, -, -⟩:=cells2 hb;have hrq7:w7.heap[gq]? = some (.cells cs 38 (0,0)):=hR7.rq;obtain ⟨hs8,hf8⟩:=req_store hrq7 hv.size hv.size;have Hth:Hid (w7.there gq 0 cs.size):=there_blk hrq7 (Nat.le_refl _)
     have Hsz:Hid ((Tryz.prog.info? 38).map (·.size) = some cs.size):=(by show _ = _;rw [hv.size];exact infoReq)
     have Hone:=hIh hv.one;have hk7:=(Hk.out _ hR7.fr).1;obtain ⟨W8,hW8⟩ : ∃ W8,W8 = w7.setCells gq 0 cs.toList:=⟨_,rfl⟩;rw [← hW8] at hs8 hf8;have hk8:W8.heap[gq + 1]? = some (.cells #[.bool false] 4 (0,0)):=hf8.blk hk7 (by omega);obtain ⟨k0,kf⟩:=cellsN (i:=0) hk8 (show 0 < 1 by omega)
     have hbw:Below w.heap.size w (W8.setCell ⟨gq + 1,0,none⟩ (.bool true)):=by
      have h1:=(Hk.out _ hR7.fr).2;have h2:=Hgq.out;exact (h1.trans (hf8.to_below (fun k hk=>by omega) h1.size)).setCell (by show _ ≤ gq + 1;omega) _
     have Hfin:Hid ((W8.setCell ⟨gq + 1,0,none⟩ (.bool true)).heap[gq]? = some (.cells cs 38 (0,0)) ∧ ReqV w.heap.size (W8.setCell ⟨gq + 1,0,none⟩ (.bool true)) cs rq ∧ (W8.setCell ⟨gq + 1,0,none⟩ (.bool true)).heap[gq + 1]? = some (.cells #[.bool true] 4 (0,0)) ∧ Below w.heap.size w (W8.setCell ⟨gq + 1,0,none⟩ (.bool true))):=
      ⟨blk_far hs8 (by show gq ≠ gq + 1;omega) _,((hv.fr ((hf8.mono (T:=fun k=>k = gq ∨ k = gq + 1) (fun k hk=>.inl hk)).setCell (p:=⟨gq + 1,0,none⟩) (.inl (.inr rfl)) (.bool true)) (fun k hk e=>by have:=H4.out.2.2.2.2;have:=blk_lt H4.out.1;rcases e with e | e <;> omega)).mono (H4.out.2.2.2.1.size)),blk_setCell hk8 0 _,hbw⟩
     have HW8:=hIh hW8;have Hb7:=hIh hrq7;clear hR7 hy hno hb hrq7 hs8 hf8 hk7 hk8 hbw hW8 ho hv hlk;go_wp2_with (first | (go_at_call 29;with_reducible refine (needT_calls _ _).mono ?_;rintro e wz ⟨rfl,hwz⟩;obtain rfl:=hwz.symm) | (refine wpList_load_row (o:=⟨some 42,.load 38 (.tmp 2),_,_,_,_⟩) rfl 38 (.tmp 2) rfl gq rfl 38 cs (0,0) _ Hb7.out reqU rfl Hsz.out ?_) | ((refine wpList_store_mid (op:=⟨none,.store 38 (.tmp 2) (.tmp 42),_,_,_,_⟩) rfl 38 (.tmp 2) (.tmp 42) rfl gq 0 cs rfl rfl Hth.out Hsz.out Hone.out ?_);rw [← HW8.out]));exact door_ret Hys.out Hfin.out.1 Hfin.out.2.1 Hfin.out.2.2.1 Hfin.out.2.2.2 rfl rfl
def AkP (rd:Str → Option (List Tm)) (t:Str) (w:World) (e:Ending) (w' : World):Prop := ∃ cs b,e = .returned (.tuple #[.agg cs,.bool b]) ∧ ((b = true ∧ ∃ rq,askD rd t = some rq ∧ ReqV w.heap.size w' cs rq) ∨ (b = false ∧ askD rd t = none ∧ cs = zeroCells)) ∧ Below w.heap.size w w'
theorem cut_take (s:Str):(cutR [35] s).1 = s.takeWhile (· != 35):=by
 have key:∀ s:Str,match cutAt [35] s with
   | some x=>x.1 = s.takeWhile (· != 35)
   | none=>s = s.takeWhile (· != 35):=by
  intro s
  induction s with
  | nil=>simp [cutAt]
  | cons a r ih=>
   unfold cutAt
   by_cases h:a = 35
   ·subst h;simp [List.isPrefixOf]
   ·have h1:([35] : Str).isPrefixOf (a :: r) = false:=by simp [List.isPrefixOf];exact fun e=>h e.symm
    rw [h1];have h2:(a != 35) = true:=(by simpa using h);simp only [List.takeWhile_cons,h2,if_true]
    cases hc:cutAt [35] r with
    | none=>rw [hc] at ih;simp only at ih ⊢;simp;exact ih
    | some x=>rw [hc] at ih;simp only at ih ⊢;simp;exact ih
 have h:=key s;unfold cutR
 cases hc:cutAt [35] s with
 | none=>rw [hc] at h;exact h
 | some x=>rw [hc] at h;exact h
theorem takeWhile_len (p:UInt8 → Bool) (s:Str):(s.takeWhile p).length ≤ s.length:=by
 have:=congrArg List.length (List.takeWhile_append_dropWhile (p:=p) (l:=s));rw [List.length_append] at this;omega
theorem ReqV.dry {B:Nat} {w:World} {cs:Array Value} {r:ReqD} (h:ReqV B w cs r) (d:Bool):ReqV B w (cs.setIfInBounds 28 (.bool d)) { r with dry:=d }:=by
 obtain ⟨lv,pv,hv,rv,tv,pl,tl,rfl,h⟩:=h;exact ⟨lv,pv,hv,rv,tv,pl,tl,rfl,h⟩
theorem cutPre_eq {n t:Str}:cutPre (n ++ [61]) t = if n.length < t.length ∧ t.take n.length = n ∧ t[n.length]? = some 61 then some (t.drop (n.length + 1)) else none:=by
 unfold cutPre
 have key:(n ++ [61]).isPrefixOf t = true ↔ (n.length < t.length ∧ t.take n.length = n ∧ t[n.length]? = some 61):=by
  rw [List.isPrefixOf_iff_prefix]
  constructor
  ·rintro ⟨r,rfl⟩
   simp
  ·rintro ⟨h1,h2,h3⟩
   refine ⟨t.drop (n.length + 1),?_⟩
   have h4:t.drop n.length = 61 :: t.drop (n.length + 1):=by
    rw [List.drop_eq_getElem_cons h1];rw [List.getElem?_eq_getElem h1] at h3;rw [Option.some.inj h3]
   conv=>rhs;rw [← List.take_append_drop n.length t,h2,h4]
   simp
 by_cases h:(n ++ [61]).isPrefixOf t = true
 ·rw [if_pos h,if_pos (key.1 h)];simp
 ·rw [if_neg h,if_neg (fun e=>h (key.2 e))]
def VlP (o:Option Str) (w:World) (e:Ending) (w' : World):Prop := ∃ x:ByteArray,e = .returned (.tuple #[.string x,.bool o.isSome]) ∧ (∀ v,o = some v → x = sb v) ∧ w' = w
theorem optval_calls (w:World) (t n:Str) (ht:t.length ≤ 1048576):Calls Tryz.prog 69 #[.string (sb t),.string (sb n)] w (VlP (cutPre (n ++ [61]) t) w):=by
 have hst:(sb t).size = t.length:=sb_size t;have hsn:(sb n).size = n.length:=sb_size n;have hEq:=cutPre_eq (n:=n) (t:=t)
 have htb:(t.length:Int) ≤ 1048576:=by omega
 by_cases h1:n.length < t.length
 case neg=>
  have Hp:Hid (VlP (cutPre (n ++ [61]) t) w (.returned (.tuple #[.string (ByteArray.mk #[]),.bool false])) w):=by
   show VlP _ _ _ _;rw [hEq,if_neg (fun h=>h1 h.1)];exact ⟨_,rfl,(fun v hv=>by cases hv),rfl⟩
  have hb:decide ((n.length:Int) < t.length) = false:=decide_eq_false (by omega)
  have hb2:¬ (n.length:Int) < t.length:=by omega
  generalize sb t = T at hst;generalize sb n = N at hsn;generalize cutPre (n ++ [61]) t = o at Hp;clear hEq h1;go_enter Tryz.func69,Tryz.ntmps69;go_wp2;go_ret2;exact Hp.out
 have hb:decide ((n.length:Int) < t.length) = true:=decide_eq_true (by omega)
 have hb2:(n.length:Int) < t.length:=by omega
 have hsl:=fun W=>run_slT W t n.length (by omega)
 by_cases h2:t.take n.length = n
 case neg=>
  have Hp:Hid (VlP (cutPre (n ++ [61]) t) w (.returned (.tuple #[.string (ByteArray.mk #[]),.bool false])) w):=by
   show VlP _ _ _ _;rw [hEq,if_neg (fun h=>h2 h.2.1)];exact ⟨_,rfl,(fun v hv=>by cases hv),rfl⟩
  have hbe:((sb (t.take n.length)).toList == (sb n).toList) = false:=beqF' (fun e=>h2 (sb_inj.1 e));generalize sb t = T at hst hsl;generalize sb n = N at hsn hbe;generalize sb (t.take n.length) = P at hsl hbe;generalize cutPre (n ++ [61]) t = o at Hp;clear hEq h1 h2;go_enter Tryz.func69,Tryz.ntmps69;go_wp2;go_ret2;exact Hp.out
 have hbe:((sb (t.take n.length)).toList == (sb n).toList) = true:=by rw [h2];exact beqT' _
 have hix:=fun W=>run_ix W t n.length t[n.length] (List.getElem?_eq_getElem h1)
 by_cases h3:t[n.length] = 61
 case neg=>
  have Hp:Hid (VlP (cutPre (n ++ [61]) t) w (.returned (.tuple #[.string (ByteArray.mk #[]),.bool false])) w):=by
   show VlP _ _ _ _;rw [hEq,if_neg (fun h=>h3 (by have:=h.2.2;rw [List.getElem?_eq_getElem h1] at this;exact Option.some.inj this))];exact ⟨_,rfl,(fun v hv=>by cases hv),rfl⟩
  have h3b:(((t[n.length].toNat:Nat):Int) == 61) = false:=by
   rw [beq_eq_false_iff_ne];intro e;exact h3 (UInt8.toNat_inj.1 (by have:((t[n.length].toNat:Nat):Int) = 61:=e;show _ = 61;omega))
  generalize t[n.length].toNat = cn at hix h3b;generalize sb t = T at hst hsl hix;generalize sb n = N at hsn hbe;generalize sb (t.take n.length) = P at hsl hbe;generalize cutPre (n ++ [61]) t = o at Hp;clear hEq h1 h2 h3;go_enter Tryz.func69,Tryz.ntmps69;go_wp2;go_ret2;exact Hp.out
 have Hp:Hid (VlP (cutPre (n ++ [61]) t) w (.returned (.tuple #[.string (sb (t.drop (n.length + 1))),.bool true])) w):=by
  show VlP _ _ _ _;rw [hEq,if_pos ⟨h1,h2,by rw [List.getElem?_eq_getElem h1,h3]⟩];exact ⟨_,rfl,(fun v hv=>by cases hv;rfl),rfl⟩
 have h3b:(((t[n.length].toNat:Nat):Int) == 61) = true:=by rw [h3];rfl
 have hsf:=fun W=>run_slF W t (n.length + 1) (by omega)
 have e1:(((n.length + 1:Nat)):Int) = (n.length:Int) + 1:=by omega
 rw [e1] at hsf;generalize t[n.length].toNat = cn at hix h3b;generalize sb t = T at hst hsl hix hsf;generalize sb n = N at hsn hbe;generalize sb (t.take n.length) = P at hsl hbe;generalize sb (t.drop (n.length + 1)) = R at hsf Hp;generalize cutPre (n ++ [61]) t = o at Hp
 have hmax:(n.length:Int) + 1 ≤ t.length:=by omega
 clear hEq h1 h2 h3 e1;go_enter Tryz.func69,Tryz.ntmps69;go_wp2
 all_goals (first | (go_ret2;exact Hp.out) | trace_state)
theorem cutAt_at {t:Str} {i:Nat} (h:i < t.length) (hc:t[i] = 61) (hno:∀ j (h:j < t.length),j < i → t[j] ≠ 61):cutAt [61] t = some (t.take i,t.drop (i + 1)):=by
 induction t generalizing i with
 | nil=>simp at h
 | cons a r ih=>
  unfold cutAt
  cases i with
  | zero=>
   have:a = 61:=hc;subst this;simp [List.isPrefixOf]
  | succ i=>
   have ha:a ≠ 61:=hno 0 (by simp) (by omega);have h1:([61] : Str).isPrefixOf (a :: r) = false:=(by simp [List.isPrefixOf];exact fun e=>ha e.symm);rw [h1];have:=ih (i:=i) (by simpa using h) (by simpa using hc) (fun j hj hji=>by have:=hno (j + 1) (by simpa using hj) (by omega);simpa using this);simp [this]
theorem cutAt_no {t:Str} (hno:∀ j (h:j < t.length),t[j] ≠ 61):cutAt [61] t = none:=by
 induction t with
 | nil=>simp [cutAt]
 | cons a r ih=>
  unfold cutAt;have ha:a ≠ 61:=hno 0 (by simp)
  have h1:([61] : Str).isPrefixOf (a :: r) = false:=by simp [List.isPrefixOf];exact fun e=>ha e.symm
  rw [h1];have:=ih (fun j hj=>by have:=hno (j + 1) (by simpa using hj);simpa using this);simp [this]
def HvP (o:Option (Str × Str)) (w:World) (e:Ending) (w' : World):Prop := ∃ (x y:ByteArray),e = .returned (.tuple #[.string x,.string y,.bool o.isSome]) ∧ (∀ v,o = some v → x = sb v.1 ∧ y = sb v.2) ∧ Below w.heap.size w w'
def HvLoop (t:Str) (v5:Value) (wr w:World):Prop := ∃ i:Nat,v5 = .int .i64 i ∧ i ≤ t.length ∧ (∀ j (h:j < t.length),j < i → t[j] ≠ 61) ∧ Below w.heap.size w wr
theorem halves_calls (w:World) (t:Str) (ht:t.length ≤ 1048576):Calls Tryz.prog 67 #[.string (sb t)] w (HvP (cutAt [61] t) w):=by
 have hst:(sb t).size = t.length:=sb_size t;have Hix:=hIh (fun W (i:Nat) (h:i < t.length)=>run_ix W t i t[i] (List.getElem?_eq_getElem h));have Hsl:=hIh (fun W (i:Nat) (h:i ≤ t.length)=>run_slT W t i h);have Hsf:=hIh (fun W (i:Nat) (h:i ≤ t.length)=>run_slF W t i h)
 have htb:(t.length:Int) ≤ 1048576:=by omega
 obtain ⟨N,hN⟩ : ∃ N,N = t.length:=⟨_,rfl⟩;rw [← hN] at hst htb;have HN:=hIh hN;generalize sb t = T at hst Hix Hsl Hsf;have Hst:Hid (HvLoop t (.int .i64 0) w w):=⟨0,rfl,by omega,fun j h1 h2=>by omega,Below.refl _ _⟩;clear ht hN;go_enter Tryz.func67,Tryz.ntmps67;go_wp2
 go_loopw [5] (fun v5 wr=>HvLoop t v5 wr w) (fun v5 _=>N - (intOf v5).toNat)
 case atStart=>exact Hst.out
 case round=>
  clear Hst;obtain ⟨i,rfl,hi,hno,hbw⟩:=hrel;have HB:=hIh hbw;clear hbw;rw [← HN.out] at hi;have Hno:=hIh hno;clear hno
  by_cases hlt:i < N
  ·have hlt' : i < t.length:=by rw [← HN.out];exact hlt
   have hb:decide ((i:Int) < N) = true:=decide_eq_true (by omega);have hb2:(i:Int) < N:=(by omega);have hix:=fun W=>Hix.out W i hlt'
   by_cases hc:t[i] = 61
   ·have Hc:Hid (cutAt [61] t = some (t.take i,t.drop (i + 1))):=cutAt_at hlt' hc Hno.out
    have hcb:(((t[i].toNat:Nat):Int) == 61) = true:=(by rw [hc];rfl);have hsl:=fun W=>Hsl.out W i (by omega);have hsf:=fun W=>Hsf.out W (i + 1) (by omega);have e1:(((i + 1:Nat)):Int) = (i:Int) + 1:=(by omega);rw [e1] at hsf
    have Hp:Hid (∀ W,Below w.heap.size w W → HvP (cutAt [61] t) w (.returned (.tuple #[.string (sb (t.take i)),.string (sb (t.drop (i + 1))),.bool true])) W):=fun W hB=>by
     show HvP _ _ _ _;rw [Hc.out];exact ⟨_,_,rfl,(fun v hv=>by cases hv;exact ⟨rfl,rfl⟩),hB⟩
    generalize t[i].toNat = cn at hix hcb;generalize sb (t.take i) = X at hsl Hp;generalize sb (t.drop (i + 1)) = Y at hsf Hp;have hb3:(i:Int) + 1 ≤ N:=(by omega);have hw1:IntKind.i64.wrap ((i:Int) + 1) = (i:Int) + 1:=IntWalk.i64_in _ (by omega);clear hc Hc hlt hlt' hi e1 Hix Hsl Hsf;go_wp2;go_quiet (fail);go_wp2;go_ret3;exact Hp.out _ (drewB HB.out _)
   ·have hcb:(((t[i].toNat:Nat):Int) == 61) = false:=by
     rw [beq_eq_false_iff_ne];intro e;exact hc (UInt8.toNat_inj.1 (by have:((t[i].toNat:Nat):Int) = 61:=e;show _ = 61;omega))
    have Hk:Hid (HvLoop t (.int .i64 ((i:Int) + 1)) wr w):=⟨i + 1,by simp,by omega,fun j h1 h2=>by
     by_cases e:j = i
     ·subst e;exact hc
     ·exact Hno.out j h1 (by omega),HB.out⟩
    generalize t[i].toNat = cn at hix hcb;clear hc hlt' Hix Hsl Hsf;go_wp2;go_roundw
    case rel=>exact Hk.out
    case measure=>simp [intOf];omega
  ·have Hc:Hid (cutAt [61] t = none):=cutAt_no fun j h=>Hno.out j h (by have:=HN.out;omega)
   have Hp:Hid (HvP (cutAt [61] t) w (.returned (.tuple #[.string (ByteArray.mk #[]),.string (ByteArray.mk #[]),.bool false])) wr):=by
    show HvP _ _ _ _;rw [Hc.out];exact ⟨_,_,rfl,(fun v hv=>by cases hv),HB.out⟩
   have hb:decide ((i:Int) < N) = false:=decide_eq_false (by omega);have hb2:¬ (i:Int) < N:=(by omega);clear Hc hlt hi Hix Hsl Hsf;go_wp2;go_ret3;exact Hp.out
theorem dig_over {s:Str} {m i:Nat} (h:4611686018427387904 < numv (s.take i)):digitsS s m = none:=by
 have h1:=numv_mono s i;unfold digitsS;rw [if_neg];rintro ⟨-, -, -,h2⟩;omega
def RdgLoop (s:Str) (v6 v7:Value):Prop := ∃ (i:Nat),v7 = .int .i64 i ∧ i ≤ s.length ∧ v6 = .int .i64 ((numv (s.take i):Nat):Int) ∧ numv (s.take i) ≤ 4611686018427387904 ∧ ∀ (j:Nat) (b:UInt8),j < i → s[j]? = some b → isDg b = true
theorem rdigits_calls (w:World) (s:Str) (m:Nat) (hm:m ≤ 19):Calls Tryz.prog 73 #[.string (sb s),.int .i64 (m:Int)] w (NuPost w (dgI s m)):=by
 have hsz:(sb s).size = s.length:=sb_size s
 by_cases h0:s.length < 1 ∨ m < s.length
 ·have Hres:Hid (digitsS s m = none):=by
   show _ = _;unfold digitsS;rw [if_neg];rintro ⟨h1,h2, -⟩;have:=List.length_pos_iff.2 h1;omega
  have hcs:((s.length:Int) < 1) ∨ (¬ (s.length:Int) < 1 ∧ (m:Int) < s.length):=by omega
  generalize sb s = S at hsz;clear h0;rcases hcs with g | ⟨g,g2⟩
  ·have gb:decide ((s.length:Int) < 1) = true:=decide_eq_true g
   go_enter Tryz.func73,Tryz.ntmps73;go_wp2;go_ret2;exact NuPost.mk _ _ rfl (.inr ⟨dgI_none Hres.out,rfl⟩) (Below.refl _ _)
  ·have gb:decide ((s.length:Int) < 1) = false:=decide_eq_false g
   have gb2:decide ((m:Int) < s.length) = true:=decide_eq_true g2;go_enter Tryz.func73,Tryz.ntmps73;go_wp2;go_ret2;exact NuPost.mk _ _ rfl (.inr ⟨dgI_none Hres.out,rfl⟩) (Below.refl _ _)
 have g1:¬ (s.length:Int) < 1:=by omega
 have g1b:decide ((s.length:Int) < 1) = false:=decide_eq_false g1
 have g2:¬ (m:Int) < s.length:=by omega
 have g2b:decide ((m:Int) < s.length) = false:=decide_eq_false g2;have Hst:Hid (RdgLoop s (.int .i64 0) (.int .i64 0)):=⟨0,rfl,by omega,by simp [numv],by simp [numv],fun j b h=>by omega⟩;have Hix:=hIh (fun W (i:Nat) (h:i < s.length)=>run_ix W s i s[i] (List.getElem?_eq_getElem h))
 have Hfin:Hid ((∀ (j:Nat) (b:UInt8),s[j]? = some b → isDg b = true) → numv s ≤ 4611686018427387904 → digitsS s m = some (numv s)):=fun h hv=>by
  have ha:s.all isDg = true:=List.all_eq_true.2 fun c hc=>by
   obtain ⟨i,hi⟩:=List.mem_iff_getElem?.1 hc;exact h i c hi
  have hne:s ≠ []:=by intro e;rw [e] at h0;simp at h0
  unfold digitsS;rw [if_pos ⟨hne,by omega,ha,hv⟩]
 have hsb:(s.length:Int) ≤ 19:=by omega
 obtain ⟨N,hN⟩ : ∃ N,N = s.length:=⟨_,rfl⟩;rw [← hN] at hsz g1 g1b g2 g2b hsb;have HN:=hIh hN;generalize sb s = S at hsz Hix;clear h0 hN;go_enter Tryz.func73,Tryz.ntmps73;go_wp2
 go_loop [6,7] (fun v6 v7=>RdgLoop s v6 v7) (fun _ v7=>N - (intOf v7).toNat)
 case atStart=>exact Hst.out
 case round=>
  clear Hst g1 g1b g2 g2b;obtain ⟨i,rfl,hi,rfl,hle,hno⟩:=hrel;rw [← HN.out] at hi;have Hno:=hIh hno;clear hno
  by_cases hlt:i < N
  ·have hlt' : i < s.length:=by rw [← HN.out];exact hlt
   have hb:decide ((i:Int) < N) = true:=decide_eq_true (by omega);have hb2:(i:Int) < N:=(by omega);have hix:=fun W=>Hix.out W i hlt';have hgc:s[i]? = some s[i]:=List.getElem?_eq_getElem hlt'
   by_cases hd:isDg s[i] = true
   ·have hdd:=(dgN s[i]).1 hd
    have hnext:=numv_succ s i s[i] hgc;have Hov:Hid (4611686018427387904 < numv (s.take (i + 1)) → digitsS s m = none):=fun h=>dig_over h
    have Hk:Hid (numv (s.take (i + 1)) ≤ 4611686018427387904 → ∀ x y:Int,x = (numv (s.take (i + 1)):Nat) → y = (i:Int) + 1 → RdgLoop s (.int .i64 x) (.int .i64 y)):=fun h x y hx hy=>⟨i + 1,by rw [hy];simp,by omega,by rw [hx],h,fun j b hj hbj=>by
     by_cases e:j = i
     ·subst e;rw [hgc] at hbj;cases hbj;exact hd
     ·exact Hno.out j b (by omega) hbj⟩
    rw [hnext] at Hk Hov;generalize numv (s.take i) = n at hle Hk Hov;generalize s[i].toNat = cn at hix hdd Hk Hov;obtain ⟨k1,k2⟩:=hdd;have q1:¬ (cn:Int) < 48:=(by omega);have q1b:decide ((cn:Int) < 48) = false:=decide_eq_false q1;have q2:¬ (57:Int) < cn:=(by omega);have q2b:decide ((57:Int) < cn) = false:=decide_eq_false q2
    have hwr:IntKind.u8.wrap ((cn:Int) - 48) = (cn:Int) - 48:=by
     rw [IntKind.wrap_u8];omega
    have hcv:IntKind.i64.wrap ((cn:Int) - 48) = (cn:Int) - 48:=IntWalk.i64_in _ (by omega);have Hw:=hIh hcv;clear hgc hlt' hd hnext Hix Hno;have hdv:0 ≤ (4611686018427387904 - ((cn:Int) - 48)) / 10:=(by omega)
    by_cases hov:4611686018427387904 < n * 10 + (cn - 48)
    ·have Hres:=hIh (Hov.out hov)
     have q3:(4611686018427387904 - ((cn:Int) - 48)) / 10 < (n:Int):=(by omega);have q3b:decide ((4611686018427387904 - ((cn:Int) - 48)) / 10 < (n:Int)) = true:=decide_eq_true q3;clear hov Hk Hov;go_wp2;go_ret2;exact NuPost.mk _ _ rfl (.inr ⟨dgI_none Hres.out,rfl⟩) (Below.refl _ _)
    ·have q3:¬ (4611686018427387904 - ((cn:Int) - 48)) / 10 < (n:Int):=by omega
     have q3b:decide ((4611686018427387904 - ((cn:Int) - 48)) / 10 < (n:Int)) = false:=decide_eq_false q3;have Hk2:=hIh (Hk.out (by omega));have hn1:0 ≤ 10 * (n:Int):=(by omega);have hn2:10 * (n:Int) ≤ 4611686018427387904:=(by omega);have hn3:10 * (n:Int) + ((cn:Int) - 48) ≤ 4611686018427387904:=(by omega);clear hov Hk Hov;go_wp2;go_round
     case rel=>exact Hk2.out _ _ (by omega) (by omega)
     case measure=>simp [intOf];omega
   ·have hdd:¬ (48 ≤ s[i].toNat ∧ s[i].toNat ≤ 57):=fun h=>hd ((dgN s[i]).2 h)
    have Hres:Hid (digitsS s m = none):=dig_none_letter hgc ((Bool.not_eq_true _).mp hd);generalize numv (s.take i) = n at hle;generalize s[i].toNat = cn at hix hdd;clear hgc hlt' hd Hix Hno
    by_cases q1:(cn:Int) < 48
    ·have q1b:decide ((cn:Int) < 48) = true:=decide_eq_true q1
     clear hdd;go_wp2;go_ret2;exact NuPost.mk _ _ rfl (.inr ⟨dgI_none Hres.out,rfl⟩) (Below.refl _ _)
    ·have q1b:decide ((cn:Int) < 48) = false:=decide_eq_false q1
     have q2:(57:Int) < cn:=(by omega);have q2b:decide ((57:Int) < cn) = true:=decide_eq_true q2;clear hdd;go_wp2;go_ret2;exact NuPost.mk _ _ rfl (.inr ⟨dgI_none Hres.out,rfl⟩) (Below.refl _ _)
  ·have Hf:Hid (digitsS s m = some (numv s)):=Hfin.out (fun j b hbj=>Hno.out j b (by have:=(List.getElem?_eq_some_iff.1 hbj).1;have:=HN.out;omega) hbj) (by rw [List.take_of_length_le (by have:=HN.out;omega)] at hle;exact hle)
   have hta:s.take i = s:=List.take_of_length_le (by have:=HN.out;omega);rw [hta];have hb:decide ((i:Int) < N) = false:=decide_eq_false (by omega);have hb2:¬ (i:Int) < N:=(by omega);generalize hn:numv s = n at Hf;clear hle hta hlt Hix Hno hn;go_wp2;go_ret2;exact NuPost.mk _ _ rfl (.inl ⟨_,dgI_some Hf.out,rfl,rfl⟩) (Below.refl _ _)
end Go.Proofs.YtpfkkagkbneilaaGreatDoor
