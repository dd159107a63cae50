/- Texts L2, L3, L4, L5 of the proof of BursarChecks, joined. -/
import Derived.Test.YtpfkkagkbneilaaGreatDoorV16
import Derived.Test.YtpfkkagkbneilaaGreatDoorV4
namespace Go.Proofs.YtpfkkagkbneilaaGreatDoor
open Go.RowKit
set_option linter.unusedVariables false
set_option linter.unusedSimpArgs false
set_option maxRecDepth 100000
set_option maxHeartbeats 25600000
theorem rnum_calls (w:World) (s:Str) (hs:s.length ≤ 1048576):Calls Tryz.prog 40 #[.string (sb s)] w (NuPost w (numS s)):=by
 have hsz:(sb s).size = s.length:=sb_size s;have C2:Hid (∀ W,Calls Tryz.prog 73 #[.string (sb s),.int .i64 10] W (NuPost W (dgI s 10))):=fun W=>rdigits_calls W s 10 (by omega)
 cases s with
 | nil=>
  rw [numS_pos (s := []) (by rfl)]
  have hz:¬ (0:Int) < 0:=by omega
  generalize sb [] = S at hsz C2;generalize dgI [] 10 = o at C2;have hsz0:S.size = 0:=hsz;clear hsz;go_enter Tryz.func40,Tryz.ntmps40;go_wp2_with fail
  with_reducible refine (C2.out _).mono ?_
  rintro e w2 ⟨v,ok,rfl,hr,hw2⟩;go_wp2;go_ret2;exact NuPost.mk _ _ rfl hr hw2
 | cons c r=>
  have hix:∀ W,(Instr.index 9 (.string (sb (c :: r))) (.int .i64 0)).run Tryz.prog W = .ok (.int .u8 (c.toNat:Int)) W:=fun W=>run_ix W (c :: r) 0 c rfl
  have h0:(0:Int) < ((c :: r).length:Int):=by simp only [List.length_cons];omega
  have h0b:decide ((0:Int) < ((c :: r).length:Int)) = true:=decide_eq_true h0
  by_cases hc:c = 45
  ·subst hc
   have C3:Hid (∀ W,Calls Tryz.prog 73 #[.string (sb r),.int .i64 10] W (NuPost W (dgI r 10))):=fun W=>rdigits_calls W r 10 (by omega);have hsl:∀ W,(Instr.slice 9 (.string (sb (45 :: r))) (some (.int .i64 1)) none none).run Tryz.prog W = .ok (.string (sb r)) W:=fun W=>run_slF W (45 :: r) 1 (by simp);have hcb:(((45:UInt8).toNat:Int) == 45) = true:=rfl;have Hle:Hid (∀ v,dgI r 10 = some v → 0 ≤ v ∧ v ≤ 4611686018427387904):=fun v h=>dgI_le h;rw [numS_neg (s:=45 :: r) (r:=r) (by simp [cutPre,List.isPrefixOf])];have hl1:(1:Int) ≤ ((45 :: r:Str).length:Int):=(by simp only [List.length_cons];omega);generalize hL:(45 :: r:Str).length = L at hsz h0 h0b hl1;generalize sb (45 :: r) = S at hsz C2 hix hsl;generalize sb r = R at hsl C3;generalize dgI r 10 = o at C3 Hle;generalize ((45:UInt8).toNat) = cn at hix hcb;clear C2 hs hL;go_enter Tryz.func40,Tryz.ntmps40;go_wp2_with fail;(with_reducible refine (C3.out _).mono ?_)
   rintro e w2 ⟨v,ok,rfl,hr,hw2⟩;rcases hr with ⟨n,rfl,rfl,rfl⟩ | ⟨rfl,rfl⟩
   ·obtain ⟨l1,l2⟩:=Hle.out _ rfl
    have Hf:Hid (∀ x:Int,x = -v → NuRes (Option.map (fun n => -n) (some v)) x true):=fun x hx=>.inl ⟨-v,rfl,hx,rfl⟩;go_wp2;go_ret2;exact NuPost.mk _ _ rfl (Hf.out _ rfl) hw2
   ·go_wp2
    go_ret2;exact NuPost.mk _ _ rfl (.inr ⟨rfl,rfl⟩) hw2
  ·have hcb:(((c.toNat:Nat):Int) == 45) = false:=by
    rw [beq_eq_false_iff_ne];intro e;exact hc (UInt8.toNat_inj.1 (by have:((c.toNat:Nat):Int) = 45:=e;show _ = 45;omega))
   rw [numS_pos (s:=c :: r) (by simp [cutPre,List.isPrefixOf];exact fun e=>hc e.symm)];generalize (c :: r).length = L at hsz h0 h0b;generalize sb (c :: r) = S at hsz C2 hix;generalize dgI (c :: r) 10 = o at C2;generalize c.toNat = cn at hix hcb;clear hs hc;go_enter Tryz.func40,Tryz.ntmps40;go_wp2_with fail;(with_reducible refine (C2.out _).mono ?_);rintro e w2 ⟨v,ok,rfl,hr,hw2⟩;go_wp2;go_ret2;exact NuPost.mk _ _ rfl hr hw2
def AtP (l:List Str) (o:Option (Int × List Str)) (w:World) (e:Ending) (w' : World):Prop := ∃ (v:Int) (j:Nat) (ok:Bool),e = .returned (.tuple #[.int .i64 v,.int .i64 (j:Int),.bool ok]) ∧ j ≤ l.length ∧ ((ok = true ∧ o = some (v,l.drop j)) ∨ (ok = false ∧ o = none)) ∧ Below w.heap.size w w'
theorem AtP.mk {l:List Str} {o:Option (Int × List Str)} {w w' : World} {e:Ending} (v:Int) (j:Nat) (ok:Bool) (h1:e = .returned (.tuple #[.int .i64 v,.int .i64 (j:Int),.bool ok])) (h2:j ≤ l.length) (h3:(ok = true ∧ o = some (v,l.drop j)) ∨ (ok = false ∧ o = none)) (h4:Below w.heap.size w w'):AtP l o w e w':=⟨v,j,ok,h1,h2,h3,h4⟩
def optV (name:Str) (other:Int) (f:Str → Option Int) (l:List Str):Option (Int × List Str):=match optS name l with
 | (some u,r)=>(f u).map fun n=>(n,r)
 | (none,r)=>some (other,r)
theorem smallS_V (name:Str) (other:Int) (l:List Str):smallS name other l = optV name other numS l:=rfl
theorem mustS_V (l:List Str):(mustS l).map (fun x=>((x.1:Int),x.2)) = optV [109,117,115,116] 0 (fun u=>dgI u 19) l:=by
 unfold mustS optV
 cases optS [109,117,115,116] l with
 | mk a r=>cases a with
  | none=>rfl
  | some u=>
   show ((digitsS u 19).map fun n=>(n,r)).map _ = (dgI u 19).map _;unfold dgI
   cases digitsS u 19 <;> rfl
theorem setS_V (name:Str) (l:List Str):setS name l = optV name (-1) (fun u=>(qparse u).map fun (n:Nat)=>(n:Int)) l:=by
 unfold setS optV
 cases optS name l with
 | mk a r=>cases a with
  | none=>rfl
  | some u=>
   show (qparse u).map _ = ((qparse u).map _).map _
   cases qparse u <;> rfl
section
variable {n:Str} {other:Int} {f:Str → Option Int} {l:List Str} {i:Nat}
theorem optV_end (h:l.length ≤ i):optV n other f (l.drop i) = some (other,l.drop i):=by rw [List.drop_eq_nil_of_le h];rfl
theorem optV_no (h:i < l.length) (hc:cutPre (n ++ [61]) l[i] = none):optV n other f (l.drop i) = some (other,l.drop i):=by
 rw [List.drop_eq_getElem_cons h];simp only [optV,optS,hc]
theorem optV_yes (h:i < l.length) {u:Str} (hc:cutPre (n ++ [61]) l[i] = some u):optV n other f (l.drop i) = (f u).map fun x=>(x,l.drop (i + 1)):=by
 rw [List.drop_eq_getElem_cons h];simp only [optV,optS,hc]
end
theorem rmust_calls (w:World) (v:Value) (l:List Str) (h:RdT w v l) (hsm:∀ t ∈ l,t.length ≤ 1048576) (hln:l.length ≤ 1048577) (i:Nat) (hi:i ≤ l.length):Calls Tryz.prog 66 #[v,.int .i64 (i:Int)] w (AtP l (optV [109,117,115,116] 0 (fun u=>dgI u 19) (l.drop i)) w):=by
 obtain ⟨A,c,rfl⟩:=h.slice;obtain ⟨N,hN⟩ : ∃ N,N = l.length:=⟨_,rfl⟩;obtain ⟨O,hO⟩ : ∃ O,O = optV [109,117,115,116] 0 (fun u=>dgI u 19) (l.drop i):=⟨_,rfl⟩;rw [← hO]
 by_cases hlt:i < l.length
 case neg=>
  have Hp:Hid (AtP l O w (.returned (.tuple #[.int .i64 0,.int .i64 (i:Int),.bool true])) w):=AtP.mk 0 i true rfl hi (.inl ⟨rfl,by rw [hO];exact optV_end (Nat.le_of_not_lt hlt)⟩) (Below.refl _ _);have hb:decide ((i:Int) < N) = false:=decide_eq_false (by omega)
  have hb2:¬ (i:Int) < N:=by omega
  rw [← hN];clear h hlt hN hsm hO;go_enter Tryz.func66,Tryz.ntmps66;go_wp2;go_ret3;exact Hp.out
 obtain ⟨b,off,c2,hv,hc,hb0,hcell⟩:=RdT.some h (by intro e;rw [e] at hlt;simp at hlt)
 cases hv
 have h0:=hcell i hlt;have htl:=hsm l[i] (List.getElem_mem hlt);have Hval:Hid (Calls Tryz.prog 69 #[.string (sb l[i]),.string (ByteArray.mk #[109,117,115,116])] w (VlP (cutPre ([109,117,115,116] ++ [61]) l[i]) w)):=optval_calls w l[i] [109,117,115,116] htl;have hb:decide ((i:Int) < N) = true:=decide_eq_true (by omega)
 have hb2:(i:Int) < N:=by omega
 have hcapi:(N:Int) ≤ c:=by omega
 have hNb:(N:Int) ≤ 1048577:=by omega
 rw [← hN]
 cases hcp:cutPre ([109,117,115,116] ++ [61]) l[i] with
 | none=>
  rw [hcp] at Hval;have Hp:Hid (AtP l O w (.returned (.tuple #[.int .i64 0,.int .i64 (i:Int),.bool true])) w):=AtP.mk 0 i true rfl hi (.inl ⟨rfl,by rw [hO];exact optV_no hlt hcp⟩) (Below.refl _ _);generalize sb l[i] = T at h0 Hval;clear h hlt hN hsm hcell hcp htl hO;go_enter Tryz.func66,Tryz.ntmps66;go_wp2_with fail
  with_reducible refine Hval.out.mono ?_
  rintro e w2 ⟨x,rfl, -,hw2⟩;obtain rfl:=hw2.symm;go_wp2;go_ret3;exact Hp.out
 | some u=>
  rw [hcp] at Hval;have hul:u.length ≤ 1048576:=Nat.le_trans (cutPre_len hcp) htl
  have hOy:O = ((fun u=>dgI u 19) u).map fun x=>(x,l.drop (i + 1)):=by rw [hO];exact optV_yes hlt hcp
  have Hc:Hid (∀ W,Calls Tryz.prog 73 #[.string (sb u),.int .i64 19] W (NuPost W ((fun u=>dgI u 19) u))):=fun W=>rdigits_calls W u 19 (by omega)
  have Hp:Hid (∀ (x:Int) (ok:Bool) W,((ok = true ∧ (fun u=>dgI u 19) u = some x) ∨ (ok = false ∧ (fun u=>dgI u 19) u = none)) → Below w.heap.size w W → AtP l O w (.returned (.tuple #[.int .i64 x,.int .i64 ((i:Int) + 1),.bool ok])) W):=fun x ok W hr hB=>AtP.mk x (i + 1) ok (by simp) hlt (by
   rw [hOy];rcases hr with ⟨h1,h2⟩ | ⟨h1,h2⟩
   ·exact .inl ⟨h1,by rw [h2];rfl⟩
   ·exact .inr ⟨h1,by rw [h2];rfl⟩) hB
  generalize sb l[i] = T at h0 Hval;generalize (fun u=>dgI u 19) u = R at Hp Hc;clear h hlt hN hsm hcell hcp htl hO hul hOy;go_enter Tryz.func66,Tryz.ntmps66;go_wp2_with fail
  with_reducible refine Hval.out.mono ?_
  rintro e w2 ⟨x,rfl,hx,hw2⟩;obtain rfl:=hx u rfl;obtain rfl:=hw2.symm;clear hx;go_wp2_with fail
  with_reducible refine (Hc.out _).mono ?_
  rintro e w3 ⟨x,ok,rfl,hr,hw3⟩;have Hq:=hIh (Hp.out x ok w3 (by rcases hr with ⟨n,h1,h2,h3⟩ | ⟨h1,h3⟩;exact .inl ⟨h3,by rw [h1,h2]⟩;exact .inr ⟨h3,h1⟩) hw3);clear hr hw3;go_wp2;go_ret3;exact Hq.out
theorem rsmall_calls (w:World) (v:Value) (l:List Str) (h:RdT w v l) (hsm:∀ t ∈ l,t.length ≤ 1048576) (hln:l.length ≤ 1048577) (i:Nat) (hi:i ≤ l.length) (name:Str) (other:Int):Calls Tryz.prog 65 #[v,.int .i64 (i:Int),.string (sb name),.int .i64 other] w (AtP l (optV name other (numS) (l.drop i)) w):=by
 obtain ⟨A,c,rfl⟩:=h.slice;obtain ⟨N,hN⟩ : ∃ N,N = l.length:=⟨_,rfl⟩;obtain ⟨O,hO⟩ : ∃ O,O = optV name other (numS) (l.drop i):=⟨_,rfl⟩;rw [← hO]
 by_cases hlt:i < l.length
 case neg=>
  have Hp:Hid (AtP l O w (.returned (.tuple #[.int .i64 other,.int .i64 (i:Int),.bool true])) w):=AtP.mk other i true rfl hi (.inl ⟨rfl,by rw [hO];exact optV_end (Nat.le_of_not_lt hlt)⟩) (Below.refl _ _);have hb:decide ((i:Int) < N) = false:=decide_eq_false (by omega)
  have hb2:¬ (i:Int) < N:=by omega
  rw [← hN];clear h hlt hN hsm hO;go_enter Tryz.func65,Tryz.ntmps65;go_wp2;go_ret3;exact Hp.out
 obtain ⟨b,off,c2,hv,hc,hb0,hcell⟩:=RdT.some h (by intro e;rw [e] at hlt;simp at hlt)
 cases hv
 have h0:=hcell i hlt;have htl:=hsm l[i] (List.getElem_mem hlt);have Hval:Hid (Calls Tryz.prog 69 #[.string (sb l[i]),.string (sb name)] w (VlP (cutPre (name ++ [61]) l[i]) w)):=optval_calls w l[i] name htl;have hb:decide ((i:Int) < N) = true:=decide_eq_true (by omega)
 have hb2:(i:Int) < N:=by omega
 have hcapi:(N:Int) ≤ c:=by omega
 have hNb:(N:Int) ≤ 1048577:=by omega
 rw [← hN]
 cases hcp:cutPre (name ++ [61]) l[i] with
 | none=>
  rw [hcp] at Hval;have Hp:Hid (AtP l O w (.returned (.tuple #[.int .i64 other,.int .i64 (i:Int),.bool true])) w):=AtP.mk other i true rfl hi (.inl ⟨rfl,by rw [hO];exact optV_no hlt hcp⟩) (Below.refl _ _);generalize sb l[i] = T at h0 Hval;clear h hlt hN hsm hcell hcp htl hO;go_enter Tryz.func65,Tryz.ntmps65;go_wp2_with fail
  with_reducible refine Hval.out.mono ?_
  rintro e w2 ⟨x,rfl, -,hw2⟩;obtain rfl:=hw2.symm;go_wp2;go_ret3;exact Hp.out
 | some u=>
  rw [hcp] at Hval;have hul:u.length ≤ 1048576:=Nat.le_trans (cutPre_len hcp) htl
  have hOy:O = ((numS) u).map fun x=>(x,l.drop (i + 1)):=by rw [hO];exact optV_yes hlt hcp
  have Hc:Hid (∀ W,Calls Tryz.prog 40 #[.string (sb u)] W (NuPost W (numS u))):=fun W=>rnum_calls W u hul
  have Hp:Hid (∀ (x:Int) (ok:Bool) W,((ok = true ∧ (numS) u = some x) ∨ (ok = false ∧ (numS) u = none)) → Below w.heap.size w W → AtP l O w (.returned (.tuple #[.int .i64 x,.int .i64 ((i:Int) + 1),.bool ok])) W):=fun x ok W hr hB=>AtP.mk x (i + 1) ok (by simp) hlt (by
   rw [hOy];rcases hr with ⟨h1,h2⟩ | ⟨h1,h2⟩
   ·exact .inl ⟨h1,by rw [h2];rfl⟩
   ·exact .inr ⟨h1,by rw [h2];rfl⟩) hB
  generalize sb l[i] = T at h0 Hval;generalize (numS) u = R at Hp Hc;clear h hlt hN hsm hcell hcp htl hO hul hOy;go_enter Tryz.func65,Tryz.ntmps65;go_wp2_with fail
  with_reducible refine Hval.out.mono ?_
  rintro e w2 ⟨x,rfl,hx,hw2⟩;obtain rfl:=hx u rfl;obtain rfl:=hw2.symm;clear hx;go_wp2_with fail
  with_reducible refine (Hc.out _).mono ?_
  rintro e w3 ⟨x,ok,rfl,hr,hw3⟩;have Hq:=hIh (Hp.out x ok w3 (by rcases hr with ⟨n,h1,h2,h3⟩ | ⟨h1,h3⟩;exact .inl ⟨h3,by rw [h1,h2]⟩;exact .inr ⟨h3,h1⟩) hw3);clear hr hw3;go_wp2;go_ret3;exact Hq.out
theorem rset_calls (w:World) (v:Value) (l:List Str) (h:RdT w v l) (hsm:∀ t ∈ l,t.length ≤ 1048576) (hln:l.length ≤ 1048577) (i:Nat) (hi:i ≤ l.length) (name:Str):Calls Tryz.prog 111 #[v,.int .i64 (i:Int),.string (sb name)] w (AtP l (optV name (-1) (fun u=>(qparse u).map fun (n:Nat)=>(n:Int)) (l.drop i)) w):=by
 obtain ⟨A,c,rfl⟩:=h.slice;obtain ⟨N,hN⟩ : ∃ N,N = l.length:=⟨_,rfl⟩;obtain ⟨O,hO⟩ : ∃ O,O = optV name (-1) (fun u=>(qparse u).map fun (n:Nat)=>(n:Int)) (l.drop i):=⟨_,rfl⟩;rw [← hO]
 by_cases hlt:i < l.length
 case neg=>
  have Hp:Hid (AtP l O w (.returned (.tuple #[.int .i64 (-1),.int .i64 (i:Int),.bool true])) w):=AtP.mk (-1) i true rfl hi (.inl ⟨rfl,by rw [hO];exact optV_end (Nat.le_of_not_lt hlt)⟩) (Below.refl _ _);have hb:decide ((i:Int) < N) = false:=decide_eq_false (by omega)
  have hb2:¬ (i:Int) < N:=by omega
  rw [← hN];clear h hlt hN hsm hO;go_enter Tryz.func111,Tryz.ntmps111;go_wp2;go_ret3;exact Hp.out
 obtain ⟨b,off,c2,hv,hc,hb0,hcell⟩:=RdT.some h (by intro e;rw [e] at hlt;simp at hlt)
 cases hv
 have h0:=hcell i hlt;have htl:=hsm l[i] (List.getElem_mem hlt);have Hval:Hid (Calls Tryz.prog 69 #[.string (sb l[i]),.string (sb name)] w (VlP (cutPre (name ++ [61]) l[i]) w)):=optval_calls w l[i] name htl;have hb:decide ((i:Int) < N) = true:=decide_eq_true (by omega)
 have hb2:(i:Int) < N:=by omega
 have hcapi:(N:Int) ≤ c:=by omega
 have hNb:(N:Int) ≤ 1048577:=by omega
 rw [← hN]
 cases hcp:cutPre (name ++ [61]) l[i] with
 | none=>
  rw [hcp] at Hval;have Hp:Hid (AtP l O w (.returned (.tuple #[.int .i64 (-1),.int .i64 (i:Int),.bool true])) w):=AtP.mk (-1) i true rfl hi (.inl ⟨rfl,by rw [hO];exact optV_no hlt hcp⟩) (Below.refl _ _);generalize sb l[i] = T at h0 Hval;clear h hlt hN hsm hcell hcp htl hO;go_enter Tryz.func111,Tryz.ntmps111;go_wp2_with fail
  with_reducible refine Hval.out.mono ?_
  rintro e w2 ⟨x,rfl, -,hw2⟩;obtain rfl:=hw2.symm;go_wp2;go_ret3;exact Hp.out
 | some u=>
  rw [hcp] at Hval;have hul:u.length ≤ 1048576:=Nat.le_trans (cutPre_len hcp) htl
  have hOy:O = ((fun u=>(qparse u).map fun (n:Nat)=>(n:Int)) u).map fun x=>(x,l.drop (i + 1)):=by rw [hO];exact optV_yes hlt hcp
  have Hc:Hid (∀ W,Calls Tryz.prog 106 #[.string (sb u)] W fun e w' => ∃ v ec:Int,e = .returned (.tuple #[.int .i64 v,.int .i64 ec]) ∧ QRes (qparse u) v ec ∧ Below W.heap.size W w'):=fun W=>rparse_calls W u hul
  have Hp:Hid (∀ (x:Int) (ok:Bool) W,((ok = true ∧ (fun u=>(qparse u).map fun (n:Nat)=>(n:Int)) u = some x) ∨ (ok = false ∧ (fun u=>(qparse u).map fun (n:Nat)=>(n:Int)) u = none)) → Below w.heap.size w W → AtP l O w (.returned (.tuple #[.int .i64 x,.int .i64 ((i:Int) + 1),.bool ok])) W):=fun x ok W hr hB=>AtP.mk x (i + 1) ok (by simp) hlt (by
   rw [hOy];rcases hr with ⟨h1,h2⟩ | ⟨h1,h2⟩
   ·exact .inl ⟨h1,by rw [h2];rfl⟩
   ·exact .inr ⟨h1,by rw [h2];rfl⟩) hB
  generalize sb l[i] = T at h0 Hval;change Hid (∀ (x:Int) (ok:Bool) W,((ok = true ∧ (qparse u).map (fun (n:Nat)=>(n:Int)) = some x) ∨ (ok = false ∧ (qparse u).map (fun (n:Nat)=>(n:Int)) = none)) → Below w.heap.size w W → AtP l O w (.returned (.tuple #[.int .i64 x,.int .i64 ((i:Int) + 1),.bool ok])) W) at Hp;generalize qparse u = R at Hp Hc;clear h hlt hN hsm hcell hcp htl hO hul hOy;go_enter Tryz.func111,Tryz.ntmps111;go_wp2_with fail
  with_reducible refine Hval.out.mono ?_
  rintro e w2 ⟨x,rfl,hx,hw2⟩;obtain rfl:=hx u rfl;obtain rfl:=hw2.symm;clear hx;go_wp2_with fail
  with_reducible refine (Hc.out _).mono ?_
  rintro e w3 ⟨x,ec,rfl,hr,hw3⟩;rcases hr with ⟨n,rfl,rfl,rfl⟩ | ⟨rfl,hec⟩
  ·have Hq:=hIh (Hp.out (n:Int) true w3 (.inl ⟨rfl,rfl⟩) hw3)
   clear hw3 Hp;go_wp2;go_ret3;exact Hq.out
  ·have Hq:=hIh (Hp.out x false w3 (.inr ⟨rfl,rfl⟩) hw3)
   have hb0:(ec == 0) = false:=(by simpa using hec);clear hw3 Hp hec;go_wp2;go_ret3;exact Hq.out
def RamP (l:List Str) (o:Option (List Amt × List Str)) (w:World) (e:Ending) (w' : World):Prop := ∃ (A:Option Addr) (n c j:Nat) (ok:Bool),e = .returned (.tuple #[.slice A n c,.int .i64 (j:Int),.bool ok]) ∧ j ≤ l.length ∧ ((ok = true ∧ ∃ x,o = some x ∧ x.2 = l.drop j ∧ n = x.1.length ∧ RdS amtC 2 w' (.slice A n c) x.1 ∧ ∀ k,(Value.slice A n c).ownBlock = some k → w.heap.size ≤ k) ∨ (ok = false ∧ o = none)) ∧ Below w.heap.size w w'
structure RamW (w:World) (l:List Str) (o:Option (List Amt × List Str)) (v:Value) (j:Nat) (done:List Amt) (wr:World):Prop where
 le:j ≤ l.length
 eq:o = (amountsS (l.drop j)).map fun x=>(done ++ x.1,x.2)
 row:GrW 93 2 amtC w.heap.size wr v done
 num:done.length ≤ j
 bel:Below w.heap.size w wr
def RamLoop (w:World) (l:List Str) (o:Option (List Amt × List Str)) (v1 v7:Value) (wr:World):Prop := ∃ (j:Nat) (done:List Amt),v1 = .int .i64 j ∧ RamW w l o v7 j done wr
theorem ramounts_calls (w:World) (v:Value) (l:List Str) (h:RdT w v l) (hsm:∀ t ∈ l,t.length ≤ 1048576) (hln:l.length ≤ 1048577) (i:Nat) (hi:i ≤ l.length):Calls Tryz.prog 68 #[v,.int .i64 (i:Int)] w (RamP l (amountsS (l.drop i)) w):=by
 obtain ⟨A,c,rfl⟩:=h.slice;obtain ⟨N,hN⟩ : ∃ N,N = l.length:=⟨_,rfl⟩;obtain ⟨O,hO⟩ : ∃ O,O = amountsS (l.drop i):=⟨_,rfl⟩;rw [← hO];have Hst:Hid (RamLoop w l O (.int .i64 (i:Int)) (.slice none 0 0) w):=⟨i, [],rfl,hi,by rw [hO];simp,GrW.nil _ _ _ _ _,by simp,Below.refl _ _⟩;have H:=hIh h;have Hsm:=hIh hsm;have HN:=hIh hN
 have hNb:(N:Int) ≤ 1048577:=by omega
 rw [← hN];clear h hsm hln hO hN hi;go_enter Tryz.func68,Tryz.ntmps68;go_wp2
 go_loopw [1,7] (fun v1 v7 wr=>RamLoop w l O v1 v7 wr) (fun v1 _ _=>N - (intOf v1).toNat)
 case atStart=>exact Hst.out
 case round=>
  clear Hst;obtain ⟨j,done,rfl,hW⟩:=hrel;have HW:=hIh hW;obtain ⟨A0,cp,hv⟩:=own_slice hW.row.own;obtain ⟨m,hm⟩ : ∃ m,m = done.length:=⟨_,rfl⟩;obtain ⟨T,hT⟩ : ∃ T,T = done.flatMap amtC:=⟨_,rfl⟩;subst hv;rw [← hm] at hW;have HW2:=hIh hW;have Hm:=hIh hm;have HT:=hIh hT
  have hjN:j ≤ N:=by rw [HN.out];exact hW.le
  have Hmb:Hid (m ≤ 1048577):=by have:=hW.num;show _ ≤ _;omega
  rw [← hm];clear hW hm hT
  by_cases hlt:j < N
  case neg=>
   have hend:l.drop j = []:=List.drop_eq_nil_of_le (by have:=HN.out;omega)
   have Hp:Hid (RamP l O w (.returned (.tuple #[.slice A0 m cp,.int .i64 (j:Int),.bool true])) wr):=
    ⟨A0,m,cp,j,true,rfl,HW.out.le,.inl ⟨rfl,(done, []),by rw [HW.out.eq,hend];simp [amountsS],hend.symm,Hm.out,by have:=HW2.out.row.rd;exact this,HW2.out.row.new⟩,HW.out.bel⟩
   have hb:decide ((j:Int) < N) = false:=decide_eq_false (by omega);have hb2:¬ (j:Int) < N:=(by omega);clear hend hlt;go_wp2;go_ret3;exact Hp.out
  have hlt' : j < l.length:=by have:=HN.out;omega
  have hrd:=RdS.below H.out HW.out.bel;have hdr:=List.drop_eq_getElem_cons hlt';obtain ⟨b,off,c2,hv,hc,hb0,hcell⟩:=RdT.some hrd (by intro e;rw [e] at hlt';simp at hlt')
  cases hv
  have h0:=hcell j hlt';have htl:=Hsm.out l[j] (List.getElem_mem hlt');have Hhv:=hIh (halves_calls wr l[j] htl);have hb:decide ((j:Int) < N) = true:=decide_eq_true (by omega)
  have hb2:(j:Int) < N:=by omega
  have hcapi:(N:Int) ≤ c:=by have:=HN.out;omega
  cases hcut:cutAt [61] l[j] with
  | none=>
   rw [hcut] at Hhv
   have Hp:Hid (∀ W,Below wr.heap.size wr W → RamP l O w (.returned (.tuple #[.slice A0 m cp,.int .i64 (j:Int),.bool true])) W):=fun W hB=>
    ⟨A0,m,cp,j,true,rfl,HW.out.le,.inl ⟨rfl,(done,l.drop j),by rw [HW.out.eq,hdr,amountsS_stop hcut];simp,rfl,Hm.out,by have:=(HW2.out.row.below hB).rd;exact this,HW2.out.row.new⟩,HW.out.bel.trans (hB.mono HW.out.bel.size)⟩
   generalize sb l[j] = TS at h0 Hhv;clear hrd hdr hcell hcut htl hlt hlt';go_wp2_with fail;(with_reducible refine Hhv.out.mono ?_);rintro e w2 ⟨x,y,rfl, -,hw2⟩;have Hq:=hIh (Hp.out w2 hw2);clear hw2 Hp;go_wp2;go_ret3;exact Hq.out
  | some y=>
   obtain ⟨nm,u⟩:=y;rw [hcut] at Hhv;have hul:u.length ≤ 1048576:=(by have:=cutAt_len hcut;simp only at this;omega);have Hq:Hid (∀ W,Calls Tryz.prog 106 #[.string (sb u)] W fun e w' => ∃ v ec:Int,e = .returned (.tuple #[.int .i64 v,.int .i64 ec]) ∧ QRes (qparse u) v ec ∧ Below W.heap.size W w'):=fun W=>rparse_calls W u hul;have Hbad:Hid (qparse u = none → O = none):=fun hq=>(by rw [HW.out.eq,hdr,amountsS_bad hcut hq];rfl)
   have Hgo:Hid (∀ x,qparse u = some x → O = (amountsS (l.drop (j + 1))).map fun y=>((done ++ [⟨nm,x⟩]) ++ y.1,y.2)):=fun x hq=>by
    rw [HW.out.eq,hdr,amountsS_go hcut hq,Option.map_map]
    congr 1
    funext y
    simp
   have Hlt:=hIh hlt';generalize sb l[j] = TS at h0 Hhv;clear hrd hdr hcell hcut htl hlt hlt' hul;go_wp2_with fail;(with_reducible refine Hhv.out.mono ?_);rintro e w2 ⟨x,y,rfl,hxy,hw2⟩;obtain ⟨rfl,rfl⟩:=hxy _ rfl;have Hw2:=hIh hw2;clear hxy hw2;go_wp2_with fail;(with_reducible refine (Hq.out _).mono ?_);rintro e w3 ⟨qv,ec,rfl,hr,hw3⟩;have Hw3:Hid (Below wr.heap.size wr w3):=Hw2.out.trans (hw3.mono Hw2.out.size);clear hw3 Hq;rcases hr with ⟨q,hq,rfl,rfl⟩ | ⟨hq,hec⟩
   case inr=>
    have Hp:Hid (RamP l O w (.returned (.tuple #[.slice none 0 0,.int .i64 (j:Int),.bool false])) w3):=⟨none,0,0,j,false,rfl,HW.out.le,.inr ⟨rfl,Hbad.out hq⟩,HW.out.bel.trans (Hw3.out.mono HW.out.bel.size)⟩;have hb0:(ec == 0) = false:=(by simpa using hec);have hb1:(ec != 0) = true:=(by simpa using hec);clear hq hec;go_wp2;go_ret3;exact Hp.out
   case inl=>
    have Hgo2:=hIh (Hgo.out q hq);obtain ⟨XC,hXC⟩ : ∃ XC,XC = [(⟨nm,q⟩ : Amt)].flatMap amtC:=⟨_,rfl⟩;have HXC:=hIh hXC;have Hrow:Hid (GrW 93 2 amtC w.heap.size w3 (.slice A0 m cp) done):=HW2.out.row.below Hw3.out;have Hown:Hid (w3.ownsRow 0 93 2 (.slice A0 m cp) m T):=(by have:=Hrow.out.own;rw [← Hm.out,← HT.out] at this;exact this)
    have Hc1:Hid (Rd (w3.alloc (.cells #[.string (sb nm),.int .i64 (q:Int)] 93)) 2 (.slice (some ⟨w3.heap.size,0,none⟩) 1 1) 1 XC):=by
     show Rd _ _ _ _ _;rw [hXC];exact rd_amt w3 93 ⟨nm,q⟩
    have Hc4:Hid (∀ u ∈ XC,u.oneCell' = true):=(by rw [hXC];exact amt_one _);clear hq hXC Hgo;go_wp2_with (at_builtin;refine wpList_append2 _ rfl (.tmp 38) (.tmp 42) 28 rfl 93 (.agg #[.string ⟨#[]⟩,.int .i64 0]) 2 24 Tryz.underlying28 infoAmt rfl (by decide) _ m T rfl (Hown.out.alloc _) _ 1 XC rfl Hc1.out Hc4.out ?c2 ?c3 ?_)
    case c2=>have:=Hmb.out;unfold maxLen;omega
    case c3=>have:=Hmb.out;omega
    intro v' w7 ho7 hg7 hn7 _;obtain ⟨A',c',rfl⟩:=own_slice ho7
    have hrow7:GrW 93 2 amtC w.heap.size w7 (.slice A' (m + 1) c') (done ++ [⟨nm,q⟩]):=by
     refine Hrow.out.next (ob:=.cells #[] 0) (v':=.slice A' (m + 1) c') ?_ ?_ ?_
     ·have:=HW.out.bel.size;have:=Hw3.out.size;omega
     ·rw [← Hm.out,← HT.out,← HXC.out];exact ho7
     ·exact hn7
    have Hk:Hid (RamLoop w l O (.int .i64 ((j:Int) + 1)) (.slice A' (m + 1) c') w7):=by
     refine ⟨j + 1,_,by simp,Hlt.out,Hgo2.out,hrow7,by have:=HW.out.num;simp;omega,?_⟩;have h1:Below w.heap.size w w3:=HW.out.bel.trans (Hw3.out.mono HW.out.bel.size);exact ((Fr.of_below h1 (fun _=>False)).alloc _ |>.grown hg7 (fun k hk=>.inr (Hrow.out.new k hk))).to_below (fun k hk=>hk.elim) (Nat.le_refl _)
    clear hrow7 ho7 hg7 hn7;go_wp2;go_roundw
    case rel=>exact Hk.out
    case measure=>simp [intOf];omega
theorem takeWhile_at {p:UInt8 → Bool}:∀ {s:Str} {i:Nat} (h:i < s.length),p s[i] = false → (∀ j (h:j < s.length),j < i → p s[j] = true) → s.takeWhile p = s.take i
 | a :: r,0,h,hc,_=>by
  have:p a = false:=hc;simp [List.takeWhile_cons,this]
 | a :: r,i + 1,h,hc,hno=>by
  have ha:p a = true:=hno 0 (by simp) (by omega);have:=takeWhile_at (p:=p) (s:=r) (i:=i) (by simpa using h) (by simpa using hc) (fun j hj hji=>by have:=hno (j + 1) (by simpa using hj) (by omega);simpa using this);simp [List.takeWhile_cons,ha,this]
theorem takeWhile_all {p:UInt8 → Bool}:∀ {s:Str},(∀ j (h:j < s.length),p s[j] = true) → s.takeWhile p = s
 | [],_=>rfl
 | a :: r,h=>by
  have ha:p a = true:=h 0 (by simp);rw [List.takeWhile_cons,if_pos ha,takeWhile_all (fun j hj=>by have:=h (j + 1) (by simpa using hj);simpa using this)]
theorem byteF {c k:UInt8} (n:Nat) (hk:k.toNat = n) (h:c ≠ k):(((c.toNat:Nat):Int) == (n:Int)) = false:=by
 rw [beq_eq_false_iff_ne];intro e;exact h (UInt8.toNat_inj.1 (by have:((c.toNat:Nat):Int) = (n:Int):=e;omega))
theorem byteT {c k:UInt8} (n:Nat) (hk:k.toNat = n) (h:c = k):(((c.toNat:Nat):Int) == (n:Int)) = true:=by
 rw [beq_iff_eq,h,hk]
def BaLoop (s:Str) (v3:Value):Prop := ∃ i:Nat,v3 = .int .i64 i ∧ i ≤ s.length ∧ ∀ j (h:j < s.length),j < i → (s[j] != 35) = true
theorem bare_calls (w:World) (s:Str) (hs:s.length ≤ 1048576):Calls Tryz.prog 15 #[.string (sb s)] w fun e w'=>e = .returned (.string (sb (s.takeWhile (· != 35)))) ∧ w' = w:=by
 have hst:(sb s).size = s.length:=sb_size s;have Hix:=hIh (fun W (i:Nat) (h:i < s.length)=>run_ix W s i s[i] (List.getElem?_eq_getElem h));have Hsl:=hIh (fun W (i:Nat) (h:i ≤ s.length)=>run_slT W s i h)
 have htb:(s.length:Int) ≤ 1048576:=by omega
 obtain ⟨N,hN⟩ : ∃ N,N = s.length:=⟨_,rfl⟩
 obtain ⟨R,hR⟩ : ∃ R,R = s.takeWhile (· != 35):=⟨_,rfl⟩
 rw [← hR];rw [← hN] at hst htb;have HN:=hIh hN;have HR:=hIh hR
 have Hall:Hid ((∀ j (h:j < s.length),(s[j] != 35) = true) → sb s = sb R):=fun h=>by rw [hR,takeWhile_all h]
 generalize sb s = S at hst Hix Hsl Hall;have Hst:Hid (BaLoop s (.int .i64 0)):=⟨0,rfl,by omega,fun j h1 h2=>by omega⟩;clear hs hN hR;go_enter Tryz.func15,Tryz.ntmps15;go_wp2
 go_loop [3] (fun v3=>BaLoop s v3) (fun v3=>N - (intOf v3).toNat)
 case atStart=>exact Hst.out
 case round=>
  clear Hst;obtain ⟨i,rfl,hi,hno⟩:=hrel;rw [← HN.out] at hi;have Hno:=hIh hno;clear hno
  by_cases hlt:i < N
  ·have hlt' : i < s.length:=by rw [← HN.out];exact hlt
   have hb:decide ((i:Int) < N) = true:=decide_eq_true (by omega);have hb2:(i:Int) < N:=(by omega);have hix:=fun W=>Hix.out W i hlt'
   by_cases hc:s[i] = 35
   ·have Hres:Hid (s.take i = R):=by show _ = _;rw [HR.out,takeWhile_at hlt' (by rw [hc];rfl) Hno.out]
    have hcb:=byteT 35 rfl hc;have hsl:=fun W=>Hsl.out W i (by omega);rw [Hres.out] at hsl;generalize s[i].toNat = cn at hix hcb;generalize hRS:sb R = RS at hsl Hall;have HRS:=hIh hRS;clear hc hlt' Hix Hsl Hres hRS;go_wp2;go_ret;exact ⟨by rw [HRS.out];rfl,rfl⟩
   ·have hcb:=byteF 35 rfl hc
    have Hk:Hid (BaLoop s (.int .i64 ((i:Int) + 1))):=⟨i + 1,by simp,by omega,fun j h1 h2=>by
     by_cases e:j = i
     ·subst e;simpa using hc
     ·exact Hno.out j h1 (by omega)⟩
    generalize s[i].toNat = cn at hix hcb;clear hc hlt' Hix Hsl;go_wp2;go_round
    case rel=>exact Hk.out
    case measure=>simp [intOf];omega
  ·have hE:=Hall.out (fun j h=>Hno.out j h (by have:=HN.out;omega))
   have HE:=hIh hE;have hb:decide ((i:Int) < N) = false:=decide_eq_false (by omega);have hb2:¬ (i:Int) < N:=(by omega);clear hE hlt hi Hix Hsl;go_wp2;go_ret;exact ⟨by rw [HE.out];rfl,rfl⟩
def atC (n:Nat):List Value := [.int .i64 (n:Int)]
theorem atC_len (n:Nat):(atC n).length = 1:=rfl
theorem rd_one1 (w:World) (t:TypeId) (x:Value):Rd (w.alloc (.cells #[x] t)) 1 (.slice (some ⟨w.heap.size,0,none⟩) 1 1) 1 [x]:=by
 refine ⟨rfl,_,_,rfl,Nat.le_refl _,(fun h=>by cases h),fun ad hA j u hu=>?_⟩
 cases hA
 match j,hu with
 | 0,hu=>cases hu;rw [show (⟨w.heap.size,0,none⟩ : Addr).add 0 = ⟨w.heap.size,0,none⟩ from rfl];simp only [World.cell?,blk_new];rfl
theorem own_apart {w:World} {E1 E2:TypeId} {b1 b2 s1 s2 n1 n2:Nat} {v1 v2:Value} {x1 x2:List Value} (h1:w.ownsRow b1 E1 s1 v1 n1 x1) (h2:w.ownsRow b2 E2 s2 v2 n2 x2) (hne:E1 ≠ E2):∀ k,v1.ownBlock = some k → v2.ownBlock ≠ some k:=by
 intro k hk;rcases h1.2 with ⟨rfl, -⟩ | ⟨g',cap,cur,rfl, -,hb, -⟩
 ·cases hk
 ·have e:g' = k:=by simpa [Value.ownBlock] using hk
  subst e;exact own_ne_blk h2 hb (fun e=>hne e.symm)
structure CutW (w:World) (s:Str) (v4 v5:Value) (i:Nat) (done:List (Nat × Str)) (wr:World):Prop where
 le:i ≤ s.length
 eq:cutW 0 s = done ++ cutW i (s.drop i)
 tok:GrW 9 1 strC w.heap.size wr v4 (done.map Prod.snd)
 at_:GrW 3 1 atC w.heap.size wr v5 (done.map Prod.fst)
 num:done.length ≤ i
 bel:Below w.heap.size w wr
def CutLoop (w:World) (s:Str) (v4 v5 v6:Value) (wr:World):Prop := ∃ (i:Nat) (done:List (Nat × Str)),v6 = .int .i64 i ∧ CutW w s v4 v5 i done wr
def CutIn (s:Str) (i:Nat) (v7:Value):Prop := ∃ j:Nat,v7 = .int .i64 j ∧ i ≤ j ∧ j ≤ s.length ∧ ∀ k (h:k < s.length),i ≤ k → k < j → blank s[k] = false
theorem cutW_blank {s:Str} {i:Nat} (h:i < s.length) (hb:blank s[i] = true):cutW i (s.drop i) = cutW (i + 1) (s.drop (i + 1)):=by
 rw [List.drop_eq_getElem_cons h,cutW,if_pos hb]
theorem cutW_word {s:Str} {i j:Nat} (h:i < s.length) (hb:blank s[i] = false) (hij:i < j) (hj:j ≤ s.length) (hno:∀ k (h:k < s.length),i ≤ k → k < j → blank s[k] = false) (hend:∀ h:j < s.length,blank s[j] = true) :
  cutW i (s.drop i) = (i,(s.drop i).take (j - i)) :: cutW j (s.drop j):=by
 have htw:(s.drop i).takeWhile (fun b => !blank b) = (s.drop i).take (j - i):=by
  rcases Nat.lt_or_ge j s.length with h2 | h2
  ·refine takeWhile_at (i:=j - i) (by simp;omega) ?_ (fun k hk hkj=>?_)
   ·have:=hend h2
    simp only [List.getElem_drop];have e:i + (j - i) = j:=(by omega);simp only [e,this,Bool.not_true]
   ·simp only [List.getElem_drop]
    have:=hno (i + k) (by simp at hk;omega) (by omega) (by omega);simp [this]
  ·rw [List.take_of_length_le (by simp;omega)]
   refine takeWhile_all (fun k hk=>?_);simp only [List.getElem_drop];have:=hno (i + k) (by simp at hk;omega) (by omega) (by simp at hk;omega);simp [this]
 have hl:((s.drop i).take (j - i)).length = j - i:=by simp;omega
 have hdw:(s.drop i).dropWhile (fun b => !blank b) = s.drop j:=by
  have h1:=List.takeWhile_append_dropWhile (p:=fun b => !blank b) (l:=s.drop i);rw [htw] at h1
  have h2:(s.drop i).take (j - i) ++ s.drop j = s.drop i:=by
   conv=>rhs;rw [← List.take_append_drop (j - i) (s.drop i)]
   rw [List.drop_drop]
   congr 2
   omega
  exact List.append_cancel_left (h1.trans h2.symm)
 conv=>lhs;rw [List.drop_eq_getElem_cons h,cutW,if_neg (by rw [hb];decide),← List.drop_eq_getElem_cons h]
 rw [htw,hdw,hl,show i + (j - i) = j from by omega]
theorem rcut_calls (w:World) (s:Str) (hs:s.length ≤ 1048576):Calls Tryz.prog 32 #[.string (sb s)] w fun e w' => ∃ A1 c1 A2 c2,e = .returned (.tuple #[.slice A1 (cutW 0 s).length c1,.slice A2 (cutW 0 s).length c2]) ∧ RdT w' (.slice A1 (cutW 0 s).length c1) (words s) ∧ RdS atC 1 w' (.slice A2 (cutW 0 s).length c2) ((cutW 0 s).map Prod.fst) ∧ Below w.heap.size w w':=by
 have hst:(sb s).size = s.length:=sb_size s;have Hix:=hIh (fun W (i:Nat) (h:i < s.length)=>run_ix W s i s[i] (List.getElem?_eq_getElem h));have Hsl:=hIh (fun W (i j:Nat) (h:i ≤ j) (h2:j ≤ s.length)=>run_sl W s i j h h2)
 have htb:(s.length:Int) ≤ 1048576:=by omega
 obtain ⟨N,hN⟩ : ∃ N,N = s.length:=⟨_,rfl⟩;rw [← hN] at hst htb;have HN:=hIh hN;have Hst:Hid (CutLoop w s (.slice none 0 0) (.slice none 0 0) (.int .i64 0) w):=⟨0, [],rfl,by omega,rfl,GrW.nil _ _ _ _ _,GrW.nil _ _ _ _ _,by simp,Below.refl _ _⟩;generalize sb s = S at hst Hix Hsl;clear hs hN;go_enter Tryz.func32,Tryz.ntmps32;go_wp2
 go_loopw [4,5,6] (fun v4 v5 v6 wr=>CutLoop w s v4 v5 v6 wr) (fun _ _ v6 _=>N - (intOf v6).toNat)
 case atStart=>exact Hst.out
 case round=>
  clear Hst;obtain ⟨i,done,rfl,hW⟩:=hrel;have HW:=hIh hW
  have hiN:i ≤ N:=by rw [HN.out];exact hW.le
  obtain ⟨A1,c1,hv1⟩:=own_slice hW.tok.own;obtain ⟨A2,c2,hv2⟩:=own_slice hW.at_.own;obtain ⟨m,hm⟩ : ∃ m,m = done.length:=⟨_,rfl⟩;rw [List.length_map,← hm] at hv1 hv2;subst hv1 hv2;have Hm:=hIh hm
  have Hmb:Hid (m ≤ 1048577):=by have:=hW.num;show _ ≤ _;omega
  clear hW hm
  by_cases hlt:i < N
  case neg=>
   have hd:cutW 0 s = done:=by
    rw [HW.out.eq,List.drop_eq_nil_of_le (by have:=HN.out;omega)];simp [cutW]
   have Hp:Hid (∃ A1' c1' A2' c2',Ending.returned (.tuple #[.slice A1 m c1,.slice A2 m c2]) = .returned (.tuple #[.slice A1' (cutW 0 s).length c1',.slice A2' (cutW 0 s).length c2']) ∧ RdT wr (.slice A1' (cutW 0 s).length c1') (words s) ∧ RdS atC 1 wr (.slice A2' (cutW 0 s).length c2') ((cutW 0 s).map Prod.fst) ∧ Below w.heap.size w wr):=by
    refine ⟨A1,c1,A2,c2,by rw [hd,Hm.out],?_,?_,HW.out.bel⟩
    ·unfold words;rw [hd,← Hm.out];exact HW.out.tok.rd
    ·rw [hd,← Hm.out];exact HW.out.at_.rd
   have hb:decide ((i:Int) < N) = false:=decide_eq_false (by omega);have hb2:¬ (i:Int) < N:=(by omega);clear hd hlt hiN Hix Hsl;go_wp2;go_ret2;exact Hp.out
  have hlt' : i < s.length:=by have:=HN.out;omega
  have hb:decide ((i:Int) < N) = true:=decide_eq_true (by omega)
  have hb2:(i:Int) < N:=by omega
  have hix:=fun W=>Hix.out W i hlt'
  by_cases hbl:blank s[i] = true
  ·have Hk:Hid (CutLoop w s (.slice A1 m c1) (.slice A2 m c2) (.int .i64 ((i:Int) + 1)) wr):=⟨i + 1,done,by simp,hlt',by rw [HW.out.eq,cutW_blank hlt' hbl],HW.out.tok,HW.out.at_,by have:=HW.out.num;omega,HW.out.bel⟩
   have hcs:s[i] = 32 ∨ (s[i] ≠ 32 ∧ s[i] = 9):=by
    simp only [blank,Bool.or_eq_true,beq_iff_eq] at hbl;rcases hbl with h | h
    ·exact .inl h
    ·by_cases h2:s[i] = 32
     ·exact .inl h2
     ·exact .inr ⟨h2,h⟩
   rcases hcs with h32 | ⟨h32,h9⟩
   ·have q1:(((s[i].toNat:Nat):Int) == 32) = true:=byteT 32 rfl h32
    generalize s[i].toNat = cn at hix q1;clear hlt' hbl h32 Hix Hsl;go_wp2;go_roundw
    case rel=>exact Hk.out
    case measure=>simp [intOf];omega
   ·have q1:(((s[i].toNat:Nat):Int) == 32) = false:=byteF 32 rfl h32
    have q2:(((s[i].toNat:Nat):Int) == 9) = true:=byteT 9 rfl h9;generalize s[i].toNat = cn at hix q1 q2;clear hlt' hbl h32 h9 Hix Hsl;go_wp2;go_roundw
    case rel=>exact Hk.out
    case measure=>simp [intOf];omega
  ·have hbf:blank s[i] = false:=by simpa using hbl
   have h32:s[i] ≠ 32:=fun e=>hbl (by rw [e];rfl);have h9:s[i] ≠ 9:=fun e=>hbl (by rw [e];rfl);have q1:(((s[i].toNat:Nat):Int) == 32) = false:=byteF 32 rfl h32;have q2:(((s[i].toNat:Nat):Int) == 9) = false:=byteF 9 rfl h9;have Hin0:Hid (CutIn s i (.int .i64 (i:Int))):=⟨i,rfl,Nat.le_refl _,HW.out.le,fun k h h1 h2=>by omega⟩;have Hbf:=hIh (⟨hlt',hbf⟩ : ∃ h:i < s.length,blank s[i] = false);generalize s[i].toNat = cn at hix q1 q2;clear hlt' hbl hbf h32 h9;go_wp2;obtain ⟨wo,rfl⟩ : ∃ wo:World,wo = wr:=⟨_,rfl⟩
   go_loop [7] (fun v7=>CutIn s i v7) (fun v7=>N - (intOf v7).toNat)
   case atStart=>exact Hin0.out
   case round=>
    clear Hin0;obtain ⟨j,rfl,hij,hjl,hno⟩:=hrel;have Hno:=hIh hno;have hjN:j ≤ N:=(by rw [HN.out];exact hjl);clear hno hix q1 q2
    have key:(j < N ∧ ∃ h:j < s.length,blank s[j] = false) ∨ ((j < N → ∃ h:j < s.length,blank s[j] = true)):=by
     by_cases h1:j < N
     ·have h2:j < s.length:=by have:=HN.out;omega
      cases h3:blank s[j] with
      | false=>exact .inl ⟨h1,h2,h3⟩
      | true=>exact .inr (fun _=>⟨h2,h3⟩)
     ·exact .inr (fun h=>absurd h h1)
    rcases key with ⟨h1,h2,h3⟩ | hend
    ·have b1:decide ((j:Int) < N) = true:=decide_eq_true (by omega)
     have b2:(j:Int) < N:=(by omega);have hjx:=fun W=>Hix.out W j h2;have h32:s[j] ≠ 32:=fun e=>(by rw [e] at h3;cases h3);have h9:s[j] ≠ 9:=fun e=>(by rw [e] at h3;cases h3);have q1:(((s[j].toNat:Nat):Int) == 32) = false:=byteF 32 rfl h32;have q2:(((s[j].toNat:Nat):Int) == 9) = false:=byteF 9 rfl h9;have q3:(((s[j].toNat:Nat):Int) != 32) = true:=(by rw [bne,q1];rfl);have q4:(((s[j].toNat:Nat):Int) != 9) = true:=(by rw [bne,q2];rfl)
     have Hk:Hid (CutIn s i (.int .i64 ((j:Int) + 1))):=⟨j + 1,by simp,by omega,h2,fun k h k1 k2=>by
      by_cases e:k = j
      ·subst e;exact h3
      ·exact Hno.out k h k1 (by omega)⟩
     generalize s[j].toNat = cn at hjx q1 q2 q3 q4;clear h2 h3 h32 h9 hjl Hix Hsl;go_wp2;go_round
     case rel=>exact Hk.out
     case measure=>simp [intOf];omega
    ·have hij2:i < j:=by
      rcases Nat.lt_or_eq_of_le hij with h | h
      ·exact h
      ·subst h
       obtain ⟨h0,h1⟩:=hend hlt;obtain ⟨h2,h3⟩:=Hbf.out;rw [h1] at h3;cases h3
     obtain ⟨X,hX⟩ : ∃ X:Str,X = (s.drop i).take (j - i):=⟨_,rfl⟩
     have Heq:Hid (cutW i (s.drop i) = (i,X) :: cutW j (s.drop j)):=by
      obtain ⟨h2,h3⟩:=Hbf.out;show _ = _;rw [hX];exact cutW_word h2 h3 hij2 hjl Hno.out (fun h=>(hend (by have:=HN.out;omega)).2)
     have hsl:=fun W=>Hsl.out W i j hij hjl;rw [← hX] at hsl
     have hways:(decide ((j:Int) < N) = false ∧ ¬ (j:Int) < N) ∨ (∃ cn:Nat,decide ((j:Int) < N) = true ∧ (j:Int) < N ∧ (∀ W,Sem.run Tryz.prog (Instr.index 9 (.string S) (.int .i64 (j:Int))) W = .ok (.int .u8 (cn:Int)) W) ∧ (((cn:Int) != 32) = false ∨ (((cn:Int) != 32) = true ∧ ((cn:Int) != 9) = false))):=by
      by_cases h1:j < N
      ·obtain ⟨h2,h3⟩:=hend h1
       refine .inr ⟨s[j].toNat,decide_eq_true (by omega),by omega,fun W=>Hix.out W j h2,?_⟩;simp only [blank,Bool.or_eq_true,beq_iff_eq] at h3;rcases h3 with h | h
       ·rw [h];exact .inl rfl
       ·rw [h];exact .inr ⟨rfl,rfl⟩
      ·exact .inl ⟨decide_eq_false (by omega),by omega⟩
     obtain ⟨XC,hXC⟩ : ∃ XC,XC = [X].flatMap strC:=⟨_,rfl⟩;have HXC:=hIh hXC;obtain ⟨IC,hIC⟩ : ∃ IC,IC = [i].flatMap atC:=⟨_,rfl⟩;have HIC:=hIh hIC;obtain ⟨T1,hT1⟩ : ∃ T,T = (done.map Prod.snd).flatMap strC:=⟨_,rfl⟩;obtain ⟨T2,hT2⟩ : ∃ T,T = (done.map Prod.fst).flatMap atC:=⟨_,rfl⟩;have HT1:=hIh hT1;have HT2:=hIh hT2
     have Hown1:Hid (wo.ownsRow 0 9 1 (.slice A1 m c1) m T1):=by
      have:=HW.out.tok.own;rw [List.length_map,← Hm.out,← hT1] at this;exact this
     generalize hXS:sb X = XS at hsl;have HX:=hIh hXS;have Hij2:=hIh hij2;have HjN:=hIh hjN;have Hjl:=hIh hjl;clear hend hij hjl hij2 hX hXC hIC hT1 hT2 hXS Hsl Hix Hno hjN;rcases hways with ⟨k1,k2⟩ | ⟨cn,k1,k2,k3,k4 | ⟨k4,k5⟩⟩
     case' inl=>go_upto_region 10 with fail
     case' inr.inl=>go_upto_region 10 with fail
     case' inr.inr=>go_upto_region 10 with fail
     all_goals
      go_wp2_with (at_builtin;refine wpList_append2 _ rfl (.tmp 43) (.tmp 48) 59 rfl 9 (.string ⟨#[]⟩) 1 16 Tryz.underlying59 infoStr rfl (by decide) _ m T1 rfl (Hown1.out.alloc _) _ 1 XC rfl ?c1 ?c4 ?c2 ?c3 ?_)
      case c1=>rw [HXC.out,← HX.out];exact rd_oneS _ _ _
      case c4=>rw [HXC.out];exact flat_one strC strC_one [X]
      case c2=>have:=Hmb.out;unfold maxLen;omega
      case c3=>have:=Hmb.out;omega
      intro v' w2 ho2 hg2 hn2 _;obtain ⟨A',c',rfl⟩:=own_slice ho2;have hf2:Fr (fun k=>(Value.slice A1 m c1).ownBlock = some k) wo w2:=((Fr.of_below (Below.refl _ wo) _).alloc _).grown hg2 (fun k hk=>.inl hk)
      have Hrow1:Hid (GrW 9 1 strC w.heap.size w2 (.slice A' (m + 1) c') (done.map Prod.snd ++ [X])):=by
       refine HW.out.tok.next (ob:=.cells #[] 0) (v':=.slice A' (m + 1) c') HW.out.bel.size ?_ ?_
       ·rw [List.length_map,← Hm.out,← HT1.out,← HXC.out];exact ho2
       ·exact hn2
      have Hrow2:Hid (GrW 3 1 atC w.heap.size w2 (.slice A2 m c2) (done.map Prod.fst)):=HW.out.at_.fr hf2 (fun k _ _ h1 h2=>own_apart HW.out.tok.own HW.out.at_.own (by decide) k h2 h1)
      have Hown2:Hid (w2.ownsRow 0 3 1 (.slice A2 m c2) m T2):=by
       have:=Hrow2.out.own;rw [List.length_map,← Hm.out,← HT2.out] at this;exact this
      have Hb2:Hid (Below w.heap.size w w2):=((Fr.of_below HW.out.bel (fun _=>False)).alloc _ |>.grown hg2 (fun k hk=>.inr (HW.out.tok.new k hk))).to_below (fun k hk=>hk.elim) (Nat.le_refl _);clear ho2 hg2 hn2 hf2;go_wp2_with (at_builtin;refine wpList_append2 _ rfl (.tmp 50) (.tmp 52) 65 rfl 3 (.int .i64 0) 1 8 Tryz.underlying65 infoInt rfl (by decide) _ m T2 rfl (Hown2.out.alloc _) _ 1 IC rfl ?d1 ?d4 ?d2 ?d3 ?_)
      case d1=>rw [HIC.out];exact rd_one1 _ _ _
      case d4=>rw [HIC.out];intro u hu;simp only [List.flatMap_cons,List.flatMap_nil,List.append_nil,atC,List.mem_singleton] at hu;subst hu;rfl
      case d2=>have:=Hmb.out;unfold maxLen;omega
      case d3=>have:=Hmb.out;omega
      intro v' w3 ho3 hg3 hn3 _;obtain ⟨A'',c'',rfl⟩:=own_slice ho3;have hf3:Fr (fun k=>(Value.slice A2 m c2).ownBlock = some k) w2 w3:=((Fr.of_below (Below.refl _ w2) _).alloc _).grown hg3 (fun k hk=>.inl hk)
      have Hk:Hid (CutLoop w s (.slice A' (m + 1) c') (.slice A'' (m + 1) c'') (.int .i64 (j:Int)) w3):=by
       refine ⟨j,done ++ [(i,X)],rfl,Hjl.out,by rw [HW.out.eq,Heq.out];simp,?_,?_,by have:=HW.out.num;have:=Hij2.out;simp;omega,?_⟩
       ·rw [List.map_append,List.map_cons,List.map_nil]
        exact Hrow1.out.fr hf3 (fun k _ _ h1 h2=>own_apart Hrow2.out.own Hrow1.out.own (by decide) k h2 h1)
       ·rw [List.map_append,List.map_cons,List.map_nil]
        refine Hrow2.out.next (ob:=.cells #[] 0) (v':=.slice A'' (m + 1) c'') Hb2.out.size ?_ ?_
        ·rw [List.length_map,← Hm.out,← HT2.out,← HIC.out];exact ho3
        ·exact hn3
       ·exact ((Fr.of_below Hb2.out (fun _=>False)).alloc _ |>.grown hg3 (fun k hk=>.inr (Hrow2.out.new k hk))).to_below (fun k hk=>hk.elim) (Nat.le_refl _)
      clear ho3 hg3 hn3 hf3;have hij9:=Hij2.out;go_wp2;go_roundw
      case rel=>exact Hk.out
      case measure=>simp [intOf];omega
theorem eqL (t l:Str):((sb t).toList == l) = decide (t = l):=by
 rw [toL,show (sb t).data.toList = t from by simp [sb]]
 by_cases h:t = l
 ·rw [decide_eq_true h,h];simp
 ·rw [decide_eq_false h];simpa using h
theorem eqLT {t l:Str} (h:t = l):((sb t).toList == l) = true:=by rw [eqL];exact decide_eq_true h
theorem eqLF {t l:Str} (h:t ≠ l):((sb t).toList == l) = false:=by rw [eqL];exact decide_eq_false h
theorem neLT {t l:Str} (h:t ≠ l):((sb t).toList != l) = true:=by rw [bne,eqLF h];rfl
theorem neLF {t l:Str} (h:t = l):((sb t).toList != l) = false:=by rw [bne,eqLT h];rfl
theorem atC_cells {w:World} {v:Value} {l:List Nat} (h:RdS atC 1 w v l) (hn:l ≠ []):∃ b off c,v = .slice (some ⟨b,off,none⟩) l.length c ∧ l.length ≤ c ∧ b < w.heap.size ∧ ∀ i (hi:i < l.length),w.cell? ⟨b,off + i,none⟩ = some (.int .i64 (l[i] : Int)):=by
 obtain ⟨b,off,c,hv,hc,hb, -⟩:=h.cells (f:=atC) (fun _=>rfl) (by decide) 0 (List.length_pos_iff.2 hn);refine ⟨b,off,c,hv,hc,hb,fun i hi=>?_⟩;obtain ⟨b',off',c',hv', -, -,hcell⟩:=h.cells (f:=atC) (fun _=>rfl) (by decide) i hi;rw [hv] at hv'
 cases hv'
 have:=hcell 0 _ (by decide) rfl
 simpa using this
theorem cutW_get {s:Str} {i:Nat} (h:i < (cutW 0 s).length) (h2:i < (words s).length):(cutW 0 s)[i]? = some (((cutW 0 s).map Prod.fst)[i]'(by simpa using h),(words s)[i]):=by
 rw [List.getElem?_eq_getElem h];simp [words]
theorem rdryOf_calls (w:World) (s:Str) (hs:s.length ≤ 1048576):Calls Tryz.prog 14 #[.string (sb s)] w fun e w'=>e = .returned (.tuple #[.bool (dryS s).1,.string (sb (dryS s).2)]) ∧ Below w.heap.size w w':=by
 have Hcut:=hIh (rcut_calls w s hs);have HslF:=hIh (fun W (i:Nat) (h:i ≤ s.length)=>run_slF W s i h);have Hs:=hIh hs;generalize hS:sb s = S at Hcut HslF;have HS:=hIh hS;clear hs hS;go_enter Tryz.func14,Tryz.ntmps14;go_wp2_with fail
 with_reducible refine Hcut.out.mono ?_
 rintro e w2 ⟨A1,c1,A2,c2,rfl,h1,h2,hw2⟩;have hlen:(cutW 0 s).length = (words s).length:=cutW_len s;rw [hlen] at h1 h2;rw [hlen];obtain ⟨n,hn⟩ : ∃ n,n = (words s).length:=⟨_,rfl⟩;rw [← hn] at h1 h2;rw [← hn]
 by_cases hd:(words s).head? = some wDry
 case neg=>
  have Hp:Hid (Ending.returned (.tuple #[.bool false,.string S]) = .returned (.tuple #[.bool (dryS s).1,.string (sb (dryS s).2)]) ∧ Below w.heap.size w w2):=by
   refine ⟨?_,hw2⟩;have e:dryS s = (false,s):=(by unfold dryS;rw [if_neg hd]);rw [e,← HS.out]
  have key:(n = 0) ∨ (0 < n ∧ ∃ b off cc T,A1 = some ⟨b,off,none⟩ ∧ n ≤ cc ∧ c1 = cc ∧ w2.cell? ⟨b,off,none⟩ = some (.string T) ∧ (T.toList == [100,114,121]) = false):=by
   by_cases h0:n = 0
   ·exact .inl h0
   ·right
    have hne:words s ≠ []:=fun e=>h0 (by rw [hn,e];rfl);obtain ⟨b,off,cc,hv,hc, -,hcell⟩:=RdT.some h1 hne;rw [← hn] at hv
    cases hv
    refine ⟨by omega,b,off,_,_,rfl,by omega,rfl,hcell 0 (by omega),eqLF ?_⟩;intro e
    apply hd
    rw [List.head?_eq_getElem?,List.getElem?_eq_getElem (by omega),e];rfl
  clear Hcut HslF h1 h2 hw2 hd hlen;rcases key with rfl | ⟨h0,b,off,cc,T,rfl,hc,rfl,hcell,hq⟩
  ·clear hn
   go_wp2;go_ret2;exact Hp.out
  ·have hb:decide ((0:Int) < n) = true:=decide_eq_true (by omega)
   have hb2:(0:Int) < n:=(by omega);have hci:(n:Int) ≤ c1:=(by omega);clear hn;go_wp2;go_ret2;exact Hp.out
 case pos=>
  have h0:0 < n:=by
   rw [hn]
   cases hw:words s with
   | nil=>rw [hw] at hd;cases hd
   | cons t r=>simp
  have hne:words s ≠ []:=fun e=>by rw [e] at hn;simp at hn;omega
  obtain ⟨b,off,cc,hv,hc, -,hcell⟩:=RdT.some h1 hne;rw [← hn] at hv
  cases hv
  have hw0:(words s)[0]'(by omega) = wDry:=by
   rw [List.head?_eq_getElem?,List.getElem?_eq_getElem (by omega)] at hd;exact Option.some.inj hd
  have hc0:=hcell 0 (by omega);rw [Nat.add_zero,hw0] at hc0;have hq:((sb wDry).toList == [100,114,121]) = true:=eqLT rfl;generalize sb wDry = T at hc0 hq
  have e:dryS s = (true,behindS s 1):=by unfold dryS;rw [if_pos hd]
  have hb:decide ((0:Int) < n) = true:=decide_eq_true (by omega)
  have hb2:(0:Int) < n:=by omega
  have hci:(n:Int) ≤ c1:=by omega
  by_cases hn1:n = 1
  ·have Hp:Hid (Ending.returned (.tuple #[.bool true,.string ⟨#[]⟩]) = .returned (.tuple #[.bool (dryS s).1,.string (sb (dryS s).2)]) ∧ Below w.heap.size w w2):=by
    refine ⟨?_,hw2⟩;rw [e,behind_none (by omega)];rfl
   have hb3:((n:Int) == 1) = true:=(by rw [hn1];rfl);clear Hcut HslF h1 h2 hw2 hd hlen hcell hne hw0 e hn hn1;go_wp2;go_ret2;exact Hp.out
  ·obtain ⟨b2,off2,cc2,hv2,hc2, -,hcell2⟩:=atC_cells h2 (by intro e;have:=congrArg List.length e;simp [cutW_len] at this;exact hne this)
   have hh:((cutW 0 s).map Prod.fst).length = n:=(by rw [List.length_map];omega);rw [hh] at hv2 hc2
   cases hv2
   have hb3:((n:Int) == 1) = false:=(by simp;omega);have hlt:1 < (cutW 0 s).length:=(by omega);have hx:=hcell2 1 (by simpa using hlt);have hbw:=behind_word (cutW_get hlt (by omega));obtain ⟨p,hp⟩ : ∃ p,p = ((cutW 0 s).map Prod.fst)[1]'(by simpa using hlt):=⟨_,rfl⟩;rw [← hp] at hx hbw;have hsl:=fun W=>HslF.out W p (by omega);rw [hbw.1] at hsl
   have Hp:Hid (Ending.returned (.tuple #[.bool true,.string (sb (behindS s 1))]) = .returned (.tuple #[.bool (dryS s).1,.string (sb (dryS s).2)]) ∧ Below w.heap.size w w2):=by
    refine ⟨?_,hw2⟩;rw [e]
   have hci2:(n:Int) ≤ c2:=(by omega);have h1n:(1:Int) < n:=(by omega);generalize sb (behindS s 1) = B at hsl Hp;clear Hcut HslF h1 h2 hd hlen hcell hne hw0 e hn hn1 hcell2 hbw hp hlt hh hw2;go_wp2;go_region_held3 (fun W=>W.cell? ⟨b2,off2 + 1,none⟩ = some (.int .i64 (p:Int))) (first | exact hx | exact (drew_cell _ _).trans hx) (fail);go_wp2;go_ret2;exact ⟨Hp.out.1,Hp.out.2.drew⟩
def wGet:Str := [103,101,116]
def wStatus:Str := [115,116,97,116,117,115]
def wUnbind:Str := [117,110,98,105,110,100]
def wQuota:Str := [113,117,111,116,97]
def wLimit:Str := [108,105,109,105,116]
def namedI:List Str → Nat × Nat
 | []=>(0,0)
 | a :: r=>if a = wGet then (10,1) else if a = wStatus then (12,1) else if a = wUnbind then (15,1)
  else if a = wQuota ∧ r.head? = some wDrop then (4,2) else if a = wLimit ∧ r.head? = some wDrop then (6,2) else (0,0)
theorem rnamed_calls (w:World) (v:Value) (a:Str) (r:List Str) (h:RdT w v (a :: r)) (hln:r.length ≤ 1048577):Calls Tryz.prog 33 #[v] w fun e w'=>e = .returned (.tuple #[.int .i64 ((namedI (a :: r)).1:Int),.int .i64 ((namedI (a :: r)).2:Int)]) ∧ w' = w:=by
 obtain ⟨b,off,c,rfl,hc, -,hcell⟩:=RdT.some h (by simp);obtain ⟨n,hn⟩ : ∃ n,n = (a :: r).length:=⟨_,rfl⟩;have h0:w.cell? ⟨b,off,none⟩ = some (.string (sb a)):=hcell 0 (by simp)
 have hn0:(0:Int) < n:=by simp at hn;omega
 have hci:(n:Int) ≤ c:=by omega
 have hnb:(n:Int) ≤ 1048579:=by simp at hn;omega
 obtain ⟨I,hI⟩ : ∃ I,I = namedI (a :: r):=⟨_,rfl⟩;rw [← hI,← hn]
 by_cases g1:a = wGet
 case' pos=>
  have q1:((sb a).toList == [103,101,116]) = true:=eqLT g1
  have HI:Hid (I = (10,1)):=by show _ = _;rw [hI];show (if a = wGet then _ else _) = _;rw [if_pos g1]
 case' neg=>
  have q1:((sb a).toList == [103,101,116]) = false:=eqLF g1
  by_cases g2:a = wStatus
  case' pos=>
   have q2:((sb a).toList == [115,116,97,116,117,115]) = true:=eqLT g2;have HI:Hid (I = (12,1)):=(by show _ = _;rw [hI];show (if a = wGet then _ else _) = _;rw [if_neg g1,if_pos g2])
  case' neg=>
   have q2:((sb a).toList == [115,116,97,116,117,115]) = false:=eqLF g2
   by_cases g3:a = wUnbind
   case' pos=>
    have q3:((sb a).toList == [117,110,98,105,110,100]) = true:=eqLT g3;have HI:Hid (I = (15,1)):=(by show _ = _;rw [hI];show (if a = wGet then _ else _) = _;rw [if_neg g1,if_neg g2,if_pos g3])
   case' neg=>
    have q3:((sb a).toList == [117,110,98,105,110,100]) = false:=eqLF g3;have HI3:Hid (I = if a = wQuota ∧ r.head? = some wDrop then (4,2) else if a = wLimit ∧ r.head? = some wDrop then (6,2) else (0,0)):=(by show _ = _;rw [hI];show (if a = wGet then _ else _) = _;rw [if_neg g1,if_neg g2,if_neg g3]);have hq4:((sb a).toList == [113,117,111,116,97]) = decide (a = wQuota):=eqL a wQuota;have hq5:((sb a).toList == [108,105,109,105,116]) = decide (a = wLimit):=eqL a wLimit;have ht:∀ t,((sb t).toList == [100,114,111,112]) = decide (t = wDrop):=fun t=>eqL t wDrop
    have hways:(r = [] ∧ I = (0,0))
      ∨ (∃ t q,r = t :: q ∧ ((((sb a).toList == [113,117,111,116,97]) = true ∧ ((sb t).toList == [100,114,111,112]) = true ∧ I = (4,2))
       ∨ (((sb a).toList == [113,117,111,116,97]) = true ∧ ((sb t).toList == [100,114,111,112]) = false ∧ ((sb a).toList == [108,105,109,105,116]) = false ∧ I = (0,0))
       ∨ (((sb a).toList == [113,117,111,116,97]) = false ∧ ((sb a).toList == [108,105,109,105,116]) = true ∧ ((sb t).toList == [100,114,111,112]) = true ∧ I = (6,2))
       ∨ (((sb a).toList == [113,117,111,116,97]) = false ∧ ((sb a).toList == [108,105,109,105,116]) = true ∧ ((sb t).toList == [100,114,111,112]) = false ∧ I = (0,0))
       ∨ (((sb a).toList == [113,117,111,116,97]) = false ∧ ((sb a).toList == [108,105,109,105,116]) = false ∧ I = (0,0)))):=by
     rw [hq4,hq5];simp only [ht]
     cases r with
     | nil=>exact .inl ⟨rfl,by rw [HI3.out];simp⟩
     | cons t q=>
      refine .inr ⟨t,q,rfl,?_⟩;rw [HI3.out]
      by_cases k4:a = wQuota
      ·subst k4
       by_cases k6:t = wDrop <;> simp [k6,show wQuota ≠ wLimit from by decide]
      ·by_cases k5:a = wLimit
       ·subst k5
        by_cases k6:t = wDrop <;> simp [k6,show wLimit ≠ wQuota from by decide]
       ·simp [k4,k5]
    clear hq4 hq5 HI3 ht;rcases hways with ⟨rfl,HI⟩ | ⟨t,q,rfl,hw⟩
    case' inl=>
     have hn1:¬ (1:Int) < n:=(by simp at hn;omega);have hd1:decide ((1:Int) < n) = false:=decide_eq_false hn1
    case' inr=>
     have h1:w.cell? ⟨b,off + 1,none⟩ = some (.string (sb t)):=hcell 1 (by simp);have hn1:(1:Int) < n:=(by simp at hn;omega);have hd1:decide ((1:Int) < n) = true:=decide_eq_true hn1;generalize sb t = U at h1 hw;rcases hw with ⟨q4,q6,HI⟩ | ⟨q4,q6,q5,HI⟩ | ⟨q4,q5,q6,HI⟩ | ⟨q4,q5,q6,HI⟩ | ⟨q4,q5,HI⟩
 all_goals
  replace HI:=hIh (id HI:I = (_:Nat × Nat))
  generalize sb a = T at *;clear hcell hc h hln hn hI
  try clear g1
  try clear g2
  try clear g3
  go_enter Tryz.func33,Tryz.ntmps33;go_wp2;go_ret2;exact ⟨by rw [HI.out];rfl,rfl⟩
end Go.Proofs.YtpfkkagkbneilaaGreatDoor
