/- Texts H9, J1, J2, J3, J4 of the proof of BursarChecks, joined. -/
import Derived.Test.YtpfkkagkbneilaaGreatDoorV10
import Derived.Laws.Runes
import Derived.Laws.EntriesVeiled
import Derived.WalkMore
import Derived.Lib.OthersKept
import Derived.Lib.MapLaws
import Derived.Lib.SpaceUEq
namespace Go.Proofs.YtpfkkagkbneilaaGreatDoor
open Go.RowKit
set_option linter.unusedVariables false
set_option linter.unusedSimpArgs false
set_option maxRecDepth 100000
set_option maxHeartbeats 25600000
theorem termB_1 {s k:Str} (h:cutPre [33] s = some k):termB s = ⟨k,3, []⟩:=by unfold termB;rw [h]
theorem termB_2 {s k r l l' : Str} (h:cutPre [33] s = none) (h2:cutAt [32] s = some (k,r)) (h3:cutPre [105,110,32,40] r = some l) (h4:cutSuf [41] l = some l'):termB s = ⟨k,0,pieces 32 l'⟩:=by
 unfold termB;rw [h,h2];simp only;rw [h3];simp only;rw [h4]
theorem termB_3 {s k r l:Str} (h:cutPre [33] s = none) (h2:cutAt [32] s = some (k,r)) (h3:cutPre [105,110,32,40] r = some l) (h4:cutSuf [41] l = none):termB s = noTm:=by
 unfold termB;rw [h,h2];simp only;rw [h3];simp only;rw [h4]
theorem termB_4 {s k r l l' : Str} (h:cutPre [33] s = none) (h2:cutAt [32] s = some (k,r)) (h3:cutPre [105,110,32,40] r = none) (h5:cutPre [110,111,116,105,110,32,40] r = some l) (h4:cutSuf [41] l = some l'):termB s = ⟨k,1,pieces 32 l'⟩:=by
 unfold termB;rw [h,h2];simp only;rw [h3];simp only;rw [h5];simp only;rw [h4]
theorem termB_5 {s k r l:Str} (h:cutPre [33] s = none) (h2:cutAt [32] s = some (k,r)) (h3:cutPre [105,110,32,40] r = none) (h5:cutPre [110,111,116,105,110,32,40] r = some l) (h4:cutSuf [41] l = none):termB s = noTm:=by
 unfold termB;rw [h,h2];simp only;rw [h3];simp only;rw [h5];simp only;rw [h4]
theorem termB_6 {s k r:Str} (h:cutPre [33] s = none) (h2:cutAt [32] s = some (k,r)) (h3:cutPre [105,110,32,40] r = none) (h5:cutPre [110,111,116,105,110,32,40] r = none):termB s = noTm:=by
 unfold termB;rw [h,h2];simp only;rw [h3];simp only;rw [h5]
theorem termB_7 {s k v:Str} (h:cutPre [33] s = none) (h2:cutAt [32] s = none) (h3:cutAt [33,61] s = some (k,v)):termB s = ⟨k,1, [v]⟩:=by
 unfold termB;rw [h,h2];simp only;rw [h3]
theorem termB_8 {s k v:Str} (h:cutPre [33] s = none) (h2:cutAt [32] s = none) (h3:cutAt [33,61] s = none) (h4:cutAt [61] s = some (k,v)):termB s = ⟨k,0, [v]⟩:=by
 unfold termB;rw [h,h2];simp only;rw [h3];simp only;rw [h4]
theorem termB_9 {s:Str} (h:cutPre [33] s = none) (h2:cutAt [32] s = none) (h3:cutAt [33,61] s = none) (h4:cutAt [61] s = none):termB s = ⟨s,2, []⟩:=by
 unfold termB;rw [h,h2];simp only;rw [h3];simp only;rw [h4]
theorem cutPre_len {p s r:Str} (h:cutPre p s = some r):r.length ≤ s.length:=by
 unfold cutPre at h
 split at h
 ·cases h;rw [List.length_drop];omega
 ·cases h
theorem cutSuf_len {p s r:Str} (h:cutSuf p s = some r):r.length ≤ s.length:=by
 unfold cutSuf at h
 split at h
 ·cases h;rw [List.length_take];omega
 ·cases h
theorem lcutS_calls (w:World) (G:Glob w) (s sep a b:Str) (hs:s.length ≤ 4194304) (hne:sep ≠ []) (h:cutAt sep s = some (a,b)) :
  Calls Tryz.prog 11 #[.string (sb s),.string (sb sep)] w fun e w'=>e = .returned (.tuple #[.string (sb a),.string (sb b),.bool true]) ∧ Below w.heap.size w w':=by
 have:=lcut_calls w G s sep hs hne;unfold cutR at this;rw [h] at this;exact this
theorem lcutN_calls (w:World) (G:Glob w) (s sep:Str) (hs:s.length ≤ 4194304) (hne:sep ≠ []) (h:cutAt sep s = none) :
  Calls Tryz.prog 11 #[.string (sb s),.string (sb sep)] w fun e w'=>e = .returned (.tuple #[.string (sb s),.string (sb []),.bool false]) ∧ Below w.heap.size w w':=by
 have:=lcut_calls w G s sep hs hne;unfold cutR at this;rw [h] at this;exact this
theorem lpreS_calls (w:World) (s p r:Str) (h:cutPre p s = some r):Calls Tryz.prog 124 #[.string (sb s),.string (sb p)] w fun e w'=>e = .returned (.tuple #[.string (sb r),.bool true]) ∧ w' = w:=by
 have:=lcutpre_eq w s p;rw [h] at this;exact this
theorem lpreN_calls (w:World) (s p:Str) (h:cutPre p s = none):Calls Tryz.prog 124 #[.string (sb s),.string (sb p)] w fun e w'=>e = .returned (.tuple #[.string (sb s),.bool false]) ∧ w' = w:=by
 have:=lcutpre_eq w s p;rw [h] at this;exact this
theorem lsufS_calls (w:World) (s p r:Str) (hs:s.length ≤ 4194304) (h:cutSuf p s = some r):Calls Tryz.prog 153 #[.string (sb s),.string (sb p)] w fun e w'=>e = .returned (.tuple #[.string (sb r),.bool true]) ∧ Below w.heap.size w w':=by
 have:=lcutsuf_calls w s p hs;rw [h] at this;exact this
theorem lsufN_calls (w:World) (s p:Str) (hs:s.length ≤ 4194304) (h:cutSuf p s = none):Calls Tryz.prog 153 #[.string (sb s),.string (sb p)] w fun e w'=>e = .returned (.tuple #[.string (sb s),.bool false]) ∧ Below w.heap.size w w':=by
 have:=lcutsuf_calls w s p hs;rw [h] at this;exact this
theorem lsplitR_calls (w:World) (G:Glob w) (s:Str) (c:UInt8) (hs:s.length ≤ 4194304) :
  Calls Tryz.prog 127 #[.string (sb s),.string (sb [c])] w fun e w' => ∃ v,e = .returned v ∧ RdT w' v (pieces c s) ∧ (∀ k,v.ownBlock = some k → w.heap.size ≤ k) ∧ Below w.heap.size w w':=by
 refine (lsplit_calls w G s c hs).mono ?_;rintro e w' ⟨rfl,rfl⟩;exact ⟨_,rfl,rdT_block w (pieces c s) _,fun k hk=>by (have h5:w.heap.size = k:=by simpa [Value.ownBlock] using hk);omega,bel_alloc w _⟩
theorem term_calls (w:World) (G:Glob w) (l:Str) (hl:l.length ≤ 1048576):Calls Tryz.prog 128 #[.string (sb l)] w (TmRes w (termB l)):=by
 obtain ⟨W0,hW0⟩ : ∃ W0,W0 = w.alloc (.cells #[.string ⟨#[]⟩,.int .i64 0,.slice none 0 0] 98):=⟨_,rfl⟩
 have Hbx:Hid (W0.heap[w.heap.size]? = some (.cells #[.string ⟨#[]⟩,.int .i64 0,.slice none 0 0] 98 (0,0))):=by rw [hW0];exact blk_new w _
 have HB0:Hid (Below w.heap.size w W0):=by rw [hW0];exact bel_alloc w _
 have HW0:=hIh hW0;have hW0lt:=blk_lt Hbx.out;have Hlt:=hIh hW0lt;have HS2:Hid (∀ W,Below W0.heap.size W0 W → W.cell? ⟨w.heap.size,0,none⟩ = some (.string ⟨#[]⟩) ∧ W.cell? ⟨w.heap.size,1,none⟩ = some (.int .i64 0) ∧ W.cell? ⟨w.heap.size,2,none⟩ = some (.slice none 0 0) ∧ W.frozen? ⟨w.heap.size,0,none⟩ = false ∧ W.frozen? ⟨w.heap.size,1,none⟩ = false ∧ W.frozen? ⟨w.heap.size,2,none⟩ = false):=fun W hW=>cells3 (blk_below Hbx.out hW);have HG:Hid (∀ W,Below W0.heap.size W0 W → Glob W):=fun W hW=>G.below (HB0.out.trans (hW.mono HB0.out.size));have HT:Hid (∀ W W',Below W0.heap.size W0 W → Below W.heap.size W W' → Below W0.heap.size W0 W'):=fun W W' h1 h2=>h1.trans (h2.mono h1.size);have Hr:Hid (Below W0.heap.size W0 W0):=Below.refl _ _;obtain ⟨c0,c1,c2,f0,f1,f2⟩:=HS2.out W0 Hr.out;clear hW0 G
 cases hp:cutPre [33] l with
 | some k=>
  have Hres:=hIh (termB_1 hp);have C1:Hid (∀ W,Calls Tryz.prog 124 #[.string (sb l),.string (ByteArray.mk #[33])] W fun e w'=>e = .returned (.tuple #[.string (sb k),.bool true]) ∧ w' = W):=fun W=>lpreS_calls W l [33] k hp;generalize hgS:sb l = S at C1 ⊢;have HHS:=hIh hgS;clear hgS;generalize hgK:sb k = K at C1;have HHK:=hIh hgK;clear hgK;clear hp;go_enter Tryz.func128,Tryz.ntmps128;go_wp2_with fail;rw [← HW0.out];go_wp2_with fail
  with_reducible refine (C1.out _).mono ?_
  rintro e x1 ⟨rfl,hx1⟩;obtain rfl:=hx1;obtain ⟨q0,q1,q2,g0,g1,g2⟩:=HS2.out _ Hr.out;go_wp2;refine bodyPost_ret (results_cell_row rfl _ _ w.heap.size 98 #[.string K,.int .i64 3,.slice none 0 0] (0,0) _ rfl (blk_setCell (blk_setCell (blk_setCell (blk_below Hbx.out Hr.out) 0 _) 1 _) 2 _) Tryz.underlying98 rfl (by kernel_rfl)) rfl ?_;rw [Hres.out,← HHK.out];exact tmres_store (t:=⟨k,3, []⟩) (RdS.nil _ _ _) (fun k hk=>by cases hk) (HB0.out.trans (Hr.out.mono HB0.out.size))
 | none=>
  cases hc:cutAt [32] l with
  | some x=>
   obtain ⟨k,r⟩:=x;have hrl:=cutAt_len hc;simp only [List.length_singleton] at hrl
   cases hi:cutPre [105,110,32,40] r with
   | some t=>
    have htl:=cutPre_len hi
    cases hs:cutSuf [41] t with
    | some q=>
     have Hres:=hIh (termB_2 hp hc hi hs);have C1:Hid (∀ W,Calls Tryz.prog 124 #[.string (sb l),.string (ByteArray.mk #[33])] W fun e w'=>e = .returned (.tuple #[.string (sb l),.bool false]) ∧ w' = W):=fun W=>lpreN_calls W l [33] hp;have C2:Hid (∀ W,Glob W → Calls Tryz.prog 11 #[.string (sb l),.string (ByteArray.mk #[32])] W fun e w'=>e = .returned (.tuple #[.string (sb k),.string (sb r),.bool true]) ∧ Below W.heap.size W w'):=fun W hG=>lcutS_calls W hG l [32] k r (by omega) (by decide) hc;have C3:Hid (∀ W,Calls Tryz.prog 124 #[.string (sb r),.string (ByteArray.mk #[105,110,32,40])] W fun e w'=>e = .returned (.tuple #[.string (sb t),.bool true]) ∧ w' = W):=fun W=>lpreS_calls W r [105,110,32,40] t hi;have C5:Hid (∀ W,Glob W → Calls Tryz.prog 153 #[.string (sb t),.string (ByteArray.mk #[41])] W fun e w'=>e = .returned (.tuple #[.string (sb q),.bool true]) ∧ Below W.heap.size W w'):=fun W hG=>lsufS_calls W t [41] q (by omega) hs
     have hql:=cutSuf_len hs;have HSp:Hid (∀ W,Glob W → Calls Tryz.prog 127 #[.string (sb q),.string (ByteArray.mk #[32])] W fun e w' => ∃ v,e = .returned v ∧ RdT w' v (pieces 32 q) ∧ (∀ k,v.ownBlock = some k → W.heap.size ≤ k) ∧ Below W.heap.size W w'):=fun W hG=>lsplitR_calls W hG q 32 (by omega);generalize hgS:sb l = S at C1 C2 ⊢;have HHS:=hIh hgS;clear hgS;generalize hgK:sb k = K at C2;have HHK:=hIh hgK;clear hgK;generalize hgR:sb r = R at C2 C3;have HHR:=hIh hgR;clear hgR;generalize hgT:sb t = T at C3 C5;have HHT:=hIh hgT;clear hgT;clear hp hc hi hs;go_enter Tryz.func128,Tryz.ntmps128;go_wp2_with fail;rw [← HW0.out];go_wp2_with fail;(with_reducible refine (C1.out _).mono ?_);rintro e x1 ⟨rfl,hx1⟩;obtain rfl:=hx1;go_wp2_with fail;(with_reducible refine (C2.out _ (HG.out _ Hr.out)).mono ?_);rintro e x2 ⟨rfl,hx2⟩;have HX2:=hIh (HT.out _ _ Hr.out hx2);clear hx2;go_wp2_with fail
     (with_reducible refine (C3.out _).mono ?_);rintro e x3 ⟨rfl,hx3⟩;obtain rfl:=hx3;go_wp2_with fail;(with_reducible refine (C5.out _ (HG.out _ HX2.out)).mono ?_);rintro e x4 ⟨rfl,hx4⟩;have HX4:=hIh (HT.out _ _ HX2.out hx4);clear hx4;go_wp2_with fail;(with_reducible refine (HSp.out _ (HG.out _ HX4.out)).mono ?_);rintro e y ⟨v,rfl,hv,hvn,hy⟩;obtain ⟨VA,vc,rfl⟩:=hv.slice;have HV:=hIh hv;have HVn:=hIh hvn;have HY:=hIh (HT.out _ _ HX4.out hy);clear hv hvn hy;obtain ⟨q0,q1,q2,g0,g1,g2⟩:=HS2.out _ HY.out;go_wp2;refine bodyPost_ret (results_cell_row rfl _ _ w.heap.size 98 #[.string K,.int .i64 0,.slice VA (pieces 32 q).length vc] (0,0) _ rfl (blk_setCell (blk_setCell (blk_setCell (blk_below Hbx.out HY.out) 0 _) 1 _) 2 _) Tryz.underlying98 rfl (by kernel_rfl)) rfl ?_;rw [Hres.out,← HHK.out];exact tmres_store (t:=⟨k,0,pieces 32 q⟩) HV.out (fun k2 hk=>by (have:=HVn.out k2 hk);(have:=HX4.out.size);(have:=Hlt.out);omega) (HB0.out.trans (HY.out.mono HB0.out.size))
    | none=>
     have Hres:=hIh (termB_3 hp hc hi hs);have C1:Hid (∀ W,Calls Tryz.prog 124 #[.string (sb l),.string (ByteArray.mk #[33])] W fun e w'=>e = .returned (.tuple #[.string (sb l),.bool false]) ∧ w' = W):=fun W=>lpreN_calls W l [33] hp;have C2:Hid (∀ W,Glob W → Calls Tryz.prog 11 #[.string (sb l),.string (ByteArray.mk #[32])] W fun e w'=>e = .returned (.tuple #[.string (sb k),.string (sb r),.bool true]) ∧ Below W.heap.size W w'):=fun W hG=>lcutS_calls W hG l [32] k r (by omega) (by decide) hc;have C3:Hid (∀ W,Calls Tryz.prog 124 #[.string (sb r),.string (ByteArray.mk #[105,110,32,40])] W fun e w'=>e = .returned (.tuple #[.string (sb t),.bool true]) ∧ w' = W):=fun W=>lpreS_calls W r [105,110,32,40] t hi;have C5:Hid (∀ W,Glob W → Calls Tryz.prog 153 #[.string (sb t),.string (ByteArray.mk #[41])] W fun e w'=>e = .returned (.tuple #[.string (sb t),.bool false]) ∧ Below W.heap.size W w'):=fun W hG=>lsufN_calls W t [41] (by omega) hs
     generalize hgS:sb l = S at C1 C2 ⊢;have HHS:=hIh hgS;clear hgS;generalize hgK:sb k = K at C2;have HHK:=hIh hgK;clear hgK;generalize hgR:sb r = R at C2 C3;have HHR:=hIh hgR;clear hgR;generalize hgT:sb t = T at C3 C5;have HHT:=hIh hgT;clear hgT;clear hp hc hi hs;go_enter Tryz.func128,Tryz.ntmps128;go_wp2_with fail;rw [← HW0.out];go_wp2_with fail;(with_reducible refine (C1.out _).mono ?_);rintro e x1 ⟨rfl,hx1⟩;obtain rfl:=hx1;go_wp2_with fail;(with_reducible refine (C2.out _ (HG.out _ Hr.out)).mono ?_);rintro e x2 ⟨rfl,hx2⟩;have HX2:=hIh (HT.out _ _ Hr.out hx2);clear hx2;go_wp2_with fail;(with_reducible refine (C3.out _).mono ?_);rintro e x3 ⟨rfl,hx3⟩;obtain rfl:=hx3;go_wp2_with fail;(with_reducible refine (C5.out _ (HG.out _ HX2.out)).mono ?_);rintro e x4 ⟨rfl,hx4⟩;have HX4:=hIh (HT.out _ _ HX2.out hx4);clear hx4;obtain ⟨q0,q1,q2,g0,g1,g2⟩:=HS2.out _ HX4.out;go_wp2
     refine bodyPost_ret (results_cell_row rfl _ _ w.heap.size 98 #[.string ⟨#[]⟩,.int .i64 0,.slice none 0 0] (0,0) _ rfl (blk_setCell (blk_setCell (blk_setCell (blk_below Hbx.out HX4.out) 0 _) 1 _) 2 _) Tryz.underlying98 rfl (by kernel_rfl)) rfl ?_;rw [Hres.out];exact tmres_store (t:=noTm) (RdS.nil _ _ _) (fun k hk=>by cases hk) (HB0.out.trans (HX4.out.mono HB0.out.size))
   | none=>
    cases hn:cutPre [110,111,116,105,110,32,40] r with
    | some t=>
     have htl:=cutPre_len hn
     cases hs:cutSuf [41] t with
     | some q=>
      have Hres:=hIh (termB_4 hp hc hi hn hs);have C1:Hid (∀ W,Calls Tryz.prog 124 #[.string (sb l),.string (ByteArray.mk #[33])] W fun e w'=>e = .returned (.tuple #[.string (sb l),.bool false]) ∧ w' = W):=fun W=>lpreN_calls W l [33] hp;have C2:Hid (∀ W,Glob W → Calls Tryz.prog 11 #[.string (sb l),.string (ByteArray.mk #[32])] W fun e w'=>e = .returned (.tuple #[.string (sb k),.string (sb r),.bool true]) ∧ Below W.heap.size W w'):=fun W hG=>lcutS_calls W hG l [32] k r (by omega) (by decide) hc;have C3:Hid (∀ W,Calls Tryz.prog 124 #[.string (sb r),.string (ByteArray.mk #[105,110,32,40])] W fun e w'=>e = .returned (.tuple #[.string (sb r),.bool false]) ∧ w' = W):=fun W=>lpreN_calls W r [105,110,32,40] hi;have C4:Hid (∀ W,Calls Tryz.prog 124 #[.string (sb r),.string (ByteArray.mk #[110,111,116,105,110,32,40])] W fun e w'=>e = .returned (.tuple #[.string (sb t),.bool true]) ∧ w' = W):=fun W=>lpreS_calls W r [110,111,116,105,110,32,40] t hn
      have C5:Hid (∀ W,Glob W → Calls Tryz.prog 153 #[.string (sb t),.string (ByteArray.mk #[41])] W fun e w'=>e = .returned (.tuple #[.string (sb q),.bool true]) ∧ Below W.heap.size W w'):=fun W hG=>lsufS_calls W t [41] q (by omega) hs;have hql:=cutSuf_len hs;have HSp:Hid (∀ W,Glob W → Calls Tryz.prog 127 #[.string (sb q),.string (ByteArray.mk #[32])] W fun e w' => ∃ v,e = .returned v ∧ RdT w' v (pieces 32 q) ∧ (∀ k,v.ownBlock = some k → W.heap.size ≤ k) ∧ Below W.heap.size W w'):=fun W hG=>lsplitR_calls W hG q 32 (by omega);generalize hgS:sb l = S at C1 C2 ⊢;have HHS:=hIh hgS;clear hgS;generalize hgK:sb k = K at C2;have HHK:=hIh hgK;clear hgK;generalize hgR:sb r = R at C2 C3 C4;have HHR:=hIh hgR;clear hgR;generalize hgT:sb t = T at C4 C5;have HHT:=hIh hgT;clear hgT;clear hp hc hi hs hn;go_enter Tryz.func128,Tryz.ntmps128;go_wp2_with fail;rw [← HW0.out];go_wp2_with fail;(with_reducible refine (C1.out _).mono ?_)
      rintro e x1 ⟨rfl,hx1⟩;obtain rfl:=hx1;go_wp2_with fail;(with_reducible refine (C2.out _ (HG.out _ Hr.out)).mono ?_);rintro e x2 ⟨rfl,hx2⟩;have HX2:=hIh (HT.out _ _ Hr.out hx2);clear hx2;go_wp2_with fail;(with_reducible refine (C3.out _).mono ?_);rintro e x3 ⟨rfl,hx3⟩;obtain rfl:=hx3;go_wp2_with fail;(with_reducible refine (C4.out _).mono ?_);rintro e x4 ⟨rfl,hx4⟩;obtain rfl:=hx4;go_wp2_with fail;(with_reducible refine (C5.out _ (HG.out _ HX2.out)).mono ?_);rintro e x5 ⟨rfl,hx5⟩;have HX5:=hIh (HT.out _ _ HX2.out hx5);clear hx5;go_wp2_with fail;(with_reducible refine (HSp.out _ (HG.out _ HX5.out)).mono ?_);rintro e y ⟨v,rfl,hv,hvn,hy⟩;obtain ⟨VA,vc,rfl⟩:=hv.slice;have HV:=hIh hv;have HVn:=hIh hvn;have HY:=hIh (HT.out _ _ HX5.out hy);clear hv hvn hy;obtain ⟨q0,q1,q2,g0,g1,g2⟩:=HS2.out _ HY.out;go_wp2;refine bodyPost_ret (results_cell_row rfl _ _ w.heap.size 98 #[.string K,.int .i64 1,.slice VA (pieces 32 q).length vc] (0,0) _ rfl (blk_setCell (blk_setCell (blk_setCell (blk_below Hbx.out HY.out) 0 _) 1 _) 2 _) Tryz.underlying98 rfl (by kernel_rfl)) rfl ?_
      rw [Hres.out,← HHK.out];exact tmres_store (t:=⟨k,1,pieces 32 q⟩) HV.out (fun k2 hk=>by (have:=HVn.out k2 hk);(have:=HX5.out.size);(have:=Hlt.out);omega) (HB0.out.trans (HY.out.mono HB0.out.size))
     | none=>
      have Hres:=hIh (termB_5 hp hc hi hn hs);have C1:Hid (∀ W,Calls Tryz.prog 124 #[.string (sb l),.string (ByteArray.mk #[33])] W fun e w'=>e = .returned (.tuple #[.string (sb l),.bool false]) ∧ w' = W):=fun W=>lpreN_calls W l [33] hp;have C2:Hid (∀ W,Glob W → Calls Tryz.prog 11 #[.string (sb l),.string (ByteArray.mk #[32])] W fun e w'=>e = .returned (.tuple #[.string (sb k),.string (sb r),.bool true]) ∧ Below W.heap.size W w'):=fun W hG=>lcutS_calls W hG l [32] k r (by omega) (by decide) hc;have C3:Hid (∀ W,Calls Tryz.prog 124 #[.string (sb r),.string (ByteArray.mk #[105,110,32,40])] W fun e w'=>e = .returned (.tuple #[.string (sb r),.bool false]) ∧ w' = W):=fun W=>lpreN_calls W r [105,110,32,40] hi;have C4:Hid (∀ W,Calls Tryz.prog 124 #[.string (sb r),.string (ByteArray.mk #[110,111,116,105,110,32,40])] W fun e w'=>e = .returned (.tuple #[.string (sb t),.bool true]) ∧ w' = W):=fun W=>lpreS_calls W r [110,111,116,105,110,32,40] t hn
      have C5:Hid (∀ W,Glob W → Calls Tryz.prog 153 #[.string (sb t),.string (ByteArray.mk #[41])] W fun e w'=>e = .returned (.tuple #[.string (sb t),.bool false]) ∧ Below W.heap.size W w'):=fun W hG=>lsufN_calls W t [41] (by omega) hs;generalize hgS:sb l = S at C1 C2 ⊢;have HHS:=hIh hgS;clear hgS;generalize hgK:sb k = K at C2;have HHK:=hIh hgK;clear hgK;generalize hgR:sb r = R at C2 C3 C4;have HHR:=hIh hgR;clear hgR;generalize hgT:sb t = T at C4 C5;have HHT:=hIh hgT;clear hgT;clear hp hc hi hs hn;go_enter Tryz.func128,Tryz.ntmps128;go_wp2_with fail;rw [← HW0.out];go_wp2_with fail;(with_reducible refine (C1.out _).mono ?_);rintro e x1 ⟨rfl,hx1⟩;obtain rfl:=hx1;go_wp2_with fail;(with_reducible refine (C2.out _ (HG.out _ Hr.out)).mono ?_);rintro e x2 ⟨rfl,hx2⟩;have HX2:=hIh (HT.out _ _ Hr.out hx2);clear hx2;go_wp2_with fail;(with_reducible refine (C3.out _).mono ?_);rintro e x3 ⟨rfl,hx3⟩
      obtain rfl:=hx3;go_wp2_with fail;(with_reducible refine (C4.out _).mono ?_);rintro e x4 ⟨rfl,hx4⟩;obtain rfl:=hx4;go_wp2_with fail;(with_reducible refine (C5.out _ (HG.out _ HX2.out)).mono ?_);rintro e x5 ⟨rfl,hx5⟩;have HX5:=hIh (HT.out _ _ HX2.out hx5);clear hx5;obtain ⟨q0,q1,q2,g0,g1,g2⟩:=HS2.out _ HX5.out;go_wp2;refine bodyPost_ret (results_cell_row rfl _ _ w.heap.size 98 #[.string ⟨#[]⟩,.int .i64 0,.slice none 0 0] (0,0) _ rfl (blk_setCell (blk_setCell (blk_setCell (blk_below Hbx.out HX5.out) 0 _) 1 _) 2 _) Tryz.underlying98 rfl (by kernel_rfl)) rfl ?_;rw [Hres.out];exact tmres_store (t:=noTm) (RdS.nil _ _ _) (fun k hk=>by cases hk) (HB0.out.trans (HX5.out.mono HB0.out.size))
    | none=>
     cases hs:cutSuf [41] r with
     | some q=>
      have Hres:=hIh (termB_6 hp hc hi hn);have C1:Hid (∀ W,Calls Tryz.prog 124 #[.string (sb l),.string (ByteArray.mk #[33])] W fun e w'=>e = .returned (.tuple #[.string (sb l),.bool false]) ∧ w' = W):=fun W=>lpreN_calls W l [33] hp;have C2:Hid (∀ W,Glob W → Calls Tryz.prog 11 #[.string (sb l),.string (ByteArray.mk #[32])] W fun e w'=>e = .returned (.tuple #[.string (sb k),.string (sb r),.bool true]) ∧ Below W.heap.size W w'):=fun W hG=>lcutS_calls W hG l [32] k r (by omega) (by decide) hc;have C3:Hid (∀ W,Calls Tryz.prog 124 #[.string (sb r),.string (ByteArray.mk #[105,110,32,40])] W fun e w'=>e = .returned (.tuple #[.string (sb r),.bool false]) ∧ w' = W):=fun W=>lpreN_calls W r [105,110,32,40] hi;have C4:Hid (∀ W,Calls Tryz.prog 124 #[.string (sb r),.string (ByteArray.mk #[110,111,116,105,110,32,40])] W fun e w'=>e = .returned (.tuple #[.string (sb r),.bool false]) ∧ w' = W):=fun W=>lpreN_calls W r [110,111,116,105,110,32,40] hn
      have C5:Hid (∀ W,Glob W → Calls Tryz.prog 153 #[.string (sb r),.string (ByteArray.mk #[41])] W fun e w'=>e = .returned (.tuple #[.string (sb q),.bool true]) ∧ Below W.heap.size W w'):=fun W hG=>lsufS_calls W r [41] q (by omega) hs;generalize hgS:sb l = S at C1 C2 ⊢;have HHS:=hIh hgS;clear hgS;generalize hgK:sb k = K at C2;have HHK:=hIh hgK;clear hgK;generalize hgR:sb r = R at C2 C3 C4 C5;have HHR:=hIh hgR;clear hgR;clear hp hc hi hs hn;go_enter Tryz.func128,Tryz.ntmps128;go_wp2_with fail;rw [← HW0.out];go_wp2_with fail;(with_reducible refine (C1.out _).mono ?_);rintro e x1 ⟨rfl,hx1⟩;obtain rfl:=hx1;go_wp2_with fail;(with_reducible refine (C2.out _ (HG.out _ Hr.out)).mono ?_);rintro e x2 ⟨rfl,hx2⟩;have HX2:=hIh (HT.out _ _ Hr.out hx2);clear hx2;go_wp2_with fail;(with_reducible refine (C3.out _).mono ?_);rintro e x3 ⟨rfl,hx3⟩;obtain rfl:=hx3;go_wp2_with fail;(with_reducible refine (C4.out _).mono ?_)
      rintro e x4 ⟨rfl,hx4⟩;obtain rfl:=hx4;go_wp2_with fail;(with_reducible refine (C5.out _ (HG.out _ HX2.out)).mono ?_);rintro e x5 ⟨rfl,hx5⟩;have HX5:=hIh (HT.out _ _ HX2.out hx5);clear hx5;obtain ⟨q0,q1,q2,g0,g1,g2⟩:=HS2.out _ HX5.out;go_wp2;refine bodyPost_ret (results_cell_row rfl _ _ w.heap.size 98 #[.string ⟨#[]⟩,.int .i64 0,.slice none 0 0] (0,0) _ rfl (blk_setCell (blk_setCell (blk_setCell (blk_below Hbx.out HX5.out) 0 _) 1 _) 2 _) Tryz.underlying98 rfl (by kernel_rfl)) rfl ?_;rw [Hres.out];exact tmres_store (t:=noTm) (RdS.nil _ _ _) (fun k hk=>by cases hk) (HB0.out.trans (HX5.out.mono HB0.out.size))
     | none=>
      have Hres:=hIh (termB_6 hp hc hi hn);have C1:Hid (∀ W,Calls Tryz.prog 124 #[.string (sb l),.string (ByteArray.mk #[33])] W fun e w'=>e = .returned (.tuple #[.string (sb l),.bool false]) ∧ w' = W):=fun W=>lpreN_calls W l [33] hp;have C2:Hid (∀ W,Glob W → Calls Tryz.prog 11 #[.string (sb l),.string (ByteArray.mk #[32])] W fun e w'=>e = .returned (.tuple #[.string (sb k),.string (sb r),.bool true]) ∧ Below W.heap.size W w'):=fun W hG=>lcutS_calls W hG l [32] k r (by omega) (by decide) hc;have C3:Hid (∀ W,Calls Tryz.prog 124 #[.string (sb r),.string (ByteArray.mk #[105,110,32,40])] W fun e w'=>e = .returned (.tuple #[.string (sb r),.bool false]) ∧ w' = W):=fun W=>lpreN_calls W r [105,110,32,40] hi;have C4:Hid (∀ W,Calls Tryz.prog 124 #[.string (sb r),.string (ByteArray.mk #[110,111,116,105,110,32,40])] W fun e w'=>e = .returned (.tuple #[.string (sb r),.bool false]) ∧ w' = W):=fun W=>lpreN_calls W r [110,111,116,105,110,32,40] hn
      have C5:Hid (∀ W,Glob W → Calls Tryz.prog 153 #[.string (sb r),.string (ByteArray.mk #[41])] W fun e w'=>e = .returned (.tuple #[.string (sb r),.bool false]) ∧ Below W.heap.size W w'):=fun W hG=>lsufN_calls W r [41] (by omega) hs;generalize hgS:sb l = S at C1 C2 ⊢;have HHS:=hIh hgS;clear hgS;generalize hgK:sb k = K at C2;have HHK:=hIh hgK;clear hgK;generalize hgR:sb r = R at C2 C3 C4 C5;have HHR:=hIh hgR;clear hgR;clear hp hc hi hs hn;go_enter Tryz.func128,Tryz.ntmps128;go_wp2_with fail;rw [← HW0.out];go_wp2_with fail;(with_reducible refine (C1.out _).mono ?_);rintro e x1 ⟨rfl,hx1⟩;obtain rfl:=hx1;go_wp2_with fail;(with_reducible refine (C2.out _ (HG.out _ Hr.out)).mono ?_);rintro e x2 ⟨rfl,hx2⟩;have HX2:=hIh (HT.out _ _ Hr.out hx2);clear hx2;go_wp2_with fail;(with_reducible refine (C3.out _).mono ?_);rintro e x3 ⟨rfl,hx3⟩;obtain rfl:=hx3;go_wp2_with fail;(with_reducible refine (C4.out _).mono ?_)
      rintro e x4 ⟨rfl,hx4⟩;obtain rfl:=hx4;go_wp2_with fail;(with_reducible refine (C5.out _ (HG.out _ HX2.out)).mono ?_);rintro e x5 ⟨rfl,hx5⟩;have HX5:=hIh (HT.out _ _ HX2.out hx5);clear hx5;obtain ⟨q0,q1,q2,g0,g1,g2⟩:=HS2.out _ HX5.out;go_wp2;refine bodyPost_ret (results_cell_row rfl _ _ w.heap.size 98 #[.string ⟨#[]⟩,.int .i64 0,.slice none 0 0] (0,0) _ rfl (blk_setCell (blk_setCell (blk_setCell (blk_below Hbx.out HX5.out) 0 _) 1 _) 2 _) Tryz.underlying98 rfl (by kernel_rfl)) rfl ?_;rw [Hres.out];exact tmres_store (t:=noTm) (RdS.nil _ _ _) (fun k hk=>by cases hk) (HB0.out.trans (HX5.out.mono HB0.out.size))
  | none=>
   cases he:cutAt [33,61] l with
   | some x=>
    obtain ⟨k,v⟩:=x;have Hres:=hIh (termB_7 hp hc he);have C1:Hid (∀ W,Calls Tryz.prog 124 #[.string (sb l),.string (ByteArray.mk #[33])] W fun e w'=>e = .returned (.tuple #[.string (sb l),.bool false]) ∧ w' = W):=fun W=>lpreN_calls W l [33] hp;have C2:Hid (∀ W,Glob W → Calls Tryz.prog 11 #[.string (sb l),.string (ByteArray.mk #[32])] W fun e w'=>e = .returned (.tuple #[.string (sb l),.string (sb []),.bool false]) ∧ Below W.heap.size W w'):=fun W hG=>lcutN_calls W hG l [32] (by omega) (by decide) hc;have C6:Hid (∀ W,Glob W → Calls Tryz.prog 11 #[.string (sb l),.string (ByteArray.mk #[33,61])] W fun e w'=>e = .returned (.tuple #[.string (sb k),.string (sb v),.bool true]) ∧ Below W.heap.size W w'):=fun W hG=>lcutS_calls W hG l [33,61] k v (by omega) (by decide) he;generalize hgS:sb l = S at C1 C2 C6 ⊢;have HHS:=hIh hgS;clear hgS;generalize hgK:sb k = K at C6;have HHK:=hIh hgK;clear hgK
    generalize hgZ:sb v = Z at C6;have HHZ:=hIh hgZ;clear hgZ;clear hp hc he;go_enter Tryz.func128,Tryz.ntmps128;go_wp2_with fail;rw [← HW0.out];go_wp2_with fail;(with_reducible refine (C1.out _).mono ?_);rintro e x1 ⟨rfl,hx1⟩;obtain rfl:=hx1;go_wp2_with fail;(with_reducible refine (C2.out _ (HG.out _ Hr.out)).mono ?_);rintro e x2 ⟨rfl,hx2⟩;have HX2:=hIh (HT.out _ _ Hr.out hx2);clear hx2;go_wp2_with fail;(with_reducible refine (C6.out _ (HG.out _ HX2.out)).mono ?_);rintro e x3 ⟨rfl,hx3⟩;have HX3:=hIh (HT.out _ _ HX2.out hx3);clear hx3;have Hs1:=hIh (HT.out _ _ HX3.out (bel_alloc _ (.cells #[.string Z] 9)));obtain ⟨q0,q1,q2,g0,g1,g2⟩:=HS2.out _ Hs1.out;go_wp2;refine bodyPost_ret (results_cell_row rfl _ _ w.heap.size 98 #[.string K,.int .i64 1,.slice (some ⟨x3.heap.size,0,none⟩) 1 1] (0,0) _ rfl (blk_setCell (blk_setCell (blk_setCell (blk_below Hbx.out Hs1.out) 0 _) 1 _) 2 _) Tryz.underlying98 rfl (by kernel_rfl)) rfl ?_
    rw [Hres.out,← HHK.out];exact tmres_store (t:=⟨k,1, [v]⟩) (by rw [← HHZ.out];exact rd_oneS x3 9 v) (fun k2 hk=>by (have h5:x3.heap.size = k2:=by simpa [Value.ownBlock] using hk);(have:=HX3.out.size);(have:=Hlt.out);omega) (HB0.out.trans (Hs1.out.mono HB0.out.size))
   | none=>
    cases hq:cutAt [61] l with
    | some x=>
     obtain ⟨k,v⟩:=x;have Hres:=hIh (termB_8 hp hc he hq);have C1:Hid (∀ W,Calls Tryz.prog 124 #[.string (sb l),.string (ByteArray.mk #[33])] W fun e w'=>e = .returned (.tuple #[.string (sb l),.bool false]) ∧ w' = W):=fun W=>lpreN_calls W l [33] hp;have C2:Hid (∀ W,Glob W → Calls Tryz.prog 11 #[.string (sb l),.string (ByteArray.mk #[32])] W fun e w'=>e = .returned (.tuple #[.string (sb l),.string (sb []),.bool false]) ∧ Below W.heap.size W w'):=fun W hG=>lcutN_calls W hG l [32] (by omega) (by decide) hc;have C6:Hid (∀ W,Glob W → Calls Tryz.prog 11 #[.string (sb l),.string (ByteArray.mk #[33,61])] W fun e w'=>e = .returned (.tuple #[.string (sb l),.string (sb []),.bool false]) ∧ Below W.heap.size W w'):=fun W hG=>lcutN_calls W hG l [33,61] (by omega) (by decide) he;have C7:Hid (∀ W,Glob W → Calls Tryz.prog 11 #[.string (sb l),.string (ByteArray.mk #[61])] W fun e w'=>e = .returned (.tuple #[.string (sb k),.string (sb v),.bool true]) ∧ Below W.heap.size W w'):=fun W hG=>lcutS_calls W hG l [61] k v (by omega) (by decide) hq
     generalize hgS:sb l = S at C1 C2 C6 C7 ⊢;have HHS:=hIh hgS;clear hgS;generalize hgK:sb k = K at C7;have HHK:=hIh hgK;clear hgK;generalize hgZ:sb v = Z at C7;have HHZ:=hIh hgZ;clear hgZ;clear hp hc he hq;go_enter Tryz.func128,Tryz.ntmps128;go_wp2_with fail;rw [← HW0.out];go_wp2_with fail;(with_reducible refine (C1.out _).mono ?_);rintro e x1 ⟨rfl,hx1⟩;obtain rfl:=hx1;go_wp2_with fail;(with_reducible refine (C2.out _ (HG.out _ Hr.out)).mono ?_);rintro e x2 ⟨rfl,hx2⟩;have HX2:=hIh (HT.out _ _ Hr.out hx2);clear hx2;go_wp2_with fail;(with_reducible refine (C6.out _ (HG.out _ HX2.out)).mono ?_);rintro e x3 ⟨rfl,hx3⟩;have HX3:=hIh (HT.out _ _ HX2.out hx3);clear hx3;go_wp2_with fail;(with_reducible refine (C7.out _ (HG.out _ HX3.out)).mono ?_);rintro e x4 ⟨rfl,hx4⟩;have HX4:=hIh (HT.out _ _ HX3.out hx4);clear hx4;have Hs1:=hIh (HT.out _ _ HX4.out (bel_alloc _ (.cells #[.string Z] 9)))
     obtain ⟨q0,q1,q2,g0,g1,g2⟩:=HS2.out _ Hs1.out;go_wp2;refine bodyPost_ret (results_cell_row rfl _ _ w.heap.size 98 #[.string K,.int .i64 0,.slice (some ⟨x4.heap.size,0,none⟩) 1 1] (0,0) _ rfl (blk_setCell (blk_setCell (blk_setCell (blk_below Hbx.out Hs1.out) 0 _) 1 _) 2 _) Tryz.underlying98 rfl (by kernel_rfl)) rfl ?_;rw [Hres.out,← HHK.out];exact tmres_store (t:=⟨k,0, [v]⟩) (by rw [← HHZ.out];exact rd_oneS x4 9 v) (fun k2 hk=>by (have h5:x4.heap.size = k2:=by simpa [Value.ownBlock] using hk);(have:=HX4.out.size);(have:=Hlt.out);omega) (HB0.out.trans (Hs1.out.mono HB0.out.size))
    | none=>
     have Hres:=hIh (termB_9 hp hc he hq);have C1:Hid (∀ W,Calls Tryz.prog 124 #[.string (sb l),.string (ByteArray.mk #[33])] W fun e w'=>e = .returned (.tuple #[.string (sb l),.bool false]) ∧ w' = W):=fun W=>lpreN_calls W l [33] hp;have C2:Hid (∀ W,Glob W → Calls Tryz.prog 11 #[.string (sb l),.string (ByteArray.mk #[32])] W fun e w'=>e = .returned (.tuple #[.string (sb l),.string (sb []),.bool false]) ∧ Below W.heap.size W w'):=fun W hG=>lcutN_calls W hG l [32] (by omega) (by decide) hc;have C6:Hid (∀ W,Glob W → Calls Tryz.prog 11 #[.string (sb l),.string (ByteArray.mk #[33,61])] W fun e w'=>e = .returned (.tuple #[.string (sb l),.string (sb []),.bool false]) ∧ Below W.heap.size W w'):=fun W hG=>lcutN_calls W hG l [33,61] (by omega) (by decide) he;have C7:Hid (∀ W,Glob W → Calls Tryz.prog 11 #[.string (sb l),.string (ByteArray.mk #[61])] W fun e w'=>e = .returned (.tuple #[.string (sb l),.string (sb []),.bool false]) ∧ Below W.heap.size W w'):=fun W hG=>lcutN_calls W hG l [61] (by omega) (by decide) hq
     generalize hgS:sb l = S at C1 C2 C6 C7 ⊢;have HHS:=hIh hgS;clear hgS;clear hp hc he hq;go_enter Tryz.func128,Tryz.ntmps128;go_wp2_with fail;rw [← HW0.out];go_wp2_with fail;(with_reducible refine (C1.out _).mono ?_);rintro e x1 ⟨rfl,hx1⟩;obtain rfl:=hx1;go_wp2_with fail;(with_reducible refine (C2.out _ (HG.out _ Hr.out)).mono ?_);rintro e x2 ⟨rfl,hx2⟩;have HX2:=hIh (HT.out _ _ Hr.out hx2);clear hx2;go_wp2_with fail;(with_reducible refine (C6.out _ (HG.out _ HX2.out)).mono ?_);rintro e x3 ⟨rfl,hx3⟩;have HX3:=hIh (HT.out _ _ HX2.out hx3);clear hx3;go_wp2_with fail;(with_reducible refine (C7.out _ (HG.out _ HX3.out)).mono ?_);rintro e x4 ⟨rfl,hx4⟩;have HX4:=hIh (HT.out _ _ HX3.out hx4);clear hx4;obtain ⟨q0,q1,q2,g0,g1,g2⟩:=HS2.out _ HX4.out;go_wp2;refine bodyPost_ret (results_cell_row rfl _ _ w.heap.size 98 #[.string S,.int .i64 2,.slice none 0 0] (0,0) _ rfl (blk_setCell (blk_setCell (blk_setCell (blk_below Hbx.out HX4.out) 0 _) 1 _) 2 _) Tryz.underlying98 rfl (by kernel_rfl)) rfl ?_
     rw [Hres.out,← HHS.out];exact tmres_store (t:=⟨l,2, []⟩) (RdS.nil _ _ _) (fun k hk=>by cases hk) (HB0.out.trans (HX4.out.mono HB0.out.size))
theorem clip_calls (w:World) (A:Option Addr) (n c:Nat) (h:n ≤ c):Calls Tryz.prog 130 #[.slice A n c] w fun e w'=>e = .returned (.slice A n n) ∧ w' = w:=by
 have h1:(n:Int) ≤ c:=by omega
 have h0:(0:Int) ≤ n:=by omega
 go_enter Tryz.func130,Tryz.ntmps130;go_wp2;go_ret;exact ⟨rfl,rfl⟩
theorem sel_clip {B:Nat} {o:Option (List Tm)} {A:Option Addr} {i c:Nat} {ec:Int} {w:World} (h:SelRes B o (.slice A i c) ec w):SelRes B o (.slice A i i) ec w:=by
 rcases h with ⟨l,h1,h2,h3,h4,h5⟩ | h
 ·refine .inl ⟨l,h1,⟨?_,h2.2⟩,fun k hk=>h3 k (by cases A <;> exact hk),h4,h5⟩
  obtain ⟨g1,A2,c2,g2,g3,g4,g5⟩:=h2.1
  cases g2
  exact ⟨g1,A,l.length,rfl,Nat.le_refl _,g4,g5⟩
 ·exact .inr h
theorem bselparse_calls (w:World) (G:Glob w) (t:Str) (ht:t.length ≤ 1048576) :
  Calls Tryz.prog 103 #[.string (sb t)] w fun e w' => ∃ v ec,e = .returned (.tuple #[v,.int .i64 ec]) ∧ SelRes w.heap.size (selParse termB t) v ec w' ∧ Below w.heap.size w w':=by
 by_cases hne:t = []
 ·subst hne
  have hz:(sb []).toList = []:=sb_toL []
  have hz2:(sb []).toList.isEmpty = true:=by rw [hz];rfl
  have Hres:Hid (SelRes w.heap.size (selParse termB []) (.slice none 0 0) 0 w):=(TOwn.nil _ w).sel;generalize sb [] = S at hz hz2;go_enter Tryz.func103,Tryz.ntmps103;go_wp2;go_ret2;exact ⟨_,_,rfl,Hres.out,Below.refl _ _⟩
 have hz:¬ (sb t).toList = []:=by rw [sb_toL];exact hne
 have hz2:(sb t).toList.isEmpty = false:=by
  cases hx:(sb t).toList with
  | nil=>exact absurd hx hz
  | cons a r=>rfl
 have Hpc:=hIh (show Calls Tryz.prog 127 #[.string (sb t),.string (ByteArray.mk #[44])] w _ from lsplitR_calls w G t 44 (by omega));have HG:=hIh G
 have hpl:(pieces 44 t).length ≤ 1048577:=by have:=pieces_small 44 t;omega
 have Hml:Hid (∀ j (h:j < (pieces 44 t).length),(pieces 44 t)[j].length ≤ 1048576):=fun j h=>by have:=pieces_mem (List.getElem_mem h);omega
 have Hpos:Hid (1 ≤ (pieces 44 t).length):=by show _ ≤ _;rw [pieces_count];omega
 have Hok:=hIh (fun (l:List (Tm × Value)) h1 h2 h3=>sel_ok (rd:=termB) (t:=t) (l:=l) hne h1 h2 h3);have Hbad:=hIh (fun (l:List (Tm × Value)) h1 h2=>sel_bad (rd:=termB) (t:=t) (l:=l) hne h1 h2);generalize pieces 44 t = ws at Hpc hpl Hml Hok Hbad Hpos;generalize hS:sb t = S at hz hz2 Hpc;have HS:=hIh hS;clear hS hne G;go_enter Tryz.func103,Tryz.ntmps103;go_wp2_with fail
 with_reducible refine Hpc.out.mono ?_
 rintro e w1 ⟨pv,rfl,hrd,hnw,hw1⟩;obtain ⟨PA,pcap,rfl⟩:=hrd.slice;have H1:=hIh hw1;have Hrd:=hIh hrd;clear hw1 hrd hnw Hpc;go_wp2
 go_loopw [4,14] (fun v4 v6 wr=>PaLoop w1 termB ws v4 v6 wr) (fun _ i _=>ws.length - (intOf i).toNat)
 case atStart=>exact ⟨0, [],rfl,by omega,rfl,TOwn.nil _ _,Below.refl _ _⟩
 case round=>
  obtain ⟨i,done,rfl,hi,hdn,hT,hB⟩:=hrel;have hlen:=PaLoop.len hdn hi;obtain ⟨A,cp,hA⟩:=own_slice hT.own;rw [hlen] at hA;subst hA;have Hlen:=hIh hlen;have HT:=hIh hT;have HB:=hIh hB;have Hdn:=hIh hdn;clear hT hdn hlen
  by_cases hlt:i < ws.length
  ·have hli:(i:Int) < ws.length:=by omega
   have hi0:(0:Int) ≤ i:=(by omega);obtain ⟨bk,off,cc,hpv, -,hbl,hcell⟩:=Hrd.out.some (by intro e;rw [e] at hlt;simp at hlt)
   cases hpv
   have hci:=(hB.cell (p:=⟨bk,off + i,none⟩) hbl).trans (hcell i hlt);have Hrc:=hIh (term_calls wr (HG.out.below (H1.out.trans (HB.out.mono H1.out.size))) ws[i] (Hml.out i hlt));have htk:(ws.take (i + 1)).map termB = (ws.take i).map termB ++ [termB ws[i]]:=(by rw [List.take_add_one,List.getElem?_eq_getElem hlt,List.map_append];rfl);have Htk:=hIh htk;generalize ws[i] = x at hci Hrc Htk;generalize termB x = tm at Hrc Htk;generalize sb x = X at hci Hrc;clear hB hcell htk;go_wp2_with fail;(with_reducible refine Hrc.out.mono ?_);rintro e w2 ⟨vv,rfl,hvv,hvn,hw2⟩;have Hvv:=hIh hvv;have Hvn:=hIh hvn;have H2:=hIh hw2;obtain ⟨VA,vc,rfl⟩:=hvv.slice;obtain ⟨K,hK⟩ : ∃ K,K = sb tm.key:=⟨_,rfl⟩;obtain ⟨hw,hhw⟩ : ∃ k:Int,k = (tm.how:Int):=⟨_,rfl⟩;obtain ⟨n,hn⟩ : ∃ n,n = tm.vals.length:=⟨_,rfl⟩;rw [← hK,← hhw,← hn];rw [← hn] at Hvv Hvn;obtain ⟨XC,hXC⟩ : ∃ XC,XC = [((tm,Value.slice VA n vc):Tm × Value)].flatMap tmC:=⟨_,rfl⟩
   obtain ⟨T,hT0⟩ : ∃ T,T = done.flatMap tmC:=⟨_,rfl⟩
   have Hown:Hid (w2.ownsRow 0 98 3 (.slice A i cp) i T):=by
    show World.ownsRow _ _ _ _ _ _ _;have:=(HT.out.below hw2).own;rw [Hlen.out,← hT0] at this;exact this
   have Hc1:Hid (Rd (w2.alloc (.cells #[.string K,.int .i64 hw,.slice VA n vc] 98)) 3 (.slice (some ⟨w2.heap.size,0,none⟩) 1 1) 1 XC):=by
    show Rd _ _ _ _ _;rw [hXC,hK,hhw];exact rd_tm w2 98 (tm,.slice VA n vc)
   have Hc4:Hid (∀ u ∈ XC,u.oneCell' = true):=(by rw [hXC];exact tm_one (tm,.slice VA n vc) Hvv.out);have HXC:=hIh hXC;have HT0:=hIh hT0;clear hXC hT0 hvv hvn hw2 hK hhw hn;go_wp2_with (at_builtin;refine wpList_append2 _ rfl (.tmp 18) (.tmp 21) 36 rfl 98 (.agg #[.string ⟨#[]⟩,.int .i64 0,.slice none 0 0]) 3 48 Tryz.underlying36 infoTm rfl (by decide) _ i T rfl (Hown.out.alloc _) _ 1 XC rfl ?c1 ?c4 ?c2 ?c3 ?_)
   case c1=>exact Hc1.out
   case c4=>exact Hc4.out
   case c2=>unfold maxLen;omega
   case c3=>omega
   intro v' w3 ho3 hg3 hn3 _;obtain ⟨A',c',rfl⟩:=own_slice ho3
   have Hk:Hid (PaLoop w1 termB ws (.slice A' (i + 1) c') (.int .i64 ((i:Int) + 1)) w3):=by
    have ht2:=TOwn.next (e:=(tm,.slice VA n vc)) HT.out HB.out.size H2.out Hvv.out (fun k hk=>Hvn.out k hk) (by rw [Hlen.out,← HT0.out,← HXC.out];exact ho3) hg3 hn3;refine ⟨i + 1,done ++ [(tm,.slice VA n vc)],rfl,by omega,?_,ht2,?_⟩
    ·rw [List.map_append,Hdn.out,Htk.out];rfl
    ·have h4:Below w1.heap.size w1 w2:=HB.out.trans (H2.out.mono HB.out.size)
     exact (h4.alloc h4.size _).grown hg3 (by have:=h4.size;simp;omega) (fun k hk=>HT.out.new k hk)
   clear ho3 hg3 hn3;go_wp2;go_roundw
   case rel=>exact Hk.out
   case measure=>simp [intOf];omega
  ·have hli:¬ (i:Int) < ws.length:=by omega
   have Hcap:Hid (i ≤ cp):=by
    obtain ⟨-,A2,c2,g2,g3, -⟩:=Rd.of_own HT.out.own;rw [Hlen.out] at g2 g3
    cases g2;exact g3
   have Hall:Hid (done.map Prod.fst = ws.map termB):=(by show _ = _;rw [Hdn.out,List.take_of_length_le (by omega)]);have Hpr:=hIh (bprintsel_calls wr _ done HT.out.row (by intro e;(have h7:=Hlen.out);rw [e] at h7;simp only [List.length_nil] at h7;(have:=Hpos.out);omega) (by have:=Hlen.out;omega));have HW:Hid (Below w.heap.size w wr):=H1.out.trans (hB.mono H1.out.size)
   have Hsel:Hid (∀ W,Below wr.heap.size wr W → SelRes w.heap.size (some (done.map Prod.fst)) (.slice A i cp) 0 W):=fun W hW=>by
    have:=((HT.out.below hW).sel);rcases this with ⟨l,h1,h2,h3,h4,h5⟩ | ⟨h1, -⟩
    ·exact .inl ⟨l,h1,h2,fun k hk=>Nat.le_trans H1.out.size (h3 k hk),fun e he k hk=>Nat.le_trans H1.out.size (h4 e he k hk),h5⟩
    ·cases h1
   clear hi hlt hB;go_wp2_with fail;(with_reducible refine Hpr.out.mono ?_);rintro e w2 ⟨s,ec,rfl,hp,hw2⟩;have H2:=hIh hw2
   by_cases hok:tmsOk done = true
   ·obtain ⟨rfl,rfl⟩:=hp.1 hok
    by_cases htx:selTxt (done.map Prod.fst) = t
    ·have Hres:Hid (selParse termB t = some (done.map Prod.fst)):=Hok.out done Hall.out hok htx
     rw [htx,HS.out];have hb:=beqT' S;have hb2:(S.toList != S.toList) = false:=(by simp);clear hp hok htx hw2 Hok Hbad;have Hclip:=hIh (clip_calls w2 A i cp Hcap.out);go_wp2_with (go_at_call 130;with_reducible refine Hclip.out.mono ?_;rintro e w3 ⟨rfl,hw3⟩;obtain rfl:=hw3);go_ret2;exact ⟨_,_,rfl,by rw [Hres.out];exact sel_clip (Hsel.out _ H2.out),HW.out.trans (H2.out.mono HW.out.size)⟩
    ·have Hres:Hid (selParse termB t = none):=Hbad.out done Hall.out (.inr htx)
     have hb:((sb (selTxt (done.map Prod.fst))).toList == S.toList) = false:=beqF' (by rw [← HS.out];intro e;exact htx (sb_inj.1 e));have hb2:((sb (selTxt (done.map Prod.fst))).toList != S.toList) = true:=(by rw [bne,hb];rfl);generalize sb (selTxt (done.map Prod.fst)) = X at hb hb2;clear hp hok htx hw2 Hok Hbad;go_wp2;go_ret2;exact ⟨_,_,rfl,.inr ⟨Hres.out,by decide⟩,HW.out.trans (H2.out.mono HW.out.size)⟩
   ·have ho2:=(Bool.not_eq_true _).mp hok
    have hec:=hp.2 ho2;have Hres:Hid (selParse termB t = none):=Hbad.out done Hall.out (.inl ho2);have hb:(ec == 0) = false:=(by simpa using hec);have hb2:(ec != 0) = true:=(by simpa using hec);clear hp hok ho2 hw2 Hok Hbad hec;go_wp2;go_ret2;exact ⟨_,_,rfl,.inr ⟨Hres.out,by decide⟩,HW.out.trans (H2.out.mono HW.out.size)⟩
def bb:ByteArray:=⟨#[32,9]⟩
theorem bb_sb:bb = sb [32,9]:=rfl
theorem vr_valid (n:Nat) (h:Lib.validRune (n:Int) = true):Utf8.valid (n:Int) = true:=by
 unfold Lib.validRune at h;have h2:=of_decide_eq_true h;unfold Utf8.valid;simp only [Bool.or_eq_true,Bool.and_eq_true,decide_eq_true_eq];omega
def IrLoop (w wr:World):Prop := ∃ i:Nat,i ≤ 2 ∧ wr = w.iter bb i
theorem idxrune_calls (w:World) (n:Nat) (h0:128 ≤ n) (h1:n ≤ 2147483647) :
  Calls Tryz.prog 93 #[.string bb,.int .i32 (n:Int)] w fun e w'=>e = .returned (.int .i64 (-1)) ∧ Below w.heap.size w w':=by
 have g0:(0:Int) ≤ n:=by omega
 have g0b:decide ((0:Int) ≤ n) = true:=decide_eq_true g0
 have g1:¬ (n:Int) < 128:=by omega
 have g1b:decide ((n:Int) < 128) = false:=decide_eq_false g1;have hbs:bb.size = 2:=rfl
 by_cases hr:n = 65533
 ·subst hr
  have gr:((65533:Int) == 65533) = true:=rfl;have Hst:Hid (IrLoop w (w.iter bb 0)):=⟨0,by omega,rfl⟩;clear h0 h1 g0 g0b
  have g0:(0:Int) ≤ 65533:=by omega
  generalize hS:bb = S at hbs Hst;have HS:=hIh hS;go_enter Tryz.func93,Tryz.ntmps93;go_wp2
  go_loopw [6] (fun _ wr=>IrLoop w wr) (fun _ wr=>2 - wr.iterPos w.heap.size)
  case atStart=>exact Hst.out
  case round=>
   clear Hst;obtain ⟨i,hi,rfl⟩:=hrel
   by_cases hlt:i < 2
   ·obtain ⟨c,hc,hne⟩ : ∃ c:UInt8,([32,9] : Str)[i]? = some c ∧ c.toNat < 128:=by
     rcases (by omega:i = 0 ∨ i = 1) with rfl | rfl
     ·exact ⟨32,rfl,by decide⟩
     ·exact ⟨9,rfl,by decide⟩
    have hnx:=next_low w [32,9] i c hc hne;rw [← bb_sb] at hnx;have Hk:Hid (IrLoop w (w.iter bb (i + 1))):=⟨i + 1,by omega,rfl⟩;have Hpos:Hid (2 - (w.iter bb (i + 1)).iterPos w.heap.size < 2 - (w.iter bb i).iterPos w.heap.size):=(by show _ < _;rw [World.iterPos_iter,World.iterPos_iter];omega);have g3:((c.toNat:Int) == 65533) = false:=(by simp;omega);generalize w.iter bb (i + 1) = W2 at hnx Hk Hpos;generalize w.iter bb i = W1 at hnx Hpos;generalize c.toNat = cn at hnx g3;clear hc hne hS;go_wp2;go_roundw
    case rel=>exact Hk.out
    case measure=>exact Hpos.out
   ·have hnx:=fun ty=>run_next_end (P:=Tryz.prog) w bb i ty (by show ¬ i < 2;exact hlt)
    have Hib:=hIh (iter_bel w bb i);generalize w.iter bb i = W1 at hnx Hib;clear hS;go_wp2;go_ret;exact ⟨rfl,Hib.out⟩
 have g2:((n:Int) == 65533) = false:=by simp;omega
 have Hv:=hIh (fun W=>Tryz.utf8_ValidRune (n:Int) W)
 by_cases hv:Lib.validRune (n:Int) = true
 case neg=>
  have hv2:=(Bool.not_eq_true _).mp hv;rw [hv2] at Hv;clear hv hv2 hr h0 h1;generalize bb = S at hbs;go_enter Tryz.func93,Tryz.ntmps93;go_wp2_with (go_at_call 123;with_reducible refine (Hv.out _).mono ?_;rintro e w1 ⟨rfl,hw1⟩;obtain rfl:=hw1);go_ret;exact ⟨rfl,Below.refl _ _⟩
 rw [hv] at Hv;obtain ⟨e1,e2,e3⟩:=encode_facts (n:Int) (vr_valid n hv) (by omega);generalize hR:Utf8.encode (n:Int) = R at e1 e2 e3
 obtain ⟨c,hc128,hlast⟩ : ∃ c:UInt8,128 ≤ c.toNat ∧ ∀ W,(Instr.index 9 (.string R) (.int .i64 ((R.size:Int) - 1))).run Tryz.prog W = .ok (.int .u8 (c.toNat:Int)) W:=by
  refine ⟨_,e3 (by omega),fun W=>?_⟩
  have h5:=run_ix W R.data.toList (R.size - 1) (R[R.size - 1]'(by omega)) (by
   rw [List.getElem?_eq_getElem (by
                    have:R.data.toList.length = R.size:=(by rw [Array.length_toList];rfl)
                    omega)]
   rfl)
  rw [← of_sb] at h5
  rwa [show ((R.size - 1:Nat):Int) = (R.size:Int) - 1 by omega] at h5
 have Hib:=hIh (fun W=>Tryz.strings_IndexByte ByteArray.empty (c.toNat:Int) W);rw [show Lib.indexByte ByteArray.empty.data.toList (c.toNat:Int).toNat.toUInt8 = -1 from rfl] at Hib;have h9:∀ W,(Instr.index 9 (.string bb) (.int .i64 1)).run Tryz.prog W = .ok (.int .u8 9) W:=fun W=>run_ix W [32,9] 1 9 rfl;have h10:∀ W,(Instr.slice 9 (.string bb) (some (.int .i64 2)) none none).run Tryz.prog W = .ok (.string ByteArray.empty) W:=fun W=>run_slF W [32,9] 2 (by simp)
 have gc:((9:Int) == c.toNat) = false:=by simp;omega
 have gc2:((9:Int) != c.toNat) = true:=by simp;omega
 generalize c.toNat = cn at hlast Hib gc gc2;generalize bb = S at hbs h9 h10;clear e3 hc128 hv hr;rcases (by omega:R.size = 2 ∨ R.size = 3 ∨ R.size = 4) with h | h | h
 ·have hl2:∀ W,(Instr.index 9 (.string R) (.int .i64 1)).run Tryz.prog W = .ok (.int .u8 (cn:Int)) W:=by rw [h] at hlast;exact hlast
  have hn:R.size = 2:=h;have hq9:=h9;clear e1 e2 hlast h;go_enter Tryz.func93,Tryz.ntmps93;go_wp2_with (go_at_call 123;with_reducible refine (Hv.out _).mono ?_;rintro e w1 ⟨rfl,hw1⟩;obtain rfl:=hw1);go_step3;go_wp2
  go_loop [9] (fun v9=>v9 = .int .i64 1) (fun _=>0)
  case atStart=>rfl
  case round=>
   subst hrel;go_wp2;go_step3;go_wp2;go_quiet (fail);go_wp2;clear h0 h1 g0 g0b g1 g1b g2 hR Hv gc gc2 h9 hq9;have hq1:IntKind.i64.wrap (2:Int) = 2:=(by decide);have hq2:IntKind.i64.wrap ((1:Int) + 1) = 2:=(by decide)
   go_region_held3 (fun W=>Below w1.heap.size w1 W) (first | exact drewB (Below.refl _ _) 1 | exact drewB (drewB (Below.refl _ _) _) 1 | assumption | (refine Below.trans ?_ ?_ <;> assumption))
    ((go_at_call 122;with_reducible refine (Hib.out _).mono ?_;rintro e w2 ⟨rfl,hw2⟩;obtain rfl:=hw2))
   all_goals (go_wp2;rw [Exit.noGoto_ret];go_wp2;rw [Exit.noGoto_ret];go_wp2;go_ret;exact ⟨rfl,by assumption⟩)
 ·have hn:R.size = 3:=h
  clear e1 e2 h;go_enter Tryz.func93,Tryz.ntmps93;go_wp2_with (go_at_call 123;with_reducible refine (Hv.out _).mono ?_;rintro e w1 ⟨rfl,hw1⟩;obtain rfl:=hw1);go_step3;go_wp2
  go_loop [9] (fun v9=>v9 = .int .i64 2) (fun _=>0)
  case atStart=>rfl
  case round=>
   subst hrel;go_wp2;go_ret;exact ⟨rfl,Below.refl _ _⟩
 ·have hn:R.size = 4:=h
  clear e1 e2 h;go_enter Tryz.func93,Tryz.ntmps93;go_wp2_with (go_at_call 123;with_reducible refine (Hv.out _).mono ?_;rintro e w1 ⟨rfl,hw1⟩;obtain rfl:=hw1);go_step3;go_wp2
  go_loop [9] (fun v9=>v9 = .int .i64 3) (fun _=>0)
  case atStart=>rfl
  case round=>
   subst hrel;go_wp2;go_ret;exact ⟨rfl,Below.refl _ _⟩
theorem nextR (wr:World) (k:Nat) (l:Str) (i:Nat) (hk:wr.heap[k]? = some (.stringIter (sb l) i)) (hi:i < l.length) :
  ∃ r wd:Nat,(∀ ty,(Instr.next (.pointer (some ⟨k,0,none⟩)) true ty).run Tryz.prog wr = .ok (.tuple #[.bool true,.int .i64 i,.int .i32 (r:Int)]) (wr.iterAt k (sb l) (i + wd))) ∧ 1 ≤ wd ∧ i + wd ≤ l.length ∧ r ≤ 2147483647 ∧
   ((∃ c,l[i]? = some c ∧ c.toNat < 128 ∧ r = c.toNat ∧ wd = 1) ∨ (128 ≤ r ∧ ∀ j b,i ≤ j → j < i + wd → l[j]? = some b → 128 ≤ b.toNat)):=by
 have hs:i < (sb l).size:=by rw [sb_size];exact hi
 refine ⟨(Utf8.decode (sb l) i).1,(Utf8.decode (sb l) i).2,fun ty=>Lib.run_next_any_at wr k (sb l) i ty hk hs,by rw [Lib.decode_N];exact Lib.decodeN_ge1 _ _ _ _ _,?_,decode_le _ _,?_⟩
 ·rw [Lib.decode_N,sb_toList]
  obtain ⟨g1,g2,g3,g4⟩:=Lib.decodeN_conts (l.length - i) (l.getD i 0).toNat (l.getD (i + 1) 0).toNat (l.getD (i + 2) 0).toNat (l.getD (i + 3) 0).toNat
  omega
 ·by_cases ha:l[i].toNat < 128
  ·left
   have:=decode_ascii (sb l) i hs ha;rw [this];exact ⟨l[i],List.getElem?_eq_getElem hi,ha,rfl,rfl⟩
  ·right
   refine ⟨(decode_high (sb l) i hs (by show 128 ≤ l[i].toNat;omega)).1,?_⟩;have hd:=Lib.decode_N (sb l) i;rw [sb_toList] at hd
   obtain ⟨g1,g2,g3,g4⟩:=Lib.decodeN_conts (l.length - i) (l.getD i 0).toNat (l.getD (i + 1) 0).toNat (l.getD (i + 2) 0).toNat (l.getD (i + 3) 0).toNat
   rw [← hd] at g1 g2 g3 g4;intro j b hij hj hb;obtain ⟨hjl,hb⟩:=List.getElem?_eq_some_iff.1 hb;have hg:∀ q,q < l.length → l.getD q 0 = l[q]!:=fun q hq=>(by simp [List.getD,hq]);rcases (by omega:j = i ∨ j = i + 1 ∨ j = i + 2 ∨ j = i + 3) with rfl | rfl | rfl | rfl
   ·rw [← hb];omega
   ·have:=(g1 (by omega)).1
    simp only [List.getD,List.getElem?_eq_getElem hjl,Option.getD_some] at this;rw [← hb];omega
   ·have:=(g2 (by omega)).1
    simp only [List.getD,List.getElem?_eq_getElem hjl,Option.getD_some] at this;rw [← hb];omega
   ·have:=(g3 (by omega)).1
    simp only [List.getD,List.getElem?_eq_getElem hjl,Option.getD_some] at this;rw [← hb];omega
theorem blank_low {b:UInt8} (h:128 ≤ b.toNat):blank b = false:=by
 cases hb:blank b with
 | false=>rfl
 | true=>
  simp only [blank,Bool.or_eq_true,beq_iff_eq] at hb;rcases hb with rfl | rfl
  ·have:(32:UInt8).toNat = 32:=rfl
   omega
  ·have:(9:UInt8).toNat = 9:=rfl
   omega
theorem blank_iff (b:UInt8):blank b = true ↔ b.toNat = 32 ∨ b.toNat = 9:=by
 simp only [blank,Bool.or_eq_true,beq_iff_eq]
 constructor
 ·rintro (rfl | rfl)
  ·exact .inl rfl
  ·exact .inr rfl
 ·rintro (h | h)
  ·exact .inl (UInt8.toNat_inj.1 h)
  ·exact .inr (UInt8.toNat_inj.1 h)
def iaR (s:Str):Int:=if s.all nb then -1 else ((s.takeWhile nb).length:Int)
theorem iaR_lib:∀ s:Str,Lib.indexAny s [32,9] = iaR s
 | []=>rfl
 | b :: r=>by
  have ih:=iaR_lib r;unfold Lib.indexAny;rw [blank_cs]
  by_cases h:blank b = true
  ·rw [if_pos h]
   have h2:nb b = false:=(by simp [nb,h]);simp [iaR,h2]
  ·have h2:nb b = true:=by simp [nb,h]
   rw [if_neg h,ih];unfold iaR;rw [List.all_cons,h2,Bool.true_and,List.takeWhile_cons,h2]
   by_cases h3:r.all nb = true
   ·rw [if_pos h3,if_pos h3];rfl
   ·rw [if_neg h3,if_neg h3,if_neg]
    ·simp
    ·intro e
     have e2:((r.takeWhile nb).length:Int) = -1:=(by simp at e);omega
theorem iaR_hit {s:Str} {i:Nat} {c:UInt8} (h:∀ (j:Nat) (b:UInt8),j < i → s[j]? = some b → blank b = false) (hc:s[i]? = some c) (hb:blank c = true):iaR s = i:=by
 induction s generalizing i with
 | nil=>simp at hc
 | cons a r ih=>
  cases i with
  | zero=>
   have:a = c:=(by simpa using hc);subst this;have h2:nb a = false:=(by simp [nb,hb]);simp [iaR,h2]
  | succ i=>
   have ha:=h 0 a (by omega) rfl;have h2:nb a = true:=(by simp [nb,ha]);have h3:=ih (i:=i) (fun j b hj hb=>h (j + 1) b (by omega) (by simpa using hb)) (by simpa using hc);unfold iaR at h3 ⊢;rw [List.all_cons,h2,Bool.true_and,List.takeWhile_cons,h2]
   split at h3
   ·omega
   ·rename_i h4
    rw [if_neg h4];simp only [if_true,List.length_cons];omega
theorem iaR_none {s:Str} (h:∀ (j:Nat) (b:UInt8),s[j]? = some b → blank b = false):iaR s = -1:=by
 unfold iaR;rw [if_pos];rw [List.all_eq_true];intro b hb;obtain ⟨j,hj⟩:=List.mem_iff_getElem?.1 hb;simp [nb,h j b hj]
theorem idxlow_calls (w:World) (n:Nat) (h:n < 128):Calls Tryz.prog 93 #[.string bb,.int .i32 (n:Int)] w fun e w'=>(∃ r:Int,e = .returned (.int .i64 r) ∧ ((n = 32 ∨ n = 9) → 0 ≤ r) ∧ (¬ (n = 32 ∨ n = 9) → r = -1)) ∧ Below w.heap.size w w':=by
 refine (Tryz.strings_IndexRune_ascii bb (n:Int) w (by omega) (by omega)).mono ?_;rintro e w' ⟨rfl,rfl⟩;refine ⟨⟨_,rfl,?_,?_⟩,Below.refl _ _⟩
 ·rintro (rfl | rfl) <;> decide
 ·intro hn
  have key:∀ m:Fin 128, ¬ (m.val = 32 ∨ m.val = 9) → Lib.indexByte bb.data.toList ((m.val:Int)).toNat.toUInt8 = -1:=by decide +kernel
  exact key ⟨n,h⟩ hn
def IaLoop (w:World) (s:Str) (wr:World):Prop := ∃ i:Nat,i ≤ s.length ∧ wr.heap[w.heap.size]? = some (.stringIter (sb s) i) ∧ (∀ (j:Nat) (b:UInt8),j < i → s[j]? = some b → blank b = false) ∧ Below w.heap.size w wr
theorem sua_calls (w:World) (n:Nat):Calls Tryz.prog 94 #[.int .i64 (n:Int)] w fun e w'=>e = .returned (.bool (decide (8 < n))) ∧ w' = w:=by
 by_cases h:8 < n
 ·rw [decide_eq_true h]
  have g:(8:Int) < n:=by omega
  have gb:decide ((8:Int) < n) = true:=decide_eq_true g;clear h;go_enter Tryz.func94,Tryz.ntmps94;go_wp2;go_ret;exact ⟨rfl,rfl⟩
 ·rw [decide_eq_false h]
  have g:¬ (8:Int) < n:=by omega
  have gb:decide ((8:Int) < n) = false:=decide_eq_false g;clear h;go_enter Tryz.func94,Tryz.ntmps94;go_wp2;go_ret;exact ⟨rfl,rfl⟩
theorem lindexany_calls (w:World) (s:Str) (hs:s.length ≤ 4194304):Calls Tryz.prog 45 #[.string (sb s),.string bb] w fun e w'=>e = .returned (.int .i64 (iaR s)) ∧ Below w.heap.size w w':=by
 by_cases h8:8 < s.length
 ·refine (Tryz.strings_IndexAny_long (zero_of_info (P:=Tryz.prog) (n:=256) (by kernel_rfl)).1 (sb s) bb w (by decide) (by rw [sb_size];exact h8) (by rw [sb_size];omega) (by decide) ?_).mono ?_
  ·intro j b hb
   have:b ∈ ([32,9] : Str):=List.mem_of_getElem? hb;simp only [List.mem_cons,List.not_mem_nil,or_false] at this;rcases this with rfl | rfl <;> decide
  ·rintro e w' ⟨rfl,rfl⟩
   refine ⟨?_,((Below.refl _ _).alloc (Nat.le_refl _) _).alloc (by simp) _⟩;rw [sb_toList,← iaR_lib];rfl
 ·have hsz:(sb s).size = s.length:=sb_size s
  have hbs:bb.size = 2:=rfl
  have hbn:¬ bb.toList = []:=by rw [bb_sb,sb_toL];decide
  have hbn2:bb.toList.isEmpty = false:=by rw [bb_sb,sb_toL];rfl
  have hbn3:(bb.toList == []) = false:=by rw [bb_sb,sb_toL];rfl
  have Hsu:=hIh (fun W=>sua_calls W s.length);rw [decide_eq_false h8] at Hsu;have Hst:Hid (IaLoop w s (w.iter (sb s) 0)):=⟨0,by omega,World.iter_heap _ _ _,fun j b h=>by omega,iter_bel _ _ _⟩;have Hlow:=hIh idxlow_calls;have Hhigh:=hIh idxrune_calls
  have hnx:∀ (wr:World) (i:Nat),wr.heap[w.heap.size]? = some (.stringIter (sb s) i) → i < s.length → ∃ r wd:Nat,(∀ ty,(Instr.next (.pointer (some ⟨w.heap.size,0,none⟩)) true ty).run Tryz.prog wr = .ok (.tuple #[.bool true,.int .i64 i,.int .i32 (r:Int)]) (wr.iterAt w.heap.size (sb s) (i + wd))) ∧ 1 ≤ wd ∧ i + wd ≤ s.length ∧ r ≤ 2147483647 ∧
   ((∃ c,s[i]? = some c ∧ c.toNat < 128 ∧ r = c.toNat ∧ wd = 1) ∨ (128 ≤ r ∧ ∀ j b,i ≤ j → j < i + wd → s[j]? = some b → 128 ≤ b.toNat)):=fun wr i h1 h2=>nextR wr w.heap.size s i h1 h2
  have Hnx:=hIh hnx;generalize bb = B at hbs hbn hbn2 hbn3 Hlow Hhigh;generalize hS:sb s = S at hsz Hst Hnx;have HS:=hIh hS;clear h8 hnx hS;go_enter Tryz.func45,Tryz.ntmps45;go_wp2_with (go_at_call 94;with_reducible refine (Hsu.out _).mono ?_;rintro e w1 ⟨rfl,hw1⟩;obtain rfl:=hw1.symm)
  go_loopw [9] (fun _ wr=>IaLoop w s wr) (fun _ wr=>s.length - wr.iterPos w.heap.size)
  case atStart=>rw [← HS.out] at Hst ⊢;exact Hst.out
  case round=>
   clear Hst;obtain ⟨i,hi,hit,hno,hB⟩:=hrel;rw [HS.out] at hit;have hwk:=blk_lt hit
   by_cases hlt:i < s.length
   ·obtain ⟨r,wd,hnx,hw1,hw2,hr,hc⟩:=Hnx.out wr i hit hlt
    have Hit2:=hIh (Lib.iterAt_heap wr w.heap.size S i (i + wd) hit);have HB2:=hIh (Lib.below_iterAt hB (k:=w.heap.size) (Nat.le_refl _) S (i + wd))
    have Hpos:Hid (∀ W,Below (wr.iterAt w.heap.size S (i + wd)).heap.size (wr.iterAt w.heap.size S (i + wd)) W → s.length - W.iterPos w.heap.size < s.length - wr.iterPos w.heap.size):=fun W hW=>by
     have h5:=blk_below Hit2.out hW;unfold World.iterPos;rw [h5,hit];simp only;omega
    have Hk:Hid ((∀ (j:Nat) (b:UInt8),j < i + wd → s[j]? = some b → blank b = false) → ∀ W,Below (wr.iterAt w.heap.size S (i + wd)).heap.size (wr.iterAt w.heap.size S (i + wd)) W → IaLoop w s W):=fun h W hW=>
     ⟨i + wd,hw2,by rw [HS.out];exact blk_below Hit2.out hW,h,HB2.out.trans (hW.mono HB2.out.size)⟩
    generalize wr.iterAt w.heap.size S (i + wd) = W2 at hnx Hit2 HB2 Hpos Hk;rcases hc with ⟨c,hc,hca,rfl,rfl⟩ | ⟨hr1,hall⟩
    ·have Hc:=hIh (Hlow.out W2 c.toNat hca)
     by_cases hbl:blank c = true
     ·have hn:=(blank_iff c).1 hbl
      have Hres:=hIh (iaR_hit hno hc hbl);generalize c.toNat = cn at hnx Hc hn hr;clear hno hc hbl hca Hk hB Hnx;go_wp2_with (go_at_call 93;with_reducible refine Hc.out.mono ?_;rintro e w1 ⟨⟨q,rfl,hq, -⟩,hw1⟩;have hq0:=hq hn;have hqb:decide ((0:Int) ≤ q) = true:=decide_eq_true hq0;clear hq);go_ret;exact ⟨by rw [Hres.out];rfl,HB2.out.trans (hw1.mono HB2.out.size)⟩
     ·have hn:¬ (c.toNat = 32 ∨ c.toNat = 9):=fun h=>hbl ((blank_iff c).2 h)
      have Hk2:=hIh (Hk.out (fun j b hj hb=>by
       by_cases e:j = i
       ·subst e;rw [hc] at hb;cases hb;exact (Bool.not_eq_true _).mp hbl
       ·exact hno j b (by omega) hb))
      generalize c.toNat = cn at hnx Hc hn hr;clear hno hc hbl hca Hk hB Hnx;go_wp2_with (go_at_call 93;with_reducible refine Hc.out.mono ?_;rintro e w1 ⟨⟨q,rfl, -,hq⟩,hw1⟩;obtain rfl:=hq hn);go_roundw
      case rel=>exact Hk2.out _ hw1
      case measure=>exact Hpos.out _ hw1
    ·have Hc:=hIh (Hhigh.out W2 r hr1 hr)
     have Hk2:=hIh (Hk.out (fun j b hj hb=>by
      by_cases e:j < i
      ·exact hno j b e hb
      ·exact blank_low (hall j b (by omega) hj hb)))
     clear hno hall Hk hB Hnx;go_wp2_with (go_at_call 93;with_reducible refine Hc.out.mono ?_;rintro e w1 ⟨rfl,hw1⟩);go_roundw
     case rel=>exact Hk2.out _ hw1
     case measure=>exact Hpos.out _ hw1
   ·have hnx:∀ ty,(Instr.next (.pointer (some ⟨w.heap.size,0,none⟩)) true ty).run Tryz.prog wr = .ok (.tuple #[.bool false]) wr:=fun ty=>Lib.run_next_end_at wr w.heap.size S i ty hit (by rw [hsz];exact hlt)
    have Hres:Hid (iaR s = -1):=iaR_none fun j b hb=>hno j b (by have:=(List.getElem?_eq_some_iff.1 hb).1;omega) hb;have HB:=hIh hB;clear hno hit hi hB;go_wp2;go_ret;exact ⟨by rw [Hres.out];rfl,HB.out⟩
end Go.Proofs.YtpfkkagkbneilaaGreatDoor
