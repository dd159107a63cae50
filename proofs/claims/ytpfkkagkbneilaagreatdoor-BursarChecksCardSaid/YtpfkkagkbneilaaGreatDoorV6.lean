/- Texts G1, G2, G3, G4, G5, G6, G7 of the proof of BursarChecks, joined. -/
import Derived.Test.YtpfkkagkbneilaaGreatDoorV4
import Derived.Test.YtpfkkagkbneilaaGreatDoorV5
import Derived.Lib.BitFns
import Derived.Deep.CutBlock
import Derived.Shelf.Strings.SlTrimAscii
namespace Go.Proofs.YtpfkkagkbneilaaGreatDoor
open Go.RowKit
set_option linter.unusedVariables false
set_option linter.unusedSimpArgs false
set_option maxRecDepth 100000
set_option maxHeartbeats 25600000
structure KInv (y1 y0 U n1 q r:Nat):Prop where
 y1lo:2147483648 ≤ y1
 y1hi:y1 < 4294967296
 y0hi:y0 < 4294967296
 n1hi:n1 < 4294967296
 hU:U < y1 * 4294967296 + y0
 inv:q * y1 + r = U
 ge:(U * 4294967296 + n1) / (y1 * 4294967296 + y0) ≤ q
 qhi:q ≤ 4294967297
 rhi:r < 4294967296
theorem k_start {y1 y0 U n1:Nat} (y1lo:2147483648 ≤ y1) (y1hi:y1 < 4294967296) (y0hi:y0 < 4294967296) (n1hi:n1 < 4294967296) (hU:U < y1 * 4294967296 + y0):KInv y1 y0 U n1 (U / y1) (U % y1):=by
 have h1:=Nat.div_add_mod U y1;have h2:=Nat.mod_lt U (show 0 < y1 by omega);have h3:y1 * (U / y1) = U / y1 * y1:=Nat.mul_comm _ _;refine ⟨y1lo,y1hi,y0hi,n1hi,hU,by omega,?_,?_,by omega⟩
 ·rw [← Nat.lt_succ_iff,Nat.div_lt_iff_lt_mul (by omega)]
  generalize U / y1 = q at h1 h3
  have e1:(q + 1) * (y1 * 4294967296 + y0) = (q * y1 + y1) * 4294967296 + (q + 1) * y0:=by rw [Nat.mul_add,← Nat.mul_assoc,Nat.succ_mul]
  rw [Nat.succ_eq_add_one,e1]
  have:U + 1 ≤ q * y1 + y1:=by omega
  have h4:(U + 1) * 4294967296 ≤ (q * y1 + y1) * 4294967296:=Nat.mul_le_mul_right _ this;omega
 ·generalize U / y1 = q at h1 h3
  rcases Nat.lt_or_ge q 4294967298 with h | h
  ·omega
  ·have h5:4294967298 * y1 ≤ q * y1:=Nat.mul_le_mul_right _ h
   omega
theorem k_lt {y1 y0 U n1 q r:Nat} (h:KInv y1 y0 U n1 q r):(U * 4294967296 + n1) / (y1 * 4294967296 + y0) < 4294967296:=by
 have:=h.hU;have:=h.n1hi;have:=h.y1lo;rw [Nat.div_lt_iff_lt_mul (by omega)];have h1:(U + 1) * 4294967296 ≤ (y1 * 4294967296 + y0) * 4294967296:=Nat.mul_le_mul_right _ (by omega);rw [Nat.mul_comm 4294967296];omega
theorem k_down {y1 y0 U n1 q r:Nat} (h:KInv y1 y0 U n1 q r) (hc:4294967296 ≤ q ∨ 4294967296 * r + n1 < q * y0) :
  1 ≤ q ∧ (q - 1) * y1 + (r + y1) = U ∧ (U * 4294967296 + n1) / (y1 * 4294967296 + y0) ≤ q - 1 ∧ q - 1 ≤ 4294967296 ∧ r + y1 < 8589934592:=by
 have hlt:=k_lt h;have hge:=h.ge;have:=h.y1hi;have:=h.rhi;have:=h.qhi;have:=h.y1lo
 have hgt:(U * 4294967296 + n1) / (y1 * 4294967296 + y0) < q:=by
  rcases hc with h1 | h1
  ·omega
  ·rw [Nat.div_lt_iff_lt_mul (by omega)]
   have e1:q * (y1 * 4294967296 + y0) = q * y1 * 4294967296 + q * y0:=(by rw [Nat.mul_add,← Nat.mul_assoc]);rw [e1,← h.inv,Nat.add_mul];omega
 obtain ⟨p,rfl⟩ : ∃ p,q = p + 1:=⟨q - 1,by have:=Nat.lt_of_le_of_lt (Nat.zero_le _) hgt;omega⟩;have hi:=h.inv;rw [Nat.succ_mul] at hi;refine ⟨by omega,by rw [Nat.add_sub_cancel];omega,by omega,by omega,by omega⟩
theorem k_next {y1 y0 U n1 q r:Nat} (h:KInv y1 y0 U n1 q r) (hc:4294967296 ≤ q ∨ 4294967296 * r + n1 < q * y0) (hr:r + y1 < 4294967296):KInv y1 y0 U n1 (q - 1) (r + y1):=by
 obtain ⟨h1,h2,h3,h4,h5⟩:=k_down h hc;exact ⟨h.y1lo,h.y1hi,h.y0hi,h.n1hi,h.hU,h2,h3,by omega,hr⟩
structure KFin (y1 y0 U n1 q:Nat):Prop where
 hq:q = (U * 4294967296 + n1) / (y1 * 4294967296 + y0)
 lt:q < 4294967296
 le:q * (y1 * 4294967296 + y0) ≤ U * 4294967296 + n1
 rest:U * 4294967296 + n1 - q * (y1 * 4294967296 + y0) = (U * 4294967296 + n1) % (y1 * 4294967296 + y0)
theorem k_fin {y1 y0 U n1 q r:Nat} (hlt:(U * 4294967296 + n1) / (y1 * 4294967296 + y0) < 4294967296) (hy:2147483648 ≤ y1) (hinv:q * y1 + r = U) (hge:(U * 4294967296 + n1) / (y1 * 4294967296 + y0) ≤ q) (hle:q * y0 ≤ 4294967296 * r + n1):KFin y1 y0 U n1 q:=by
 have e1:q * (y1 * 4294967296 + y0) = q * y1 * 4294967296 + q * y0:=by rw [Nat.mul_add,← Nat.mul_assoc]
 have h1:q * (y1 * 4294967296 + y0) ≤ U * 4294967296 + n1:=by
  rw [e1,← hinv,Nat.add_mul];omega
 have hq:q = (U * 4294967296 + n1) / (y1 * 4294967296 + y0):=Nat.le_antisymm ((Nat.le_div_iff_mul_le (by omega)).2 h1) hge;refine ⟨hq,by omega,h1,?_⟩;have h2:=Nat.div_add_mod (U * 4294967296 + n1) (y1 * 4294967296 + y0);rw [← hq,Nat.mul_comm] at h2;omega
theorem k_stop {y1 y0 U n1 q r:Nat} (h:KInv y1 y0 U n1 q r) (h1:q < 4294967296) (h2:q * y0 ≤ 4294967296 * r + n1):KFin y1 y0 U n1 q:=
 k_fin (k_lt h) h.y1lo h.inv h.ge h2
theorem k_break {y1 y0 U n1 q r:Nat} (h:KInv y1 y0 U n1 q r) (hc:4294967296 ≤ q ∨ 4294967296 * r + n1 < q * y0) (hr:4294967296 ≤ r + y1):KFin y1 y0 U n1 (q - 1):=by
 obtain ⟨h1,h2,h3,h4,h5⟩:=k_down h hc;refine k_fin (k_lt h) h.y1lo h2 h3 ?_;have h6:(q - 1) * y0 ≤ 4294967296 * y0:=Nat.mul_le_mul_right _ h4;have:=h.y0hi;have h7:4294967296 * 4294967296 ≤ 4294967296 * (r + y1):=Nat.mul_le_mul_left _ hr;omega
theorem bitLenAux_lt:∀ (f x:Nat),x < 2 ^ f → x < 2 ^ Lib.bitLenAux f x
 | 0,x,h=>by simpa [Lib.bitLenAux] using h
 | f + 1,x,h=>by
  unfold Lib.bitLenAux
  split
  ·rename_i h0;subst h0;exact Nat.pow_pos (by decide)
  ·have h1:x / 2 < 2 ^ f:=by rw [Nat.pow_succ] at h;omega
   have:=bitLenAux_lt f (x / 2) h1;rw [Nat.add_comm,Nat.pow_succ];omega
theorem bitLenAux_ge:∀ (f x:Nat),x ≠ 0 → x < 2 ^ f → 2 ^ (Lib.bitLenAux f x - 1) ≤ x ∧ 1 ≤ Lib.bitLenAux f x
 | 0,x,h0,h=>by exfalso;simp at h;exact h0 h
 | f + 1,x,h0,h=>by
  unfold Lib.bitLenAux;rw [if_neg h0]
  have h1:x / 2 < 2 ^ f:=by rw [Nat.pow_succ] at h;omega
  refine ⟨?_,by omega⟩;rw [Nat.add_sub_cancel_left]
  by_cases h2:x / 2 = 0
  ·rw [h2]
   have:Lib.bitLenAux f 0 = 0:=by cases f <;> simp [Lib.bitLenAux]
   rw [this];simp;omega
  ·obtain ⟨h3,h4⟩:=bitLenAux_ge f (x / 2) h2 h1
   have h5:2 ^ Lib.bitLenAux f (x / 2) = 2 ^ (Lib.bitLenAux f (x / 2) - 1) * 2:=(by rw [← Nat.pow_succ];congr 1;omega);rw [h5];omega
theorem norm_shift {y:Nat} (h0:0 < y) (h:y < 9223372036854775808):∃ s:Nat,1 ≤ s ∧ s ≤ 63 ∧ (64:Int) - (Lib.bitLen y:Int) = (s:Int) ∧ 9223372036854775808 ≤ y * 2 ^ s ∧ y * 2 ^ s < 18446744073709551616:=by
 have h1:y < 2 ^ Lib.bitLen y:=bitLenAux_lt 64 y (by omega);obtain ⟨h2,h3⟩:=bitLenAux_ge 64 y (by omega) (by omega);have h4:Lib.bitLen y ≤ 63:=Lib.bitLen_le y 63 (by decide) (by omega);have h3:1 ≤ Lib.bitLen y:=h3;have h2:2 ^ (Lib.bitLen y - 1) ≤ y:=h2;generalize Lib.bitLen y = L at *;refine ⟨64 - L,by omega,by omega,by omega,?_,?_⟩
 ·have:2 ^ (L - 1) * 2 ^ (64 - L) ≤ y * 2 ^ (64 - L):=Nat.mul_le_mul_right _ h2
  rw [← Nat.pow_add,show L - 1 + (64 - L) = 63 by omega] at this;exact this
 ·have:y * 2 ^ (64 - L) < 2 ^ L * 2 ^ (64 - L):=Nat.mul_lt_mul_of_pos_right h1 (Nat.pow_pos (by decide))
  rw [← Nat.pow_add,show L + (64 - L) = 64 by omega] at this;exact this
theorem shifted {hi lo y s:Nat} (hs1:1 ≤ s) (hs:s ≤ 63) (hhi:hi < y) (hlo:lo < 18446744073709551616) (hy:y * 2 ^ s < 18446744073709551616) :
  hi * 2 ^ s ||| lo / 2 ^ (64 - s) = hi * 2 ^ s + lo / 2 ^ (64 - s) ∧ hi * 2 ^ s + lo / 2 ^ (64 - s) < y * 2 ^ s ∧ (hi * 2 ^ s + lo / 2 ^ (64 - s)) * 18446744073709551616 + lo * 2 ^ s % 18446744073709551616 = (hi * 18446744073709551616 + lo) * 2 ^ s:=by
 have hp:2 ^ s * 2 ^ (64 - s) = 18446744073709551616:=by rw [← Nat.pow_add,show s + (64 - s) = 64 by omega]
 have hps:0 < 2 ^ s:=Nat.pow_pos (by decide)
 have hq:lo / 2 ^ (64 - s) < 2 ^ s:=by
  rw [Nat.div_lt_iff_lt_mul (Nat.pow_pos (by decide)),hp];exact hlo
 refine ⟨?_,?_,?_⟩
 ·rw [Nat.mul_comm,← Nat.two_pow_add_eq_or_of_lt hq]
 ·have:(hi + 1) * 2 ^ s ≤ y * 2 ^ s:=Nat.mul_le_mul_right _ hhi
  rw [Nat.add_mul,Nat.one_mul] at this;omega
 ·have e:lo * 2 ^ s = lo / 2 ^ (64 - s) * 18446744073709551616 + lo * 2 ^ s % 18446744073709551616:=by
   have h1:=Nat.div_add_mod (lo * 2 ^ s) 18446744073709551616
   have h2:lo * 2 ^ s / 18446744073709551616 = lo / 2 ^ (64 - s):=by
    rw [← hp,Nat.mul_comm lo,Nat.mul_div_mul_left _ _ hps]
   rw [h2] at h1;omega
  rw [Nat.add_mul,Nat.add_mul (hi * 18446744073709551616),e,Nat.mul_right_comm];omega
theorem div_two' {Y U n1 n0 q1 q0 R:Nat} (e1:Y * q1 + R = U * 4294967296 + n1) (e2:q0 = (R * 4294967296 + n0) / Y) (hY0:0 < Y) :
  q1 * 4294967296 + q0 = (U * 18446744073709551616 + (n1 * 4294967296 + n0)) / Y ∧ (R * 4294967296 + n0) % Y = (U * 18446744073709551616 + (n1 * 4294967296 + n0)) % Y:=by
 have e3:U * 18446744073709551616 + (n1 * 4294967296 + n0) = Y * (q1 * 4294967296) + (R * 4294967296 + n0):=by
  rw [← Nat.mul_assoc];generalize Y * q1 = a at e1 ⊢;clear e2 hY0;omega
 rw [e3,Nat.mul_add_div hY0,Nat.mul_add_mod,← e2];exact ⟨rfl,rfl⟩
theorem div_two {Y U N q1 q0:Nat} {y1 y0 n1 n0:Nat} (hY:Y = y1 * 4294967296 + y0) (hN:N = n1 * 4294967296 + n0) (hn0:n0 < 4294967296) (hy:2147483648 ≤ y1)
  (h1:KFin y1 y0 U n1 q1) (h0:KFin y1 y0 ((U * 4294967296 + n1) % Y) n0 q0) :
  q1 * 4294967296 + q0 = (U * 18446744073709551616 + N) / Y ∧ ((U * 4294967296 + n1) % Y * 4294967296 + n0) % Y = (U * 18446744073709551616 + N) % Y:=by
 subst hN
 have hY0:0 < Y:=by omega
 have e1:=Nat.div_add_mod (U * 4294967296 + n1) Y;have e4:=h1.hq;have e2:=h0.hq;rw [← hY] at e4 e2;rw [← e4] at e1;clear h1 h0 e4 hY;exact div_two' e1 e2 hY0
theorem wraps_u64 (n:Int) (h₀ : 0 ≤ n) (h₁ : n < 2 ^ 64):IntKind.u64.wrap n = n:=by rw [IntKind.wrap_u64];omega
theorem u64_and32 (a:Nat) (h:a < 18446744073709551616):bits .and .u64 (a:Int) 4294967295 = ((a % 4294967296:Nat):Int):=by
 have h1:=bits_mask .u64 64 (by decide) wraps_u64 32 (by decide) (a:Int) (by omega) (by omega)
 have e:(2:Int) ^ 32 - 1 = 4294967295:=by decide
 have e2:(2:Int) ^ 32 = 4294967296:=by decide
 rw [e,e2] at h1;rw [h1];omega
theorem u64_or (a b:Nat) (ha:a < 18446744073709551616) (hb:b < 18446744073709551616):bits .or .u64 (a:Int) (b:Int) = ((a ||| b:Nat):Int):=
 (bits_nat .u64 64 (by decide) wraps_u64 a b (by omega) (by omega)).2
theorem mulpow_cast (a s:Nat):(a:Int) * 2 ^ s = ((a * 2 ^ s:Nat):Int):=by simp
theorem divpow_cast (a s:Nat):(a:Int) / 2 ^ s = ((a / 2 ^ s:Nat):Int):=by simp
theorem wrap_nat {a:Nat} (h:a < 18446744073709551616):IntKind.u64.wrap (a:Int) = (a:Int):=by rw [IntKind.wrap_u64];omega
def DivLp (y1 y0 U n1:Nat) (vq vr:Value):Prop := ∃ q r:Nat,vq = .int .u64 q ∧ vr = .int .u64 r ∧ KInv y1 y0 U n1 q r
def DivEnd (y1 y0 U n1:Nat) (vq:Value):Prop := ∃ q:Nat,vq = .int .u64 q ∧ KFin y1 y0 U n1 q
theorem div64_calls (w:World) (hi lo y:Nat) (hhi:hi < y) (hlo:lo < 18446744073709551616) (hy:y < 9223372036854775808) :
  Calls Tryz.prog 173 #[.int .u64 hi,.int .u64 lo,.int .u64 y] w fun e w'=>e = .returned (.tuple #[.int .u64 (((hi * 18446744073709551616 + lo) / y:Nat):Int),.int .u64 (((hi * 18446744073709551616 + lo) % y:Nat):Int)]) ∧ Below w.heap.size w w':=by
 have hy0:¬ y = 0:=by omega
 have hyb:((y:Int) == 0) = false:=by simp;omega
 have hle:¬ (y:Int) ≤ hi:=by omega
 by_cases hz:hi = 0
 ·subst hz
  rw [Nat.zero_mul,Nat.zero_add]
  have hyi:¬ (y:Int) = 0:=by omega
  have E1:IntKind.u64.wrap ((lo:Int) / (y:Int)) = ((lo / y:Nat):Int):=by rw [← Int.natCast_ediv];exact wrap_nat (Nat.lt_of_le_of_lt (Nat.div_le_self _ _) hlo)
  go_enter Tryz.func173,Tryz.ntmps173;go_wp2;go_quiet (fail);go_wp2;go_ret2;exact ⟨by simp,drewB (Below.refl _ _) _⟩
 ·have hzb:((hi:Int) == 0) = false:=by simp;omega
  obtain ⟨s,hs1,hs63,hs,hn1,hn2⟩:=norm_shift (by omega:0 < y) hy
  have hs' : (64:Int) - (Lib.bitLen ((y:Int)).toNat:Int) = (s:Int):=by rw [Int.toNat_natCast];exact hs
  have Hs:=hIh hs';obtain ⟨g1,g2,g3⟩:=shifted hs1 hs63 hhi hlo hn2;have hps:0 < 2 ^ s:=Nat.pow_pos (by decide);have hH:hi * 2 ^ s < 18446744073709551616:=Nat.lt_of_le_of_lt (Nat.le_add_right _ _) (Nat.lt_trans g2 hn2);have hL:lo / 2 ^ (64 - s) < 18446744073709551616:=Nat.lt_of_le_of_lt (Nat.div_le_self _ _) hlo;obtain ⟨Y,hY⟩ : ∃ Y,Y = y * 2 ^ s:=⟨_,rfl⟩;obtain ⟨U,hU⟩ : ∃ U,U = hi * 2 ^ s + lo / 2 ^ (64 - s):=⟨_,rfl⟩;obtain ⟨N,hN⟩ : ∃ N,N = lo * 2 ^ s % 18446744073709551616:=⟨_,rfl⟩;obtain ⟨H,hHe⟩ : ∃ H,H = hi * 2 ^ s:=⟨_,rfl⟩;obtain ⟨L,hLe⟩ : ∃ L,L = lo / 2 ^ (64 - s):=⟨_,rfl⟩;obtain ⟨y1,hy1⟩ : ∃ a,a = Y / 4294967296:=⟨_,rfl⟩;obtain ⟨y0,hy0'⟩ : ∃ a,a = Y % 4294967296:=⟨_,rfl⟩;obtain ⟨n1,hn1'⟩ : ∃ a,a = N / 4294967296:=⟨_,rfl⟩;obtain ⟨n0,hn0'⟩ : ∃ a,a = N % 4294967296:=⟨_,rfl⟩
  have E1:IntKind.u64.wrap ((y:Int) * 2 ^ s) = (Y:Int):=by rw [mulpow_cast,← hY];exact wrap_nat (by omega)
  have E2:(Y:Int) / 4294967296 = (y1:Int):=by omega
  have E3:bits BinOp.and IntKind.u64 (Y:Int) 4294967295 = (y0:Int):=by rw [u64_and32 Y (by omega),← hy0']
  have E4:IntKind.u64.wrap ((hi:Int) * 2 ^ s) = (H:Int):=by rw [mulpow_cast,← hHe];exact wrap_nat (by omega)
  have E5:(lo:Int) / 2 ^ (64 - s) = (L:Int):=by rw [divpow_cast,← hLe]
  have E6:bits BinOp.or IntKind.u64 (H:Int) (L:Int) = (U:Int):=by rw [u64_or _ _ (by omega) (by omega),hHe,hLe,g1,← hU]
  have E7:IntKind.u64.wrap ((lo:Int) * 2 ^ s) = (N:Int):=by rw [mulpow_cast,IntKind.wrap_u64,hN];omega
  have E8:(N:Int) / 4294967296 = (n1:Int):=by omega
  have E9:bits BinOp.and IntKind.u64 (N:Int) 4294967295 = (n0:Int):=by rw [u64_and32 N (by omega),← hn0']
  have hUY:U < Y:=by omega
  have hY64:Y < 18446744073709551616:=by omega
  have hYe:Y = y1 * 4294967296 + y0:=by omega
  have hNe:N = n1 * 4294967296 + n0:=by omega
  have hK:=k_start (y1:=y1) (y0:=y0) (U:=U) (n1:=n1) (by omega) (by omega) (by omega) (by omega) (by omega);obtain ⟨q0,hq0⟩ : ∃ q,q = U / y1:=⟨_,rfl⟩;obtain ⟨r0,hr0⟩ : ∃ r,r = U % y1:=⟨_,rfl⟩;rw [← hq0,← hr0] at hK
  have E10:(U:Int) / (y1:Int) = (q0:Int):=by rw [hq0];exact (Int.natCast_ediv _ _).symm
  have hqr:q0 * y1 + r0 = U:=hK.inv;have E13:IntKind.u64.wrap (q0:Int) = (q0:Int):=wrap_nat (by have:=hK.qhi;omega)
  have E11:IntKind.u64.wrap ((q0:Int) * (y1:Int)) = (q0:Int) * (y1:Int):=by rw [← Int.natCast_mul];exact wrap_nat (by omega)
  have E12:IntKind.u64.wrap ((U:Int) - (q0:Int) * (y1:Int)) = (r0:Int):=by rw [← Int.natCast_mul,IntKind.wrap_u64];omega
  have hy1n:¬ (y1:Int) = 0:=by omega
  have Hfacts:=hIh (show (U * 18446744073709551616 + N = (hi * 18446744073709551616 + lo) * 2 ^ s) ∧ Y = y * 2 ^ s ∧ Y = y1 * 4294967296 + y0 ∧ N = n1 * 4294967296 + n0 ∧ 2147483648 ≤ y1 ∧ y1 < 4294967296 ∧ y0 < 4294967296 ∧ n1 < 4294967296 ∧ n0 < 4294967296 ∧ Y < 18446744073709551616 ∧ U < Y from ⟨by rw [hU,hN];exact g3,hY,hYe,hNe,by omega,by omega,by omega,by omega,by omega,hY64,hUY⟩);have HK:=hIh hK
  have hs64:(s:Int) ≤ 63:=by omega
  clear hs hs' hn1 hn2 g1 g2 g3 hps hH hL hY hU hN hHe hLe hy1 hy0' hn1' hn0' hK hqr hUY hY64 hYe hNe hq0 hr0 hhi;go_enter Tryz.func173,Tryz.ntmps173;go_upto_block 0 with (first | ((go_at_call 195);(refine (Tryz.bits_LeadingZeros64 _ _ (by omega) (by omega)).mono ?_);(rintro e w' ⟨rfl,hw'⟩);(obtain rfl:=hw');(rw [Hs.out])))
  go_cut [15,16] from 67 to 86 (fun v15 v16 wx=>DivEnd y1 y0 U n1 v15 ∧ wx = w')
  case first=>
   clear E1 E2 E3 E4 E5 E6 E7 E8 E9 E10 E11 E12 E13;go_wp2_with fail
   go_loop [15,16] (fun v15 v16=>DivLp y1 y0 U n1 v15 v16) (fun v _=>(intOf v).toNat)
   case atStart=>exact ⟨q0,r0,rfl,rfl,HK.out⟩
   case round=>
    obtain ⟨q,r,rfl,rfl,hK⟩:=hrel;have hql:=hK.qhi;have hrl:=hK.rhi;have hyl:=hK.y1hi;have hnl:=hK.n1hi;have hm:q * y0 ≤ 18446744073709551615:=Nat.le_trans (Nat.mul_le_mul hql (by have:=hK.y0hi;omega:y0 ≤ 4294967295)) (by omega);have Em:IntKind.u64.wrap ((q:Int) * (y0:Int)) = ((q * y0:Nat):Int):=(by rw [← Int.natCast_mul];exact wrap_nat (by omega));have HK2:=hIh hK;generalize hP:q * y0 = P at Em hm;have HP:=hIh hP;clear hK hP HK Hfacts
    by_cases hc:4294967296 ≤ q ∨ 4294967296 * r + n1 < P
    ·have HC:Hid (4294967296 ≤ q ∨ 4294967296 * r + n1 < q * y0):=by rw [HP.out];exact hc
     have hq1:1 ≤ q:=(k_down HK2.out HC.out).1;have hcs:(4294967296:Int) ≤ q ∨ (¬ (4294967296:Int) ≤ q ∧ (4294967296:Int) * r + n1 < P):=(by omega);clear hc
     by_cases hbr:4294967296 ≤ r + y1
     ·have HE:Hid (DivEnd y1 y0 U n1 (.int .u64 ((q:Int) - 1))):=⟨q - 1,by rw [show ((q - 1:Nat):Int) = (q:Int) - 1 from by omega],k_break HK2.out HC.out hbr⟩
      have hbr' : (4294967296:Int) ≤ (r:Int) + y1:=(by omega);clear hbr;rcases hcs with h1 | ⟨h1,h2⟩
      ·go_wp2
       go_meet
       case rel=>exact ⟨HE.out,rfl⟩
      ·go_wp2
       go_meet
       case rel=>exact ⟨HE.out,rfl⟩
     ·have HN:Hid (DivLp y1 y0 U n1 (.int .u64 ((q:Int) - 1)) (.int .u64 ((r:Int) + y1))):=⟨q - 1,r + y1,by rw [show ((q - 1:Nat):Int) = (q:Int) - 1 from by omega],rfl,k_next HK2.out HC.out (by omega)⟩
      have hbr' : ¬ (4294967296:Int) ≤ (r:Int) + y1:=(by omega);clear hbr;rcases hcs with h1 | ⟨h1,h2⟩
      ·go_wp2
       go_round
       case rel=>exact HN.out
       case measure=>simp [intOf];omega
      ·go_wp2
       go_round
       case rel=>exact HN.out
       case measure=>simp [intOf];omega
    ·have h1:¬ 4294967296 ≤ q:=fun h=>hc (.inl h)
     have h2:¬ 4294967296 * r + n1 < P:=fun h=>hc (.inr h);have HE:Hid (DivEnd y1 y0 U n1 (.int .u64 (q:Int))):=⟨q,rfl,k_stop HK2.out (by omega) (by rw [HP.out];omega)⟩;have h1' : ¬ (4294967296:Int) ≤ q:=(by omega);have h2' : ¬ (4294967296:Int) * r + n1 < P:=(by omega);clear hc h1 h2;go_wp2;go_meet
     case rel=>exact ⟨HE.out,rfl⟩
  case rest=>
   obtain ⟨⟨q1,rfl,hF1⟩,rfl⟩:=hcut;have HF1:=hIh hF1;clear E1 E2 E3 E4 E5 E6 E7 E8 E9 E10 E11 E12 E13 HK hF1;obtain ⟨R,hR⟩ : ∃ R,R = (U * 4294967296 + n1) % Y:=⟨_,rfl⟩;obtain ⟨f1,f2,f3,f4,f5,f6,f7,f8,f9,f10,f11⟩:=Hfacts.out;have hRY:R < Y:=(by rw [hR];exact Nat.mod_lt _ (by omega))
   have hQR:q1 * Y + R = U * 4294967296 + n1:=by
    have h1:=HF1.out.le;have h2:=HF1.out.rest;rw [← f3,← hR] at h2;rw [← f3] at h1;omega
   obtain ⟨A,hA⟩ : ∃ A,A = U * 4294967296 % 18446744073709551616:=⟨_,rfl⟩;obtain ⟨B,hB⟩ : ∃ B,B = (A + n1) % 18446744073709551616:=⟨_,rfl⟩;obtain ⟨C,hC⟩ : ∃ C,C = q1 * Y % 18446744073709551616:=⟨_,rfl⟩;have F1:IntKind.u64.wrap ((U:Int) * 4294967296) = (A:Int):=(by rw [IntKind.wrap_u64,hA];omega);have F2:IntKind.u64.wrap ((A:Int) + (n1:Int)) = (B:Int):=(by rw [IntKind.wrap_u64,hB];omega);have F3:IntKind.u64.wrap ((q1:Int) * (Y:Int)) = (C:Int):=(by rw [← Int.natCast_mul,IntKind.wrap_u64,hC];omega)
   have F4:IntKind.u64.wrap ((B:Int) - (C:Int)) = (R:Int):=by
    rw [IntKind.wrap_u64];generalize q1 * Y = Q at hC hQR;omega
   have hK:=k_start (y1:=y1) (y0:=y0) (U:=R) (n1:=n0) f5 f6 f7 f9 (by omega);obtain ⟨g0,hg0⟩ : ∃ q,q = R / y1:=⟨_,rfl⟩;obtain ⟨r1,hr1⟩ : ∃ r,r = R % y1:=⟨_,rfl⟩;rw [← hg0,← hr1] at hK;have E10:(R:Int) / (y1:Int) = (g0:Int):=(by rw [hg0];exact (Int.natCast_ediv _ _).symm);have hqr:g0 * y1 + r1 = R:=hK.inv;have E13:IntKind.u64.wrap (g0:Int) = (g0:Int):=wrap_nat (by have:=hK.qhi;omega);have E11:IntKind.u64.wrap ((g0:Int) * (y1:Int)) = (g0:Int) * (y1:Int):=(by rw [← Int.natCast_mul];exact wrap_nat (by omega));have E12:IntKind.u64.wrap ((R:Int) - (g0:Int) * (y1:Int)) = (r1:Int):=(by rw [← Int.natCast_mul,IntKind.wrap_u64];omega);have HK:=hIh hK;have HR:=hIh hR;clear f1 f2 f3 f4 f5 f6 f7 f8 f9 f10 f11 hRY hQR hA hB hC hK hg0 hr1 hqr hR;go_upto_block 2 with fail
   go_cut [18,16] from 102 to 121 (fun v18 v16 wx=>DivEnd y1 y0 R n0 v18 ∧ wx = wc)
   case first=>
    clear E10 E11 E12 E13 F1 F2 F3 F4;go_wp2_with fail
    go_loop [18,16] (fun v18 v16=>DivLp y1 y0 R n0 v18 v16) (fun v _=>(intOf v).toNat)
    case atStart=>exact ⟨g0,r1,rfl,rfl,HK.out⟩
    case round=>
     obtain ⟨q,r,rfl,rfl,hK⟩:=hrel;have hql:=hK.qhi;have hrl:=hK.rhi;have hyl:=hK.y1hi;have hnl:=hK.n1hi;have hm:q * y0 ≤ 18446744073709551615:=Nat.le_trans (Nat.mul_le_mul hql (by have:=hK.y0hi;omega:y0 ≤ 4294967295)) (by omega);have Em:IntKind.u64.wrap ((q:Int) * (y0:Int)) = ((q * y0:Nat):Int):=(by rw [← Int.natCast_mul];exact wrap_nat (by omega));have HK2:=hIh hK;generalize hP:q * y0 = P at Em hm;have HP:=hIh hP;clear hK hP HK Hfacts HF1 HR
     by_cases hc:4294967296 ≤ q ∨ 4294967296 * r + n0 < P
     ·have HC:Hid (4294967296 ≤ q ∨ 4294967296 * r + n0 < q * y0):=by rw [HP.out];exact hc
      have hq1:1 ≤ q:=(k_down HK2.out HC.out).1;have hcs:(4294967296:Int) ≤ q ∨ (¬ (4294967296:Int) ≤ q ∧ (4294967296:Int) * r + n0 < P):=(by omega);clear hc
      by_cases hbr:4294967296 ≤ r + y1
      ·have HE:Hid (DivEnd y1 y0 R n0 (.int .u64 ((q:Int) - 1))):=⟨q - 1,by rw [show ((q - 1:Nat):Int) = (q:Int) - 1 from by omega],k_break HK2.out HC.out hbr⟩
       have hbr' : (4294967296:Int) ≤ (r:Int) + y1:=(by omega);clear hbr;rcases hcs with h1 | ⟨h1,h2⟩
       ·go_wp2
        go_meet
        case rel=>exact ⟨HE.out,rfl⟩
       ·go_wp2
        go_meet
        case rel=>exact ⟨HE.out,rfl⟩
      ·have HN:Hid (DivLp y1 y0 R n0 (.int .u64 ((q:Int) - 1)) (.int .u64 ((r:Int) + y1))):=⟨q - 1,r + y1,by rw [show ((q - 1:Nat):Int) = (q:Int) - 1 from by omega],rfl,k_next HK2.out HC.out (by omega)⟩
       have hbr' : ¬ (4294967296:Int) ≤ (r:Int) + y1:=(by omega);clear hbr;rcases hcs with h1 | ⟨h1,h2⟩
       ·go_wp2
        go_round
        case rel=>exact HN.out
        case measure=>simp [intOf];omega
       ·go_wp2
        go_round
        case rel=>exact HN.out
        case measure=>simp [intOf];omega
     ·have h1:¬ 4294967296 ≤ q:=fun h=>hc (.inl h)
      have h2:¬ 4294967296 * r + n0 < P:=fun h=>hc (.inr h);have HE:Hid (DivEnd y1 y0 R n0 (.int .u64 (q:Int))):=⟨q,rfl,k_stop HK2.out (by omega) (by rw [HP.out];omega)⟩;have h1' : ¬ (4294967296:Int) ≤ q:=(by omega);have h2' : ¬ (4294967296:Int) * r + n0 < P:=(by omega);clear hc h1 h2;go_wp2;go_meet
      case rel=>exact ⟨HE.out,rfl⟩
   case rest=>
    obtain ⟨⟨q2,rfl,hF2⟩,hw⟩:=hcut;subst hw;have HF2:=hIh hF2;clear E10 E11 E12 E13 F1 F2 F3 F4 HK hF2;obtain ⟨f1,f2,f3,f4,f5,f6,f7,f8,f9,f10,f11⟩:=Hfacts.out;obtain ⟨T,hT⟩ : ∃ T,T = (R * 4294967296 + n0) % Y:=⟨_,rfl⟩;have hTY:T < Y:=(by rw [hT];exact Nat.mod_lt _ (by omega))
    have hQT:q2 * Y + T = R * 4294967296 + n0:=by
     have h1:=HF2.out.le;have h2:=HF2.out.rest;rw [← f3,← hT] at h2;rw [← f3] at h1;omega
    have hb1:=HF1.out.lt;have hb2:=HF2.out.lt;obtain ⟨A,hA⟩ : ∃ A,A = R * 4294967296 % 18446744073709551616:=⟨_,rfl⟩;obtain ⟨B,hB⟩ : ∃ B,B = (A + n0) % 18446744073709551616:=⟨_,rfl⟩;obtain ⟨C,hC⟩ : ∃ C,C = q2 * Y % 18446744073709551616:=⟨_,rfl⟩;have F1:IntKind.u64.wrap ((R:Int) * 4294967296) = (A:Int):=(by rw [IntKind.wrap_u64,hA];omega);have F2:IntKind.u64.wrap ((A:Int) + (n0:Int)) = (B:Int):=(by rw [IntKind.wrap_u64,hB];omega);have F3:IntKind.u64.wrap ((q2:Int) * (Y:Int)) = (C:Int):=(by rw [← Int.natCast_mul,IntKind.wrap_u64,hC];omega)
    have F4:IntKind.u64.wrap ((B:Int) - (C:Int)) = (T:Int):=by
     rw [IntKind.wrap_u64];generalize q2 * Y = Q at hC hQT;omega
    have Hfin:Hid (q1 * 4294967296 + q2 = (hi * 18446744073709551616 + lo) / y ∧ T / 2 ^ s = (hi * 18446744073709551616 + lo) % y):=by
     have hF2:=HF2.out;rw [HR.out] at hF2 hT;obtain ⟨d1,d2⟩:=div_two f3 f4 f9 f5 HF1.out hF2;have hps:0 < 2 ^ s:=Nat.pow_pos (by decide);refine ⟨?_,?_⟩
     ·rw [d1,f1,f2,Nat.mul_div_mul_right _ _ hps]
     ·rw [hT,d2,f1,f2,Nat.mul_mod_mul_right,Nat.mul_div_cancel _ hps]
    obtain ⟨M,hM⟩ : ∃ M,M = (hi * 18446744073709551616 + lo) % y:=⟨_,rfl⟩;have F5:(T:Int) / 2 ^ s = (M:Int):=(by rw [divpow_cast,Hfin.out.2,hM]);have HM:=hIh hM
    have Hq:Hid ((((hi * 18446744073709551616 + lo) / y:Nat):Int) = (q1:Int) * 4294967296 + q2):=by
     show _ = _;rw [← Hfin.out.1];omega
    clear f1 f2 f3 f4 f5 f6 f7 f8 f9 f10 f11 hTY hQT hA hB hC hT Hfacts HF1 HF2 Hfin HR hM;go_wp2;go_ret2;rw [Hq.out,← HM.out];exact ⟨rfl,Below.refl _ _⟩
def textsT:List Str := [[97,108,108], [98,101,115,116], [110,111,116,98,101,115,116], [101,110,100,115], [110,111,116,101,110,100,115], [112,114,105,111,114,105,116,121,61]]
def verbsT:List Str := [[114,101,97,100], [119,114,105,116,101], [103,111,118,101,114,110], [98,105,110,100]]
structure Glob (w:World):Prop where
 len:∃ m:Int,w.cell? ⟨0,0,none⟩ = some (.int .i64 m)
 uni:∀ i (h:i < qunits.length),w.cell? ⟨3,i * 2,none⟩ = some (.string (sb qunits[i].1)) ∧ w.cell? ⟨3,i * 2 + 1,none⟩ = some (.int .u64 (qunits[i].2:Nat))
 txt:∀ i (h:i < textsT.length),w.cell? ⟨2,i,none⟩ = some (.string (sb textsT[i]))
 vrb:∀ i (h:i < verbsT.length),w.cell? ⟨1,i,none⟩ = some (.string (sb verbsT[i]))
theorem Glob.keep {S:Nat → Prop} {w w1:World} (h:Glob w) (hf:Fr S w w1) (hS:∀ k,S k → 4 ≤ k):Glob w1:=by
 have key:∀ {a:Addr} {v:Value},a.block < 4 → w.cell? a = some v → w1.cell? a = some v:=fun ha hc=>hf.cell hc (fun hs=>by have:=hS _ hs;omega);obtain ⟨m,hm⟩:=h.len
 exact ⟨⟨m,key (by decide) hm⟩,fun i hi=>⟨key (show (3:Nat) < 4 by decide) (h.uni i hi).1,key (show (3:Nat) < 4 by decide) (h.uni i hi).2⟩,
  fun i hi=>key (show (2:Nat) < 4 by decide) (h.txt i hi),fun i hi=>key (show (1:Nat) < 4 by decide) (h.vrb i hi)⟩
theorem Glob.size {w:World} (h:Glob w):4 ≤ w.heap.size:=by
 have:=World.block_lt_of_cell? w _ (h.uni 0 (by decide)).1;exact this
theorem Glob.below {w w1:World} (h:Glob w) (hb:Below w.heap.size w w1):Glob w1:=h.keep (Fr.of_below hb (fun _=>False)) (fun _ h=>h.elim)
theorem cut_lib {sep:Str} (hs:sep ≠ []):∀ s:Str,Lib.cut s sep = match cutAt sep s with
  | some x=>(x.1,x.2,true)
  | none=>(s, [],false):=by
 have key:∀ s:Str,match cutAt sep s with
   | some x=>Lib.index s sep = (x.1.length:Int) ∧ s.take x.1.length = x.1 ∧ s.drop (x.1.length + sep.length) = x.2
   | none=>Lib.index s sep = -1:=by
  intro s
  induction s with
  | nil=>simp [cutAt,Lib.index,hs]
  | cons a r ih=>
   unfold cutAt
   by_cases h:sep.isPrefixOf (a :: r) = true
   ·simp [h,Lib.index]
   ·rw [if_neg h]
    cases hc:cutAt sep r with
    | none=>
     rw [hc] at ih;simp only [Option.map_none];unfold Lib.index;rw [if_neg h,ih];rfl
    | some x=>
     rw [hc] at ih;obtain ⟨h1,h2,h3⟩:=ih;simp only [Option.map_some];refine ⟨?_,?_,?_⟩
     ·unfold Lib.index
      rw [if_neg h,h1,if_neg (by simp <;> omega)];simp
     ·simp [h2]
     ·rw [List.length_cons,show x.1.length + 1 + sep.length = x.1.length + sep.length + 1 by omega,List.drop_succ_cons,h3]
 intro s;have:=key s;unfold Lib.cut
 cases hc:cutAt sep s with
 | none=>rw [hc] at this;rw [this];rfl
 | some x=>
  rw [hc] at this;obtain ⟨h1,h2,h3⟩:=this;rw [h1,if_pos (by omega),Int.toNat_natCast,h2,h3]
theorem pieces_cut (c:UInt8) (s:Str):pieces c s = match cutAt [c] s with
  | some x=>x.1 :: pieces c x.2
  | none => [s]:=by
 induction s with
 | nil=>simp [pieces,cutAt]
 | cons a r ih=>
  rw [pieces,cutAt]
  by_cases h:a = c
  ·subst h
   simp [List.isPrefixOf]
  ·have h2:([c] : Str).isPrefixOf (a :: r) = false:=by simp [List.isPrefixOf];exact fun e=>h e.symm
   rw [if_neg h,if_neg (by rw [h2];decide),ih]
   cases hc:cutAt [c] r with
   | none=>rfl
   | some x=>rfl
theorem cutAt_len {sep s:Str} {x:Str × Str} (h:cutAt sep s = some x):x.1.length + sep.length + x.2.length = s.length:=by
 induction s generalizing x with
 | nil=>
  unfold cutAt at h
  split at h
  ·rename_i h2;cases h;simp [h2]
  ·cases h
 | cons a r ih=>
  unfold cutAt at h
  split at h
  ·rename_i h2
   cases h
   have:=List.IsPrefix.length_le (List.isPrefixOf_iff_prefix.1 h2);simp only [List.length_nil,List.length_drop];omega
  ·obtain ⟨y,hy,rfl⟩:=Option.map_eq_some_iff.1 h
   have:=ih hy;simp only [List.length_cons];omega
theorem index_cut {sep s:Str} (hs:sep ≠ []):match cutAt sep s with
   | some x=>Lib.index s sep = (x.1.length:Int) ∧ s.take x.1.length = x.1 ∧ s.drop (x.1.length + sep.length) = x.2
   | none=>Lib.index s sep = -1:=by
 have h:=cut_lib hs s;have hge:=Lib.index_ge s sep
 cases hc:cutAt sep s with
 | none=>
  rw [hc] at h;unfold Lib.cut at h;simp only
  split at h
  ·have:=congrArg (fun y=>y.2.2) h
   cases this
  ·omega
 | some x=>
  rw [hc] at h;unfold Lib.cut at h
  split at h
  ·rename_i h0
   simp only [Prod.mk.injEq] at h;obtain ⟨h1,h2, -⟩:=h;have hl:=cutAt_len hc
   have hlen:x.1.length = (Lib.index s sep).toNat:=by
    rw [← h1,List.length_take]
    have h3:(Lib.index s sep).toNat ≤ s.length:=by
     rcases Nat.le_total (Lib.index s sep).toNat s.length with h4 | h4
     ·exact h4
     ·have e1:x.1 = s:=by rw [← h1,List.take_of_length_le h4]
      have e2:0 < sep.length:=List.length_pos_iff.2 hs;rw [e1] at hl;omega
    omega
   refine ⟨by omega,by rw [hlen];exact h1,by rw [hlen];exact h2⟩
  ·have:=congrArg (fun y=>y.2.2) h
   cases this
theorem split_pieces (c:UInt8):∀ (k:Nat) (s:Str),s.count c ≤ k → Lib.splitK [c] 0 k s = pieces c s:=by
 intro k
 induction k with
 | zero=>
  intro s h
  have:c ∉ s:=by
   intro hm;have:=List.count_pos_iff.2 hm;omega
  rw [pieces_free this];rfl
 | succ k ih=>
  intro s h;rw [pieces_cut];have hi:=index_cut (sep := [c]) (s:=s) (by simp);unfold Lib.splitK
  cases hc:cutAt [c] s with
  | none=>
   rw [hc] at hi;simp only at hi ⊢;rw [hi];rfl
  | some x=>
   rw [hc] at hi;obtain ⟨h1,h2,h3⟩:=hi;rw [h1,if_neg (by simp <;> omega)];simp only [Int.toNat_natCast,Nat.add_zero,h2,h3]
   have hsp:s = x.1 ++ c :: x.2:=by
    have h4:s = s.take x.1.length ++ s.drop x.1.length:=(List.take_append_drop _ _).symm;have h5:s.drop x.1.length = (s.drop x.1.length).take 1 ++ s.drop (x.1.length + 1):=(by rw [← List.drop_drop,List.take_append_drop])
    have hpre:∀ (t:Str) (y:Str × Str),cutAt [c] t = some y → (t.drop y.1.length).take 1 = [c]:=by
     intro t
     induction t with
     | nil=>intro y hy;simp [cutAt] at hy
     | cons a r iht=>
      intro y hy;unfold cutAt at hy
      split at hy
      ·rename_i hp;cases hy;simp [List.isPrefixOf] at hp;simp [hp]
      ·obtain ⟨z,hz,rfl⟩:=Option.map_eq_some_iff.1 hy
       simpa using iht z hz
    rw [h4,h2,h5,hpre s x hc];have h3' : s.drop (x.1.length + 1) = x.2:=h3;rw [h3'];rfl
   congr 1
   apply ih
   rw [hsp,List.count_append,List.count_cons_self] at h;omega
theorem pieces_count (c:UInt8) (s:Str):(pieces c s).length = s.count c + 1:=by
 induction s with
 | nil=>rfl
 | cons a r ih=>
  unfold pieces
  by_cases h:a = c
  ·subst h;simp [ih]
  ·rw [if_neg h,List.count_cons_of_ne h]
   split
   ·rename_i h2;exact absurd h2 (pieces_ne c r)
   ·rename_i p q h2;rw [h2] at ih;simpa using ih
theorem join_lib (sep:Str):∀ l:List Str,Lib.join l sep = joinS sep l
 | []=>rfl
 | [a]=>by simp [Lib.join_one,joinS]
 | a :: b :: r=>by
  have h:=join_lib sep (b :: r);rw [Lib.join_cons] at h ⊢;simp only [joinS,← h,Lib.joinTail,List.map_cons,List.flatten_cons];simp
theorem blank_cs (b:UInt8):([32,9] : Str).contains b = blank b:=by
 simp only [blank,List.contains,List.elem]
 cases b == 32 <;> cases b == 9 <;> rfl
theorem parse_lib {l:Str} (hne:l ≠ []) (hd:∀ b ∈ l,isDg b = true) (hl:l.length ≤ 19):Lib.parseUintB 64 l = .ok (numv l):=by
 have dgi:∀ c:UInt8,isDg c = true → 48 ≤ c.toNat ∧ c.toNat ≤ 57:=by
  intro c h;simp only [isDg,Bool.and_eq_true,decide_eq_true_eq,UInt8.le_iff_toNat_le] at h;exact h
 have key:∀ (l:Str) (acc j:Nat),(∀ b ∈ l,isDg b = true) → acc < 10 ^ j → j + l.length ≤ 19 → Lib.parseUintM (2 ^ 64 - 1) acc l = .ok (l.foldl (fun n b=>n * 10 + (b.toNat - 48)) acc):=by
  intro l
  induction l with
  | nil=>intro acc j _ _ _;rfl
  | cons c r ih=>
   intro acc j h1 h2 h3;obtain ⟨g1,g2⟩:=dgi c (h1 c List.mem_cons_self);have hj:10 ^ j ≤ 10 ^ 18:=Nat.pow_le_pow_right (by decide) (by simp only [List.length_cons] at h3;omega);unfold Lib.parseUintM;rw [if_pos ⟨g1,g2⟩,if_neg (by omega)];rw [if_neg (by omega)];rw [List.foldl_cons];exact ih _ (j + 1) (fun b hb=>h1 b (List.mem_cons_of_mem _ hb)) (by rw [Nat.pow_succ];omega) (by simp only [List.length_cons] at h3;omega)
 unfold Lib.parseUintB;rw [if_neg hne];exact key l 0 0 hd (by decide) (by omega)
def cutR (sep s:Str):Str × Str × Bool:=match cutAt sep s with
 | some x=>(x.1,x.2,true)
 | none=>(s, [],false)
theorem lcut_calls (w:World) (G:Glob w) (s sep:Str) (hs:s.length ≤ 4194304) (hne:sep ≠ []) :
  Calls Tryz.prog 11 #[.string (sb s),.string (sb sep)] w fun e w'=>e = .returned (.tuple #[.string (sb (cutR sep s).1),.string (sb (cutR sep s).2.1),.bool (cutR sep s).2.2]) ∧ Below w.heap.size w w':=by
 obtain ⟨m,hm⟩:=G.len;refine (Tryz.strings_Cut (sb s) (sb sep) m w (by rw [sb_size];omega) hm).mono ?_;rintro e w' ⟨rfl,n,rfl⟩;refine ⟨?_,drewB (Below.refl _ _) n⟩;rw [sb_toList,sb_toList,cut_lib hne]
 rfl
theorem lcontains_calls (w:World) (s:Str) (c:UInt8):Calls Tryz.prog 10 #[.string (sb s),.string (sb [c])] w fun e w'=>e = .returned (.bool (decide (c ∈ s))) ∧ Below w.heap.size w w':=by
 refine (Tryz.strings_Contains_one (sb s) c w).mono ?_;rintro e w' ⟨rfl,rfl⟩;refine ⟨?_,Below.refl _ _⟩
 have key:∀ l:Str,(0 ≤ Lib.indexByte l c ↔ c ∈ l) ∧ -1 ≤ Lib.indexByte l c:=by
  intro l
  induction l with
  | nil=>simp [Lib.indexByte]
  | cons a r ih=>
   unfold Lib.indexByte
   by_cases h:(a == c) = true
   ·have h2:a = c:=by simpa using h
    rw [if_pos h];simp [h2]
   ·rw [if_neg h]
    have h2:¬ a = c:=(by simpa using h);have h3:¬ c = a:=fun e=>h2 e.symm
    by_cases h4:Lib.indexByte r c = -1
    ·rw [if_pos (by rw [h4];rfl)]
     have:c ∉ r:=fun hm=>(by have:=ih.1.2 hm;omega);simp [h3,this]
    ·rw [if_neg (by simpa using h4)]
     have h5:c ∈ r:=ih.1.1 (by omega);have:=ih.1.2 h5;simp [h5];omega
 rw [sb_toList]
 congr 2
 exact decide_eq_decide.2 (key s).1
theorem lcutsuf_calls (w:World) (s p:Str) (hs:s.length ≤ 4194304):Calls Tryz.prog 153 #[.string (sb s),.string (sb p)] w fun e w'=>e = .returned (.tuple #[.string (sb ((cutSuf p s).getD s)),.bool (cutSuf p s).isSome]) ∧ Below w.heap.size w w':=by
 refine (Tryz.strings_CutSuffix (sb s) (sb p) w (by rw [sb_size];omega)).mono ?_;rintro e w' ⟨rfl,rfl⟩;refine ⟨?_,Below.refl _ _⟩;rw [sb_toList,sb_toList];unfold Lib.trimSuffix Lib.hasSuffix cutSuf
 split
 ·rename_i h;rw [h];rfl
 ·rename_i h;rw [Bool.not_eq_true] at h;rw [h];rfl
theorem lhassuf_calls (w:World) (s p:Str) (hs:s.length ≤ 4194304):Calls Tryz.prog 146 #[.string (sb s),.string (sb p)] w fun e w'=>e = .returned (.bool (p.isSuffixOf s)) ∧ Below w.heap.size w w':=by
 refine (Tryz.strings_HasSuffix (sb s) (sb p) w (by rw [sb_size];omega)).mono ?_;rintro e w' ⟨rfl,rfl⟩;exact ⟨rfl,Below.refl _ _⟩
theorem lhaspre_calls (w:World) (s p:Str):Calls Tryz.prog 141 #[.string (sb s),.string (sb p)] w fun e w'=>e = .returned (.bool (p.isPrefixOf s)) ∧ Below w.heap.size w w':=by
 refine (Tryz.strings_HasPrefix (sb s) (sb p) w).mono ?_;rintro e w' ⟨rfl,rfl⟩;exact ⟨rfl,Below.refl _ _⟩
theorem ltrimsuf_calls (w:World) (s p:Str) (hs:s.length ≤ 4194304):Calls Tryz.prog 147 #[.string (sb s),.string (sb p)] w fun e w'=>e = .returned (.string (sb (if p.isSuffixOf s = true then s.take (s.length - p.length) else s))) ∧ Below w.heap.size w w':=by
 refine (Tryz.strings_TrimSuffix (sb s) (sb p) w (by rw [sb_size];omega)).mono ?_;rintro e w' ⟨rfl,rfl⟩;exact ⟨rfl,Below.refl _ _⟩
def digitsC:Str := [48,49,50,51,52,53,54,55,56,57]
theorem ltrim_calls (w:World) (s:Str) (hs:s.length ≤ 4194304):Calls Tryz.prog 170 #[.string (sb s),.string (sb digitsC)] w fun e w' => ∃ t:Str,e = .returned (.string (sb t)) ∧ (t = [] ↔ s.all isDg = true) ∧ Below w.heap.size w w':=by
 refine (Any.strings_Trim_laid Tryz.lays160 (by kernel_rfl) (sb s) (sb digitsC) w (by rw [sb_size];omega) (by rw [sb_size];decide) ?_).mono ?_
 ·rw [sb_toList]
  intro j b hb;have:b ∈ digitsC:=List.mem_of_getElem? hb;simp only [digitsC,List.mem_cons,List.not_mem_nil,or_false] at this;rcases this with rfl | rfl | rfl | rfl | rfl | rfl | rfl | rfl | rfl | rfl <;> decide
 rintro e w' ⟨rfl,hb⟩;refine ⟨Lib.trimS s digitsC,rfl,?_,hb⟩
 have hcs:∀ b:UInt8,digitsC.contains b = isDg b:=by
  intro b
  have key:∀ n:Fin 256,digitsC.contains (UInt8.ofFin n) = isDg (UInt8.ofFin n):=by decide +kernel
  exact key b.toFin
 have dall:∀ (l:Str),l.dropWhile (digitsC.contains ·) = [] ↔ l.all isDg = true:=by
  intro l
  induction l with
  | nil=>simp
  | cons a r ih=>
   rw [List.dropWhile_cons,List.all_cons,hcs a]
   by_cases h:isDg a = true
   ·rw [if_pos h,h,ih];simp
   ·rw [if_neg h];simp [h]
 unfold Lib.trimS Lib.trimLeftS Lib.trimRightS;rw [dall]
 constructor
 ·intro h
  rw [← List.all_reverse];rw [← dall]
  cases hr:s.reverse.dropWhile (digitsC.contains ·) with
  | nil=>rfl
  | cons a q=>
   rw [hr,List.all_reverse,List.all_cons,Bool.and_eq_true] at h
   have h2:=List.head?_dropWhile_not (digitsC.contains ·) s.reverse
   rw [hr] at h2;simp only [List.head?_cons] at h2;rw [hcs a,h.1] at h2;simp at h2
 ·intro h
  have h3:s.reverse.dropWhile (digitsC.contains ·) = []:=(dall _).2 (by rw [List.all_reverse];exact h)
  rw [h3];rfl
theorem ltriml_calls (w:World) (s:Str):Calls Tryz.prog 44 #[.string (sb s),.string (sb [32,9])] w fun e w'=>e = .returned (.string (sb (dropB s))) ∧ Below w.heap.size w w':=by
 refine (Any.strings_TrimLeft_laid Tryz.lays161 (by kernel_rfl) (sb s) (sb [32,9]) w (by rw [sb_size];decide) ?_).mono ?_
 ·rw [sb_toList]
  intro j b hb;have:b ∈ ([32,9] : Str):=List.mem_of_getElem? hb;simp only [List.mem_cons,List.not_mem_nil,or_false] at this;rcases this with rfl | rfl <;> decide
 rintro e w' ⟨rfl,hb⟩;refine ⟨?_,hb⟩;unfold Lib.trimLeftS dropB;simp only [sb_toList,blank_cs];rfl
theorem ltrimr_calls (w:World) (s:Str) (hs:s.length ≤ 4194304):Calls Tryz.prog 104 #[.string (sb s),.string (sb [32,9])] w fun e w'=>e = .returned (.string (sb (trimRB s))) ∧ Below w.heap.size w w':=by
 refine (Any.strings_TrimRight_laid Tryz.lays162 (by kernel_rfl) (sb s) (sb [32,9]) w (by rw [sb_size];omega) (by rw [sb_size];decide) ?_).mono ?_
 ·rw [sb_toList]
  intro j b hb;have:b ∈ ([32,9] : Str):=List.mem_of_getElem? hb;simp only [List.mem_cons,List.not_mem_nil,or_false] at this;rcases this with rfl | rfl <;> decide
 rintro e w' ⟨rfl,hb⟩;refine ⟨?_,hb⟩;unfold Lib.trimRightS trimRB;simp only [sb_toList,blank_cs];rfl
theorem rdT_block (w:World) (l:List Str) (t:TypeId):RdT (w.alloc (.cells (l.map fun s=>Value.string (sb s)).toArray t)) (.slice (some ⟨w.heap.size,0,none⟩) l.length l.length) l:=by
 have e:l.flatMap strC = l.map fun s=>Value.string (sb s):=by
  induction l with
  | nil=>rfl
  | cons a r ih=>rw [List.flatMap_cons,ih];rfl
 refine ⟨by rw [flat_len strC_len],_,_,rfl,Nat.le_refl _,(fun h=>by cases h),fun ad hA j u hu=>?_⟩
 cases hA
 rw [e] at hu
 have ea:(Addr.mk w.heap.size 0 none).add j = Addr.mk w.heap.size j none:=by unfold Addr.add;split <;> simp_all
 rw [ea];simp only [World.cell?,blk_new]
 simpa using hu
theorem lsplit_calls (w:World) (G:Glob w) (s:Str) (c:UInt8) (hs:s.length ≤ 4194304) :
  Calls Tryz.prog 127 #[.string (sb s),.string (sb [c])] w fun e w'=>e = .returned (.slice (some ⟨w.heap.size,0,none⟩) (pieces c s).length (pieces c s).length) ∧ w' = w.alloc (.cells ((pieces c s).map fun s=>Value.string (sb s)).toArray 9):=by
 obtain ⟨m,hm⟩:=G.len;refine (Tryz.strings_Split (sb s) (sb [c]) m w (by rw [sb_size];omega) hm (by rw [sb_size];exact Nat.le_refl 1)).mono ?_;rintro e w' ⟨rfl,rfl⟩
 have hk:Lib.countB (sb s) (sb [c]) = s.count c:=by
  have key:∀ (n:Nat) (s:Str),s.length ≤ n → Lib.countB (sb s) (sb [c]) = s.count c:=by
   intro n
   induction n with
   | zero=>
    intro s h;have:s = []:=List.eq_nil_of_length_eq_zero (by omega);subst this;exact Lib.countB_miss _ _ rfl
   | succ n ih=>
    intro s h;have hi:=index_cut (sep := [c]) (s:=s) (by simp)
    cases hc:cutAt [c] s with
    | none=>
     rw [hc] at hi;simp only at hi;rw [Lib.countB_miss _ _ hi];have hp:=pieces_cut c s;rw [hc] at hp;have h2:=pieces_count c s;rw [hp] at h2;simp only [List.length_singleton] at h2;omega
    | some x=>
     rw [hc] at hi;obtain ⟨h1,h2,h3⟩:=hi;have hl:x.1.length + 1 + x.2.length = s.length:=cutAt_len hc;rw [Lib.countB_hit (sb s) (sb [c]) x.1.length (by rw [sb_size];exact Nat.le_refl 1) h1];rw [sb_extract,sb_size,sb_size,show ([c] : Str).length = 1 from rfl];have e3:s.drop (x.1.length + 1) = x.2:=h3;rw [e3,List.take_of_length_le (by omega),ih x.2 (by omega)];have hp:=pieces_cut c s;rw [hc] at hp;have h4:=pieces_count c s;rw [hp,List.length_cons,pieces_count] at h4;omega
  exact key _ s (Nat.le_refl _)
 have hsp:(Lib.splitB (sb [c]) 0 (s.count c) (sb s)) = (pieces c s).map sb:=by
  have h1:=Lib.splitB_data (sb [c]) 0 (s.count c) (sb s);rw [sb_toList,sb_toList,split_pieces c _ s (Nat.le_refl _)] at h1;rw [← h1,List.map_map]
  conv=>lhs;rw [← List.map_id (Lib.splitB (sb [c]) 0 (s.count c) (sb s))]
  rfl
 rw [hk,hsp,pieces_count,List.map_map];exact ⟨rfl,rfl⟩
theorem rdT_cells {w:World} {v:Value} {l:List Str} (h:RdT w v l) (hn:l ≠ []):∃ bk o c,v = .slice (some ⟨bk,o,none⟩) (l.map sb).length c ∧ (l.map sb).length ≤ c ∧ bk < w.heap.size ∧ ∀ (j:Nat) x,(l.map sb)[j]? = some x → w.cell? ⟨bk,o + j,none⟩ = some (.string x):=by
 obtain ⟨b,off,c,hv,hc,hb,hcell⟩:=h.some hn;refine ⟨b,off,c,by simpa using hv,by simpa using hc,hb,fun j x hx=>?_⟩;rw [List.getElem?_map] at hx;obtain ⟨y,hy,rfl⟩:=Option.map_eq_some_iff.1 hx;obtain ⟨hlt,rfl⟩:=List.getElem?_eq_some_iff.1 hy;exact hcell j hlt
theorem ljoin_calls (w:World) (v:Value) (l:List Str) (sep:Str) (h:RdT w v l) (hn:l ≠ []) (hl:l.length ≤ 4194304) (hlen:(joinS sep l).length ≤ 140737488355328) :
  Calls Tryz.prog 156 #[v,.string (sb sep)] w fun e w'=>e = .returned (.string (sb (joinS sep l))) ∧ Below w.heap.size w w':=by
 obtain ⟨bk,o,c,rfl,hc,hb,hcell⟩:=rdT_cells h hn
 have e:(l.map sb).map (·.data.toList) = l:=by
  rw [List.map_map]
  conv=>rhs;rw [← List.map_id l]
  rfl
 refine (Tryz.strings_Join bk o c (l.map sb) (sb sep) w hcell hb (by rw [List.length_map];omega) hc (by rw [e,sb_toList,join_lib];exact hlen)).mono ?_;rintro e' w' ⟨rfl,hb'⟩;refine ⟨?_,hb'⟩;rw [e,sb_toList,join_lib];rfl
theorem lparse_calls (w:World) (l:Str) (hne:l ≠ []) (hd:∀ b ∈ l,isDg b = true) (hl:l.length ≤ 19) :
  Calls Tryz.prog 149 #[.string (sb l),.int .i64 10,.int .i64 64] w fun e w'=>e = .returned (.tuple #[.int .u64 (numv l:Nat),.nilIface]) ∧ Below w.heap.size w w':=by
 refine (Tryz.strconv_ParseUint_10_at64_ok (sb l) (by rw [sb_size];omega) (numv l) (parse_lib hne hd hl) w).mono ?_;rintro e w' ⟨rfl,hw⟩;refine ⟨rfl,?_⟩;rcases hw with rfl | rfl
 ·exact Below.refl _ _
 ·exact Lib.bytesWorld_below _ _ _
def ceilQ (N d:Nat):Option Nat:=if (N + d - 1) / d ≤ 9223372036854775807 then some ((N + d - 1) / d) else none
theorem ceilQ_eq (N d:Nat) (hd:0 < d):ceilQ N d = if N / d + (if N % d = 0 then 0 else 1) ≤ 9223372036854775807 then some (N / d + if N % d = 0 then 0 else 1) else none:=by
 unfold ceilQ;rw [ceil_div _ _ hd]
theorem over_calls (w:World) (N d:Nat) (hN:N < 18446744073709551616 * 18446744073709551616) (hd:0 < d) (hd2:d < 9223372036854775808) :
  Calls Tryz.prog 151 #[.int .u64 ((N / 18446744073709551616:Nat):Int),.int .u64 ((N % 18446744073709551616:Nat):Int),.int .u64 d] w fun e w' => ∃ v ec:Int,e = .returned (.tuple #[.int .i64 v,.int .i64 ec]) ∧ QRes (ceilQ N d) v ec ∧ Below w.heap.size w w':=by
 obtain ⟨hi,hhi⟩ : ∃ a,a = N / 18446744073709551616:=⟨_,rfl⟩;obtain ⟨lo,hlo⟩ : ∃ a,a = N % 18446744073709551616:=⟨_,rfl⟩
 have hNe:N = hi * 18446744073709551616 + lo:=by omega
 have hlo2:lo < 18446744073709551616:=by omega
 have hhi2:hi < 18446744073709551616:=by omega
 rw [← hhi,← hlo];have Hspec:=hIh (ceilQ_eq N d hd);clear hhi hlo hN
 by_cases hge:d ≤ hi
 ·have Hnone:Hid (ceilQ N d = none):=by
   show _ = _;rw [Hspec.out,if_neg]
   have h1:18446744073709551616 ≤ N / d:=by
    rw [Nat.le_div_iff_mul_le hd,hNe];rw [Nat.mul_comm];exact Nat.le_trans (Nat.mul_le_mul_right 18446744073709551616 hge) (Nat.le_add_right _ _)
   omega
  have hgi:(d:Int) ≤ hi:=by omega
  clear Hspec hNe hge;go_enter Tryz.func151,Tryz.ntmps151;go_wp2;go_ret2;exact ⟨_,_,rfl,.inr ⟨Hnone.out,by decide⟩,Below.refl _ _⟩
 ·have hgi:¬ (d:Int) ≤ hi:=by omega
  have Hdiv:=hIh (fun W=>div64_calls W hi lo d (by omega) hlo2 hd2);rw [← hNe] at Hdiv
  have hq64:N / d < 18446744073709551616:=by
   rw [Nat.div_lt_iff_lt_mul hd,hNe];have:(hi + 1) * 18446744073709551616 ≤ d * 18446744073709551616:=Nat.mul_le_mul_right _ (by omega);rw [Nat.mul_comm 18446744073709551616];omega
  generalize N / d = q at Hspec Hdiv hq64;generalize N % d = r at Hspec Hdiv;clear hNe hge
  by_cases hr:r = 0
  ·subst hr
   rw [if_pos rfl,Nat.add_zero] at Hspec
   by_cases hM:q ≤ 9223372036854775807
   ·rw [if_pos hM] at Hspec
    have hMi:¬ (9223372036854775807:Int) < q:=(by omega);have hc:IntKind.i64.wrap (q:Int) = (q:Int):=(by rw [IntKind.wrap_i64];omega);clear hM;go_enter Tryz.func151,Tryz.ntmps151;go_wp2_with (go_at_call 173;refine (Hdiv.out _).mono ?_;rintro e w1 ⟨rfl,hw1⟩);go_ret2;exact ⟨_,_,rfl,.inl ⟨q,Hspec.out,rfl,rfl⟩,hw1⟩
   ·rw [if_neg hM] at Hspec
    have hMi:(9223372036854775807:Int) < q:=(by omega);clear hM;go_enter Tryz.func151,Tryz.ntmps151;go_wp2_with (go_at_call 173;refine (Hdiv.out _).mono ?_;rintro e w1 ⟨rfl,hw1⟩);go_ret2;exact ⟨_,_,rfl,.inr ⟨Hspec.out,by decide⟩,hw1⟩
  ·rw [if_neg hr] at Hspec
   have hr0:(0:Int) < r:=(by omega);clear hr
   by_cases hov:q = 18446744073709551615
   ·subst hov
    rw [if_neg (by omega)] at Hspec;go_enter Tryz.func151,Tryz.ntmps151;go_wp2_with (go_at_call 173;refine (Hdiv.out _).mono ?_;rintro e w1 ⟨rfl,hw1⟩);go_ret2;exact ⟨_,_,rfl,.inr ⟨Hspec.out,by decide⟩,hw1⟩
   ·obtain ⟨p,hp⟩ : ∃ p,p = q + 1:=⟨_,rfl⟩
    have hn0:((p:Int) == 0) = false:=(by simp;omega);have E:IntKind.u64.wrap ((q:Int) + 1) = (p:Int):=(by rw [IntKind.wrap_u64];omega);rw [← hp] at Hspec;clear hov hp hq64
    by_cases hM:p ≤ 9223372036854775807
    ·rw [if_pos hM] at Hspec
     have hMi:¬ (9223372036854775807:Int) < (p:Int):=(by omega);have hc:IntKind.i64.wrap (p:Int) = (p:Int):=(by rw [IntKind.wrap_i64];omega);clear hM;go_enter Tryz.func151,Tryz.ntmps151;go_wp2_with (go_at_call 173;refine (Hdiv.out _).mono ?_;rintro e w1 ⟨rfl,hw1⟩);go_ret2;exact ⟨_,_,rfl,.inl ⟨p,Hspec.out,rfl,rfl⟩,hw1⟩
    ·rw [if_neg hM] at Hspec
     have hMi:(9223372036854775807:Int) < (p:Int):=(by omega);clear hM;go_enter Tryz.func151,Tryz.ntmps151;go_wp2_with (go_at_call 173;refine (Hdiv.out _).mono ?_;rintro e w1 ⟨rfl,hw1⟩);go_ret2;exact ⟨_,_,rfl,.inr ⟨Hspec.out,by decide⟩,hw1⟩
theorem qall_calls (w:World) (s:Str) (hs:s.length ≤ 4194304):Calls Tryz.prog 148 #[.string (sb s)] w fun e w'=>e = .returned (.bool (qall s)) ∧ Below w.heap.size w w':=by
 by_cases h0:s = []
 ·subst h0
  rw [show qall [] = false from rfl];have hp:(sb []).toList = []:=sb_toL [];generalize sb [] = S at hp;go_enter Tryz.func148,Tryz.ntmps148;go_wp2;go_ret;exact ⟨rfl,Below.refl _ _⟩
 ·have Htrim:=hIh (fun W=>ltrim_calls W s hs)
  have hn:(sb s).toList.isEmpty = false:=by rw [sb_toL];simpa using h0
  have hp:¬ (sb s).toList = []:=by rw [sb_toL];exact h0
  have Hq:Hid (qall s = s.all isDg):=by show _ = _;simp [qall,h0]
  generalize sb s = S at Htrim hn hp;go_enter Tryz.func148,Tryz.ntmps148;go_wp2_with (go_at_call 170;refine (Htrim.out _).mono ?_;rintro e w1 ⟨t,rfl,ht,hw1⟩);have Ht:=hIh ht;clear ht;go_ret;refine ⟨?_,hw1⟩;rw [Hq.out,sb_toL]
  congr 2
  cases h:s.all isDg with
  | true=>rw [Ht.out.2 h];rfl
  | false=>
   cases t with
   | nil=>have:=Ht.out.1 rfl;rw [h] at this;cases this
   | cons a r=>rfl
theorem unit_calls (w:World) (t:Str) (i:Nat) (h:i < qunits.length) (p:Nat) (hp:w.cell? ⟨p,0,none⟩ = some (.string (sb t))) (ht:t.length ≤ 4194304) :
  Calls Tryz.prog 145 #[.agg #[.string (sb qunits[i].1),.int .u64 (qunits[i].2:Nat)],.pointer (some ⟨p,0,none⟩)] w fun e w'=>e = .returned (.bool (qunits[i].1.isSuffixOf t)) ∧ Below w.heap.size w w':=by
 have Hs:=hIh (fun W=>lhassuf_calls W t qunits[i].1 ht);have hpl:=World.block_lt_of_cell? w (a:=⟨p,0,none⟩) hp;have HB:Hid (∀ o,Below w.heap.size w (w.alloc o)):=fun o=>(Below.refl _ _).alloc (Nat.le_refl _) o;have hp2:∀ o,(w.alloc o).cell? ⟨p,0,none⟩ = some (.string (sb t)):=fun o=>((HB.out o).cell (p:=⟨p,0,none⟩) hpl).trans hp;generalize qunits[i].1.isSuffixOf t = b at Hs;generalize sb qunits[i].1 = u at Hs;generalize (qunits[i].2) = f;generalize sb t = T at Hs hp hp2;clear h ht;go_enter Tryz.func145,Tryz.ntmps145;go_wp2_with (go_at_call 146;refine (Hs.out _).mono ?_;rintro e w1 ⟨rfl,hw1⟩);go_ret;exact ⟨rfl,(HB.out _).trans (hw1.mono (by simp))⟩
def ULoop (w:World) (t:Str) (v8:Value) (w1:World):Prop := ∃ i:Nat,i < 12 ∧ v8 = .int .i64 i ∧ (∀ j (h:j < qunits.length),j < i → qunits[j].1.isSuffixOf t = false) ∧ Below w.heap.size w w1
theorem find_first {α : Type} (p : α → Bool):∀ (l:List α) (i:Nat) (h:i < l.length),p l[i] = true → (∀ j (h' : j < l.length),j < i → p l[j] = false) → l.find? p = some l[i]
 | a :: r,0,_,h1,_=>by
  have h3:p a = true:=h1;simp [List.find?,h3]
 | a :: r,i + 1,h,h1,h2=>by
  have h3:p a = false:=h2 0 (by simp) (by omega);have h4:=find_first p r i (by simpa using h) (by simpa using h1) (fun j hj hji=>by have:=h2 (j + 1) (by simpa using hj) (by omega);simpa using this);simp [List.find?,h3,h4]
theorem index_calls (w:World) (G:Glob w) (t:Str) (p:Nat) (hp:w.cell? ⟨p,0,none⟩ = some (.string (sb t))) (ht:t.length ≤ 4194304) (c:Nat) :
  Calls Tryz.prog 144 #[.slice (some ⟨3,0,none⟩) 12 c,.func (Fn.func 145) #[] #[.pointer (some ⟨p,0,none⟩)]] w fun e w'=>
   ∃ i, ∃ h:i < qunits.length,e = .returned (.int .i64 i) ∧ qunits.find? (fun e=>e.1.isSuffixOf t) = some qunits[i] ∧ Below w.heap.size w w':=by
 have hpl:=World.block_lt_of_cell? w (a:=⟨p,0,none⟩) hp;have Hp:=hIh hp;have HG:=hIh G;have Hst:Hid (ULoop w t (.int .i64 0) w):=⟨0,by omega,rfl,fun j h hj=>by omega,Below.refl _ _⟩;clear hp G;go_enter Tryz.func144,Tryz.ntmps144;go_wp2
 go_loopw [8] (fun v8 w1=>ULoop w t v8 w1) (fun i _=>12 - (intOf i).toNat)
 case atStart=>exact Hst.out
 case round=>
  clear Hst;obtain ⟨i,hi,rfl,hno,hB⟩:=hrel;have hil:i < qunits.length:=hi;obtain ⟨c1,c2⟩:=(HG.out.below hB).uni i hil;have Hcall:=hIh (unit_calls wr t i hil p ((hB.cell (p:=⟨p,0,none⟩) hpl).trans Hp.out) ht);have Hno:=hIh hno;have HB:=hIh hB
  have hlt:(i:Int) < 12:=by omega
  have hi0:(0:Int) ≤ i:=by omega
  have hltd:decide ((i:Int) < 12) = true:=decide_eq_true hlt;clear hno hB
  by_cases hh:qunits[i].1.isSuffixOf t = true
  ·have Hf:=hIh (find_first (fun e:Str × Nat=>e.1.isSuffixOf t) qunits i hil hh Hno.out)
   rw [hh] at Hcall;generalize hE:qunits[i] = E at c1 c2 Hcall Hf;have HE:=hIh hE;clear hh hE;go_wp2_with (go_at_call 145;refine Hcall.out.mono ?_;rintro e w1 ⟨rfl,hw1⟩);go_ret;exact ⟨i,hil,rfl,by rw [HE.out];exact Hf.out,HB.out.trans (hw1.mono HB.out.size)⟩
  ·have hh2:qunits[i].1.isSuffixOf t = false:=(Bool.not_eq_true _).mp hh
   have hne:i ≠ 11:=by
    intro e;subst e;exact hh (by simp [qunits])
   rw [hh2] at Hcall
   have Hk:Hid (∀ W,Below w.heap.size w W → ULoop w t (.int .i64 ((i:Int) + 1)) W):=fun W hW=>by
    refine ⟨i + 1,by omega,rfl,fun j h hj=>?_,hW⟩
    by_cases e:j = i
    ·subst e;exact hh2
    ·exact Hno.out j h (by omega)
   generalize qunits[i] = E at c1 c2 Hcall;clear hh hh2;go_wp2_with (go_at_call 145;refine Hcall.out.mono ?_;rintro e w1 ⟨rfl,hw1⟩);go_roundw
   case rel=>exact Hk.out _ (HB.out.trans (hw1.mono HB.out.size))
   case measure=>simp [intOf];omega
def qbad (wh pt:Str) (dot:Bool):Bool := !qall wh || (dot && !qall pt) || decide (19 < wh.length + pt.length)
theorem cutR_dot (n:Str):cutR [46] n = if (46:UInt8) ∈ n then (n.takeWhile (· != 46),(n.dropWhile (· != 46)).drop 1,true) else (n, [],false):=by
 have key:cutAt [46] n = if (46:UInt8) ∈ n then some (n.takeWhile (· != 46),(n.dropWhile (· != 46)).drop 1) else none:=by
  induction n with
  | nil=>simp [cutAt]
  | cons a r ih=>
   rw [cutAt]
   by_cases h:a = 46
   ·subst h;simp [List.isPrefixOf]
   ·have h2:([46] : Str).isPrefixOf (a :: r) = false:=by simp [List.isPrefixOf];exact fun e=>h e.symm
    have h3:(46:UInt8) ≠ a:=fun e=>h e.symm;rw [if_neg (by rw [h2];decide),ih]
    by_cases h4:(46:UInt8) ∈ r
    ·simp [h4,h,List.takeWhile_cons,List.dropWhile_cons]
    ·simp [h4,h3]
 unfold cutR;rw [key]
 by_cases h:(46:UInt8) ∈ n
 ·simp [h]
 ·simp [h]
theorem qprog_cut {t:Str} {e:Str × Nat} (h:qunits.find? (fun e=>e.1.isSuffixOf t) = some e) :
  qprog t = if qbad (cutR [46] (t.take (t.length - e.1.length))).1 (cutR [46] (t.take (t.length - e.1.length))).2.1 (cutR [46] (t.take (t.length - e.1.length))).2.2 = true then none
   else ceilQ (numv ((cutR [46] (t.take (t.length - e.1.length))).1 ++ (cutR [46] (t.take (t.length - e.1.length))).2.1) * e.2) (10 ^ (cutR [46] (t.take (t.length - e.1.length))).2.1.length):=by
 unfold qprog;rw [h];simp only;generalize t.take (t.length - e.1.length) = n;rw [cutR_dot];unfold qnum
 by_cases hd:(46:UInt8) ∈ n
 ·rw [if_pos hd,if_pos hd]
  simp only
  generalize n.takeWhile (· != 46) = w
  generalize (n.dropWhile (· != 46)).drop 1 = p
  unfold qbad qval ceilQ
  cases hw:qall w <;> cases hp:qall p <;> simp
  by_cases h19:w.length + p.length ≤ 19
  ·simp [h19,show ¬ 19 < w.length + p.length by omega]
  ·simp [h19,show 19 < w.length + p.length by omega]
 ·rw [if_neg hd,if_neg hd]
  simp only;unfold qbad qval ceilQ
  cases hw:qall n <;> simp
  by_cases h19:n.length ≤ 19
  ·simp [h19,show ¬ 19 < n.length by omega]
  ·simp [h19,show 19 < n.length by omega]
theorem cutR_len (n:Str):(cutR [46] n).1.length ≤ n.length ∧ (cutR [46] n).2.1.length ≤ n.length:=by
 unfold cutR
 cases h:cutAt [46] n with
 | none=>simp
 | some x=>have:=cutAt_len h;simp only;omega
theorem cutR_nodot (n:Str) (h:(cutR [46] n).2.2 = false):(cutR [46] n).2.1 = []:=by
 rw [cutR_dot] at h ⊢
 split at h
 ·cases h
 ·rename_i h2;rw [if_neg h2]
theorem numv_lt {l:Str} (h:∀ b ∈ l,isDg b = true):numv l < 10 ^ l.length:=by
 rw [numv_numd,numd_rev]
 have h1:=vald_lt (l:=(l.map dval).reverse) (fun x hx=>by
  obtain ⟨b,hb,rfl⟩:=List.mem_map.1 (List.mem_reverse.1 hx);have:=h b hb;simp only [isDg,Bool.and_eq_true,decide_eq_true_eq,UInt8.le_iff_toNat_le] at this;have h2:b.toNat ≤ 57:=this.2
  unfold dval;omega)
 simpa using h1
theorem unit_worth:∀ e ∈ qunits,e.2 < 18446744073709551616:=by decide
def DLoop (p:Nat) (v11 v59:Value):Prop := ∃ k D:Nat,k ≤ p ∧ v59 = .int .i64 k ∧ v11 = .int .u64 (D:Int) ∧ Hid (D = 10 ^ k)
theorem qparse_calls (w:World) (G:Glob w) (l:Str) (hl:l.length ≤ 1048576) :
  Calls Tryz.prog 125 #[.string (sb l)] w fun e w' => ∃ v ec:Int,e = .returned (.tuple #[.int .i64 v,.int .i64 ec]) ∧ QRes (qparse l) v ec ∧ Below w.heap.size w w':=by
 rw [← qprog_eq];have hmf:∀ (fn:Fn) (first cap:Array Value) (w:World),(Instr.makeFunc fn first cap).run Tryz.prog w = .ok (.func fn first cap) w:=fun _ _ _ _=>rfl;have HB0:Hid (∀ o,Below w.heap.size w (w.alloc o)):=fun o=>(Below.refl _ _).alloc (Nat.le_refl _) o;have hbx:(w.alloc (.cells #[.string (sb l)] 9)).heap[w.heap.size]? = some (.cells #[.string (sb l)] 9 (0,0)):=blk_new _ _;have Hbx:=hIh hbx;have HG:=hIh (G.below (HB0.out (.cells #[.string (sb l)] 9)));clear hbx G;go_enter Tryz.func125,Tryz.ntmps125;go_wp2_with fail;refine (index_calls _ HG.out l w.heap.size (cells1 Hbx.out).1 (by omega) _).mono ?_;rintro e w1 ⟨i,hi,rfl,hf,hw1⟩
 have hi12:(i:Int) < 12:=by have:i < 12:=hi;omega
 have hi0:(0:Int) ≤ i:=by omega
 have H1:Hid (Below w.heap.size w w1):=(HB0.out _).trans (hw1.mono (by simp));have HG1:=hIh (HG.out.below hw1);obtain ⟨c1,c2⟩:=HG1.out.uni i hi;have hbx1:=blk_below Hbx.out hw1;obtain ⟨d1, -⟩:=cells1 hbx1;have hbu:(w1.alloc (.cells #[.string (sb qunits[i].1),.int .u64 (qunits[i].2:Nat)] 214)).heap[w1.heap.size]? = some (.cells #[.string (sb qunits[i].1),.int .u64 (qunits[i].2:Nat)] 214 (0,0)):=blk_new _ _;have HBU:=hIh hbu;have HBX:=hIh (blk_alloc hbx1 (.cells #[.string (sb qunits[i].1),.int .u64 (qunits[i].2:Nat)] 214));have H1a:Hid (Below w1.heap.size w1 (w1.alloc (.cells #[.string (sb qunits[i].1),.int .u64 (qunits[i].2:Nat)] 214))):=(Below.refl _ _).alloc (Nat.le_refl _) _;have Hspec:=hIh (qprog_cut hf);have hworth:=unit_worth _ (List.getElem_mem hi);have hsuf:=List.find?_some hf;have Hworth:=hIh hworth;have Htr:=hIh (fun W=>ltrimsuf_calls W l qunits[i].1 (by omega))
 have hsuf:qunits[i].1.isSuffixOf l = true:=hsuf;rw [if_pos hsuf] at Htr;clear hsuf;clear hbx1 hbu hf hw1 hworth HB0;obtain ⟨num,hnum⟩ : ∃ n,n = l.take (l.length - qunits[i].1.length):=⟨_,rfl⟩
 have hnl:num.length ≤ 1048576:=by rw [hnum,List.length_take];omega
 rw [← hnum] at Hspec Htr;clear hnum;generalize hsu:sb qunits[i].1 = su at *;generalize hwo:qunits[i].2 = wo at *;clear hsu hwo;have d2:=(cells1 HBX.out).1;have Hcut:=hIh (fun W G=>lcut_calls W G num [46] (by omega) (by simp));have hcl:=cutR_len num;have Hnd:=hIh (cutR_nodot num);obtain ⟨wh,hwh⟩ : ∃ x,x = (cutR [46] num).1:=⟨_,rfl⟩;obtain ⟨pt,hpt⟩ : ∃ x,x = (cutR [46] num).2.1:=⟨_,rfl⟩;obtain ⟨dot,hdot⟩ : ∃ x,x = (cutR [46] num).2.2:=⟨_,rfl⟩;rw [← hwh,← hpt,← hdot] at Hcut Hspec;rw [← hwh,← hpt] at hcl;rw [← hdot,← hpt] at Hnd;obtain ⟨hwl,hpl⟩:=hcl;have hd46:ByteArray.mk #[46] = sb [46]:=rfl;clear hwh hpt hdot;have Hwh:=hIh (fun W=>qall_calls W wh (by omega));have Hpt:=hIh (fun W=>qall_calls W pt (by omega));go_wp2_with fail;refine (Htr.out _).mono ?_;rintro e w2 ⟨rfl,hw2⟩;have H2:Hid (Below w1.heap.size w1 w2):=H1a.out.trans (hw2.mono (by simp));have HU2:=hIh (blk_below HBU.out hw2)
 clear hw2 H1a d1 d2 c1 c2 HBX HBU;go_wp2_with fail;refine (Hcut.out _ (HG1.out.below H2.out)).mono ?_;rintro e w3 ⟨rfl,hw3⟩;have H3:Hid (Below w1.heap.size w1 w3):=H2.out.trans (hw3.mono H2.out.size);have HU3:=hIh (blk_below HU2.out hw3);clear hw3 H2 HU2 Hcut Htr hd46;have hws:(sb wh).size = wh.length:=sb_size wh;have hps:(sb pt).size = pt.length:=sb_size pt;have Happ:Hid (sb wh ++ sb pt = sb (wh ++ pt)):=sb_append wh pt;generalize hWH:sb wh = WH at *;generalize hPT:sb pt = PT at *;clear hWH hPT;go_upto_region 4 with fail
 go_cut [47] from 29 to 48 (fun v47 wx=>v47 = .bool (qbad wh pt dot) ∧ Below w3.heap.size w3 wx)
 case first=>
  have Hq:Hid (qbad wh pt dot = (!qall wh || (dot && !qall pt) || decide (19 < wh.length + pt.length))):=rfl;generalize qall wh = qw at Hwh Hq;generalize qall pt = qp at Hpt Hq;clear Hspec
  cases qw with
  | false=>
   go_wp2_with (go_at_call 148;with_reducible refine (Hwh.out _).mono ?_;rintro e wa ⟨rfl,hwa⟩);go_meet
   case rel=>exact ⟨by rw [Hq.out];rfl,hwa⟩
  | true=>
   cases dot with
   | true=>
    cases qp with
    | false=>
     go_wp2_with (go_at_call 148;(first | (with_reducible refine (Hwh.out _).mono ?_;rintro e wa ⟨rfl,hwa⟩) | (with_reducible refine (Hpt.out _).mono ?_;rintro e wb ⟨rfl,hwb⟩)));go_meet
     case rel=>exact ⟨by rw [Hq.out];rfl,hwa.trans (hwb.mono hwa.size)⟩
    | true=>
     by_cases h19:19 < wh.length + pt.length
     ·have h19i:(19:Int) < (wh.length:Int) + pt.length:=by omega
      go_wp2_with (go_at_call 148;(first | (with_reducible refine (Hwh.out _).mono ?_;rintro e wa ⟨rfl,hwa⟩) | (with_reducible refine (Hpt.out _).mono ?_;rintro e wb ⟨rfl,hwb⟩)));go_meet
      case rel=>exact ⟨by rw [Hq.out];first | (simp [h19];done) | (simp [h19,h19i];done),hwa.trans (hwb.mono hwa.size)⟩
     ·have h19i:¬ (19:Int) < (wh.length:Int) + pt.length:=by omega
      go_wp2_with (go_at_call 148;(first | (with_reducible refine (Hwh.out _).mono ?_;rintro e wa ⟨rfl,hwa⟩) | (with_reducible refine (Hpt.out _).mono ?_;rintro e wb ⟨rfl,hwb⟩)));go_meet
      case rel=>exact ⟨by rw [Hq.out];first | (simp [h19];done) | (simp [h19,h19i];done),hwa.trans (hwb.mono hwa.size)⟩
   | false=>
    by_cases h19:19 < wh.length + pt.length
    ·have h19i:(19:Int) < (wh.length:Int) + pt.length:=by omega
     go_wp2_with (go_at_call 148;(first | (with_reducible refine (Hwh.out _).mono ?_;rintro e wa ⟨rfl,hwa⟩) | (with_reducible refine (Hpt.out _).mono ?_;rintro e wb ⟨rfl,hwb⟩)));go_meet
     case rel=>exact ⟨by rw [Hq.out];first | (simp [h19];done) | (simp [h19,h19i];done),hwa⟩
    ·have h19i:¬ (19:Int) < (wh.length:Int) + pt.length:=by omega
     go_wp2_with (go_at_call 148;(first | (with_reducible refine (Hwh.out _).mono ?_;rintro e wa ⟨rfl,hwa⟩) | (with_reducible refine (Hpt.out _).mono ?_;rintro e wb ⟨rfl,hwb⟩)));go_meet
     case rel=>exact ⟨by rw [Hq.out];first | (simp [h19];done) | (simp [h19,h19i];done),hwa⟩
 case rest=>
  obtain ⟨rfl,hwc⟩:=hcut;have H4:Hid (Below w.heap.size w wc):=H1.out.trans ((H3.out.trans (hwc.mono H3.out.size)).mono H1.out.size);have HU4:=hIh (blk_below HU3.out hwc);clear hwc H3 HU3 Hwh Hpt H1
  by_cases hbad:qbad wh pt dot = true
  ·rw [if_pos hbad] at Hspec
   rw [hbad];clear hbad;go_wp2;go_ret2;exact ⟨_,_,rfl,.inr ⟨Hspec.out,by decide⟩,H4.out⟩
  ·rw [if_neg hbad] at Hspec
   have hbf:qbad wh pt dot = false:=(Bool.not_eq_true _).mp hbad;rw [hbf]
   have hall:(∀ b ∈ wh ++ pt,isDg b = true) ∧ wh ++ pt ≠ [] ∧ (wh ++ pt).length ≤ 19 ∧ pt.length ≤ 18:=by
    unfold qbad at hbf;simp only [Bool.or_eq_false_iff,Bool.not_eq_false',Bool.and_eq_false_iff,decide_eq_false_iff_not] at hbf;obtain ⟨⟨h1,h2⟩,h3⟩:=hbf;obtain ⟨g1,g2⟩:=all_of h1
    have hpd:∀ b ∈ pt,isDg b = true:=by
     rcases h2 with h2 | h2
     ·rw [Hnd.out h2];intro b hb;cases hb
     ·exact (all_of h2).2
    have hwl0:0 < wh.length:=List.length_pos_iff.2 g1;refine ⟨fun b hb=>?_,?_,?_,by omega⟩
    ·rcases List.mem_append.1 hb with h | h
     ·exact g2 b h
     ·exact hpd b h
    ·intro e;simp at e;exact g1 e.1
    ·rw [List.length_append];omega
   obtain ⟨ha1,ha2,ha3,ha4⟩:=hall;have hnum:=numv_lt ha1;have hnum19:numv (wh ++ pt) < 10 ^ 19:=Nat.lt_of_lt_of_le hnum (Nat.pow_le_pow_right (by decide) ha3);have hn64:numv (wh ++ pt) < 18446744073709551616:=(by omega);have Hparse:=hIh (fun W=>lparse_calls W (wh ++ pt) ha2 ha1 ha3);have hsz:WH.size + PT.size ≤ 9223372036854775807:=(by omega);have hsz2:¬ 9223372036854775807 < wh.length + pt.length:=(by omega);have Hn64:=hIh hn64;have Ha4:=hIh ha4;clear hbad hbf ha1 ha2 ha3 ha4 hnum hnum19 hn64 Hnd;go_wp2_with fail;rw [Happ.out];refine (Hparse.out _).mono ?_;rintro e w5 ⟨rfl,hw5⟩;have H5:Hid (Below w.heap.size w w5):=H4.out.trans (hw5.mono H4.out.size);have hu5:=blk_below HU4.out hw5;have hu6:w5.cell? ⟨w1.heap.size,1,none⟩ = some (.int .u64 wo):=(by simp [World.cell?,hu5]);generalize numv (wh ++ pt) = n at Hn64 Hspec;have hpl18:=Ha4.out;clear hw5 hu5 H4 HU4 Hparse Happ hsz hsz2
   go_wp2
   go_loop [11,59] (fun v11 v59=>DLoop pt.length v11 v59) (fun _ i=>pt.length - (intOf i).toNat)
   case atStart=>exact ⟨0,1,by omega,rfl,rfl,rfl⟩
   case round=>
    obtain ⟨k,D,hk,rfl,rfl,hD⟩:=hrel
    by_cases hlt:k < pt.length
    ·have hDb:D * 10 ≤ 10 ^ 18:=by
      rw [hD.out,← Nat.pow_succ];exact Nat.pow_le_pow_right (by decide) (by omega)
     have hlti:(k:Int) < pt.length:=(by omega);have Hk:Hid (DLoop pt.length (.int .u64 ((D:Int) * 10)) (.int .i64 ((k:Int) + 1))):=⟨k + 1,D * 10,by omega,rfl,by simp,by show _ = _;rw [Nat.pow_succ,hD.out]⟩;go_wp2;go_round
     case rel=>exact Hk.out
     case measure=>simp [intOf];omega
    ·obtain rfl:k = pt.length:=by omega
     have hlti:¬ ((pt.length:Nat):Int) < pt.length:=(by omega);have hD0:0 < D:=(by rw [hD.out];exact Nat.pow_pos (by decide));have hD18:D ≤ 10 ^ 18:=(by rw [hD.out];exact Nat.pow_le_pow_right (by decide) (by omega));have Hov:=hIh (fun W=>over_calls W (n * wo) D (Nat.mul_lt_mul'' Hn64.out Hworth.out) hD0 (by omega));rw [← hD.out] at Hspec;have Hmul:=hIh (fun W=>Tryz.bits_Mul64 n wo Hn64.out Hworth.out W);generalize n * wo / 18446744073709551616 = hi at Hov Hmul;generalize n * wo % 18446744073709551616 = lo at Hov Hmul;clear hD18 hD0 hk
     go_wp2_with (first
      | (go_at_call 150;with_reducible refine (Hmul.out _).mono ?_;rintro e w6 ⟨rfl,hw6⟩;obtain rfl:=hw6)
      | (go_at_call 151;with_reducible refine (Hov.out _).mono ?_;rintro e w7 ⟨v7,e7,rfl,hres,hw7⟩))
     go_ret2;exact ⟨_,_,rfl,by rw [Hspec.out];exact hres,H5.out.trans (hw7.mono H5.out.size)⟩
end Go.Proofs.YtpfkkagkbneilaaGreatDoor
