-- Written by a program of this session out of its own texts (wip/tools/link.py).
import Derived.Below
import Derived.ChangeKeysEq
import Derived.Deep.MidRow
import Derived.Deep.RegionHeld3
import Derived.Great.BuildSlice
import Derived.IntWalk
import Derived.LaidEql
import Derived.Laws.Bits64
import Derived.Laws.BitsLemmas
import Derived.Laws.BytesArg
import Derived.Laws.IdiomCopy
import Derived.Laws.OwnMore
import Derived.Laws.Rows
import Derived.Laws.Slices
import Derived.Laws.StructEq
import Derived.Laws.Tables
import Derived.Lib.BitFns
import Derived.Maps.AppendAt
import Derived.OrdersHeld
import Derived.RowKit
import Derived.Scope
import Derived.Test.YtbpcfhhcoklinaaGreatCVecInto10
set_option linter.unusedVariables false
namespace Go.Proofs.YtbpcfhhcoklinaaGreat.V
open Go Go.RowKit Go.Proofs.YtbpcfhhcoklinaaGreat.Ab
theorem evs {α:Type} {g:Nat→Option α} {r:α} (h:Ev (fun k=>g (k+1)) r):Ev g r:=Ev.step (fun _=>rfl) h
theorem evn {α:Type} {o:Option α} {r:α} (h:o=some r):Ev (fun _=>o) r:=⟨0,fun _ _=>h⟩
theorem u64_wrap (n:Int):IntKind.u64.wrap n=n%18446744073709551616:=by
 simp [IntKind.wrap,IntKind.bits,IntKind.signed]
theorem u64_of {n:Int} (h0:0≤n) (h1:n < 18446744073709551616):IntKind.u64.wrap n=n:=by
 rw [u64_wrap];omega
theorem u64_nat_wrap (n:Nat):IntKind.u64.wrap (n:Int)=((n%18446744073709551616:Nat):Int):=by
 rw [u64_wrap];omega
theorem w64 {n:Int} (h0:-9223372036854775808≤n) (h1:n < 9223372036854775808):wrap64 n=n:=by
 unfold wrap64;omega
theorem pow_split {m k:Nat} (h:k≤m):(2:Nat)^k*2^(m - k)=2^m:=by
 rw [← Nat.pow_add];congr 1;omega
theorem two_pos (k:Nat):0 < (2:Nat)^k:=Nat.two_pow_pos k
theorem pow_cast (k:Nat):((2:Int)^k)=((2^k:Nat):Int):=by simp
theorem shl_nat (x n:Nat) (hn:n≤64):shl .u64 (x:Int) (n:Int)=((x*2^n%18446744073709551616:Nat):Int):=by
 unfold shl
 rw [Int.toNat_natCast,Nat.min_eq_left (by simpa [IntKind.bits] using hn),u64_wrap,pow_cast]
 omega
theorem shr_nat (x n:Nat) (hn:n≤64):shr .u64 (x:Int) (n:Int)=((x / 2^n:Nat):Int):=by
 unfold shr
 rw [Int.toNat_natCast,Nat.min_eq_left (by simpa [IntKind.bits] using hn),pow_cast]
 omega
theorem or_nat (a b:Nat) (ha:a < 18446744073709551616) (hb:b < 18446744073709551616):Go.bits .or .u64 (a:Int) (b:Int)=((a ||| b:Nat):Int):=
 (Go.bits_nat .u64 64 (by decide) (fun n h0 h1=>u64_of h0 (by omega)) a b (by omega) (by omega)).2
theorem and_nat (a b:Nat) (ha:a < 18446744073709551616) (hb:b < 18446744073709551616):Go.bits .and .u64 (a:Int) (b:Int)=((a &&& b:Nat):Int):=
 (Go.bits_nat .u64 64 (by decide) (fun n h0 h1=>u64_of h0 (by omega)) a b (by omega) (by omega)).1
theorem or_parts {a b k:Nat} (hb:b < 2^k):a*2^k ||| b=a*2^k+b:=by
 rw [Nat.mul_comm,← Nat.two_pow_add_eq_or_of_lt hb]
theorem or_add (a b k:Nat) (ha:a < 18446744073709551616) (hd:a%2^k=0) (hb:b < 2^k) (hs:b < 18446744073709551616):Go.bits .or .u64 (a:Int) (b:Int)=((a+b:Nat):Int):=by
 rw [or_nat a b ha hs]
 have e:a=a / 2^k*2^k:=by
  have:=Nat.div_add_mod a (2^k)
  rw [Nat.mul_comm];omega
 rw [e,or_parts hb,← e]
theorem and_mask (a k:Nat) (ha:a < 18446744073709551616) (hk:k≤64):Go.bits .and .u64 (a:Int) ((2^k - 1:Nat):Int)=((a%2^k:Nat):Int):=by
 have h1:2^k≤2^64:=Nat.pow_le_pow_right (by decide) hk
 have h2:=two_pos k
 rw [and_nat a _ ha (by omega),Nat.and_two_pow_sub_one_eq_mod]
theorem xor_all (a:Nat) (ha:a < 18446744073709551616):Go.bits .xor .u64 18446744073709551615 (a:Int)=((18446744073709551615 - a:Nat):Int):=by
 have e:(18446744073709551615:Int)=((2^64 - 1:Nat):Int):=by decide
 rw [e]
 simp only [Go.bits]
 have h1:(BitVec.ofInt IntKind.u64.bits ((2^64 - 1:Nat):Int)) ^^^ (BitVec.ofInt IntKind.u64.bits (a:Int))=BitVec.ofNat 64 (2^64 - 1 - a):=by
  show (BitVec.ofInt 64 ((2^64 - 1:Nat):Int)) ^^^ (BitVec.ofInt 64 (a:Int))=BitVec.ofNat 64 (2^64 - 1 - a)
  rw [BitVec.ofInt_natCast,BitVec.ofInt_natCast]
  have h2:BitVec.ofNat 64 (2^64 - 1)=BitVec.allOnes 64:=by decide
  rw [h2,BitVec.allOnes_xor]
  apply BitVec.eq_of_toNat_eq
  rw [BitVec.toNat_not,BitVec.toNat_ofNat,BitVec.toNat_ofNat]
  omega
 have h3:(BitVec.ofNat 64 (2^64 - 1 - a)).toNat=2^64 - 1 - a:=by rw [BitVec.toNat_ofNat];omega
 rw [h1]
 show IntKind.u64.wrap ((BitVec.ofNat 64 (2^64 - 1 - a)).toNat:Int)=_
 rw [h3,u64_wrap]
 omega
theorem and_i64_3 (s:Int):Go.bits .and .i64 s 3=s%4:=by
 simp only [Go.bits]
 have h1:(BitVec.ofInt IntKind.i64.bits s) &&& (BitVec.ofInt IntKind.i64.bits 3)=BitVec.ofNat 64 (s%4).toNat:=by
  show (BitVec.ofInt 64 s) &&& (BitVec.ofInt 64 3)=BitVec.ofNat 64 (s%4).toNat
  apply BitVec.eq_of_toNat_eq
  rw [BitVec.toNat_and,BitVec.toNat_ofInt,BitVec.toNat_ofInt,BitVec.toNat_ofNat]
  rw [show ((3:Int)%((2^64:Nat):Int)).toNat=2^2 - 1 by decide,Nat.and_two_pow_sub_one_eq_mod]
  omega
 have h3:(BitVec.ofNat 64 (s%4).toNat).toNat=(s%4).toNat:=by rw [BitVec.toNat_ofNat];omega
 rw [h1]
 show IntKind.i64.wrap ((BitVec.ofNat 64 (s%4).toNat).toNat:Int)=_
 rw [h3,IntKind.wrap_i64]
 omega
def TH (V:Nat):Int:=((V / 18446744073709551616:Nat):Int)
def TL (V:Nat):Int:=((V%18446744073709551616:Nat):Int)
theorem TH_of {hi lo:Nat} (h:lo < 18446744073709551616):TH (hi*18446744073709551616+lo)=hi:=by unfold TH;omega
theorem TL_of {hi lo:Nat} (h:lo < 18446744073709551616):TL (hi*18446744073709551616+lo)=lo:=by unfold TL;omega
theorem T_eq {V W:Nat} (h1:TH V=TH W) (h2:TL V=TL W):V=W:=by unfold TH TL at *;omega
theorem mod128_hi (m:Nat):m%340282366920938463463374607431768211456 / 18446744073709551616=m / 18446744073709551616%18446744073709551616:=by omega
theorem bitLenAux_spec:∀ (n x:Nat),x < 2^n→x < 2^Lib.bitLenAux n x∧(0 < x→2^(Lib.bitLenAux n x - 1)≤x∧0 < Lib.bitLenAux n x)∧Lib.bitLenAux n x≤n
 | 0,x,h=>by
  have:x=0:=by simpa using h
  subst this
  exact ⟨by simp [Lib.bitLenAux],fun h=>absurd h (by omega),Nat.le_refl _⟩
 | n+1,x,h=>by
  unfold Lib.bitLenAux
  by_cases h0:x=0
  ·rw [if_pos h0];subst h0
   exact ⟨by simp,fun h=>absurd h (by omega),Nat.zero_le _⟩
  ·rw [if_neg h0]
   have h1:x / 2 < 2^n:=by rw [Nat.pow_succ] at h;omega
   obtain ⟨a,b,c⟩:=bitLenAux_spec n (x / 2) h1
   refine ⟨?_,fun _=>⟨?_,by omega⟩,by omega⟩
   ·rw [Nat.add_comm,Nat.pow_succ];omega
   ·rw [Nat.add_sub_cancel_left]
    by_cases h2:0 < x / 2
    ·obtain ⟨b1,b2⟩:=b h2
     have e:Lib.bitLenAux n (x / 2)=(Lib.bitLenAux n (x / 2) - 1)+1:=by omega
     rw [e,Nat.pow_succ];omega
    ·have:x / 2=0:=by omega
     have e:Lib.bitLenAux n (x / 2)=0:=by
      rw [this]
      cases n with
      | zero=>rfl
      | succ m=>unfold Lib.bitLenAux;rw [if_pos rfl]
     rw [e];simp;omega
def bl (x:Nat):Nat:=if x=0 then 0 else x.log2+1
theorem bl_zero:bl 0=0:=rfl
theorem bl_lt (x:Nat):x < 2^bl x:=by
 unfold bl
 by_cases h:x=0
 ·rw [if_pos h,h];decide
 ·rw [if_neg h];exact Nat.lt_log2_self
theorem bl_le {x:Nat} (h:0 < x):2^(bl x - 1)≤x:=by
 unfold bl
 rw [if_neg (by omega)]
 exact Nat.log2_self_le (by omega)
theorem bl_pos {x:Nat} (h:0 < x):0 < bl x:=by unfold bl;rw [if_neg (by omega)];omega
theorem bl_unique {x n:Nat} (h0:0 < n) (h1:2^(n - 1)≤x) (h2:x < 2^n):bl x=n:=by
 have hx:0 < x:=Nat.lt_of_lt_of_le (two_pos _) h1
 have a:=bl_lt x
 have b:=bl_le hx
 have c:=bl_pos hx
 have d1:¬ bl x < n:=fun h=>by
  have:2^bl x≤2^(n - 1):=Nat.pow_le_pow_right (by decide) (by omega)
  omega
 have d2:¬ n < bl x:=fun h=>by
  have:2^n≤2^(bl x - 1):=Nat.pow_le_pow_right (by decide) (by omega)
  omega
 omega
theorem bl_le_of_lt {x n:Nat} (h:x < 2^n):bl x≤n:=by
 by_cases hx:x=0
 ·subst hx;simp [bl]
 ·have b:=bl_le (x:=x) (by omega)
  have c:=bl_pos (x:=x) (by omega)
  rcases Nat.lt_or_ge n (bl x) with h' | h'
  ·have:2^n≤2^(bl x - 1):=Nat.pow_le_pow_right (by decide) (by omega)
   omega
  ·exact h'
theorem le_bl_of_le {x n:Nat} (h:2^n≤x):n < bl x:=by
 have a:=bl_lt x
 rcases Nat.lt_or_ge n (bl x) with h' | h'
 ·exact h'
 ·have:2^bl x≤2^n:=Nat.pow_le_pow_right (by decide) h'
  omega
theorem bl_mul_pow {x:Nat} (k:Nat) (h:0 < x):bl (x*2^k)=bl x+k:=by
 have a:=bl_lt x
 have b:=bl_le h
 have c:=bl_pos h
 have p:=two_pos k
 refine bl_unique (by omega) ?_ ?_
 ·rw [show bl x+k - 1=(bl x - 1)+k by omega,Nat.pow_add]
  exact Nat.mul_le_mul_right _ b
 ·rw [Nat.pow_add]
  exact Nat.mul_lt_mul_of_pos_right a p
theorem bitLen_bl {x:Nat} (h:x < 2^64):Lib.bitLen x=bl x:=by
 unfold Lib.bitLen
 obtain ⟨a,b,c⟩:=bitLenAux_spec 64 x h
 by_cases hx:0 < x
 ·obtain ⟨b1,b2⟩:=b hx
  exact (bl_unique b2 b1 a).symm
 ·have:x=0:=by omega
  subst this
  rfl
theorem mod_pow_le {a b c:Nat} (h:b≤c):a%2^c%2^b=a%2^b:=
 Nat.mod_mod_of_dvd _ (Nat.pow_dvd_pow 2 h)
theorem div_div_pow (a b c:Nat):a / 2^b / 2^c=a / 2^(b+c):=by rw [Nat.div_div_eq_div_mul,Nat.pow_add]
theorem mul_pow_div (a:Nat) {b c:Nat} (h:b≤c):a*2^b / 2^c=a / 2^(c - b):=by
 rw [← pow_split h,← Nat.div_div_eq_div_mul,Nat.mul_div_cancel _ (two_pos b)]
theorem mul_pow_div' (a:Nat) {b c:Nat} (h:c≤b):a*2^b / 2^c=a*2^(b - c):=by
 rw [← pow_split h,Nat.mul_comm (2^c),← Nat.mul_assoc,Nat.mul_div_cancel _ (two_pos c)]
theorem pow_lt {a b:Nat} (h:a < b):(2:Nat)^a < 2^b:=Nat.pow_lt_pow_right (by decide) h
theorem pow_le {a b:Nat} (h:a≤b):(2:Nat)^a≤2^b:=Nat.pow_le_pow_right (by decide) h
theorem p64:(2:Nat)^64=18446744073709551616:=by decide
theorem p63:(2:Nat)^63=9223372036854775808:=by decide
theorem p128:(2:Nat)^128=340282366920938463463374607431768211456:=by decide
theorem p127:(2:Nat)^127=170141183460469231731687303715884105728:=by decide
end Go.Proofs.YtbpcfhhcoklinaaGreat.V
namespace Go.Proofs.YtbpcfhhcoklinaaGreat.V
open Go Go.RowKit
def lft (Q D:Nat) (R:Bool):Int:=
 if 2^D < 2*Q then 3 else if 2*Q=2^D then (if R then 3 else 2) else if 0 < Q then 1 else if R then 1 else 0
theorem lft_split (B c a d:Nat) (R:Bool) (hc:c < 2^a) (hd:0 < d):lft (B*2^a+c) (d+a) R=lft B d (R||decide (c≠0)):=by
 unfold lft
 have p:=two_pos a
 obtain ⟨e,rfl⟩:∃ e,d=e+1:=⟨d - 1,by omega⟩
 have s:2^(e+1+a)=2*(2^e*2^a):=by rw [show e+1+a=e+a+1 by omega,Nat.pow_succ,Nat.pow_add];omega
 have s2:(2:Nat)^(e+1)=2*2^e:=by rw [Nat.pow_succ];omega
 rw [s,s2]
 generalize 2^e=E
 clear s s2
 generalize 2^a=A at hc p
 have k1:E < B→E*A+A≤B*A:=fun h=>by
  have:=Nat.mul_le_mul_right A (show E+1≤B by omega)
  rw [Nat.add_mul] at this;omega
 have k2:B < E→B*A+A≤E*A:=fun h=>by
  have:=Nat.mul_le_mul_right A (show B+1≤E by omega)
  rw [Nat.add_mul] at this;omega
 have k3:B=E→B*A=E*A:=fun h=>by rw [h]
 have k4:0 < B→0 < B*A:=fun h=>Nat.mul_pos h p
 have k5:B=0→B*A=0:=fun h=>by rw [h,Nat.zero_mul]
 generalize B*A=x at *
 generalize E*A=y at *
 have hR:((R||decide (c≠0))=true)=(R=true∨c≠0):=by simp
 simp only [hR]
 cases R
 ·simp only [Bool.false_eq_true,false_or,if_false]
  repeat' split
  all_goals omega
 ·simp only [true_or,if_true]
  repeat' split
  all_goals omega
theorem lft_scale (B a d:Nat) (R:Bool) (hd:0 < d):lft (B*2^a) (d+a) R=lft B d R:=by
 have:=lft_split B 0 a d R (two_pos a) hd
 simpa using this
def sig (s:Int) (f:Nat):Nat:=
 if 0≤s / 4 then ((2^((s / 4).toNat+1) - 1)*2^130+(s%4).toNat*2^127+f)*2^(69 - (s / 4).toNat)
 else (2^129+(s%4).toNat*2^127+f)*2^(70 - (-(s / 4)).toNat)
def cutP (n S:Nat):Nat:=S / 2^(201 - n)
def cutL (n S:Nat) (R:Bool):Int:=lft (S%2^(201 - n)) (201 - n) R
theorem cut_of (n X D a:Nat) (R:Bool) (hn:n≤64) (hD:0 < D) (h:D+a=201 - n):
  cutP n (X*2^a)=X / 2^D∧cutL n (X*2^a) R=lft (X%2^D) D R:=by
 unfold cutP cutL
 rw [← h]
 constructor
 ·rw [mul_pow_div _ (by omega)];congr 2;omega
 ·rw [Nat.pow_add,Nat.mul_mod_mul_right,lft_scale _ _ _ _ hD]
def cutE (n:Nat) (kd sc:Int) (V:Nat) (R:Bool):Int×Int:=
 if kd=0 then (0,0) else if kd=2 then (((2^(n - 1):Nat):Int),0)
 else if 4*(n:Int) - 8≤sc then (((2^(n - 1) - 1:Nat):Int),0)
 else if sc < -(4*(n:Int) - 8)∨(sc = -(4*(n:Int) - 8)∧V=2^127∧R=false) then (1,0)
 else ((cutP n (sig sc (V - 2^127)):Int),cutL n (sig sc (V - 2^127)) R)
theorem sig_pos_eq {s:Int} {f q e:Nat} (h:s=4*(q:Int)+e) (he:e < 4):
  sig s f=((2^(q+1) - 1)*2^130+e*2^127+f)*2^(69 - q):=by
 unfold sig
 rw [if_pos (by omega)]
 have h1:(s / 4).toNat=q:=by omega
 have h2:(s%4).toNat=e:=by omega
 rw [h1,h2]
theorem sig_neg_eq {s:Int} {f q e:Nat} (h:s = -(4*(q:Int))+e) (hq:0 < q) (he:e < 4):
  sig s f=(2^129+e*2^127+f)*2^(70 - q):=by
 unfold sig
 rw [if_neg (by omega)]
 have h1:(-(s / 4)).toNat=q:=by omega
 have h2:(s%4).toNat=e:=by omega
 rw [h1,h2]
theorem scale_cases (s:Int):(∃ q e:Nat,s=4*(q:Int)+e∧e < 4)∨(∃ q e:Nat,s = -(4*(q:Int))+e∧0 < q∧e < 4):=by
 by_cases h:0≤s
 ·exact .inl ⟨(s / 4).toNat,(s%4).toNat,by omega,by omega⟩
 ·exact .inr ⟨(-(s / 4)).toNat,(s%4).toNat,by omega,by omega,by omega⟩
theorem pw (a b:Nat):(2:Nat)^(a+b)=2^a*2^b:=Nat.pow_add 2 a b
theorem sig_pos_bounds {s:Int} {f q e:Nat} (h:s=4*(q:Int)+e) (he:e < 4) (hq:q≤69) (hf:f < 2^127):
  2^200 - 2^(199 - q)≤sig s f∧sig s f < 2^200 - 2^(198 - q)∧2^(199 - q)≤2^200:=by
 rw [sig_pos_eq h he]
 have z:=two_pos (69 - q)
 have y:=two_pos (q+1)
 have a1:2^(q+1)*2^(69 - q)=(2:Nat)^70:=by rw [← pw];congr 1;omega
 have a2:(2:Nat)^(199 - q)=2^130*2^(69 - q):=by rw [← pw];congr 1;omega
 have a3:(2:Nat)^(198 - q)=2^129*2^(69 - q):=by rw [← pw];congr 1;omega
 have a4:(2:Nat)^200=2^130*(2^(q+1)*2^(69 - q)):=by rw [a1,← pw]
 rw [a2,a3,a4]
 clear a1 a2 a3 a4
 generalize 2^(q+1)=Y at *
 generalize 2^(69 - q)=Z at *
 rw [show (2:Nat)^130=8*2^127 by decide,show (2:Nat)^129=4*2^127 by decide]
 generalize (2:Nat)^127=C at *
 obtain ⟨y',rfl⟩:∃ y',Y=y'+1:=⟨Y - 1,by omega⟩
 rw [Nat.add_sub_cancel]
 have e1:(y'*(8*C)+e*C+f)*Z=8*(y'*Z*C)+(e*C+f)*Z:=by grind
 have e2:8*C*((y'+1)*Z)=8*(y'*Z*C)+8*(C*Z):=by grind
 have e5:8*C*Z=8*(C*Z):=by grind
 have e6:4*C*Z=4*(C*Z):=by grind
 have e3:e*C+f < 4*C:=by
  have:=Nat.mul_le_mul_right C (show e+1≤4 by omega)
  rw [Nat.add_mul] at this
  omega
 have e4:(e*C+f)*Z+Z≤4*(C*Z):=by
  have:=Nat.mul_le_mul_right Z (show e*C+f+1≤4*C by omega)
  rw [Nat.add_mul _ 1,e6] at this;omega
 rw [e1,e2,e5,e6]
 generalize (e*C+f)*Z=u at *
 generalize C*Z=v at *
 generalize y'*Z*C=x at *
 omega
theorem sig_neg_bounds {s:Int} {f q e:Nat} (h:s = -(4*(q:Int))+e) (hq0:0 < q) (he:e < 4) (hq:q≤70) (hf:f < 2^127):
  2^(199 - q)≤sig s f∧sig s f < 2^(200 - q):=by
 rw [sig_neg_eq h hq0 he]
 have z:=two_pos (70 - q)
 have a2:(2:Nat)^(199 - q)=2^129*2^(70 - q):=by rw [← pw];congr 1;omega
 have a3:(2:Nat)^(200 - q)=2^130*2^(70 - q):=by rw [← pw];congr 1;omega
 rw [a2,a3]
 generalize 2^(70 - q)=Z at *
 have e3:e*2^127+f < 2^129:=by
  have:(2:Nat)^129=4*2^127:=by decide
  have:=Nat.mul_le_mul_right (2^127) (show e+1≤4 by omega)
  omega
 constructor
 ·exact Nat.mul_le_mul_right _ (by omega)
 ·exact Nat.mul_lt_mul_of_pos_right (by rw [show (2:Nat)^130=2^129+2^129 by decide];omega) z
theorem sig_lt {s:Int} {f:Nat} (h0:-272≤s) (h1:s < 272) (hf:f < 2^127):sig s f < 2^200:=by
 rcases scale_cases s with ⟨q,e,h,he⟩ | ⟨q,e,h,hq,he⟩
 ·exact Nat.lt_of_lt_of_le (sig_pos_bounds h he (by omega) hf).2.1 (Nat.sub_le _ _)
 ·exact Nat.lt_of_lt_of_le (sig_neg_bounds h hq he (by omega) hf).2 (pow_le (by omega))
theorem cutP_lt {n S:Nat} (hn:n≤64) (h8:8≤n) (h:S < 2^200):cutP n S < 2^(n - 1):=by
 unfold cutP
 rw [Nat.div_lt_iff_lt_mul (two_pos _),← pw]
 exact Nat.lt_of_lt_of_eq h (by congr 1;omega)
def negN (n p:Nat):Nat:=(18446744073709551616 - p)%18446744073709551616%2^n
def rnd (n:Nat) (kd:Int) (ng:Bool) (sc:Int) (V:Nat) (R:Bool):Nat:=
 let c:=cutE n kd sc V R
 let p:=if c.2=3∨(c.2=2∧c.1.toNat%2=1) then c.1.toNat+1 else c.1.toNat
 if ng then negN n p else p
theorem cutE_bounds {n:Nat} {kd sc:Int} {V:Nat} {R:Bool} (hn:n≤64) (h8:8≤n) (hV:V < 2^128):0≤(cutE n kd sc V R).1∧(cutE n kd sc V R).1≤((2^(n - 1):Nat):Int):=by
 have p:=two_pos (n - 1)
 unfold cutE
 split
 ·exact ⟨by simp,by simp only;omega⟩
 ·split
  ·exact ⟨by simp only;omega,Int.le_refl _⟩
  ·split
   ·exact ⟨by simp only;omega,by simp only;omega⟩
   ·split
    ·exact ⟨by simp,by simp only;omega⟩
    ·have hf:V - 2^127 < 2^127:=by rw [p127];rw [p128] at hV;omega
     have:=cutP_lt hn h8 (sig_lt (s:=sc) (f:=V - 2^127) (by omega) (by omega) hf)
     exact ⟨by simp only;omega,by simp only;omega⟩
end Go.Proofs.YtbpcfhhcoklinaaGreat.V
namespace Go.Proofs.YtbpcfhhcoklinaaGreat.V
open Go Go.RowKit
theorem pow_congr {a b:Nat} (h:a=b):(2:Nat)^a=2^b:=by rw [h]
def lessE (s:Int) (f:Nat) (t:Int) (g:Nat):Prop:=s < t∨(s=t∧f < g)
theorem sig_same {q e f d g:Nat} (A B C:Nat) (hC:0 < C) (h:e < d∨(e=d∧f < g)) (hf:f < B):(A+e*B+f)*C < (A+d*B+g)*C:=by
 refine Nat.mul_lt_mul_of_pos_right ?_ hC
 rcases h with h | ⟨rfl,h⟩
 ·have:=Nat.mul_le_mul_right B (show e+1≤d by omega)
  rw [Nat.add_mul] at this
  omega
 ·omega
theorem sig_mono {s t:Int} {f g:Nat} (h0:-272≤s) (h1:t < 272) (hf:f < 2^127) (hg:g < 2^127) (h:lessE s f t g):sig s f < sig t g:=by
 have hst:s≤t:=by rcases h with h | h <;> omega
 rcases scale_cases s with ⟨q,e,hs,he⟩ | ⟨q,e,hs,hq,he⟩
 ·rcases scale_cases t with ⟨p,d,ht,hd⟩ | ⟨p,d,ht,hp,hd⟩
  ·by_cases hpq:q=p
   ·subst hpq
    rw [sig_pos_eq hs he,sig_pos_eq ht hd]
    refine sig_same _ _ _ (two_pos _) ?_ hf (q:=0)
    rcases h with h | h
    ·left;omega
    ·right;exact ⟨by omega,h.2⟩
   ·have a:=(sig_pos_bounds hs he (by omega) hf).2.1
    have b:=(sig_pos_bounds ht hd (by omega) hg).1
    have c:(2:Nat)^(199 - p)≤2^(198 - q):=pow_le (by omega)
    generalize (2:Nat)^200=z at *
    omega
  ·omega
 ·rcases scale_cases t with ⟨p,d,ht,hd⟩ | ⟨p,d,ht,hp,hd⟩
  ·have a:=(sig_neg_bounds hs hq he (by omega) hf).2
   have b:=sig_pos_bounds ht hd (by omega) hg
   have c:(2:Nat)^(200 - q)≤2^199:=pow_le (by omega)
   have c2:(2:Nat)^(199 - p)≤2^199:=pow_le (by omega)
   have c3:(2:Nat)^200=2^199+2^199:=by decide
   generalize (2:Nat)^200=z at *
   generalize (2:Nat)^199=y at *
   omega
  ·by_cases hpq:q=p
   ·subst hpq
    rw [sig_neg_eq hs hq he,sig_neg_eq ht hp hd]
    refine sig_same _ _ _ (two_pos _) ?_ hf (q:=0)
    rcases h with h | h
    ·left;omega
    ·right;exact ⟨by omega,h.2⟩
   ·have a:=(sig_neg_bounds hs hq he (by omega) hf).2
    have b:=(sig_neg_bounds ht hp hd (by omega) hg).1
    have c:(2:Nat)^(200 - q)≤2^(199 - p):=pow_le (by omega)
    omega
theorem less_tri (s:Int) (f:Nat) (t:Int) (g:Nat):lessE s f t g∨(s=t∧f=g)∨lessE t g s f:=by
 unfold lessE;omega
def rne (D X:Nat):Nat:=if 2^D < 2*(X%2^D)∨(2*(X%2^D)=2^D∧X / 2^D%2=1) then X / 2^D+1 else X / 2^D
theorem rne_spec (D X:Nat):2*X≤(2*rne D X+1)*2^D∧(2*rne D X)*2^D≤2*X+2^D∧(2*X=(2*rne D X+1)*2^D→rne D X%2=0)∧((2*rne D X)*2^D=2*X+2^D→rne D X%2=0):=by
 have h:=Nat.div_add_mod X (2^D)
 have hl:=Nat.mod_lt X (two_pos D)
 have hp:=two_pos D
 unfold rne
 generalize X / 2^D=p at *
 generalize X%2^D=r at *
 generalize 2^D=z at *
 have e0:(2*p+1)*z=2*(z*p)+z:=by grind
 have e1:(2*p)*z=2*(z*p):=by grind
 have e2:(2*(p+1)+1)*z=2*(z*p)+3*z:=by grind
 have e3:(2*(p+1))*z=2*(z*p)+2*z:=by grind
 split
 ·rw [e2,e3]
  generalize z*p=y at *
  refine ⟨by omega,by omega,fun _=>by omega,fun _=>by omega⟩
 ·rw [e0,e1]
  generalize z*p=y at *
  refine ⟨by omega,by omega,fun _=>by omega,fun _=>by omega⟩
theorem rne_mono {D X Y:Nat} (h:X≤Y):rne D X≤rne D Y:=by
 obtain ⟨k1,k2,k3,k4⟩:=rne_spec D X
 obtain ⟨l1,l2,l3,l4⟩:=rne_spec D Y
 have hp:=two_pos D
 rcases Nat.lt_or_ge (rne D Y) (rne D X) with hlt | hge
 ·exfalso
  generalize rne D X=q at *
  generalize rne D Y=p at *
  generalize 2^D=z at *
  have e (a:Nat):(2*a+1)*z=2*(a*z)+z:=by grind
  have e' (a:Nat):(2*a)*z=2*(a*z):=by grind
  simp only [e,e'] at *
  have m:=Nat.mul_le_mul_right z (show p+1≤q by omega)
  rw [Nat.add_mul] at m
  rcases Nat.lt_or_ge (p+1) q with h' | h'
  ·have m:=Nat.mul_le_mul_right z (show p+2≤q by omega)
   rw [Nat.add_mul] at m
   omega
  ·have:q=p+1:=by omega
   subst this
   rw [Nat.add_mul] at *
   omega
 ·exact hge
def bR (R:Bool):Nat:=if R then 1 else 0
theorem rne_lft {D X:Nat} {R:Bool} (hD:0 < D):
  rne (D+1) (2*X+bR R)=if lft (X%2^D) D R=3∨(lft (X%2^D) D R=2∧X / 2^D%2=1) then X / 2^D+1 else X / 2^D:=by
 have hb:bR R < 2:=by cases R <;> decide
 have e1:(2*X+bR R) / 2^(D+1)=X / 2^D:=by
  rw [Nat.pow_succ,Nat.mul_comm (2^D),← Nat.div_div_eq_div_mul];congr 1;omega
 have e2:(2*X+bR R)%2^(D+1)=2*(X%2^D)+bR R:=by
  have h1:=Nat.div_add_mod (2*X+bR R) (2^(D+1))
  have h2:=Nat.div_add_mod X (2^D)
  rw [e1,Nat.pow_succ] at h1
  generalize X / 2^D=p at *
  have:2^D*2*p=2*(2^D*p):=by grind
  rw [this] at h1
  rw [Nat.pow_succ]
  omega
 unfold rne
 rw [e1,e2,Nat.pow_succ]
 have hp:=two_pos D
 obtain ⟨d,rfl⟩:∃ d,D=d+1:=⟨D - 1,by omega⟩
 have hd:=two_pos d
 unfold lft
 generalize X / 2^(d+1)=p
 generalize X%2^(d+1)=r
 rw [Nat.pow_succ]
 generalize 2^d=z at *
 cases R
 ·simp only [bR,Bool.false_eq_true,if_false]
  by_cases c1:z*2 < 2*r
  ·rw [if_pos (by omega),if_pos c1,if_pos (by omega)]
  ·rw [if_neg c1]
   by_cases c2:2*r=z*2
   ·rw [if_pos c2]
    by_cases c3:p%2=1
    ·rw [if_pos (by omega),if_pos (by omega)]
    ·rw [if_neg (by omega),if_neg (by omega)]
   ·rw [if_neg c2]
    by_cases c3:0 < r
    ·rw [if_pos c3,if_neg (by omega),if_neg (by omega)]
    ·rw [if_neg c3,if_neg (by omega),if_neg (by omega)]
 ·simp only [bR,if_true]
  by_cases c1:z*2 < 2*r
  ·rw [if_pos (by omega),if_pos c1,if_pos (by omega)]
  ·rw [if_neg c1]
   by_cases c2:2*r=z*2
   ·rw [if_pos c2,if_pos (by omega),if_pos (by omega)]
   ·rw [if_neg c2]
    by_cases c3:0 < r
    ·rw [if_pos c3,if_neg (by omega),if_neg (by omega)]
    ·rw [if_neg c3,if_neg (by omega),if_neg (by omega)]
theorem fr_lt {V:Nat} (h:V < 2^128):V - 2^127 < 2^127:=by rw [p127];rw [p128] at h;omega
def posP (n:Nat) (s:Int) (V:Nat) (R:Bool):Nat:=
 if 4*(n:Int) - 8≤s then 2^(n - 1) - 1
 else if s < -(4*(n:Int) - 8) then 1
 else rne (202 - n) (2*sig s (V - 2^127)+bR R)
theorem sig_least {n:Nat} (h8:8≤n) (hn:n≤64):sig (-(4*(n:Int) - 8)) 0=2^(201 - n):=by
 have h:(-(4*(n:Int) - 8)) = -(4*((n - 2:Nat):Int))+((0:Nat):Int):=by omega
 rw [sig_neg_eq h (by omega) (by decide)]
 rw [Nat.zero_mul,Nat.add_zero,← Nat.pow_add]
 exact pow_congr (by omega)
theorem sig_most {n:Nat} (h8:8≤n) (hn:n≤64):sig (4*(n:Int) - 8) 0=(2^(n - 1) - 1)*2^(201 - n):=by
 have h:(4*(n:Int) - 8)=4*((n - 2:Nat):Int)+((0:Nat):Int):=by omega
 rw [sig_pos_eq h (by decide)]
 rw [Nat.zero_mul,Nat.add_zero,Nat.add_zero,show n - 2+1=n - 1 by omega,Nat.mul_assoc,← Nat.pow_add]
 congr 1
 exact pow_congr (by omega)
theorem rne_exact (D p:Nat):rne D (p*2^D)=p:=by
 unfold rne
 rw [Nat.mul_mod_left,Nat.mul_div_cancel _ (two_pos D)]
 have:=two_pos D
 rw [if_neg (by omega)]
theorem sig_range {n:Nat} {s:Int} {f:Nat} (h8:8≤n) (hn:n≤64) (hf:f < 2^127) (h0:-(4*(n:Int) - 8)≤s) (h1:s < 4*(n:Int) - 8):
  2^(201 - n)≤sig s f∧sig s f+2^(201 - n) < 2^200:=by
 have e:(2:Nat)^200=2^(n - 1)*2^(201 - n):=by rw [← Nat.pow_add];exact pow_congr (by omega)
 constructor
 ·rcases less_tri (-(4*(n:Int) - 8)) 0 s f with k | ⟨k1,k2⟩ | k
  ·have:=sig_mono (by omega) (by omega) (two_pos 127) hf k
   rw [sig_least h8 hn] at this;omega
  ·rw [← k1,← k2,sig_least h8 hn];exact Nat.le_refl _
  ·rcases k with k | k
   ·omega
   ·exact absurd k.2 (Nat.not_lt_zero _)
 ·have:=sig_mono (s:=s) (t:=4*(n:Int) - 8) (f:=f) (g:=0) (by omega) (by omega) hf (two_pos 127) (.inl h1)
  rw [sig_most h8 hn] at this
  rw [e]
  have p1:=two_pos (n - 1)
  obtain ⟨a,ha⟩:∃ a,2^(n - 1)=a+1:=⟨2^(n - 1) - 1,by omega⟩
  rw [ha] at this ⊢
  rw [Nat.add_sub_cancel] at this
  rw [Nat.add_mul]
  omega
theorem rne_bounds {n X:Nat} (h8:8≤n) (hn:n≤64) (h0:2^(201 - n)≤X) (h1:X+2^(201 - n) < 2^200) (b:Nat) (hb:b < 2):
  1≤rne (202 - n) (2*X+b)∧rne (202 - n) (2*X+b)≤2^(n - 1) - 1:=by
 have e:(2:Nat)^(202 - n)=2*2^(201 - n):=by rw [show 202 - n=201 - n+1 by omega,Nat.pow_succ];omega
 have e2:(2:Nat)^200=2^(n - 1)*2^(201 - n):=by rw [← Nat.pow_add];exact pow_congr (by omega)
 constructor
 ·have:=rne_mono (D:=202 - n) (X:=1*2^(202 - n)) (Y:=2*X+b) (by omega)
  rw [rne_exact] at this
  exact this
 ·have p1:=two_pos (n - 1)
  obtain ⟨a,ha⟩:∃ a,2^(n - 1)=a+1:=⟨2^(n - 1) - 1,by omega⟩
  have:=rne_mono (D:=202 - n) (X:=2*X+b) (Y:=a*2^(202 - n)) (by
   rw [e]
   rw [e2,ha,Nat.add_mul] at h1
   have:a*(2*2^(201 - n))=2*(a*2^(201 - n)):=by grind
   omega)
  rw [rne_exact] at this
  omega
theorem posP_bounds {n:Nat} {s:Int} {V:Nat} {R:Bool} (h8:8≤n) (hn:n≤64) (hV:V < 2^128):1≤posP n s V R∧posP n s V R≤2^(n - 1) - 1:=by
 have hp:2^7≤2^(n - 1):=pow_le (by omega)
 unfold posP
 split
 ·omega
 ·split
  ·omega
  ·exact rne_bounds h8 hn (sig_range h8 hn (fr_lt hV) (by omega) (by omega)).1 (sig_range h8 hn (fr_lt hV) (by omega) (by omega)).2 _ (by cases R <;> decide)
theorem rnd_pos {n:Nat} {sc:Int} {V:Nat} {R:Bool} (h8:8≤n) (hn:n≤64) (hV:V < 2^128) (hV0:2^127≤V):rnd n 1 false sc V R=posP n sc V R:=by
 have hp:=two_pos (n - 1)
 unfold rnd cutE posP
 simp only [if_neg (show ¬ (1:Int)=0 by decide),if_neg (show ¬ (1:Int)=2 by decide)]
 by_cases c1:4*(n:Int) - 8≤sc
 ·simp only [if_pos c1]
  simp
 ·simp only [if_neg c1]
  by_cases c2:sc < -(4*(n:Int) - 8)
  ·have c2':sc < -(4*(n:Int) - 8)∨sc = -(4*(n:Int) - 8)∧V=2^127∧R=false:=.inl c2
   simp only [if_pos c2,if_pos c2']
   simp
  ·simp only [if_neg c2]
   by_cases c3:sc = -(4*(n:Int) - 8)∧V=2^127∧R=false
   ·have c3':sc < -(4*(n:Int) - 8)∨sc = -(4*(n:Int) - 8)∧V=2^127∧R=false:=.inr c3
    simp only [if_pos c3']
    obtain ⟨rfl,rfl,rfl⟩:=c3
    rw [Nat.sub_self,sig_least h8 hn]
    have e:2*2^(201 - n)+bR false=1*2^(202 - n):=by
     rw [show 202 - n=201 - n+1 by omega,Nat.pow_succ]
     simp [bR];omega
    rw [e,rne_exact]
    simp
   ·have c3':¬ (sc < -(4*(n:Int) - 8)∨sc = -(4*(n:Int) - 8)∧V=2^127∧R=false):=fun h=>h.elim c2 c3
    simp only [if_neg c3']
    have:=rne_lft (D:=201 - n) (X:=sig sc (V - 2^127)) (R:=R) (by omega)
    rw [show 201 - n+1=202 - n by omega] at this
    rw [this]
    unfold cutP cutL
    simp only [Int.toNat_natCast,Bool.false_eq_true,if_false]
theorem rnd_neg {n:Nat} {kd sc:Int} {V:Nat} {R:Bool}:rnd n kd true sc V R=negN n (rnd n kd false sc V R):=by
 unfold rnd;simp
def rkN (n x:Nat):Int:=if 2^(n - 1)≤x then (x:Int) - ((2^n:Nat):Int) else x
end Go.Proofs.YtbpcfhhcoklinaaGreat.V
namespace Go.Proofs.YtbpcfhhcoklinaaGreat.V
open Go Go.RowKit Go.Proofs.YtbpcfhhcoklinaaGreat.Ab
def okD (l:List Int):Prop:=∀ d∈l,0≤d∧d < 16777216
def dv:List Int→Nat
 | []=>0
 | d :: l=>d.toNat+16777216*dv l
def W (i:Nat):Nat:=2^(24*i)
theorem W_zero:W 0=1:=rfl
theorem W_succ (i:Nat):W (i+1)=16777216*W i:=by
 unfold W
 rw [show 24*(i+1)=24+24*i by omega,Nat.pow_add]
theorem W_pos (i:Nat):0 < W i:=two_pos _
theorem W_mono {i j:Nat} (h:i≤j):W i≤W j:=pow_le (by omega)
theorem W_add (i j:Nat):W (i+j)=W i*W j:=by unfold W;rw [← Nat.pow_add];congr 1;omega
def dg (m i:Nat):Nat:=m / W i%16777216
theorem dg_lt (m i:Nat):dg m i < 16777216:=Nat.mod_lt _ (by decide)
theorem mod_W_succ (m i:Nat):m%W (i+1)=m%W i+W i*dg m i:=by
 rw [W_succ,Nat.mul_comm,Nat.mod_mul];rfl
theorem dv_append (a b:List Int):dv (a++b)=dv a+W a.length*dv b:=by
 induction a with
 | nil=>simp [dv,W_zero]
 | cons d a ih =>
  simp only [List.cons_append,dv,List.length_cons,ih,W_succ]
  generalize dv a=x
  generalize W a.length=y
  generalize dv b=z
  grind
theorem dv_snoc (a:List Int) (d:Nat):dv (a++[(d:Int)])=dv a+W a.length*d:=by
 rw [dv_append];simp [dv]
theorem dv_lt {l:List Int} (h:okD l):dv l < W l.length:=by
 induction l with
 | nil=>simp [dv,W_zero]
 | cons d l ih =>
  have h1:=h d List.mem_cons_self
  have h2:=ih (fun x hx=>h x (List.mem_cons_of_mem _ hx))
  simp only [dv,List.length_cons,W_succ]
  omega
theorem okD_nil:okD []:=fun _ h=>by cases h
theorem okD_snoc {l:List Int} {d:Nat} (h:okD l) (hd:d < 16777216):okD (l++[(d:Int)]):=fun x hx=>by
 rcases List.mem_append.mp hx with hx | hx
 ·exact h x hx
 ·simp only [List.mem_singleton] at hx;subst hx;omega
theorem okD_take {l:List Int} (n:Nat) (h:okD l):okD (l.take n):=fun x hx=>h x (List.mem_of_mem_take hx)
theorem okD_drop {l:List Int} (n:Nat) (h:okD l):okD (l.drop n):=fun x hx=>h x (List.mem_of_mem_drop hx)
theorem okD_set {l:List Int} {n d:Nat} (h:okD l) (hd:d < 16777216):okD (l.set n (d:Int)):=fun x hx=>by
 rcases List.mem_or_eq_of_mem_set hx with hx | hx
 ·exact h x hx
 ·subst hx;omega
theorem okD_zeros (n:Nat):okD (List.replicate n 0):=fun x hx=>by
 have:=(List.mem_replicate.mp hx).2;subst this;omega
theorem dv_zeros (n:Nat):dv (List.replicate n 0)=0:=by
 induction n with
 | zero=>rfl
 | succ n ih=>rw [List.replicate_succ];simp [dv,ih]
theorem getD_dg {l:List Int} (h:okD l):∀ i,l.getD i 0=((dg (dv l) i:Nat):Int):=by
 induction l with
 | nil=>intro i;simp [dg,dv]
 | cons d l ih =>
  intro i
  have h1:=h d List.mem_cons_self
  have h2:=ih (fun x hx=>h x (List.mem_cons_of_mem _ hx))
  cases i with
  | zero =>
   simp only [dg,dv,W_zero,Nat.div_one,List.getD_cons_zero]
   omega
  | succ i =>
   rw [List.getD_cons_succ,h2 i]
   unfold dg
   rw [W_succ,← Nat.div_div_eq_div_mul]
   simp only [dv]
   congr 3
   omega
theorem rd_dg {l:List Int} (h:okD l) (i:Nat):rd l (i:Int)=((dg (dv l) i:Nat):Int):=by
 unfold rd;rw [Int.toNat_natCast];exact getD_dg h i
theorem dv_take {l:List Int} (h:okD l) (n:Nat) (hn:n≤l.length):dv (l.take n)=dv l%W n:=by
 have e:=dv_append (l.take n) (l.drop n)
 rw [List.take_append_drop,List.length_take,Nat.min_eq_left hn] at e
 have:=dv_lt (okD_take n h)
 rw [List.length_take,Nat.min_eq_left hn] at this
 rw [e,Nat.add_mul_mod_self_left,Nat.mod_eq_of_lt this]
theorem dv_drop {l:List Int} (h:okD l) (n:Nat) (hn:n≤l.length):dv (l.drop n)=dv l / W n:=by
 have e:=dv_append (l.take n) (l.drop n)
 rw [List.take_append_drop,List.length_take,Nat.min_eq_left hn] at e
 have:=dv_lt (okD_take n h)
 rw [List.length_take,Nat.min_eq_left hn] at this
 rw [e,Nat.add_mul_div_left _ _ (W_pos n),Nat.div_eq_of_lt this,Nat.zero_add]
theorem dv_set {l:List Int} (h:okD l) {n d:Nat} (hn:n < l.length) (hd:d < 16777216):dv (l.set n (d:Int))+W n*dg (dv l) n=dv l+W n*d:=by
 induction l generalizing n with
 | nil=>simp at hn
 | cons x l ih =>
  have h1:=h x List.mem_cons_self
  have h2:okD l:=fun y hy=>h y (List.mem_cons_of_mem _ hy)
  cases n with
  | zero =>
   simp only [List.set_cons_zero,dv,W_zero,dg,Nat.div_one]
   omega
  | succ n =>
   have:=ih h2 (n:=n) (by simpa using hn)
   simp only [List.set_cons_succ,dv,W_succ]
   have e:dg (x.toNat+16777216*dv l) (n+1)=dg (dv l) n:=by
    unfold dg
    rw [W_succ,← Nat.div_div_eq_div_mul]
    congr 2
    omega
   rw [e,Nat.mul_assoc,Nat.mul_assoc]
   omega
structure DL (l:List Int) (m:Nat):Prop where
 ok:okD l
 val:dv l=m
 can:l≠[]→W (l.length - 1)≤m
theorem DL.nil:DL [] 0:=⟨okD_nil,rfl,fun h=>absurd rfl h⟩
theorem DL.lt {l:List Int} {m:Nat} (h:DL l m):m < W l.length:=by rw [← h.val];exact dv_lt h.ok
theorem DL.len_iff {l:List Int} {m:Nat} (h:DL l m) (i:Nat):i < l.length↔W i≤m:=by
 constructor
 ·intro hi
  have hne:l≠[]:=by intro e;rw [e] at hi;simp at hi
  exact Nat.le_trans (W_mono (by omega)) (h.can hne)
 ·intro hi
  have:=h.lt
  rcases Nat.lt_or_ge i l.length with h' | h'
  ·exact h'
  ·have:=W_mono h';omega
theorem DL.zero {l:List Int} (h:DL l 0):l=[]:=by
 cases l with
 | nil=>rfl
 | cons a l=>have:=h.can (by simp);have:=W_pos ((a :: l).length - 1);omega
theorem DL.pos {l:List Int} {m:Nat} (h:DL l m) (hm:0 < m):0 < l.length:=by
 have:=(h.len_iff 0).mpr (by rw [W_zero];omega);exact this
theorem DL.rd {l:List Int} {m:Nat} (h:DL l m) (i:Nat):rd l (i:Int)=((dg m i:Nat):Int):=by rw [rd_dg h.ok,h.val]
theorem DL.dg_out {l:List Int} {m:Nat} (h:DL l m) {i:Nat} (hi:l.length≤i):dg m i=0:=by
 unfold dg
 have:=h.lt
 have:=W_mono hi
 rw [Nat.div_eq_of_lt (by omega)]
theorem DL.len_le {l:List Int} {m n:Nat} (h:DL l m) (hm:m < W n):l.length≤n:=by
 rcases Nat.lt_or_ge n l.length with h' | h'
 ·have:=(h.len_iff n).mp h';omega
 ·exact h'
theorem DL.mod_all {l:List Int} {m i:Nat} (h:DL l m) (hi:l.length≤i):m%W i=m:=
 Nat.mod_eq_of_lt (Nat.lt_of_lt_of_le h.lt (W_mono hi))
theorem DL.uniq {l k:List Int} {m:Nat} (h:DL l m) (h':DL k m):l=k:=by
 have hl:l.length=k.length:=by
  rcases Nat.lt_trichotomy l.length k.length with a | a | a
  ·have:=(h'.len_iff l.length).mp a;have:=h.lt;omega
  ·exact a
  ·have:=(h.len_iff k.length).mp a;have:=h'.lt;omega
 apply List.ext_getElem hl
 intro i h1 h2
 have a:=getD_dg h.ok i
 have b:=getD_dg h'.ok i
 rw [h.val] at a
 rw [h'.val] at b
 have a':l.getD i 0=l[i]:=by simp [List.getD,h1]
 have b':k.getD i 0=k[i]:=by simp [List.getD,h2]
 rw [← a',← b',a,b]
theorem tmodN (a b:Nat):Int.tmod (a:Int) (b:Int)=((a%b:Nat):Int):=by rw [Int.tmod_eq_emod_of_nonneg (by omega)];omega
theorem tdivN (a b:Nat):Int.tdiv (a:Int) (b:Int)=((a / b:Nat):Int):=by rw [Int.tdiv_eq_ediv_of_nonneg (by omega)];omega
theorem tmodL (a:Nat):Int.tmod (a:Int) 16777216=((a%16777216:Nat):Int):=tmodN a 16777216
theorem tdivL (a:Nat):Int.tdiv (a:Int) 16777216=((a / 16777216:Nat):Int):=tdivN a 16777216
theorem bl_W {m n:Nat} (h:m < W n):bl m≤24*n:=bl_le_of_lt h
theorem add_step {w A B D da db c t:Nat} (hv:D+w*c=A+B) (ht:da+db+c=t):
  D+w*(t%16777216)+16777216*w*(t / 16777216)=A+w*da+(B+w*db):=by
 have h:t%16777216+16777216*(t / 16777216)=t:=by omega
 have e:w*t=w*da+w*db+w*c:=by rw [← ht];grind
 have e':w*(t%16777216)+16777216*w*(t / 16777216)=w*t:=by
  have:w*t=w*(t%16777216+16777216*(t / 16777216)):=by rw [h]
  rw [this];grind
 omega
theorem times_step {w A D da q c t:Nat} (hv:D+w*c=A*q) (ht:da*q+c=t):
  D+w*(t%16777216)+16777216*w*(t / 16777216)=(A+w*da)*q:=by
 have h:t%16777216+16777216*(t / 16777216)=t:=by omega
 have e:w*t=w*(da*q)+w*c:=by rw [← ht];grind
 have e':w*(t%16777216)+16777216*w*(t / 16777216)=w*t:=by
  have:w*t=w*(t%16777216+16777216*(t / 16777216)):=by rw [h]
  rw [this];grind
 have e3:(A+w*da)*q=A*q+w*(da*q):=by grind
 omega
theorem dg_shr (A i r:Nat) (hr:r≤24):dg (A / 2^r) i=dg A i / 2^r+dg A (i+1)%2^r*2^(24 - r):=by
 have e1:dg (A / 2^r) i=A / W i / 2^r%2^24:=by
  unfold dg;rw [Nat.div_div_eq_div_mul,Nat.mul_comm,← Nat.div_div_eq_div_mul]
 have e2:dg A (i+1)%2^r=A / W i / 2^24%2^r:=by
  have:dg A (i+1)=A / W i / 2^24%2^24:=by unfold dg;rw [W_succ,Nat.mul_comm,← Nat.div_div_eq_div_mul]
  rw [this]
  exact mod_pow_le hr
 have e3:dg A i=A / W i%2^24:=rfl
 rw [e1,e2,e3]
 generalize A / W i=B
 have h:=Nat.mod_mul (a:=2^24) (b:=2^r) (x:=B)
 have h2:=Nat.mod_mul_right_div_self B (2^r) (2^24)
 rw [← h2,Nat.mul_comm (2^r),h]
 have s:(2:Nat)^24=2^r*2^(24 - r):=(pow_split hr).symm
 have s2:2^24*(B / 2^24%2^r)=2^r*(B / 2^24%2^r*2^(24 - r)):=by
  generalize B / 2^24%2^r=y
  rw [s];grind
 rw [s2,Nat.add_mul_div_left _ _ (two_pos r)]
def cmpN (A B:Nat):Int:=if A < B then -1 else if A=B then 0 else 1
theorem mul_step {i k c P a b B t:Nat} {l:List Int} (hok:okD l) (hl:i+k < l.length) (hv:dv l+W (i+k)*c=P+W i*a*(B%W k)) (hb:dg B k=b) (ht:dg (dv l) (i+k)+a*b+c=t):
  dv (l.set (i+k) ((t%16777216:Nat):Int))+W (i+(k+1))*(t / 16777216)=P+W i*a*(B%W (k+1)):=by
 have hs:=dv_set hok hl (d:=t%16777216) (Nat.mod_lt _ (by decide))
 have hm:=mod_W_succ B k
 rw [hb] at hm
 rw [hm,← Nat.add_assoc,W_succ]
 have hw:=W_add i k
 generalize W (i+k)=w at *
 generalize W i=x at *
 generalize W k=y at *
 generalize B%y=z at *
 generalize dv (l.set (i+k) ((t%16777216:Nat):Int))=D at *
 generalize dg (dv l) (i+k)=g at *
 have e:w*t=w*g+w*(a*b)+w*c:=by rw [← ht];grind
 have e2:w*(t%16777216)+16777216*w*(t / 16777216)=w*t:=by
  have h:t%16777216+16777216*(t / 16777216)=t:=by omega
  have:w*t=w*(t%16777216+16777216*(t / 16777216)):=by rw [h]
  rw [this];grind
 have e3:x*a*(z+y*b)=x*a*z+w*(a*b):=by rw [hw];grind
 rw [e3]
 omega
theorem sub_step {w A B D da db c t u:Nat} (hv:D+B=A+w*c) (h:da+16777216*t=db+c+u):D+w*u+(B+w*db)=A+w*da+16777216*w*t:=by
 have e:w*(da+16777216*t)=w*(db+c+u):=by rw [h]
 have e1:w*(da+16777216*t)=w*da+16777216*w*t:=by grind
 have e2:w*(db+c+u)=w*db+w*c+w*u:=by grind
 omega
theorem dg_top (a b i:Nat) (h:a / W (i+1)=b / W (i+1)):(a / W i=b / W i↔dg a i=dg b i)∧(a / W i < b / W i↔dg a i < dg b i):=by
 have e1:∀ Q,Q / W (i+1)=Q / W i / 16777216:=fun Q=>by rw [W_succ,Nat.mul_comm,← Nat.div_div_eq_div_mul]
 rw [e1,e1] at h
 unfold dg
 generalize a / W i=x at *
 generalize b / W i=y at *
 omega
theorem w_add3 {a b c t:Nat} (h:a+b+c=t) (hb:t < 4611686018427387904):wrap64 (wrap64 ((a:Int)+(b:Int))+(c:Int))=(t:Int):=by
 rw [w64 (n:=(a:Int)+(b:Int)) (by omega) (by omega),w64 (by omega) (by omega)];omega
theorem w_mul {a b t:Nat} (h:a*b=t) (hb:t < 4611686018427387904):wrap64 ((a:Int)*(b:Int))=(t:Int):=by
 rw [show (a:Int)*(b:Int)=((a*b:Nat):Int) by simp,h,w64 (by omega) (by omega)]
theorem w_add {a b t:Nat} (h:a+b=t) (hb:t < 4611686018427387904):wrap64 ((a:Int)+(b:Int))=(t:Int):=by
 rw [w64 (by omega) (by omega)];omega
theorem w_muladd {a b c t:Nat} (h:a*b+c=t) (hb:t < 4611686018427387904):wrap64 (wrap64 ((a:Int)*(b:Int))+(c:Int))=(t:Int):=by
 generalize ht:a*b=u at h
 rw [w_mul ht (by omega),w_add h hb]
theorem w_div24 {t:Nat} (hb:t < 4611686018427387904):wrap64 (Int.tdiv (t:Int) 16777216)=((t / 16777216:Nat):Int):=by
 rw [tdivL,w64 (by omega) (by omega)]
theorem w_q24 {k:Nat} (hk:k≤20000):wrap64 (Int.tdiv (k:Int) 24)=((k / 24:Nat):Int):=by
 rw [show (24:Int)=((24:Nat):Int) from rfl,tdivN,w64 (by omega) (by omega)]
theorem w_r24 {k:Nat}:Int.tmod (k:Int) 24=((k%24:Nat):Int):=by rw [show (24:Int)=((24:Nat):Int) from rfl,tmodN]
theorem w_shr {x y r:Nat} (hx:x < 16777216) (hy:y < 16777216) (hr:r < 24):
  wrap64 (wrap64 (Int.tdiv (x:Int) ((2^r:Nat):Int))+wrap64 (Int.tmod (y:Int) ((2^r:Nat):Int)*wrap64 (Int.tdiv (16777216:Int) ((2^r:Nat):Int))))=((x / 2^r+y%2^r*2^(24 - r):Nat):Int):=by
 have e:(16777216:Nat) / 2^r=2^(24 - r):=by
  rw [show 16777216=2^r*2^(24 - r) from (pow_split (Nat.le_of_lt hr)).symm,Nat.mul_div_cancel_left _ (two_pos r)]
 have hp:=two_pos r
 have hb:y%2^r*2^(24 - r)≤2^r*2^(24 - r):=Nat.mul_le_mul_right _ (Nat.le_of_lt (Nat.mod_lt _ hp))
 rw [pow_split (Nat.le_of_lt hr),show (2:Nat)^24=16777216 by decide] at hb
 have hx2:x / 2^r≤x:=Nat.div_le_self _ _
 have hz:2^(24 - r)≤2^24:=pow_le (by omega)
 rw [show (2:Nat)^24=16777216 by decide] at hz
 rw [tdivN,tmodN,show (16777216:Int)=((16777216:Nat):Int) from rfl,tdivN,e]
 generalize y%2^r=u at *
 generalize 2^(24 - r)=v at *
 generalize x / 2^r=w at *
 rw [w64 (n:=(v:Int)) (by omega) (by omega),w64 (n:=(w:Int)) (by omega) (by omega)]
 generalize hm:u*v=m at *
 rw [w_mul hm (by omega),w64 (by omega) (by omega)];omega
theorem w_half {t:Nat} (hb:t < 4611686018427387904):wrap64 (Int.tdiv (t:Int) 2)=((t / 2:Nat):Int):=by rw [show (2:Int)=((2:Nat):Int) from rfl,tdivN,w64 (by omega) (by omega)]
theorem w_less {t:Nat} (hb:t < 4611686018427387904):wrap64 ((t:Int) - 1)=(t:Int) - 1:=w64 (by omega) (by omega)
theorem w_24 {t:Nat} (hb:t < 20000):wrap64 (24*(t:Int))=((24*t:Nat):Int):=by rw [w64 (by omega) (by omega)];omega
theorem w_succ {t:Nat} (hb:t < 4611686018427387904):wrap64 ((t:Int)+1)=((t+1:Nat):Int):=by
 rw [w64 (by omega) (by omega)];omega
theorem w_pred {t:Nat} (hb:t < 4611686018427387904) (h:0 < t):wrap64 ((t:Int) - 1)=((t - 1:Nat):Int):=by
 rw [w64 (by omega) (by omega)];omega
theorem w_shr' {x y r:Nat} (hx:x < 16777216) (hy:y < 16777216) (hr:r < 24):
  wrap64 (wrap64 (Int.tdiv (x:Int) ((2^r:Nat):Int))+wrap64 (Int.tmod (y:Int) ((2^r:Nat):Int)*wrap64 ((16777216:Int) / ((2^r:Nat):Int))))=((x / 2^r+y%2^r*2^(24 - r):Nat):Int):=by
 rw [show (16777216:Int) / ((2^r:Nat):Int)=Int.tdiv 16777216 ((2^r:Nat):Int) from (Int.tdiv_eq_ediv_of_nonneg (by decide)).symm]
 exact w_shr hx hy hr
end Go.Proofs.YtbpcfhhcoklinaaGreat.V
