-- Written by a program of this session out of its own texts (wip/tools/link.py).
import Derived.Below
import Derived.ChangeKeysEq
import Derived.Deep.MidRow
import Derived.Deep.RegionHeld3
import Derived.Great.BuildSlice
import Derived.Ground.SlsfProg
import Derived.IntWalk
import Derived.KernelRfl
import Derived.LaidEql
import Derived.Laws.Bits64
import Derived.Laws.BitsLemmas
import Derived.Laws.BytesArg
import Derived.Laws.IdiomCopy
import Derived.Laws.OwnMore
import Derived.Laws.Rows
import Derived.Laws.Slices
import Derived.Laws.Strings
import Derived.Laws.StructEq
import Derived.Laws.Tables
import Derived.Lib.BitFns
import Derived.Lib.Mul64
import Derived.Lib.Slices
import Derived.Lib.Small
import Derived.Lib.Strings
import Derived.Lib.Walk
import Derived.LoopIn
import Derived.LoopNIn
import Derived.Maps.AppendAt
import Derived.OrdersHeld
import Derived.OwnWalkIn
import Derived.RangeFuncBound
import Derived.RangeFuncCalls
import Derived.RangeFuncLeaves
import Derived.RangeFuncNested
import Derived.RowKit
import Derived.Scope
import Derived.Shelf.Abstract
import Derived.Shelf.RegionOpen
import Derived.Shelf.SlGeneric
import Derived.Shelf.SlSortCmp.NoneTotal
import Derived.Shelf.Spec.BitsCarry
import Derived.TacticsInMore
import Derived.Test.YtbpcfhhcoklinaaGreatProg
import Derived.WalkKit
import Derived.Test.YtbpcfhhcoklinaaGreatCVecInto10
import Derived.Test.YtbpcfhhcoklinaaGreatCVecInto11
import Derived.Test.YtbpcfhhcoklinaaGreatCVecInto16
import Derived.Test.YtbpcfhhcoklinaaGreatCVecInto17
import Derived.Test.YtbpcfhhcoklinaaGreatCVecInto18
import Derived.Test.YtbpcfhhcoklinaaGreatCVecInto19
noncomputable section
set_option linter.unusedSimpArgs false
set_option linter.unusedVariables false
namespace Go.Proofs.YtbpcfhhcoklinaaGreat.V
open Go Go.RowKit Go.Proofs.YtbpcfhhcoklinaaGreat.Ab Go.Proofs.YtbpcfhhcoklinaaGreat.Fn
theorem beq_dec (a b:Int):(a==b)=decide (a=b):=by by_cases h:a=b <;> simp [h]
theorem mask32 (a:Nat) (ha:a < 18446744073709551616):Go.bits .and .u64 (a:Int) 4294967295=((a%4294967296:Nat):Int):=and_mask a 32 ha (by decide)
theorem div32 (a:Nat):(a:Int) / 4294967296=((a / 4294967296:Nat):Int):=by omega
theorem mulC (a b:Nat):(a:Int)*(b:Int)=((a*b:Nat):Int):=(Int.natCast_mul a b).symm
theorem addC (a b:Nat):(a:Int)+(b:Int)=((a+b:Nat):Int):=(Int.natCast_add a b).symm
theorem wrapN (a:Nat) (ha:a < 18446744073709551616):IntKind.u64.wrap (a:Int)=(a:Int):=u64_of (by omega) (by omega)
theorem bits_Mul64_eq {x y:Nat} (hx:x < 18446744073709551616) (hy:y < 18446744073709551616):bits_Mul64.f (x:Int) (y:Int)=some (TH (x*y),TL (x*y)):=by
 obtain ⟨bd,bt,bw,hhi⟩:=Lib.mul64_hi x y hx hy
 have ba:=Lib.half_mul_le (a:=x / 4294967296) (b:=y / 4294967296) (by omega) (by omega)
 have bb:=Lib.half_mul_le (a:=x / 4294967296) (b:=y%4294967296) (by omega) (by omega)
 have bc:=Lib.half_mul_le (a:=x%4294967296) (b:=y / 4294967296) (by omega) (by omega)
 have ba':x / 4294967296*(y / 4294967296) < 18446744073709551616:=by omega
 have bb':x / 4294967296*(y%4294967296) < 18446744073709551616:=by omega
 have bc':x%4294967296*(y / 4294967296) < 18446744073709551616:=by omega
 have bh1:x / 4294967296*(y / 4294967296)+(x / 4294967296*(y%4294967296)+x%4294967296*(y%4294967296) / 4294967296) / 4294967296 < 18446744073709551616:=by omega
 have bh:x / 4294967296*(y / 4294967296)+(x / 4294967296*(y%4294967296)+x%4294967296*(y%4294967296) / 4294967296) / 4294967296+((x / 4294967296*(y%4294967296)+x%4294967296*(y%4294967296) / 4294967296)%4294967296+x%4294967296*(y / 4294967296)) / 4294967296 < 18446744073709551616:=by omega
 unfold bits_Mul64.f
 simp only [mask32 x hx,mask32 y hy,div32,mulC,addC,wrapN _ bd,wrapN _ bb',wrapN _ bt,mask32 _ bt,wrapN _ bc',wrapN _ bw,wrapN _ ba',wrapN _ bh1,wrapN _ bh,u64_nat_wrap (x*y)]
 rw [hhi]
 rfl
theorem twin_Mul_eq {x y:Nat} (hx:x < 18446744073709551616) (hy:y < 18446744073709551616):twin_Mul.f (x:Int) (y:Int)=some (TH (x*y),TL (x*y)):=by
 unfold twin_Mul.f
 rw [bits_Mul64_eq hx hy];rfl
theorem mul_lt128 {x y:Nat} (hx:x < 18446744073709551616) (hy:y < 18446744073709551616):x*y < 2^128:=by
 have:=Nat.mul_le_mul (show x≤18446744073709551615 by omega) (show y≤18446744073709551615 by omega)
 rw [p128]
 omega
def prodE (kd:Int) (ng:Bool) (sc:Int) (fr:Nat) (kd':Int) (ng':Bool) (sc':Int) (fr':Nat):Int×Bool×Int×Int×Int×Bool:=
 if kd=2∨kd'=2 then (2,false,0,0,0,false) else if kd=0∨kd'=0 then (0,false,0,0,0,false)
 else exactE (ng != ng') (fr*fr') (sc+sc' - 126) false
theorem soundN_cases {kd sc fr:Int} {ng:Bool} (h:soundN kd ng sc fr=true):(kd=0∧ng=false∧sc=0∧fr=0)∨(kd=2∧ng=false∧sc=0∧fr=0)∨(kd=1∧9223372036854775808≤fr∧-1073741824≤sc∧sc≤1073741824):=by
 unfold soundN at h
 split at h
 ·rename_i hk
  have:ng=false∧sc=0∧fr=0:=by simpa using h
  rcases hk with hk | hk
  ·exact .inl ⟨hk,this⟩
  ·exact .inr (.inl ⟨hk,this⟩)
 ·exact .inr (.inr (of_decide_eq_true h))
theorem makeV_exactE {ng R:Bool} {V:Nat} {e:Int} (hV:V < 2^128) (h0:-4398046511104≤e) (h1:e≤4398046511104):
  makeV ng V e R=((exactE ng V e R).1,(exactE ng V e R).2.1,(exactE ng V e R).2.2.1,(exactE ng V e R).2.2.2.1,(exactE ng V e R).2.2.2.2.1,(exactE ng V e R).2.2.2.2.2,none):=by
 unfold makeV exactE
 by_cases hz:V=0
 ·rw [if_pos hz,if_pos hz]
 ·rw [if_neg hz,if_neg hz]
  have hb:=bl_le_of_lt hV
  have hr:mkR V R=R:=by unfold mkR;rw [show bl V - 128=0 by omega,Nat.pow_zero,Nat.mod_one];simp
  have hf:farI e=e:=by unfold farI;rw [if_neg (by omega),if_neg (by omega)]
  rw [hr,hf]
theorem prod_Exact_eq (kd:Int) (ng:Bool) (sc:Int) (fr:Nat) (kd':Int) (ng':Bool) (sc':Int) (fr':Nat) (hf:fr < 18446744073709551616) (hf':fr' < 18446744073709551616):
  Ev (fun k=>prod_Exact.f k kd ng sc (fr:Int) kd' ng' sc' (fr':Int)) (if soundN kd ng sc fr=true∧soundN kd' ng' sc' fr'=true then
   ((prodE kd ng sc fr kd' ng' sc' fr').1,(prodE kd ng sc fr kd' ng' sc' fr').2.1,(prodE kd ng sc fr kd' ng' sc' fr').2.2.1,(prodE kd ng sc fr kd' ng' sc' fr').2.2.2.1,(prodE kd ng sc fr kd' ng' sc' fr').2.2.2.2.1,(prodE kd ng sc fr kd' ng' sc' fr').2.2.2.2.2,none)
   else (0,false,0,0,0,false,some 1)):=by
 unfold prod_Exact.f
 refine Ev.bind (round_Of_eq kd ng sc fr (by omega) (by omega)) ?_
 by_cases h1:soundN kd ng sc fr=true
 ·simp only [h1,if_true,Option.isNone_none,true_and]
  refine Ev.bind (round_Of_eq kd' ng' sc' fr' (by omega) (by omega)) ?_
  by_cases h2:soundN kd' ng' sc' fr'=true
  ·simp only [h2,if_true,Option.isNone_none]
   have c1:=soundN_cases h1
   have c2:=soundN_cases h2
   have j1:Ev (fun k=>prod_Exact.j0 k (decide (kd=2∨kd'=2)) kd ng sc (fr:Int) kd' ng' sc' (fr':Int)) ((prodE kd ng sc fr kd' ng' sc' fr').1,(prodE kd ng sc fr kd' ng' sc' fr').2.1,(prodE kd ng sc fr kd' ng' sc' fr').2.2.1,(prodE kd ng sc fr kd' ng' sc' fr').2.2.2.1,(prodE kd ng sc fr kd' ng' sc' fr').2.2.2.2.1,(prodE kd ng sc fr kd' ng' sc' fr').2.2.2.2.2,none):=by
    refine evs ?_
    simp only [prod_Exact.j0]
    unfold prodE
    by_cases hk:kd=2∨kd'=2
    ·simp only [if_pos hk,decide_eq_true hk,if_true]
     exact Ev.now _
    ·simp only [if_neg hk,decide_eq_false hk,Bool.false_eq_true,if_false]
     have j2:Ev (fun k=>prod_Exact.j1 k (decide (kd=0∨kd'=0)) ng sc (fr:Int) ng' sc' (fr':Int)) (if kd=0∨kd'=0 then (0,false,0,0,0,false,none) else makeV (ng != ng') (fr*fr') (sc+sc' - 126) false):=by
      refine evs ?_
      simp only [prod_Exact.j1]
      by_cases h0:kd=0∨kd'=0
      ·simp only [if_pos h0,decide_eq_true h0,if_true]
       exact Ev.now _
      ·simp only [if_neg h0,decide_eq_false h0,Bool.false_eq_true,if_false]
       have ew:wrap64 (wrap64 (sc+sc') - 126)=sc+sc' - 126:=by
        rw [w64 (n:=sc+sc') (by omega) (by omega),w64 (by omega) (by omega)]
       rw [ew,twin_Mul_eq hf hf']
       simp only [Option.bind_some]
       have:=round_Make_eq (ng != ng') (fr*fr') (sc+sc' - 126) false (mul_lt128 hf hf')
       simp only [Bool.false_eq_true,false_and,if_false] at this
       refine Ev.bind this ?_
       exact Ev.now _
     have key:((if kd=0∨kd'=0 then (0,false,0,0,0,false,none) else makeV (ng != ng') (fr*fr') (sc+sc' - 126) false):Int×Bool×Int×Int×Int×Bool×Option Int)=((if kd=0∨kd'=0 then (0,false,0,0,0,false) else exactE (ng != ng') (fr*fr') (sc+sc' - 126) false).1,(if kd=0∨kd'=0 then (0,false,0,0,0,false) else exactE (ng != ng') (fr*fr') (sc+sc' - 126) false).2.1,(if kd=0∨kd'=0 then (0,false,0,0,0,false) else exactE (ng != ng') (fr*fr') (sc+sc' - 126) false).2.2.1,(if kd=0∨kd'=0 then (0,false,0,0,0,false) else exactE (ng != ng') (fr*fr') (sc+sc' - 126) false).2.2.2.1,(if kd=0∨kd'=0 then (0,false,0,0,0,false) else exactE (ng != ng') (fr*fr') (sc+sc' - 126) false).2.2.2.2.1,(if kd=0∨kd'=0 then (0,false,0,0,0,false) else exactE (ng != ng') (fr*fr') (sc+sc' - 126) false).2.2.2.2.2,none):=by
      by_cases h0:kd=0∨kd'=0
      ·simp only [if_pos h0]
      ·simp only [if_neg h0]
       exact makeV_exactE (mul_lt128 hf hf') (by omega) (by omega)
     rw [← key]
     by_cases hk0:kd=0
     ·have hd:(kd==0)=decide (kd=0∨kd'=0):=by rw [decide_eq_true (.inl hk0)];simp [hk0]
      simp only [if_pos hk0,hd]
      exact j2
     ·have hd:(kd'==0)=decide (kd=0∨kd'=0):=by rw [beq_dec];simp [hk0]
      simp only [if_neg hk0,hd]
      exact j2
   by_cases hk2:kd=2
   ·have hd:(kd==2)=decide (kd=2∨kd'=2):=by simp [hk2]
    simp only [if_pos hk2,hd]
    exact j1
   ·have hd:(kd'==2)=decide (kd=2∨kd'=2):=by rw [beq_dec];simp [hk2]
    simp only [if_neg hk2,hd]
    exact j1
  ·simp only [if_neg h2]
   exact Ev.now _
 ·simp only [if_neg h1,if_neg (show ¬ (soundN kd ng sc fr=true∧soundN kd' ng' sc' fr'=true) from fun h=>h1 h.1)]
  exact Ev.now _
def prodX (a b:NM):EX:=if a.kd=2∨b.kd=2 then EX.nar else if a.kd=0∨b.kd=0 then EX.zero else natX (a.ng != b.ng) (a.fr*b.fr) (a.sc+b.sc - 126) false
theorem prodX_ok (a b:NM):(prodX a b).ok:=by
 unfold prodX
 split
 ·exact .inr (.inl rfl)
 ·split
  ·exact .inl rfl
  ·exact natX_ok _ _ _ _
theorem prodE_X (a b:NM):prodE a.kd a.ng a.sc a.fr b.kd b.ng b.sc b.fr=((prodX a b).kd,(prodX a b).ng,(prodX a b).sc,TH (prodX a b).V,TL (prodX a b).V,(prodX a b).R):=by
 unfold prodE prodX
 by_cases h2:a.kd=2∨b.kd=2
 ·rw [if_pos h2,if_pos h2];rfl
 ·rw [if_neg h2,if_neg h2]
  by_cases h0:a.kd=0∨b.kd=0
  ·rw [if_pos h0,if_pos h0];rfl
  ·rw [if_neg h0,if_neg h0,exactE_natX]
theorem prod_Exact_X {a b:NM} (ha:a.ok) (hb:b.ok):Ev (fun k=>prod_Exact.f k a.kd a.ng a.sc (a.fr:Int) b.kd b.ng b.sc (b.fr:Int)) ((prodX a b).kd,(prodX a b).ng,(prodX a b).sc,TH (prodX a b).V,TL (prodX a b).V,(prodX a b).R,none):=by
 have:=prod_Exact_eq a.kd a.ng a.sc a.fr b.kd b.ng b.sc b.fr ha.2 hb.2
 rw [if_pos ⟨ha.1,hb.1⟩,prodE_X] at this
 exact this
end Go.Proofs.YtbpcfhhcoklinaaGreat.V
namespace Go.Proofs.YtbpcfhhcoklinaaGreat.V
open Go Go.RowKit Go.Proofs.YtbpcfhhcoklinaaGreat.Ab Go.Proofs.YtbpcfhhcoklinaaGreat.Fn
theorem Of_X {x:NM} (h:x.ok):Ev (fun k=>round_Of.f k x.kd x.ng x.sc (x.fr:Int)) (x.ex.kd,x.ex.ng,x.ex.sc,TH x.ex.V,TL x.ex.V,x.ex.R,none):=by
 have:=round_Of_eq x.kd x.ng x.sc (x.fr:Int) (by have:=h.2;omega) (by omega)
 rw [if_pos h.1] at this
 rw [(NM.ex_tup x h).1,(NM.ex_tup x h).2]
 exact this
end Go.Proofs.YtbpcfhhcoklinaaGreat.V
namespace Go.Proofs.YtbpcfhhcoklinaaGreat.V
open Go Go.RowKit Go.Proofs.YtbpcfhhcoklinaaGreat.Ab Go.Proofs.YtbpcfhhcoklinaaGreat.Fn
theorem ref_Exactly_tup {x:List Int} {m:Nat} {e:Int} {ng R:Bool} (hx:DL x m) (hn:x.length≤800) (h0:-2305843009213693952≤e) (h1:e≤2305843009213693952):
  Ev (fun k=>vr07_Exactly.f k ng x e R) (natX ng m e R).tup:=by
 have:=ref_Exactly_eq (ng:=ng) (R:=R) hx hn h0 h1
 rw [exactE_natX] at this
 exact this
end Go.Proofs.YtbpcfhhcoklinaaGreat.V
namespace Go.Proofs.YtbpcfhhcoklinaaGreat.V
open Go Go.RowKit Go.Proofs.YtbpcfhhcoklinaaGreat.Ab Go.Proofs.YtbpcfhhcoklinaaGreat.Fn
theorem EX.ok_kd {x:EX} (hx:x.ok):x.kd=0∨x.kd=1∨x.kd=2:=by
 rcases hx with rfl | rfl | hx
 ·exact .inl rfl
 ·exact .inr (.inr rfl)
 ·exact .inr (.inl hx.1)
theorem sumX_nar {x y:EX} (h:x.kd=2∨y.kd=2):sumX x y=EX.nar:=by unfold sumX;rw [if_pos h]
theorem sumX_z1 {x y:EX} (h:¬ (x.kd=2∨y.kd=2)) (h1:x.kd=0):sumX x y=y:=by unfold sumX;rw [if_neg h,if_pos h1]
theorem sumX_z2 {x y:EX} (h:¬ (x.kd=2∨y.kd=2)) (h1:¬ x.kd=0) (h2:y.kd=0):sumX x y=x:=by unfold sumX;rw [if_neg h,if_neg h1,if_pos h2]
theorem broad_Sum_j0 {x y:EX} (hx:x.ok) (hy:y.ok):Ev (fun k=>broad_Sum.j0 k (decide (x.kd=2∨y.kd=2)) x.kd x.ng x.sc (TH x.V) (TL x.V) x.R y.kd y.ng y.sc (TH y.V) (TL y.V) y.R) (sumX x y).tup:=by
 refine evs ?_
 simp only [broad_Sum.j0]
 by_cases h:x.kd=2∨y.kd=2
 ·simp only [if_pos (decide_eq_true h)]
  rw [sumX_nar h]
  exact Ev.now _
 ·simp only [if_neg (fun h'=>h (of_decide_eq_true h'):¬ decide (x.kd=2∨y.kd=2)=true)]
  by_cases a:x.kd=0
  ·simp only [if_pos a]
   rw [sumX_z1 h a]
   exact Ev.now _
  ·simp only [if_neg a]
   by_cases b:y.kd=0
   ·simp only [if_pos b]
    rw [sumX_z2 h a b]
    exact Ev.now _
   ·simp only [if_neg b]
    have kx:x.kd=1:=by have:=EX.ok_kd hx;omega
    have ky:y.kd=1:=by have:=EX.ok_kd hy;omega
    by_cases c:x.sc < y.sc
    ·simp only [if_pos c]
     rw [sumX_comm hx hy]
     exact Sum_j1 hy hx ky kx (Int.le_of_lt c)
    ·simp only [if_neg c]
     exact Sum_j1 hx hy kx ky (Int.not_lt.1 c)
theorem broad_Sum_X {x y:EX} (hx:x.ok) (hy:y.ok):Ev (fun k=>broad_Sum.f k x.kd x.ng x.sc (TH x.V) (TL x.V) x.R y.kd y.ng y.sc (TH y.V) (TL y.V) y.R) (sumX x y).tup:=by
 have h:=broad_Sum_j0 hx hy
 unfold broad_Sum.f
 by_cases a:x.kd=2
 ·simp only [if_pos a]
  rw [decide_eq_true (Or.inl a)] at h
  exact h
 ·simp only [if_neg a]
  rw [show decide (x.kd=2∨y.kd=2)=(y.kd==2) by rw [Bool.eq_iff_iff];simp [a]] at h
  exact h
end Go.Proofs.YtbpcfhhcoklinaaGreat.V
namespace Go.Proofs.YtbpcfhhcoklinaaGreat.V
open Go Go.RowKit Go.Proofs.YtbpcfhhcoklinaaGreat.Ab Go.Proofs.YtbpcfhhcoklinaaGreat.Fn
def prdX (n x y:Nat):EX:=prodX (decN n x) (decN n y)
theorem prdX_ok (n x y:Nat):(prdX n x y).ok:=prodX_ok _ _
def fmaN (n x y z:Nat):Nat:=(sumX (prdX n x y) (decN n z).ex).rnd n
theorem fuse_product_eq {n a b:Nat} (h:isW (n:Int)=true) (ha:a < 18446744073709551616) (hb:b < 18446744073709551616):Ev (fun k=>fuse_product.f k (n:Int) (a:Int) (b:Int)) ((prdX n (a%2^n) (b%2^n)).kd,(prdX n (a%2^n) (b%2^n)).ng,(prdX n (a%2^n) (b%2^n)).sc,TH (prdX n (a%2^n) (b%2^n)).V,TL (prdX n (a%2^n) (b%2^n)).V,(prdX n (a%2^n) (b%2^n)).R,none):=by
 obtain ⟨b64,b8⟩:=pow64 h
 have oa:=decN_ok b8 b64 (Nat.mod_lt a (two_pos n))
 have ob:=decN_ok b8 b64 (Nat.mod_lt b (two_pos n))
 unfold fuse_product.f
 refine Ev.bind (Decode_N h ha) ?_
 simp only [Option.isNone_none,if_true]
 exact Ev.bind (Decode_N h hb) (Ev.bind (prod_Exact_X oa ob) (Ev.now _))
theorem fuse_Fma_eq {n a b c:Nat} (h:isW (n:Int)=true) (ha:a < 18446744073709551616) (hb:b < 18446744073709551616) (hc:c < 18446744073709551616):Ev (fun k=>fuse_Fma.f k (n:Int) (a:Int) (b:Int) (c:Int)) (((fmaN n (a%2^n) (b%2^n) (c%2^n):Nat):Int),none):=by
 obtain ⟨b64,b8⟩:=pow64 h
 have oc:=decN_ok b8 b64 (Nat.mod_lt c (two_pos n))
 have op:=prdX_ok n (a%2^n) (b%2^n)
 unfold fuse_Fma.f
 refine Ev.bind (fuse_product_eq h ha hb) ?_
 simp only [Option.isNone_none,if_true]
 exact Ev.bind (Decode_N h hc) (Ev.bind (Of_X oc) (Ev.bind (broad_Sum_X op (NM.ex_ok oc)) (Ev.bind (Round_X h (sumX_ok op (NM.ex_ok oc))) (Ev.now _))))
end Go.Proofs.YtbpcfhhcoklinaaGreat.V
namespace Go.Proofs.YtbpcfhhcoklinaaGreat.V
open Go Go.RowKit Go.Proofs.YtbpcfhhcoklinaaGreat.Ab Go.Proofs.YtbpcfhhcoklinaaGreat.Fn
theorem dig_test {y1 y0 u d g r:Nat} (hy1:2147483648≤y1) (hy1':y1 < 4294967296) (hy0:y0 < 4294967296) (hu:u < y1*4294967296+y0) (hd:d < 4294967296) (hg:u=g*y1+r) (hr:r < 4294967296):
  (¬ (4294967296≤g∨4294967296*r+d < g*y0)→g≤(u*4294967296+d) / (y1*4294967296+y0))∧((4294967296≤g∨4294967296*r+d < g*y0)→(u*4294967296+d) / (y1*4294967296+y0) < g):=by
 have hpos:0 < y1*4294967296+y0:=by omega
 have e:g*(y1*4294967296+y0)=g*y1*4294967296+g*y0:=by rw [Nat.mul_add,Nat.mul_assoc]
 have eu:u*4294967296=g*y1*4294967296+r*4294967296:=by rw [hg,Nat.add_mul]
 constructor
 ·intro h
  rw [Nat.le_div_iff_mul_le hpos,e]
  omega
 ·rintro (h | h)
  ·refine Nat.lt_of_lt_of_le ?_ h
   rw [Nat.div_lt_iff_lt_mul hpos]
   omega
  ·rw [Nat.div_lt_iff_lt_mul hpos,e]
   omega
theorem dig_break {y1 y0 u d g r:Nat} (hy1:2147483648≤y1) (hy0:y0 < 4294967296) (hg:u=g*y1+r) (hr:4294967296≤r) (hb:g≤4294967296):g≤(u*4294967296+d) / (y1*4294967296+y0):=by
 have hpos:0 < y1*4294967296+y0:=by omega
 have e:g*(y1*4294967296+y0)=g*y1*4294967296+g*y0:=by rw [Nat.mul_add,Nat.mul_assoc]
 have eu:u*4294967296=g*y1*4294967296+r*4294967296:=by rw [hg,Nat.add_mul]
 have h0:g*y0≤4294967296*4294967295:=Nat.mul_le_mul hb (by omega)
 rw [Nat.le_div_iff_mul_le hpos,e]
 omega
structure Dig (y1 y0 u d q:Nat):Prop where
 y1lo:2147483648≤y1
 y1hi:y1 < 4294967296
 y0hi:y0 < 4294967296
 dhi:d < 4294967296
 test:∀ g r,u=g*y1+r→r < 4294967296→(¬ (4294967296≤g∨4294967296*r+d < g*y0)→g≤q)∧((4294967296≤g∨4294967296*r+d < g*y0)→q < g)
 stop:∀ g r,u=g*y1+r→4294967296≤r→g≤4294967296→g≤q
theorem Dig.mk' {y1 y0 u d:Nat} (hy1:2147483648≤y1) (hy1':y1 < 4294967296) (hy0:y0 < 4294967296) (hu:u < y1*4294967296+y0) (hd:d < 4294967296):Dig y1 y0 u d ((u*4294967296+d) / (y1*4294967296+y0)):=
 ⟨hy1,hy1',hy0,hd,fun g r h1 h2=>dig_test hy1 hy1' hy0 hu hd h1 h2,fun g r h1 h2 h3=>dig_break hy1 hy0 h1 h2 h3⟩
end Go.Proofs.YtbpcfhhcoklinaaGreat.V
namespace Go.Proofs.YtbpcfhhcoklinaaGreat.V
open Go Go.RowKit Go.Proofs.YtbpcfhhcoklinaaGreat.Ab Go.Proofs.YtbpcfhhcoklinaaGreat.Fn
theorem fmaN_lt {n a b c:Nat} (h8:8≤n) (hn:n≤64) (hc:c < 2^n):fmaN n a b c < 2^n:=EX.rnd_lt h8 hn (sumX_ok (prdX_ok _ _ _) (NM.ex_ok (decN_ok h8 hn hc)))
end Go.Proofs.YtbpcfhhcoklinaaGreat.V
namespace Go.Proofs.YtbpcfhhcoklinaaGreat.V
open Go Go.RowKit Go.Proofs.YtbpcfhhcoklinaaGreat.Ab Go.Proofs.YtbpcfhhcoklinaaGreat.Fn
def ints (L:List Nat):List Int:=L.map (fun c:Nat=>Int.ofNat c)
theorem ints_len (L:List Nat):(ints L).length=L.length:=List.length_map _
theorem ints_rd {L:List Nat} {i:Nat} (h:i < L.length):rd (ints L) (i:Int)=((L[i]:Nat):Int):=by
  unfold rd ints
  rw [Int.toNat_natCast,List.getD_eq_getElem?_getD,List.getElem?_map,List.getElem?_eq_getElem h]
  rfl
def horN (n x:Nat) (L:List Nat) (r:Nat):Nat:=L.foldr (fun c r=>fmaN n r x (c%2^n)) r
theorem horN_take {n x r i:Nat} {L:List Nat} (h:i < L.length):horN n x (L.take (i+1)) r=horN n x (L.take i) (fmaN n r x (L[i]%2^n)):=by
  unfold horN
  rw [List.take_succ_eq_append_getElem h,List.foldr_append]
  rfl
theorem idx_pred (i:Nat) (h:i < 4611686018427387904):wrap64 ((i:Int) - 1)=(i:Int) - 1:=w64 (by omega) (by omega)
end Go.Proofs.YtbpcfhhcoklinaaGreat.V
namespace Go.Proofs.YtbpcfhhcoklinaaGreat.V
open Go Go.RowKit Go.Proofs.YtbpcfhhcoklinaaGreat.Ab Go.Proofs.YtbpcfhhcoklinaaGreat.Fn
def polyN (n x:Nat) (L:List Nat):Nat:=if L=[] then 0 else horN n x L.dropLast ((L.getLast?.getD 0)%2^n)
theorem polyN_snoc (n x:Nat) (L:List Nat) (c:Nat):polyN n x (L++[c])=horN n x L (c%2^n):=by
 unfold polyN
 rw [if_neg (by simp),List.dropLast_concat,List.getLast?_concat]
 rfl
theorem snoc_of {L:List Nat} (h:L≠[]):∃ M c,L=M++[c]:=⟨L.dropLast,L.getLast h,(List.dropLast_concat_getLast h).symm⟩
theorem order_Max_self {n a:Nat} (h:isW (n:Int)=true) (ha:a < 18446744073709551616):Ev (fun _=>order_Max.f (n:Int) (a:Int) (a:Int)) (((a%2^n:Nat):Int),none):=by
 refine evn ?_
 unfold order_Max.f
 rw [order_Cmp_run h ha ha]
 have:¬ cmpI (rkN n (a%2^n)) (rkN n (a%2^n)) < 0:=by unfold cmpI;rw [if_neg (by omega),if_neg (by omega)];decide
 simp only [Option.bind_some,if_neg this]
 rw [shape_Fold_eq h ha]
 rfl
theorem vec_Poly_l {n x:Nat} (h:isW (n:Int)=true) (hx:x < 18446744073709551616) {L:List Nat} (hL:∀ c∈L,c < 18446744073709551616) (hlen:L.length < 4611686018427387904):∀ (i r:Nat),i≤L.length→r < 2^n →
  Ev (fun k=>vec_Poly.l0 k (n:Int) (ints L) (x:Int) (r:Int) none ((i:Int) - 1)) (((horN n (x%2^n) (L.take i) r:Nat):Int),none):=by
 obtain ⟨b64,b8⟩:=pow64 h
 have h2:2^n≤18446744073709551616:=by rw [← p64];exact pow_le b64
 intro i
 induction i with
 | zero =>
  intro r _ hr
  refine evs ?_
  simp only [vec_Poly.l0,if_neg (show ¬ ((0:Nat):Int) - 1≥0 by omega),Option.isNone_none,if_true]
  exact Ev.now _
 | succ i ih =>
  intro r hi hr
  have hi':i < L.length:=hi
  have e1:((i+1:Nat):Int) - 1=(i:Int):=by omega
  refine evs ?_
  simp only [vec_Poly.l0,nI_eq,ints_len,e1,if_pos (show (i:Int)≥0 by omega),if_pos (show (0:Int)≤(i:Int) by omega),if_pos (show (i:Int) < (L.length:Int) by omega),ints_rd hi',idx_pred i (by omega),Option.isNone_none,if_true]
  have hc:=hL _ (List.getElem_mem hi')
  have q:=fuse_Fma_eq h (a:=r) (b:=x) (c:=L[i]) (by omega) hx hc
  rw [Nat.mod_eq_of_lt hr] at q
  refine Ev.bind q ?_
  rw [horN_take hi']
  exact ih _ (by omega) (fmaN_lt b8 b64 (Nat.mod_lt _ (two_pos n)))
theorem vec_Poly_eq {n x:Nat} (h:isW (n:Int)=true) (hx:x < 18446744073709551616) {L:List Nat} (hL:∀ c∈L,c < 18446744073709551616) (hlen:L.length < 4611686018427387904):
  Ev (fun k=>vec_Poly.f k (n:Int) (ints L) (x:Int)) (((polyN n (x%2^n) L:Nat):Int),none):=by
 obtain ⟨b64,b8⟩:=pow64 h
 unfold vec_Poly.f
 simp only [nI_eq,ints_len]
 by_cases hn:L=[]
 ·subst hn
  simp only [List.length_nil,if_neg (show ¬ ((0:Nat):Int) > 0 by omega)]
  refine evs ?_
  simp only [vec_Poly.j0]
  have q:=order_Max_self (a:=0) h (by decide)
  rw [Nat.zero_mod] at q
  refine Ev.bind q (evs ?_)
  have e:wrap64 ((nI (ints []).length) - 2) = -2:=by rw [nI_eq];exact w64 (n:=-2) (by omega) (by omega)
  simp only [vec_Poly.l0,e,if_neg (show ¬ (-2:Int)≥0 by omega),Option.isNone_none,if_true]
  exact Ev.now _
 ·obtain ⟨M,c,rfl⟩:=snoc_of hn
  have hl:(M++[c]).length=M.length+1:=by simp
  rw [hl] at hlen ⊢
  have e1:wrap64 (((M.length+1:Nat):Int) - 1)=((M.length:Nat):Int):=by rw [w64 (by omega) (by omega)];omega
  have e2:wrap64 (((M.length+1:Nat):Int) - 2)=((M.length:Nat):Int) - 1:=by rw [w64 (by omega) (by omega)];omega
  have hc:=hL c (by simp)
  have er:rd (ints (M++[c])) ((M.length:Nat):Int)=(c:Int):=by rw [ints_rd (by simp)];simp
  simp only [e1,er,if_pos (show ((M.length+1:Nat):Int) > 0 by omega),if_pos (show (0:Int)≤((M.length:Nat):Int) by omega),if_pos (show ((M.length:Nat):Int) < ((M.length+1:Nat):Int) by omega)]
  refine evs ?_
  simp only [vec_Poly.j0]
  refine Ev.bind (order_Max_self h hc) ?_
  simp only [nI_eq,ints_len,hl,e2]
  have:=vec_Poly_l (x:=x) h hx hL (by omega) M.length (c%2^n) (by omega) (Nat.mod_lt _ (two_pos n))
  rw [List.take_left] at this
  rw [polyN_snoc]
  exact this
theorem ints_set {M:List Nat} {i c:Nat}:(ints M).set i (c:Int)=ints (M.set i c):=by unfold ints;rw [List.map_set];rfl
end Go.Proofs.YtbpcfhhcoklinaaGreat.V
namespace Go.Proofs.YtbpcfhhcoklinaaGreat.V
open Go Go.RowKit Go.Proofs.YtbpcfhhcoklinaaGreat.Ab Go.Proofs.YtbpcfhhcoklinaaGreat.Fn
theorem PW_ex (i:Nat):∃ n:Nat,n=18446744073709551616^i:=⟨_,rfl⟩
def PW (i:Nat):Nat:=Classical.choose (PW_ex i)
theorem PW_def (i:Nat):PW i=18446744073709551616^i:=Classical.choose_spec (PW_ex i)
theorem PW_pos (i:Nat):0 < PW i:=by rw [PW_def];exact Nat.pow_pos (by decide)
theorem PW_succ (i:Nat):PW (i+1)=PW i*18446744073709551616:=by rw [PW_def,PW_def];exact Nat.pow_succ ..
theorem PW_add (i j:Nat):PW (i+j)=PW i*PW j:=by rw [PW_def,PW_def,PW_def];exact Nat.pow_add ..
theorem PW_two (i:Nat):PW i=2^(64*i):=by rw [PW_def,show (18446744073709551616:Nat)=2^64 by decide,← Nat.pow_mul]
theorem PW_le {i j:Nat} (h:i≤j):PW i≤PW j:=by rw [PW_def,PW_def];exact Nat.pow_le_pow_right (by decide) h
theorem PW_dvd {i j:Nat} (h:i≤j):PW i ∣ PW j:=by rw [PW_def,PW_def];exact Nat.pow_dvd_pow _ h
theorem PW_zero:PW 0=1:=by rw [PW_def,Nat.pow_zero]
def ws (V:Nat):List Int:=(List.range 16).map fun i=>((V / PW i%18446744073709551616:Nat):Int)
theorem ws_len (V:Nat):(ws V).length=16:=by simp [ws]
theorem ws_zero:ws 0=[0,0,0,0,0,0,0,0,0,0,0,0,0,0,0,0]:=by
 unfold ws
 simp only [Nat.zero_div,Nat.zero_mod]
 decide
theorem rd_ws (V i:Nat) (h:i < 16):rd (ws V) (i:Int)=((V / PW i%18446744073709551616:Nat):Int):=by
 unfold rd ws
 rw [Int.toNat_natCast,List.getD_eq_getElem?_getD,List.getElem?_map,List.getElem?_range h]
 rfl
theorem digit_eq (V j:Nat):V / PW j%18446744073709551616=V%PW (j+1) / PW j:=by
 rw [PW_succ,Nat.mod_mul_right_div_self]
theorem set_ws {V i m:Nat} (h:i < 16) (hm:m < 18446744073709551616):(ws V).set i (m:Int)=ws (V%PW i+m*PW i+V / PW (i+1)*PW (i+1)):=by
 have hp:=PW_pos i
 have hlt:V%PW i < PW i:=Nat.mod_lt _ hp
 have e0:V%PW i+m*PW i+V / PW (i+1)*PW (i+1)=V%PW i+PW i*(m+18446744073709551616*(V / PW (i+1))):=by
  rw [Nat.mul_add,Nat.mul_comm m,PW_succ,Nat.mul_comm (V / _),Nat.mul_assoc,Nat.add_assoc]
 apply List.ext_getElem (by simp [ws])
 intro j h1 h2
 have hj:j < 16:=by simpa [ws] using h2
 rw [List.getElem_set]
 simp only [ws,List.getElem_map,List.getElem_range]
 by_cases hij:i=j
 ·subst hij
  rw [if_pos rfl,e0,Nat.add_mul_div_left _ _ hp,Nat.div_eq_of_lt hlt,Nat.zero_add,Nat.add_mul_mod_self_left,Nat.mod_eq_of_lt hm]
 ·rw [if_neg hij]
  congr 1
  by_cases hlt2:j < i
  ·rw [digit_eq,digit_eq,e0]
   congr 1
   obtain ⟨q,hq⟩:=PW_dvd (show j+1≤i by omega)
   rw [hq,Nat.mul_assoc,Nat.add_mul_mod_self_left,Nat.mod_mul_right_mod]
  ·have hle:i+1≤j:=by omega
   congr 1
   obtain ⟨d,rfl⟩:∃ d,j=i+1+d:=⟨j - (i+1),by omega⟩
   rw [PW_add,← Nat.div_div_eq_div_mul,← Nat.div_div_eq_div_mul]
   congr 1
   have hb:V%PW i+m*PW i < PW (i+1):=by
    rw [PW_succ]
    have:(m+1)*PW i≤18446744073709551616*PW i:=Nat.mul_le_mul_right _ hm
    rw [Nat.add_mul] at this
    rw [Nat.mul_comm (PW i)]
    omega
   rw [Nat.add_mul_div_right _ _ (PW_pos _),Nat.div_eq_of_lt hb,Nat.zero_add]
theorem step_add {V X P c U m q:Nat} (h:V%P+X%P=P*c+U) (hm:V / P%18446744073709551616+X / P%18446744073709551616+c=18446744073709551616*q+m):
  V%(P*18446744073709551616)+X%(P*18446744073709551616)=P*18446744073709551616*q+(U+m*P):=by
 rw [Nat.mod_mul,Nat.mod_mul,Nat.mul_assoc,Nat.mul_comm m P]
 have e:P*(V / P%18446744073709551616+X / P%18446744073709551616+c)=P*(18446744073709551616*q+m):=by rw [hm]
 simp only [Nat.mul_add] at e
 omega
theorem step_sub {V X P c U m q:Nat} (h:V%P+P*c=X%P+U) (hm:V / P%18446744073709551616+18446744073709551616*q=X / P%18446744073709551616+c+m):
  V%(P*18446744073709551616)+P*18446744073709551616*q=X%(P*18446744073709551616)+(U+m*P):=by
 rw [Nat.mod_mul,Nat.mod_mul,Nat.mul_assoc,Nat.mul_comm m P]
 have e:P*(V / P%18446744073709551616+18446744073709551616*q)=P*(X / P%18446744073709551616+c+m):=by rw [hm]
 simp only [Nat.mul_add] at e
 omega
theorem step_neg {V P c U m q:Nat} (h:V%P+U+P*c=P) (hm:18446744073709551615 - V / P%18446744073709551616+0+c=18446744073709551616*q+m):
  V%(P*18446744073709551616)+(U+m*P)+P*18446744073709551616*q=P*18446744073709551616:=by
 rw [Nat.mod_mul,Nat.mul_assoc,Nat.mul_comm m P]
 have hv:V / P%18446744073709551616 < 18446744073709551616:=Nat.mod_lt _ (by decide)
 have hm':18446744073709551615+c=18446744073709551616*q+m+V / P%18446744073709551616:=by omega
 have e:P*(18446744073709551615+c)=P*(18446744073709551616*q+m+V / P%18446744073709551616):=by rw [hm']
 simp only [Nat.mul_add] at e
 omega
theorem cur_digit {V U i:Nat} (hU:U < PW i):(U+V / PW i*PW i) / PW i%18446744073709551616=V / PW i%18446744073709551616:=by
 rw [Nat.add_mul_div_right _ _ (PW_pos i),Nat.div_eq_of_lt hU,Nat.zero_add]
theorem cur_set {V U i m:Nat} (hi:i < 16) (hU:U < PW i) (hm:m < 18446744073709551616):(ws (U+V / PW i*PW i)).set i (m:Int)=ws (U+m*PW i+V / PW (i+1)*PW (i+1)):=by
 rw [set_ws hi hm,Nat.add_mul_mod_self_right,Nat.mod_eq_of_lt hU]
 congr 3
 rw [PW_succ,← Nat.div_div_eq_div_mul,Nat.add_mul_div_right _ _ (PW_pos i),Nat.div_eq_of_lt hU,Nat.zero_add,Nat.div_div_eq_div_mul]
theorem cur_lt {U m i:Nat} (hU:U < PW i) (hm:m < 18446744073709551616):U+m*PW i < PW (i+1):=by
 rw [PW_succ]
 have:(m+1)*PW i≤18446744073709551616*PW i:=Nat.mul_le_mul_right _ hm
 rw [Nat.add_mul] at this
 rw [Nat.mul_comm (PW i)]
 omega
def finW (b:Bool) (s V X:Nat):Nat:=if b then (V+PW s - X%PW s)%PW s else (V+X)%PW s
def relW (b:Bool) (V X P c U:Nat):Prop:=if b then V%P+P*c=X%P+U else V%P+X%P=P*c+U
theorem fin_end {b:Bool} {s V X c U:Nat} (hV:V < PW s) (hU:U < PW s) (hc:c≤1) (h:relW b V X (PW s) c U):U+V / PW s*PW s=finW b s V X:=by
 unfold relW at h
 unfold finW
 have hp:=PW_pos s
 have hX:=Nat.mod_lt X hp
 rw [Nat.div_eq_of_lt hV,Nat.zero_mul,Nat.add_zero]
 rw [Nat.mod_eq_of_lt hV] at h
 have hc':c=0∨c=1:=by omega
 cases b
 ·rw [if_neg (by decide)] at h ⊢
  rw [← Nat.add_mod_mod V X,h,Nat.mul_add_mod,Nat.mod_eq_of_lt hU]
 ·rw [if_pos rfl] at h ⊢
  rcases hc' with rfl | rfl
  ·rw [show V+PW s - X%PW s=PW s+U by omega,Nat.add_mod_left,Nat.mod_eq_of_lt hU]
  ·rw [show V+PW s - X%PW s=U by omega,Nat.mod_eq_of_lt hU]
theorem fin_break {b:Bool} {s i V X U:Nat} (his:i≤s) (hV:V < PW s) (hU:U < PW i) (hX:X < PW i) (h:relW b V X (PW i) 0 U):U+V / PW i*PW i=finW b s V X:=by
 unfold relW at h
 unfold finW
 have hp:=PW_pos i
 rw [Nat.mod_eq_of_lt hX] at h
 have hd:=Nat.div_add_mod V (PW i)
 rw [Nat.mul_comm] at hd
 have hlt:U+V / PW i*PW i < PW s:=by
  obtain ⟨d,rfl⟩:∃ d,s=i+d:=⟨s - i,by omega⟩
  rw [PW_add] at hV ⊢
  have:=(Nat.div_lt_iff_lt_mul hp).2 (by rw [Nat.mul_comm];exact hV:V < PW d*PW i)
  have h2:(V / PW i+1)*PW i≤PW d*PW i:=Nat.mul_le_mul_right _ this
  rw [Nat.add_mul] at h2
  rw [Nat.mul_comm (PW i) (PW d)]
  omega
 cases b
 ·rw [if_neg (by decide)] at h ⊢
  rw [show V+X=U+V / PW i*PW i by omega,Nat.mod_eq_of_lt hlt]
 ·rw [if_pos rfl] at h ⊢
  have hXs:X%PW s=X:=Nat.mod_eq_of_lt (Nat.lt_of_lt_of_le hX (PW_le his))
  rw [hXs,show V+PW s - X=PW s+(U+V / PW i*PW i) by omega,Nat.add_mod_left,Nat.mod_eq_of_lt hlt]
def dgt (X i:Nat):Nat:=X / PW i%18446744073709551616
theorem dgt_lt (X i:Nat):dgt X i < 18446744073709551616:=Nat.mod_lt _ (by decide)
theorem dgt_zero {X i:Nat} (h:X < PW i):dgt X i=0:=by unfold dgt;rw [Nat.div_eq_of_lt h]
theorem rd_dgt {V i:Nat} (h:i < 16):rd (ws V) (i:Int)=(dgt V i:Int):=rd_ws V i h
theorem wrap_succ {i:Nat} (h:i < 16):wrap64 ((i:Int)+1)=((i+1:Nat):Int):=by rw [w64 (by omega) (by omega)];omega
theorem enter_j1 {n:Int} {nar:Bool} {t:Int} {s at_ i V X U c x:Nat} {b:Bool} {t0 t1 t2:Int} {r:(Int×Bool×Int×List Int)×Unit×Unit} (hs:s≤16) (hi:i < s) (hc:c≤1) (hU:U < PW i) (hx:x=dgt X i) (h:relW b V X (PW i) c U)
  (ih:∀ U' c',c'≤1→U' < PW (i+1)→relW b V X (PW (i+1)) c' U'→Ev (fun k=>accum_Acc_enter.l0 k n nar t (s:Int) (ws (U'+V / PW (i+1)*PW (i+1))) b (at_:Int) (c':Int) ((i+1:Nat):Int) t0 t1 t2) r):
  Ev (fun k=>accum_Acc_enter.j1 k n nar t (s:Int) (ws (U+V / PW i*PW i)) b (at_:Int) (c:Int) (i:Int) (x:Int) t0 t1 t2) r:=by
 refine evs ?_
 simp only [accum_Acc_enter.j1]
 have hv:=dgt_lt V i
 have hxl:x < 18446744073709551616:=by rw [hx];exact dgt_lt X i
 have hcd:rd (ws (U+V / PW i*PW i)) (i:Int)=(dgt V i:Int):=by rw [rd_ws _ i (Nat.lt_of_lt_of_le hi hs),cur_digit hU];rfl
 have hi16:i < 16:=Nat.lt_of_lt_of_le hi hs
 have hw:=wrap_succ hi16
 have c1:(0:Int)≤(i:Int):=Int.natCast_nonneg i
 have c2:(i:Int) < (s:Int):=Int.ofNat_lt.2 hi
 simp only [hcd,c1,c2,if_true,Int.toNat_natCast,hw]
 cases b
 ·simp only [Bool.false_eq_true,if_false]
  obtain ⟨m,q,h1,h2,h3,h4⟩:=add64_nat hv hxl hc
  simp only [h4,Option.bind_some]
  rw [cur_set hi16 hU h1]
  refine ih _ _ h2 (cur_lt hU h1) ?_
  unfold relW at h ⊢
  rw [if_neg (by decide)] at h ⊢
  rw [PW_succ]
  exact step_add h (by rw [hx] at h3;exact h3)
 ·simp only [if_true]
  obtain ⟨m,q,h1,h2,h3,h4⟩:=sub64_nat hv hxl hc
  simp only [h4,Option.bind_some]
  rw [cur_set hi16 hU h1]
  refine ih _ _ h2 (cur_lt hU h1) ?_
  unfold relW at h ⊢
  rw [if_pos rfl] at h ⊢
  rw [PW_succ]
  exact step_sub h (by rw [hx] at h3;exact h3)
theorem enter_l0 {n:Int} {nar:Bool} {t:Int} {s at_ V X:Nat} {b:Bool} {t0 t1 t2:Nat} (hs:s≤16) (hat:at_ < 4294967296) (hV:V < PW s) (hX:X < PW (at_+3)) (h0:t0=dgt X at_) (h1:t1=dgt X (at_+1)) (h2:t2=dgt X (at_+2)):
  ∀ (d i U c:Nat),i+d=s→at_≤i→c≤1→U < PW i→relW b V X (PW i) c U→Ev (fun k=>accum_Acc_enter.l0 k n nar t (s:Int) (ws (U+V / PW i*PW i)) b (at_:Int) (c:Int) (i:Int) (t0:Int) (t1:Int) (t2:Int)) ((n,nar,t,ws (finW b s V X)),(),()):=by
 intro d
 induction d with
 | zero =>
  intro i U c hi ha hc hU h
  have:i=s:=by omega
  subst this
  refine evs ?_
  simp only [accum_Acc_enter.l0]
  simp only [if_neg (show ¬ ((i:Int) < (i:Int)) by omega),fin_end hV hU hc h]
  exact Ev.now _
 | succ d ih =>
  intro i U c hi ha hc hU h
  have hw:wrap64 ((i:Int) - at_)=((i - at_:Nat):Int):=by rw [w64 (by omega) (by omega)];omega
  refine evs ?_
  simp only [accum_Acc_enter.l0]
  simp only [if_pos (show (i:Int) < s by omega),hw]
  have step:=fun x hx=>enter_j1 (n:=n) (nar:=nar) (t:=t) (at_:=at_) (x:=x) (t0:=t0) (t1:=t1) (t2:=t2) hs (show i < s by omega) hc hU hx h (fun U' c' hc' hU' h'=>ih (i+1) U' c' (by omega) (by omega) hc' hU' h')
  by_cases hk:i - at_ < 3
  ·simp only [if_pos (show ((i - at_:Nat):Int) < 3 by omega),if_pos (show (0:Int)≤((i - at_:Nat):Int) by omega)]
   have h3:i=at_∨i=at_+1∨i=at_+2:=by omega
   rcases h3 with rfl | rfl | rfl
   ·rw [Nat.sub_self]
    exact step t0 h0
   ·rw [Nat.add_sub_cancel_left]
    exact step t1 h1
   ·rw [Nat.add_sub_cancel_left]
    exact step t2 h2
  ·have hlt:X < PW i:=Nat.lt_of_lt_of_le hX (PW_le (by omega))
   simp only [if_neg (show ¬ (((i - at_:Nat):Int) < 3) by omega)]
   by_cases hc0:c=0
   ·subst hc0
    simp only [Int.natCast_zero,if_true]
    rw [fin_break (by omega) hV hU hlt h]
    exact Ev.now _
   ·simp only [if_neg (show ¬ ((c:Int)=0) by omega)]
    exact step 0 (dgt_zero hlt).symm
theorem two_rows {B hi lo S c d a b:Nat} (h1:hi*S=c*B+d) (h2:lo*S=a*B+b):(hi*B+lo)*S=c*(B*B)+(d+a)*B+b:=by
 rw [Nat.add_mul,Nat.mul_right_comm,h1,h2]
 simp only [Nat.add_mul,Nat.mul_assoc]
 omega
theorem three_words {c z1 z0 Y:Nat} (hc:c < 18446744073709551616) (h1:z1 < 18446744073709551616) (h0:z0 < 18446744073709551616) (h:c*(18446744073709551616*18446744073709551616)+z1*18446744073709551616+z0=Y):
  Y < PW 3∧z0=Y%18446744073709551616∧z1=Y / 18446744073709551616%18446744073709551616∧c=Y / PW 2%18446744073709551616:=by
 have e2:PW 2=18446744073709551616*18446744073709551616:=by rw [PW_def]
 have e3:PW 3=18446744073709551616*(18446744073709551616*18446744073709551616):=by rw [PW_def]
 rw [e2,e3]
 have k1:Y / 18446744073709551616=c*18446744073709551616+z1:=by omega
 have k2:Y / (18446744073709551616*18446744073709551616)=c:=by rw [← Nat.div_div_eq_div_mul,k1];omega
 refine ⟨?_,by omega,by rw [k1];omega,by rw [k2];omega⟩
 omega
theorem enter_eq {n:Nat} {nar:Bool} {t:Int} {V hi lo up:Nat} {b:Bool} (hn:isW (n:Int)=true) (hV:V < PW (n / 4)) (hh:hi < 18446744073709551616) (hl:lo < 18446744073709551616) (hu:up < 4294967296):
  Ev (fun k=>accum_Acc_enter.f k (n:Int) nar t (ws V) (hi:Int) (lo:Int) (up:Int) b) (((n:Int),nar,t,ws (finW b (n / 4) V ((hi*18446744073709551616+lo)*2^up))),(),()):=by
 have hn4:n / 4≤16:=by have:=isW_cases hn;omega
 have hsz:accum_Acc_size.f (n:Int) nar t (ws V)=some ((),(),((n / 4:Nat):Int)):=by
  unfold accum_Acc_size.f
  have:=isW_cases hn
  rw [Int.tdiv_eq_ediv_of_nonneg (by omega),w64 (by omega) (by omega)]
  congr 3
 have hm:Int.tmod (up:Int) 64=((up%64:Nat):Int):=by rw [Int.tmod_eq_emod_of_nonneg (by omega)];omega
 have hd:Int.tdiv (up:Int) 64=((up / 64:Nat):Int):=by rw [Int.tdiv_eq_ediv_of_nonneg (by omega)];omega
 have hs:up%64 < 64:=Nat.mod_lt _ (by decide)
 unfold accum_Acc_enter.f
 rw [hm,hd,wrapN _ (by omega)]
 have h63:IntKind.u64.wrap (63 - ((up%64:Nat):Int))=((63 - up%64:Nat):Int):=by rw [u64_of (by omega) (by omega)];omega
 rw [h63,hsz]
 simp only [Option.bind_some]
 simp only [if_pos (show (0:Int)≤((up%64:Nat):Int) by omega),if_pos (show (0:Int)≤((63 - up%64:Nat):Int) by omega),if_pos (show (0:Int)≤((n / 4:Nat):Int) by omega),if_pos (show ((n / 4:Nat):Int)≤16 by omega),w64 (show -9223372036854775808≤((up / 64:Nat):Int) by omega) (show ((up / 64:Nat):Int) < 9223372036854775808 by omega)]
 -- the three words
 generalize hsd:up%64=sh at *
 generalize had:up / 64=at_ at *
 have hup:up=64*at_+sh:=by omega
 have hX:(hi*18446744073709551616+lo)*2^up=(hi*18446744073709551616+lo)*2^sh*PW at_:=by
  rw [PW_two,Nat.mul_assoc,← Nat.pow_add,hup];congr 2;omega
 have p1:=two_pos sh
 have hsh:2^sh≤2^63:=pow_le (by omega)
 rw [p63] at hsh
 have e64:2^sh*2^(64 - sh)=18446744073709551616:=by rw [← Nat.pow_add,show sh+(64 - sh)=64 by omega,p64]
 have q1:=two_pos (64 - sh)
 -- parts
 have hlo:lo=lo / 2^(64 - sh)*2^(64 - sh)+lo%2^(64 - sh):=by rw [Nat.mul_comm];exact (Nat.div_add_mod _ _).symm
 have hhi:hi=hi / 2^(64 - sh)*2^(64 - sh)+hi%2^(64 - sh):=by rw [Nat.mul_comm];exact (Nat.div_add_mod _ _).symm
 generalize ha:lo / 2^(64 - sh)=a at *
 generalize hb:lo%2^(64 - sh)=b0 at *
 generalize hc:hi / 2^(64 - sh)=c at *
 generalize hd0:hi%2^(64 - sh)=d0 at *
 have hb0:b0 < 2^(64 - sh):=by rw [← hb];exact Nat.mod_lt _ q1
 have hd1:d0 < 2^(64 - sh):=by rw [← hd0];exact Nat.mod_lt _ q1
 have ha1:a < 2^sh:=by rw [← ha];exact (Nat.div_lt_iff_lt_mul q1).2 (by rw [e64];exact hl)
 have hc1:c < 2^sh:=by rw [← hc];exact (Nat.div_lt_iff_lt_mul q1).2 (by rw [e64];exact hh)
 have hbs:b0*2^sh < 18446744073709551616:=by rw [← e64,Nat.mul_comm];exact Nat.mul_lt_mul_of_pos_left hb0 p1
 have hds:d0*2^sh+a < 18446744073709551616:=by
  have:(d0+1)*2^sh≤2^(64 - sh)*2^sh:=Nat.mul_le_mul_right _ hd1
  rw [Nat.mul_comm (2^(64 - sh)),e64,Nat.add_mul] at this
  omega
 have hlos:lo*2^sh=a*18446744073709551616+b0*2^sh:=by
  rw [hlo,Nat.add_mul,Nat.mul_assoc,Nat.mul_comm (2^(64 - sh)),e64]
 have hhis:hi*2^sh=c*18446744073709551616+d0*2^sh:=by
  rw [hhi,Nat.add_mul,Nat.mul_assoc,Nat.mul_comm (2^(64 - sh)),e64]
 have w0:shl .u64 (lo:Int) (sh:Int)=((b0*2^sh:Nat):Int):=by
  rw [shl_nat _ _ (by omega),hlos,Nat.mul_add_mod',Nat.mod_eq_of_lt hbs]
 have half:∀ z:Nat,shr .u64 ((z:Int) / 2) ((63 - sh:Nat):Int)=((z / 2^(64 - sh):Nat):Int):=fun z=>by
  rw [show (z:Int) / 2=((z / 2:Nat):Int) by omega,shr_nat _ _ (by omega),Nat.div_div_eq_div_mul,← Nat.pow_succ',show (63 - sh).succ=64 - sh by omega]
 have w1:Go.bits .or .u64 (shl .u64 (hi:Int) (sh:Int)) (shr .u64 ((lo:Int) / 2) ((63 - sh:Nat):Int))=((d0*2^sh+a:Nat):Int):=by
  rw [half lo,ha,shl_nat _ _ (by omega),hhis,Nat.mul_add_mod',Nat.mod_eq_of_lt (show d0*2^sh < 18446744073709551616 from Nat.lt_of_le_of_lt (Nat.le_add_right _ _) hds)]
  exact or_add _ _ sh (by omega) (Nat.mul_mod_left _ _) ha1 (by omega)
 have w2:shr .u64 ((hi:Int) / 2) ((63 - sh:Nat):Int)=((c:Nat):Int):=by rw [half hi,hc]
 rw [w0,w1,w2,hX]
 have hY:(hi*18446744073709551616+lo)*2^sh=c*(18446744073709551616*18446744073709551616)+(d0*2^sh+a)*18446744073709551616+b0*2^sh:=two_rows hhis hlos
 have hc2:c < 18446744073709551616:=Nat.lt_of_lt_of_le hc1 (Nat.le_trans hsh (by decide))
 rw [hY]
 clear hY hhis hlos hX hlo hhi
 generalize hz0:b0*2^sh=z0 at *
 generalize hz1:d0*2^sh+a=z1 at *
 obtain ⟨Y,hYd⟩:∃ Y,c*(18446744073709551616*18446744073709551616)+z1*18446744073709551616+z0=Y:=⟨_,rfl⟩
 rw [hYd]
 obtain ⟨hYl,k0,k1,k2⟩:=three_words hc2 hds hbs hYd
 have g0:z0=dgt (Y*PW at_) at_:=by unfold dgt;rw [Nat.mul_div_cancel _ (PW_pos _)];exact k0
 have g1:z1=dgt (Y*PW at_) (at_+1):=by unfold dgt;rw [PW_succ,Nat.mul_comm (PW at_) _,Nat.mul_div_mul_right _ _ (PW_pos _)];exact k1
 have g2:c=dgt (Y*PW at_) (at_+2):=by
  unfold dgt;rw [PW_add,Nat.mul_comm (PW at_) _,Nat.mul_div_mul_right _ _ (PW_pos _)];exact k2
 have hX3:Y*PW at_ < PW (at_+3):=by rw [PW_add,Nat.mul_comm];exact Nat.mul_lt_mul_of_pos_left hYl (PW_pos _)
 by_cases hlt:at_≤n / 4
 ·have hdm:=Nat.div_add_mod V (PW at_)
  have e:V%PW at_+V / PW at_*PW at_=V:=by rw [Nat.mul_comm];omega
  have:=enter_l0 (n:=n) (nar:=nar) (t:=t) (b:=b) hn4 (by omega) hV hX3 g0 g1 g2 (n / 4 - at_) at_ (V%PW at_) 0 (by omega) (Nat.le_refl _) (by decide) (Nat.mod_lt _ (PW_pos _)) (by unfold relW;rw [Nat.mul_mod_left];split <;> omega)
  rw [e] at this
  exact this
 ·refine evs ?_
  simp only [accum_Acc_enter.l0]
  simp only [if_neg (show ¬ ((at_:Int) < ((n / 4:Nat):Int)) by omega)]
  have hfin:finW b (n / 4) V (Y*PW at_)=V:=by
   have hz:Y*PW at_%PW (n / 4)=0:=by
    obtain ⟨q,hq⟩:=PW_dvd (show n / 4≤at_ by omega)
    rw [hq,← Nat.mul_assoc,Nat.mul_right_comm,Nat.mul_mod_left]
   unfold finW
   split
   ·rw [hz,Nat.sub_zero,Nat.add_mod_right,Nat.mod_eq_of_lt hV]
   ·rw [Nat.add_mod,hz,Nat.add_zero,Nat.mod_mod,Nat.mod_eq_of_lt hV]
  rw [hfin]
  exact Ev.now _
theorem size_eq {n:Nat} (hn:isW (n:Int)=true) (nar:Bool) (t:Int) (l:List Int):accum_Acc_size.f (n:Int) nar t l=some ((),(),((n / 4:Nat):Int)):=by
 unfold accum_Acc_size.f
 have:=isW_cases hn
 rw [Int.tdiv_eq_ediv_of_nonneg (by omega),w64 (by omega) (by omega)]
 congr 3
theorem size_bounds {n:Nat} (hn:isW (n:Int)=true):2≤n / 4∧n / 4≤16:=by have:=isW_cases hn;omega
theorem HW_ex (s:Nat):∃ h:Nat,h=PW (s - 1)*9223372036854775808:=⟨_,rfl⟩
def HW (s:Nat):Nat:=Classical.choose (HW_ex s)
theorem HW_def (s:Nat):HW s=PW (s - 1)*9223372036854775808:=Classical.choose_spec (HW_ex s)
theorem HW_two {s:Nat} (h:0 < s):HW s*2=PW s:=by
 obtain ⟨r,rfl⟩:∃ r,s=r+1:=⟨s - 1,by omega⟩
 rw [HW_def,PW_succ,Nat.add_sub_cancel,Nat.mul_assoc]
theorem top_bitW {s V:Nat} (h:0 < s) (hV:V < PW s):dgt V (s - 1) / 9223372036854775808=if HW s≤V then 1 else 0:=by
 obtain ⟨r,rfl⟩:∃ r,s=r+1:=⟨s - 1,by omega⟩
 have hp:=PW_pos r
 have hd:dgt V (r+1 - 1)=V / PW r:=by
  unfold dgt
  rw [Nat.add_sub_cancel,Nat.mod_eq_of_lt]
  rw [PW_succ] at hV
  exact (Nat.div_lt_iff_lt_mul hp).2 (by rw [Nat.mul_comm];exact hV)
 rw [hd,Nat.div_div_eq_div_mul]
 have hH:HW (r+1)=PW r*9223372036854775808:=by rw [HW_def,Nat.add_sub_cancel]
 rw [← hH]
 have h2:=HW_two (s:=r+1) (by omega)
 have hHp:0 < HW (r+1):=by rw [hH];exact Nat.mul_pos hp (by decide)
 split
 ·rename_i hle
  exact Nat.div_eq_of_lt_le (by omega) (by omega)
 ·exact Nat.div_eq_of_lt (by omega)
theorem negative_eq {n V:Nat} (hn:isW (n:Int)=true) (hV:V < PW (n / 4)) (nar:Bool) (t:Int):accum_Acc_negative.f (n:Int) nar t (ws V)=some ((),(),decide (HW (n / 4)≤V)):=by
 unfold accum_Acc_negative.f
 obtain ⟨h1,h2⟩:=size_bounds hn
 have hw:wrap64 (((n / 4:Nat):Int) - 1)=((n / 4 - 1:Nat):Int):=by rw [w64 (by omega) (by omega)];omega
 rw [size_eq hn]
 simp only [Option.bind_some,hw]
 rw [if_pos (by omega),if_pos (by omega),rd_dgt (by omega)]
 have e:((dgt V (n / 4 - 1):Nat):Int) / 9223372036854775808=((dgt V (n / 4 - 1) / 9223372036854775808:Nat):Int):=by omega
 rw [e,top_bitW (by omega) hV]
 by_cases h:HW (n / 4)≤V
 ·rw [if_pos h,decide_eq_true h];rfl
 ·rw [if_neg h,decide_eq_false h];rfl
theorem turn_arr {s V:Nat} (hs:s≤16) (hV:V < PW s):∀ (d i U c:Nat),i+d=s→c≤1→U < PW i→V%PW i+U+PW i*c=PW i→Ev (fun k=>accum_turn_arr.l0 k (s:Int) (s:Int) (ws (U+V / PW i*PW i)) (c:Int) (s:Int) (i:Int)) (ws ((PW s - V)%PW s),(),()):=by
 intro d
 induction d with
 | zero =>
  intro i U c hi hc hU h
  have:i=s:=by omega
  subst this
  refine evs ?_
  simp only [accum_turn_arr.l0]
  simp only [if_neg (show ¬ ((i:Int) < (i:Int)) by omega)]
  rw [Nat.mod_eq_of_lt hV] at h
  have hc':c=0∨c=1:=by omega
  have e:U+V / PW i*PW i=(PW i - V)%PW i:=by
   rw [Nat.div_eq_of_lt hV,Nat.zero_mul,Nat.add_zero]
   rcases hc' with rfl | rfl
   ·rw [show PW i - V=U by omega,Nat.mod_eq_of_lt hU]
   ·rw [show V=0 by omega,Nat.sub_zero,Nat.mod_self];omega
  rw [e]
  exact Ev.now _
 | succ d ih =>
  intro i U c hi hc hU h
  refine evs ?_
  simp only [accum_turn_arr.l0]
  have hi16:i < 16:=by omega
  have hcd:rd (ws (U+V / PW i*PW i)) (i:Int)=(dgt V i:Int):=by rw [rd_ws _ i hi16,cur_digit hU];rfl
  have hv:=dgt_lt V i
  obtain ⟨m,q,h1,h2,h3,h4⟩:=add64_nat (show 18446744073709551615 - dgt V i < 18446744073709551616 by omega) (show 0 < 18446744073709551616 by decide) hc
  simp only [if_pos (show (i:Int) < (s:Int) by omega),if_pos (show (0:Int)≤(i:Int) by omega),hcd,xor_all _ hv,show ((0:Nat):Int)=0 from rfl,Int.toNat_natCast,wrap_succ hi16] at h4 ⊢
  simp only [h4,Option.bind_some]
  rw [cur_set hi16 hU h1]
  exact ih (i+1) _ q (by omega) h2 (cur_lt hU h1) (by rw [PW_succ];exact step_neg h h3)
theorem turn_arr_eq {s V:Nat} (hs:s≤16) (hV:V < PW s):Ev (fun k=>accum_turn_arr.f k (s:Int) (ws V)) (ws ((PW s - V)%PW s),(),()):=by
 have:=turn_arr hs hV s 0 0 1 (by omega) (by decide) (PW_pos 0) (by rw [PW_zero,Nat.mod_one])
 rw [PW_zero,Nat.div_one,Nat.mul_one,Nat.zero_add] at this
 exact this
theorem magnitude_eq {n V:Nat} (hn:isW (n:Int)=true) (hV:V < PW (n / 4)) (nar:Bool) (t:Int):Ev (fun k=>accum_Acc_magnitude.f k (n:Int) nar t (ws V)) ((),ws (if HW (n / 4)≤V then PW (n / 4) - V else V),()):=by
 unfold accum_Acc_magnitude.f
 obtain ⟨h1,h2⟩:=size_bounds hn
 simp only [negative_eq hn hV,size_eq hn,Option.bind_some]
 by_cases h:HW (n / 4)≤V
 ·simp only [decide_eq_true h,if_true,if_pos h,if_pos (show (0:Int)≤((n / 4:Nat):Int) by omega),if_pos (show ((n / 4:Nat):Int)≤16 by omega)]
  have hlt:PW (n / 4) - V < PW (n / 4):=by
   have h2:=HW_two (s:=n / 4) (by omega)
   have:=PW_pos (n / 4)
   omega
  have:=turn_arr_eq h2 hV
  rw [Nat.mod_eq_of_lt hlt] at this
  exact Ev.bind (f:=fun _ (z:List Int×Unit×Unit)=>some ((),z.1,())) this (Ev.now ((),ws (PW (n / 4) - V),()))
 ·simp only [decide_eq_false h,Bool.false_eq_true,if_false,if_neg h]
  exact Ev.now ((),ws V,())
end Go.Proofs.YtbpcfhhcoklinaaGreat.V
namespace Go.Proofs.YtbpcfhhcoklinaaGreat.V
open Go Go.RowKit Go.Proofs.YtbpcfhhcoklinaaGreat.Ab Go.Proofs.YtbpcfhhcoklinaaGreat.Fn
theorem or_words {hi lo sh:Nat} (hh:hi < 18446744073709551616) (hl:lo < 18446744073709551616) (hs:sh < 64):
  Go.bits .or .u64 (shl .u64 (hi:Int) (sh:Int)) (shr .u64 ((lo:Int) / 2) ((63 - sh:Nat):Int))=((hi*2^sh%18446744073709551616+lo / 2^(64 - sh):Nat):Int):=by
 have e64:2^sh*2^(64 - sh)=18446744073709551616:=by rw [← Nat.pow_add,show sh+(64 - sh)=64 by omega,p64]
 have q1:=two_pos (64 - sh)
 have hb:lo / 2^(64 - sh) < 2^sh:=(Nat.div_lt_iff_lt_mul q1).2 (by rw [e64];exact hl)
 rw [show (lo:Int) / 2=((lo / 2:Nat):Int) by omega,shr_nat _ _ (by omega),Nat.div_div_eq_div_mul,← Nat.pow_succ',show (63 - sh).succ=64 - sh by omega,shl_nat _ _ (by omega)]
 refine or_add _ _ sh (Nat.mod_lt _ (by decide)) ?_ hb (Nat.lt_of_le_of_lt (Nat.div_le_self _ _) hl)
 rw [Nat.mod_mod_of_dvd _ ⟨2^(64 - sh),e64.symm⟩,Nat.mul_mod_left]
theorem up_words {t0 t1 t2 sh:Nat} (hs:sh < 64) (h0:t0 < 2^(64 - sh)) (h1:t1 < 18446744073709551616) (h2:t2 < 18446744073709551616):
  ∃ a b c:Nat,a=t0*2^sh%18446744073709551616+t1 / 2^(64 - sh)∧b=t1*2^sh%18446744073709551616+t2 / 2^(64 - sh)∧c=t2*2^sh%18446744073709551616∧t0*2^sh≤a∧a < 18446744073709551616∧b < 18446744073709551616∧c < 18446744073709551616 ∧
   ((t0*18446744073709551616+t1)*18446744073709551616+t2)*2^sh=(a*18446744073709551616+b)*18446744073709551616+c:=by
 have p1:=two_pos sh
 have q1:=two_pos (64 - sh)
 have e64:2^sh*2^(64 - sh)=18446744073709551616:=by rw [← Nat.pow_add,show sh+(64 - sh)=64 by omega,p64]
 have key:∀ t:Nat,t < 18446744073709551616→t*2^sh=t / 2^(64 - sh)*18446744073709551616+t%2^(64 - sh)*2^sh∧t%2^(64 - sh)*2^sh+2^sh≤18446744073709551616∧t / 2^(64 - sh) < 2^sh:=fun t ht=>by
  have hm:=Nat.mod_lt t q1
  refine ⟨?_, ?_,(Nat.div_lt_iff_lt_mul q1).2 (by rw [e64];exact ht)⟩
  ·have hd:=Nat.div_add_mod t (2^(64 - sh))
   have:t*2^sh=(2^(64 - sh)*(t / 2^(64 - sh))+t%2^(64 - sh))*2^sh:=by rw [hd]
   rw [this,Nat.add_mul,Nat.mul_right_comm,Nat.mul_comm (2^(64 - sh)) (2^sh),e64,Nat.mul_comm]
  ·have:(t%2^(64 - sh)+1)*2^sh≤2^(64 - sh)*2^sh:=Nat.mul_le_mul_right _ hm
   rw [Nat.mul_comm (2^(64 - sh)),e64,Nat.add_mul,Nat.one_mul] at this
   exact this
 obtain ⟨k1,k2,k3⟩:=key t1 h1
 obtain ⟨k4,k5,k6⟩:=key t2 h2
 have z0:(t0+1)*2^sh≤2^(64 - sh)*2^sh:=Nat.mul_le_mul_right _ h0
 rw [Nat.mul_comm (2^(64 - sh)),e64,Nat.add_mul,Nat.one_mul] at z0
 generalize t1 / 2^(64 - sh)=a1 at *
 generalize t1%2^(64 - sh)*2^sh=b1 at *
 generalize t2 / 2^(64 - sh)=a2 at *
 generalize t2%2^(64 - sh)*2^sh=b2 at *
 have m0:t0*2^sh%18446744073709551616=t0*2^sh:=Nat.mod_eq_of_lt (by omega)
 have m1:t1*2^sh%18446744073709551616=b1:=by rw [k1];omega
 have m2:t2*2^sh%18446744073709551616=b2:=by rw [k4];omega
 refine ⟨t0*2^sh+a1,b1+a2,b2,by rw [m0],by rw [m1],m2.symm,Nat.le_add_right _ _,by omega,by omega,by omega, ?_⟩
 rw [Nat.add_mul,Nat.mul_right_comm,Nat.add_mul,Nat.mul_right_comm,k1,k4]
 generalize t0*2^sh=x0
 omega
theorem Round_end {n V i sh H:Nat} {rest:Bool} {nar:Bool} {t:Int} {l:List Int} {j:Nat} (hn:isW (n:Int)=true) (hV:V < PW (n / 4)) (hi:i < 16) (hs:sh < 64) (hH:H < 2^128) (hR:rest=true→2^127≤H) (hj:i - 2≤j):
  Ev (fun k=>accum_Acc_Round.l1 k (n:Int) nar t (ws V) (i:Int) (sh:Int) (TH H) (TL H) rest (j:Int) l) ((),(),(((natX (decide (HW (n / 4)≤V)) H (64*((i:Int) - 1) - sh+16 - 8*n) rest).rnd n:Nat):Int)):=by
 refine evs ?_
 simp only [accum_Acc_Round.l1]
 have hnb:=isW_cases hn
 have w1:wrap64 ((i:Int) - 2)=(i:Int) - 2:=w64 (by omega) (by omega)
 have w2:wrap64 ((wrap64 ((wrap64 ((wrap64 (64*(wrap64 ((i:Int) - 1)))) - (sh:Int)))+16)) - (wrap64 (8*(n:Int))))=64*((i:Int) - 1) - sh+16 - 8*n:=by
  rw [w64 (n:=(i:Int) - 1) (by omega) (by omega),w64 (n:=64*((i:Int) - 1)) (by omega) (by omega),w64 (n:=64*((i:Int) - 1) - (sh:Int)) (by omega) (by omega),w64 (n:=64*((i:Int) - 1) - (sh:Int)+16) (by omega) (by omega),w64 (n:=8*(n:Int)) (by omega) (by omega),w64 (by omega) (by omega)]
 simp only [w1,w2,if_neg (show ¬ ((j:Int) < (i:Int) - 2) by omega),negative_eq hn hV,Option.bind_some]
 have hm:=round_Make_eq (decide (HW (n / 4)≤V)) H (64*((i:Int) - 1) - sh+16 - 8*n) rest hH
 rw [if_neg (by rintro ⟨h1,h2⟩;have:=hR h1;omega),makeV_exactE hH (by omega) (by omega),exactE_natX] at hm
 refine Ev.bind hm ?_
 simp only [Option.isNone_none,if_true]
 refine Ev.bind (Round_X hn (natX_ok _ _ _ _)) ?_
 simp only [Option.isNone_none,if_true]
 exact Ev.now _
theorem Round_l1 {n V i sh H M:Nat} {rest:Bool} {nar:Bool} {t:Int} (hn:isW (n:Int)=true) (hV:V < PW (n / 4)) (hi:i < 16) (hs:sh < 64) (hH:H < 2^128) (hR:2≤i∨rest=true→2^127≤H):
  ∀ (d j:Nat) (r:Bool),j+d=i - 2→r=(rest||decide (M%PW j≠0))→Ev (fun k=>accum_Acc_Round.l1 k (n:Int) nar t (ws V) (i:Int) (sh:Int) (TH H) (TL H) r (j:Int) (ws M)) ((),(),(((natX (decide (HW (n / 4)≤V)) H (64*((i:Int) - 1) - sh+16 - 8*n) (rest||decide (M%PW (i - 2)≠0))).rnd n:Nat):Int)):=by
 intro d
 induction d with
 | zero =>
  intro j r hj hr
  have:j=i - 2:=by omega
  subst this
  rw [← hr]
  refine Round_end hn hV hi hs hH (fun h=>?_) (Nat.le_refl _)
  by_cases h2:2≤i
  ·exact hR (.inl h2)
  ·refine hR (.inr ?_)
   rw [hr,show i - 2=0 by omega,PW_zero,Nat.mod_one] at h
   simpa using h
 | succ d ih =>
  intro j r hj hr
  have h16:j < 16:=by omega
  have next:∀ r',r'=(rest||decide (M%PW (j+1)≠0))→Ev (fun k=>accum_Acc_Round.l1 k (n:Int) nar t (ws V) (i:Int) (sh:Int) (TH H) (TL H) r' (wrap64 ((j:Int)+1)) (ws M)) _:=fun r' h'=>by
   rw [wrap_succ h16];exact ih (j+1) r' (by omega) h'
  have hdig:decide (M%PW (j+1)≠0)=(decide (M%PW j≠0)||decide (dgt M j≠0)):=by
   rw [PW_succ,Nat.mod_mul]
   exact or_ne (PW_pos j)
  refine evs ?_
  simp only [accum_Acc_Round.l1]
  have w1:wrap64 ((i:Int) - 2)=(i:Int) - 2:=w64 (by omega) (by omega)
  simp only [w1,if_pos (show (j:Int) < (i:Int) - 2 by omega),if_pos (show (0:Int)≤(j:Int) by omega),if_pos (show (j:Int) < 16 by omega),rd_dgt h16]
  cases hrb:r
  ·simp only [Bool.false_eq_true,if_false]
   refine next _ ?_
   rw [hdig,← Bool.or_assoc,← hr,hrb,Bool.false_or]
   by_cases h0:dgt M j=0
   ·rw [h0];rfl
   ·rw [decide_eq_true h0]
    simpa using h0
  ·simp only [if_true]
   refine next _ ?_
   rw [hdig,← Bool.or_assoc,← hr,hrb,Bool.true_or]
theorem Round_j2 {n V i M t0 t1 t2:Nat} {nar:Bool} {t:Int} {X:EX} (hn:isW (n:Int)=true) (hV:V < PW (n / 4)) (hi:i < 16) (h0:t0 < 18446744073709551616) (h1:t1 < 18446744073709551616) (h2:t2 < 18446744073709551616) (ht:1≤i→t0≠0) (h00:t0=0→t2=0)
  (hX:∀ sh H c:Nat,sh < 64→(t0≠0→2^63≤t0*2^sh)→((t0*18446744073709551616+t1)*18446744073709551616+t2)*2^sh=H*18446744073709551616+c→c < 18446744073709551616→natX (decide (HW (n / 4)≤V)) H (64*((i:Int) - 1) - sh+16 - 8*n) (decide (c≠0)||decide (M%PW (i - 2)≠0))=X):
  Ev (fun k=>accum_Acc_Round.j2 k (n:Int) nar t (ws V) (i:Int) (ws M) (t0:Int) (t1:Int) (t2:Int)) ((),(),((X.rnd n:Nat):Int)):=by
 have hb:=bl_le_of_lt (show t0 < 2^64 by rw [p64];exact h0)
 obtain ⟨sh,hsh,hs,ht0,hbig⟩:∃ sh:Nat,Int.tmod ((64 - bl t0:Nat):Int) 64=(sh:Int)∧sh < 64∧t0 < 2^(64 - sh)∧(t0≠0→2^63≤t0*2^sh):=by
  by_cases hz:t0=0
  ·subst hz
   exact ⟨0,by rw [bl_zero];decide,by decide,two_pos _,fun h=>absurd rfl h⟩
  ·have hp:=bl_pos (show 0 < t0 by omega)
   refine ⟨64 - bl t0, ?_,by omega, ?_,fun _=>?_⟩
   ·rw [Int.tmod_eq_emod_of_nonneg (by omega)];omega
   ·rw [show 64 - (64 - bl t0)=bl t0 by omega];exact bl_lt t0
   ·have:=Nat.mul_le_mul_right (2^(64 - bl t0)) (bl_le (show 0 < t0 by omega))
    rwa [← Nat.pow_add,show bl t0 - 1+(64 - bl t0)=63 by omega] at this
 refine evs ?_
 simp only [accum_Acc_Round.j2,Lead0_eq h0,Option.bind_some,hsh]
 have w3:wrap64 (63 - (sh:Int))=((63 - sh:Nat):Int):=by rw [w64 (by omega) (by omega)];omega
 simp only [w3,if_pos (show (0:Int)≤(sh:Int) by omega),if_pos (show (0:Int)≤((63 - sh:Nat):Int) by omega),or_words h0 h1 hs,or_words h1 h2 hs,shl_nat t2 sh (by omega)]
 obtain ⟨a,b,c,ha,hb',hc,hle,ha1,hb1,hc1,hT⟩:=up_words hs ht0 h1 h2
 rw [← ha,← hb',← hc]
 have hX':=hX sh _ _ hs hbig hT hc1
 have hge:t0≠0→2^127≤a*18446744073709551616+b:=fun h=>by
  have:=hbig h
  rw [p63] at this
  rw [p127];omega
 have hlt:a*18446744073709551616+b < 2^128:=by rw [p128];omega
 have:=Round_l1 (nar:=nar) (t:=t) (rest:=decide (c≠0)) (M:=M) hn hV hi hs hlt (fun h=>hge ?_) (i - 2) 0 (decide (c≠0)) (by omega) (by rw [PW_zero,Nat.mod_one];simp)
 ·rw [hX',TH_of hb1,TL_of hb1] at this
  have hbe:((c:Int) != 0)=decide (c≠0):=by
   by_cases h:c=0
   ·subst h;rfl
   ·rw [decide_eq_true h];simpa using h
  rw [hbe]
  exact this
 ·rcases h with h | h
  ·exact ht (by omega)
  ·intro hz
   have hz2:=h00 hz
   rw [hz2,Nat.zero_mul,Nat.zero_mod] at hc
   rw [hc] at h
   cases h
theorem top_dgt {M j:Nat} (h:M < PW (j+1)):dgt M j=M / PW j:=by
 unfold dgt
 rw [Nat.mod_eq_of_lt]
 rw [PW_succ] at h
 exact (Nat.div_lt_iff_lt_mul (PW_pos j)).2 (by rw [Nat.mul_comm];exact h)
theorem div_next (M j:Nat):M / PW (j+1)=M / PW j / 18446744073709551616:=by rw [PW_succ,Nat.div_div_eq_div_mul]
theorem top_three {M j:Nat} (h:M < PW (j+3)):(dgt M (j+2)*18446744073709551616+dgt M (j+1))*18446744073709551616+dgt M j=M / PW j:=by
 rw [top_dgt h]
 unfold dgt
 rw [div_next M (j+1),div_next M j]
 generalize M / PW j=q
 omega
theorem top_two {M:Nat} (h:M < PW 2):dgt M 1*18446744073709551616+dgt M 0=M:=by
 rw [top_dgt h]
 unfold dgt
 rw [div_next M 0,PW_zero,Nat.div_one]
 omega
theorem top_one {M:Nat} (h:M < PW 1):dgt M 0=M:=by rw [top_dgt h,PW_zero,Nat.div_one]
theorem row_one {B M S H c:Nat} (h:M*B*S=H*B+c) (hc:c < B):H=M*S∧c=0:=by
 rw [Nat.mul_right_comm] at h
 have h1:(H*B+c) / B=M*S:=by rw [← h,Nat.mul_div_cancel _ (by omega)]
 have h2:(H*B+c)%B=0:=by rw [← h,Nat.mul_mod_left]
 rw [Nat.mul_comm H,Nat.mul_add_div (by omega),Nat.div_eq_of_lt hc,Nat.add_zero] at h1
 rw [Nat.mul_comm H,Nat.mul_add_mod,Nat.mod_eq_of_lt hc] at h2
 exact ⟨h1,h2⟩
theorem row_div {B T H c:Nat} (h:T=H*B+c) (hc:c < B):T / B=H∧T%B=c:=by
 rw [h,Nat.mul_comm H,Nat.mul_add_div (by omega),Nat.div_eq_of_lt hc,Nat.add_zero,Nat.mul_add_mod,Nat.mod_eq_of_lt hc]
 exact ⟨rfl,rfl⟩
theorem Round_x2 {n M j sh H c:Nat} {g:Bool} {t0 t1 t2:Nat} (hT:(t0*18446744073709551616+t1)*18446744073709551616+t2=M / PW j) (hs:sh < 64) (hbig:2^63≤t0*2^sh) (e':Int) (he:e'=64*(((j+2:Nat):Int) - 1) - sh+16 - 8*n) (hH:M / PW j*2^sh=H*18446744073709551616+c) (hc:c < 18446744073709551616):
  natX g H e' (decide (c≠0)||decide (M%PW j≠0))=natX g M (16 - 8*n) false:=by
 obtain ⟨hq,hr⟩:=row_div hH hc
 rw [← hq,← hr]
 have e1:M / PW j*2^sh / 18446744073709551616=M / 2^(64*j+(64 - sh)):=by
  rw [← p64,mul_pow_div _ (by omega),PW_two,div_div_pow]
 have e2:decide (M / PW j*2^sh%18446744073709551616≠0)=decide (M / PW j%2^(64 - sh)≠0):=by
  rw [← p64,show (2:Nat)^64=2^(64 - sh)*2^sh by rw [← Nat.pow_add];congr 1;omega,Nat.mul_mod_mul_right]
  have:=two_pos sh
  rw [Bool.eq_iff_iff]
  simp only [decide_eq_true_eq]
  exact ⟨fun h h'=>h (by rw [h',Nat.zero_mul]),fun h h'=>(Nat.mul_eq_zero.1 h').elim h (by omega)⟩
 have e3:decide (M%2^(64*j+(64 - sh))≠0)=(decide (M / PW j%2^(64 - sh)≠0)||decide (M%PW j≠0)):=by
  rw [Nat.pow_add,← PW_two,Nat.mod_mul,or_ne (PW_pos j),Bool.or_comm]
 have hge:2^127≤M / 2^(64*j+(64 - sh)):=by
  rw [← e1,← hT]
  refine (Nat.le_div_iff_mul_le (by decide)).2 ?_
  refine Nat.le_trans (m:=t0*2^sh*18446744073709551616*18446744073709551616) ?_ ?_
  ·refine Nat.mul_le_mul_right _ ?_
   refine Nat.le_trans (m:=2^63*18446744073709551616) (by rw [p127];decide) (Nat.mul_le_mul_right _ hbig)
  ·rw [Nat.add_mul,Nat.add_mul,Nat.add_mul,Nat.mul_right_comm t0 (2^sh),Nat.mul_right_comm (t0*_) (2^sh),Nat.add_assoc]
   exact Nat.le_add_right _ _
 have:=natX_trunc g (16 - 8*(n:Int)) false rfl hge
 rw [this,e1,e2,e3,Bool.false_or]
 congr 1
 rw [he]
 omega
theorem Round_j1 {n V i M:Nat} {nar:Bool} {t:Int} (hn:isW (n:Int)=true) (hV:V < PW (n / 4)) (hi:i < 16) (hM:M < PW (i+1)) (h0:1≤i→dgt M i≠0):
  Ev (fun k=>accum_Acc_Round.j1 k (n:Int) nar t (ws V) (i:Int) (ws M)) ((),(),(((natX (decide (HW (n / 4)≤V)) M (16 - 8*n) false).rnd n:Nat):Int)):=by
 refine evs ?_
 simp only [accum_Acc_Round.j1]
 have w0:wrap64 ((i:Int) - 0)=(i:Int):=by rw [w64 (by omega) (by omega)];omega
 simp only [w0,if_pos (show (i:Int)≥0 by omega),if_pos (show (0:Int)≤(i:Int) by omega),if_pos (show (i:Int) < 16 by omega),rd_dgt hi]
 by_cases h1:1≤i
 ·have hi1:i - 1 < 16:=by omega
  have w1:wrap64 ((i:Int) - 1)=((i - 1:Nat):Int):=by rw [w64 (by omega) (by omega)];omega
  simp only [w1,if_pos (show (i:Int)≥1 by omega),if_pos (show (0:Int)≤((i - 1:Nat):Int) by omega),if_pos (show ((i - 1:Nat):Int) < 16 by omega),rd_dgt hi1]
  by_cases h2:2≤i
  ·have hi2:i - 2 < 16:=by omega
   have w2:wrap64 ((i:Int) - 2)=((i - 2:Nat):Int):=by rw [w64 (by omega) (by omega)];omega
   simp only [w2,if_pos (show (i:Int)≥2 by omega),if_pos (show (0:Int)≤((i - 2:Nat):Int) by omega),if_pos (show ((i - 2:Nat):Int) < 16 by omega),rd_dgt hi2]
   obtain ⟨j,rfl⟩:∃ j,i=j+2:=⟨i - 2,by omega⟩
   refine Round_j2 hn hV hi (dgt_lt _ _) (dgt_lt _ _) (dgt_lt _ _) h0 (fun h=>absurd h (h0 (by omega))) (fun sh H c hs hbig hH hc=>?_)
   have hT:=top_three hM
   rw [show j+2 - 1=j+1 by omega,show j+2 - 2=j by omega] at *
   rw [hT] at hH
   exact Round_x2 hT hs (hbig (h0 (by omega))) _ rfl hH hc
  ·have:i=1:=by omega
   subst this
   simp only [if_neg (show ¬ (((1:Nat):Int)≥2) by omega)]
   refine Round_j2 (t2:=0) hn hV hi (dgt_lt _ _) (dgt_lt _ _) (by decide) h0 (fun _=>rfl) (fun sh H c hs hbig hH hc=>?_)
   have hT:=top_two hM
   rw [Nat.sub_self,hT,Nat.add_zero] at hH
   obtain ⟨rfl,rfl⟩:=row_one hH hc
   rw [natX_shift,show 1 - 2=0 by omega,PW_zero,Nat.mod_one]
   simp only [ne_eq,not_true_eq_false,decide_false,Bool.or_self]
   congr 1
   omega
 ·have:i=0:=by omega
  subst this
  simp only [if_neg (show ¬ (((0:Nat):Int)≥1) by omega),if_neg (show ¬ (((0:Nat):Int)≥2) by omega)]
  refine Round_j2 (t1:=0) (t2:=0) hn hV hi (dgt_lt _ _) (by decide) (by decide) h0 (fun _=>rfl) (fun sh H c hs hbig hH hc=>?_)
  have hT:=top_one hM
  rw [hT,Nat.add_zero,Nat.add_zero] at hH
  obtain ⟨rfl,rfl⟩:=row_one hH hc
  rw [Nat.mul_assoc,show (18446744073709551616:Nat)*2^sh=2^(64+sh) by rw [Nat.pow_add,p64],natX_shift,show 0 - 2=0 by omega,PW_zero,Nat.mod_one]
  simp only [ne_eq,not_true_eq_false,decide_false,Bool.or_self]
  congr 1
  omega
theorem Round_l0 {n V M:Nat} {nar:Bool} {t:Int} (hn:isW (n:Int)=true) (hV:V < PW (n / 4)):∀ (i:Nat),i < 16→M < PW (i+1) →
  Ev (fun k=>accum_Acc_Round.l0 k (n:Int) nar t (ws V) (i:Int) (ws M)) ((),(),(((natX (decide (HW (n / 4)≤V)) M (16 - 8*n) false).rnd n:Nat):Int)):=by
 intro i
 induction i with
 | zero =>
  intro hi hM
  refine evs ?_
  simp only [accum_Acc_Round.l0]
  simp only [if_neg (show ¬ (((0:Nat):Int) > 0) by omega)]
  exact Round_j1 hn hV hi hM (fun h=>absurd h (by decide))
 | succ i ih =>
  intro hi hM
  refine evs ?_
  simp only [accum_Acc_Round.l0]
  have w1:wrap64 (((i+1:Nat):Int) - 1)=(i:Int):=by rw [w64 (by omega) (by omega)];omega
  simp only [w1,if_pos (show ((i+1:Nat):Int) > 0 by omega),if_pos (show (0:Int)≤((i+1:Nat):Int) by omega),if_pos (show ((i+1:Nat):Int) < 16 by omega),rd_dgt hi]
  by_cases h:dgt M (i+1)=0
  ·simp only [h,Int.natCast_zero,if_true]
   refine ih (by omega) ?_
   rw [top_dgt hM] at h
   rcases (Nat.div_eq_zero_iff).1 h with h | h
   ·have:=PW_pos (i+1);omega
   ·exact h
  ·simp only [if_neg (show ¬ (((dgt M (i+1):Nat):Int)=0) by omega)]
   exact Round_j1 hn hV hi hM (fun _=>h)
theorem Round_eq {n V:Nat} {t:Int} (hn:isW (n:Int)=true) (hV:V < PW (n / 4)):
  Ev (fun k=>accum_Acc_Round.f k (n:Int) false t (ws V)) ((),(),(((natX (decide (HW (n / 4)≤V)) (if HW (n / 4)≤V then PW (n / 4) - V else V) (16 - 8*n) false).rnd n:Nat):Int)):=by
 unfold accum_Acc_Round.f
 obtain ⟨h1,h2⟩:=size_bounds hn
 have w1:wrap64 (((n / 4:Nat):Int) - 1)=((n / 4 - 1:Nat):Int):=by rw [w64 (by omega) (by omega)];omega
 simp only [Bool.false_eq_true,if_false,size_eq hn,Option.bind_some,w1]
 refine Ev.bind (magnitude_eq hn hV false t) ?_
 refine Round_l0 hn hV (n / 4 - 1) (by omega) ?_
 rw [show n / 4 - 1+1=n / 4 by omega]
 have:=PW_pos (n / 4)
 have:=HW_two (s:=n / 4) (by omega)
 split <;> omega
theorem Round_nar {n:Nat} {t:Int} {l:List Int} (hn:isW (n:Int)=true):Ev (fun k=>accum_Acc_Round.f k (n:Int) true t l) ((),(),((2^(n - 1):Nat):Int)):=by
 unfold accum_Acc_Round.f
 have hnb:=isW_cases hn
 have w1:wrap64 ((n:Int) - 1)=((n - 1:Nat):Int):=by rw [w64 (by omega) (by omega)];omega
 have hs:shl .u64 1 ((n - 1:Nat):Int)=((2^(n - 1):Nat):Int):=by
  have:=shl_nat 1 (n - 1) (by omega)
  rw [Nat.one_mul,Nat.mod_eq_of_lt (by rw [← p64];exact pow_lt (by omega))] at this
  exact this
 simp only [if_true,w1,if_pos (show (0:Int)≤((n - 1:Nat):Int) by omega),hs]
 exact Ev.now _
end Go.Proofs.YtbpcfhhcoklinaaGreat.V
namespace Go.Proofs.YtbpcfhhcoklinaaGreat.V
open Go Go.RowKit Go.Proofs.YtbpcfhhcoklinaaGreat.Ab Go.Proofs.YtbpcfhhcoklinaaGreat.Fn
def enc (s:Nat) (z:Int):Nat:=(z%(PW s:Int)).toNat
theorem PW_posI (s:Nat):(0:Int) < (PW s:Int):=by have:=PW_pos s;omega
theorem enc_int (s:Nat) (z:Int):(enc s z:Int)=z%(PW s:Int):=Int.toNat_of_nonneg (Int.emod_nonneg _ (Int.ne_of_gt (PW_posI s)))
theorem enc_lt (s:Nat) (z:Int):enc s z < PW s:=by
 have h:=Int.emod_lt_of_pos z (PW_posI s)
 rw [← enc_int] at h
 exact Int.ofNat_lt.1 h
theorem enc_zero (s:Nat):enc s 0=0:=by unfold enc;rw [Int.zero_emod];rfl
theorem enc_eq {s:Nat} {z:Int} {V:Nat} (hV:V < PW s) (h:∃ q:Int,z=V+PW s*q):enc s z=V:=by
 obtain ⟨q,rfl⟩:=h
 have:(enc s ((V:Int)+PW s*q):Int)=V:=by
  rw [enc_int,Int.add_mul_emod_self_left]
  exact Int.emod_eq_of_lt (Int.natCast_nonneg _) (Int.ofNat_lt.2 hV)
 exact Int.ofNat.inj this
theorem enc_mod (s:Nat) (z:Int):∃ q:Int,z=(enc s z:Int)+PW s*q:=⟨z / (PW s:Int),by rw [enc_int];exact (Int.emod_add_mul_ediv z _).symm⟩
theorem fin_enc (b:Bool) (s:Nat) (z:Int) (X:Nat):finW b s (enc s z) X=enc s (if b then z - X else z+X):=by
 have hp:=PW_pos s
 obtain ⟨q,hq⟩:=enc_mod s z
 cases b
 ·rw [if_neg (by decide)]
  unfold finW
  rw [if_neg (by decide)]
  refine (enc_eq (Nat.mod_lt _ hp) ?_).symm
  have hd:=Nat.div_add_mod (enc s z+X) (PW s)
  refine ⟨q+((enc s z+X) / PW s:Nat), ?_⟩
  have hd':((enc s z:Nat):Int)+(X:Int)=(PW s:Int)*((enc s z+X) / PW s:Nat)+((enc s z+X)%PW s:Nat):=by exact_mod_cast hd.symm
  rw [Int.mul_add]
  generalize (PW s:Int)*q=A at *
  generalize (PW s:Int)*((enc s z+X) / PW s:Nat)=B at *
  generalize ((enc s z+X)%PW s:Nat)=C at *
  omega
 ·rw [if_pos rfl]
  unfold finW
  rw [if_pos rfl]
  refine (enc_eq (Nat.mod_lt _ hp) ?_).symm
  have hX:=Nat.mod_lt X hp
  have hd:=Nat.div_add_mod (enc s z+PW s - X%PW s) (PW s)
  have hx:=Nat.div_add_mod X (PW s)
  refine ⟨q+((enc s z+PW s - X%PW s) / PW s:Nat) - 1 - (X / PW s:Nat), ?_⟩
  have hd':(PW s:Int)*((enc s z+PW s - X%PW s) / PW s:Nat)+((enc s z+PW s - X%PW s)%PW s:Nat)=((enc s z+PW s - X%PW s:Nat):Int):=by exact_mod_cast hd
  have hx':(PW s:Int)*(X / PW s:Nat)+(X%PW s:Nat)=(X:Int):=by exact_mod_cast hx
  have hs:((enc s z+PW s - X%PW s:Nat):Int)=(enc s z:Int)+PW s - (X%PW s:Nat):=by
   generalize X%PW s=R at *
   omega
  rw [hs] at hd'
  simp only [Int.mul_add,Int.mul_sub,Int.mul_one]
  generalize (PW s:Int)*q=A at *
  generalize (PW s:Int)*((enc s z+PW s - X%PW s) / PW s:Nat)=B at *
  generalize ((enc s z+PW s - X%PW s)%PW s:Nat)=C at *
  generalize (PW s:Int)*(X / PW s:Nat)=D at *
  generalize X%PW s=R at *
  omega
theorem enc_sign {s:Nat} {z:Int} (hs:0 < s) (h0:-(HW s:Int)≤z) (h1:z < (HW s:Int)):decide (HW s≤enc s z)=decide (z < 0)∧(if HW s≤enc s z then PW s - enc s z else enc s z)=z.natAbs:=by
 have h2:=HW_two hs
 by_cases hz:z < 0
 ·have he:enc s z=PW s - z.natAbs:=enc_eq (by omega) ⟨-1,by omega⟩
  rw [he,decide_eq_true hz,if_pos (by omega)]
  exact ⟨decide_eq_true (by omega),by omega⟩
 ·have he:enc s z=z.natAbs:=enc_eq (by omega) ⟨0,by omega⟩
  rw [he,decide_eq_false hz,if_neg (by omega)]
  exact ⟨decide_eq_false (by omega),rfl⟩
theorem Round_z {n:Nat} {t:Int} {z:Int} (hn:isW (n:Int)=true) (h0:-(HW (n / 4):Int)≤z) (h1:z < (HW (n / 4):Int)):
  Ev (fun k=>accum_Acc_Round.f k (n:Int) false t (ws (enc (n / 4) z))) ((),(),(((intX z (16 - 8*n)).rnd n:Nat):Int)):=by
 have h:=Round_eq (t:=t) hn (enc_lt (n / 4) z)
 obtain ⟨h2,h3⟩:=enc_sign (s:=n / 4) (by have:=size_bounds hn;omega) h0 h1
 rw [h2,h3] at h
 exact h
theorem ws_inj_zero {V:Nat} (h:V < PW 16) (hw:ws V=ws 0):V=0:=by
 have hd:∀ i,i < 16→dgt V i=0:=fun i hi=>by
  have h1:=rd_dgt (V:=V) hi
  rw [hw,rd_dgt hi] at h1
  have h2:dgt 0 i=0:=dgt_zero (PW_pos i)
  rw [h2] at h1
  exact (Int.ofNat.inj h1).symm
 have:∀ i,i≤16→V%PW i=0:=by
  intro i
  induction i with
  | zero=>intro _;rw [PW_zero,Nat.mod_one]
  | succ i ih =>
   intro hi
   have h3:=hd i (by omega)
   unfold dgt at h3
   rw [PW_succ,Nat.mod_mul,ih (by omega),h3]
   rfl
 have h16:=this 16 (Nat.le_refl _)
 rwa [Nat.mod_eq_of_lt h] at h16
def prM (n:Nat) (a b:NM):Nat:=if 0≤a.sc+b.sc - 126+8*n - 16 then a.fr*b.fr*2^(a.sc+b.sc - 126+8*n - 16).toNat else a.fr*b.fr / 2^(-(a.sc+b.sc - 126+8*n - 16)).toNat
def prI (n:Nat) (a b:NM):Int:=if a.kd=1∧b.kd=1 then (if a.ng != b.ng then -(prM n a b:Int) else (prM n a b:Int)) else 0
def depS (n:Nat) (nar:Bool) (z:Int) (p q:NM) (take:Bool):Bool×Int:=if nar=true∨p.kd=2∨q.kd=2 then (true,0) else (false,if take then z - prI n p q else z+prI n p q)
theorem half_words (m:Nat):TH m / 2=TH (m / 2)∧Go.bits .or .u64 (TL m / 2) (IntKind.u64.wrap (TH m*9223372036854775808))=TL (m / 2):=by
 have h1:TH m / 2=TH (m / 2):=by unfold TH;omega
 refine ⟨h1, ?_⟩
 have h2:IntKind.u64.wrap (TH m*9223372036854775808)=((m / 18446744073709551616%2*9223372036854775808:Nat):Int):=by
  unfold TH;rw [u64_wrap];omega
 have h3:TL m / 2=((m%18446744073709551616 / 2:Nat):Int):=by unfold TL;omega
 rw [h2,h3,or_nat _ _ (by omega) (by omega),Nat.or_comm,← or_nat _ _ (by omega) (by omega),or_add _ _ 63 (by omega) (by rw [p63];omega) (by rw [p63];omega) (by omega)]
 unfold TL
 omega
theorem dep_l0 {n:Nat} {t:Int} {take ng ng':Bool} {z:Int} (hn:isW (n:Int)=true):∀ (d m:Nat) (u:Int),m < 2^128→u < 4294967296→-4294967296 < u→(-u).toNat=d →
  Ev (fun k=>accum_Acc_deposit.l0 k (n:Int) false t (ws (enc (n / 4) z)) take (TH m) (TL m) u ng ng') (((n:Int),false,t,ws (enc (n / 4) (if ((ng != ng') != take) then z - ((if 0≤u then m*2^u.toNat else m / 2^d:Nat):Int) else z+((if 0≤u then m*2^u.toNat else m / 2^d:Nat):Int)))),(),none):=by
 intro d
 induction d with
 | zero =>
  intro m u hm hu hu2 hd
  refine evs ?_
  simp only [accum_Acc_deposit.l0]
  simp only [if_neg (show ¬ (u < 0) by omega),if_pos (show 0≤u by omega)]
  obtain ⟨up,rfl⟩:∃ up:Nat,u=up:=⟨u.toNat,by omega⟩
  have hb:(!((!(ng==ng'))==take))=((ng != ng') != take):=by cases ng <;> cases ng' <;> cases take <;> rfl
  have he:=enter_eq (n:=n) (nar:=false) (t:=t) (V:=enc (n / 4) z) (hi:=m / 18446744073709551616) (lo:=m%18446744073709551616) (up:=up) (b:=((ng != ng') != take)) hn (enc_lt _ _) (by rw [p128] at hm;omega) (Nat.mod_lt _ (by decide)) (by omega)
  rw [fin_enc,show m / 18446744073709551616*18446744073709551616+m%18446744073709551616=m by omega] at he
  rw [hb]
  refine Ev.bind (f:=fun _ (z:(Int×Bool×Int×List Int)×Unit×Unit)=>some ((z.1.1,z.1.2.1,z.1.2.2.1,z.1.2.2.2),(),none)) he ?_
  simp only [Int.toNat_natCast]
  exact Ev.now _
 | succ d ih =>
  intro m u hm hu hu2 hd
  refine evs ?_
  simp only [accum_Acc_deposit.l0]
  obtain ⟨h1,h2⟩:=half_words m
  have hw:wrap64 (u+1)=u+1:=w64 (by omega) (by omega)
  ·simp only [if_pos (show u < 0 by omega),if_neg (show ¬ (0≤u) by omega),h1,h2,hw]
   have:=ih (m / 2) (u+1) (by omega) (by omega) (by omega) (by omega)
   have e:(if 0≤u+1 then m / 2*2^(u+1).toNat else m / 2 / 2^d)=m / 2^(d+1):=by
    have h3:m / 2 / 2^d=m / 2^(d+1):=by rw [Nat.div_div_eq_div_mul,Nat.pow_succ,Nat.mul_comm]
    by_cases hu0:0≤u+1
    ·rw [if_pos hu0,show (u+1).toNat=0 by omega,← h3,show d=0 by omega,Nat.pow_zero,Nat.mul_one,Nat.div_one]
    ·rw [if_neg hu0,h3]
   rw [e] at this
   exact this
theorem deposit_eq {n a b:Nat} {t:Int} {z:Int} {nar take:Bool} (hn:isW (n:Int)=true) (ht0:0≤t) (ht:t < 2147483647) (ha:a < 18446744073709551616) (hb:b < 18446744073709551616) (hz:nar=true→z=0):
  Ev (fun k=>accum_Acc_deposit.f k (n:Int) nar t (ws (enc (n / 4) z)) (a:Int) (b:Int) take) (((n:Int),(depS n nar z (decN n (a%2^n)) (decN n (b%2^n)) take).1,t+1,ws (enc (n / 4) (depS n nar z (decN n (a%2^n)) (decN n (b%2^n)) take).2)),(),none):=by
 unfold accum_Acc_deposit.f
 have hnb:=isW_cases hn
 have h8:8≤n:=by omega
 have h64:n≤64:=by omega
 have hp:=decN_ok h8 h64 (Nat.mod_lt a (two_pos n))
 have hq:=decN_ok h8 h64 (Nat.mod_lt b (two_pos n))
 have hwt:wrap64 (t+1)=t+1:=w64 (by omega) (by omega)
 simp only [if_neg (show ¬ (t=2147483647) by omega),hwt]
 refine Ev.bind (Decode_N hn ha) ?_
 simp only [Option.isNone_none,if_true]
 refine Ev.bind (Decode_N hn hb) ?_
 simp only [Option.isNone_none,if_true]
 generalize decN n (a%2^n)=p at *
 generalize decN n (b%2^n)=q at *
 have jt:∀ (nar':Bool) (x3:Bool) (x5:Int) (x6:Bool) (x7 x8 x9:Int) (x10:Bool) (x11 x12:Int),(nar=true∨p.kd=2∨q.kd=2)→Ev (fun k=>accum_Acc_deposit.j0 k (n:Int) nar' (t+1) (ws (enc (n / 4) z)) x3 true x5 x6 x7 x8 x9 x10 x11 x12) (((n:Int),(depS n nar z p q take).1,t+1,ws (enc (n / 4) (depS n nar z p q take).2)),(),none):=by
  intro nar' x3 x5 x6 x7 x8 x9 x10 x11 x12 hc
  refine evs ?_
  simp only [accum_Acc_deposit.j0,if_true]
  unfold depS
  rw [if_pos hc]
  simp only [enc_zero,ws_zero]
  exact Ev.now _
 cases nar
 ·simp only [Bool.false_eq_true,if_false]
  by_cases h1:p.kd=2
  ·simp only [if_pos h1]
   exact jt _ _ _ _ _ _ _ _ _ _ (.inr (.inl h1))
  ·simp only [if_neg h1]
   by_cases h2:q.kd=2
   ·simp only [h2,beq_self_eq_true]
    exact jt _ _ _ _ _ _ _ _ _ _ (.inr (.inr h2))
   ·have hb2:(q.kd==2)=false:=by simpa using h2
    simp only [hb2]
    have hd:depS n false z p q take=(false,if take then z - prI n p q else z+prI n p q):=by
     unfold depS;rw [if_neg (by simp [h1,h2])]
    rw [hd]
    refine evs ?_
    simp only [accum_Acc_deposit.j0,Bool.false_eq_true,if_false]
    have none1:∀ (x74:Bool),x74=decide (p.kd=1∧q.kd=1)→Ev (fun k=>accum_Acc_deposit.j1 k (n:Int) false (t+1) (ws (enc (n / 4) z)) take x74 p.ng p.sc (p.fr:Int) q.ng q.sc (q.fr:Int)) (((n:Int),false,t+1,ws (enc (n / 4) (if take then z - prI n p q else z+prI n p q))),(),none):=by
     intro x74 hx
     refine evs ?_
     simp only [accum_Acc_deposit.j1]
     by_cases h11:p.kd=1∧q.kd=1
     ·rw [decide_eq_true h11] at hx
      subst hx
      simp only [if_true]
      rcases NM.cases hp with rfl | rfl | ⟨-,p1,p2,p3,p4⟩
      ·exact absurd h11.1 (by decide)
      ·exact absurd rfl h1
      rcases NM.cases hq with rfl | rfl | ⟨-,q1,q2,q3,q4⟩
      ·exact absurd h11.2 (by decide)
      ·exact absurd rfl h2
      rw [p64] at p2 q2
      simp only [bits_Mul64_eq p2 q2,Option.bind_some]
      have hw:wrap64 ((wrap64 ((wrap64 ((wrap64 (p.sc+q.sc)) - 126))+(wrap64 (8*(n:Int))))) - 16)=p.sc+q.sc - 126+8*n - 16:=by
       rw [w64 (n:=p.sc+q.sc) (by omega) (by omega),w64 (n:=p.sc+q.sc - 126) (by omega) (by omega),w64 (n:=8*(n:Int)) (by omega) (by omega),w64 (n:=p.sc+q.sc - 126+8*n) (by omega) (by omega),w64 (by omega) (by omega)]
      simp only [hw]
      have:=dep_l0 (t:=t+1) (take:=take) (ng:=p.ng) (ng':=q.ng) (z:=z) hn _ (p.fr*q.fr) (p.sc+q.sc - 126+8*n - 16) (mul_lt128 p2 q2) (by omega) (by omega) rfl
      have hres:(if ((p.ng != q.ng) != take) then z - ((prM n p q:Nat):Int) else z+((prM n p q:Nat):Int))=(if take then z - prI n p q else z+prI n p q):=by
       unfold prI
       rw [if_pos h11]
       cases take <;> cases (p.ng != q.ng) <;> simp <;> omega
      rw [← hres]
      exact this
     ·rw [decide_eq_false h11] at hx
      subst hx
      simp only [Bool.false_eq_true,if_false]
      have hr:(if take then z - prI n p q else z+prI n p q)=z:=by
       unfold prI
       rw [if_neg h11]
       cases take <;> simp
      rw [hr]
      exact Ev.now _
    by_cases hp1:p.kd=1
    ·simp only [if_pos hp1]
     refine none1 _ ?_
     rw [beq_dec]
     simp [hp1]
    ·simp only [if_neg hp1]
     refine none1 _ ?_
     simp [hp1]
 ·simp only [if_true]
  exact jt _ _ _ _ _ _ _ _ _ _ (.inl rfl)
theorem New_eq {n:Nat} (hn:isW (n:Int)=true):Ev (fun k=>accum_New.f k (n:Int)) ((),(true,((n:Int),false,0,ws 0)),none):=by
 unfold accum_New.f
 have h:=Decode_N (p:=0) hn (by decide)
 refine Ev.bind h ?_
 simp only [Option.isNone_none,if_true,ws_zero]
 exact Ev.now _
theorem New_no {n:Int} (hn:isW n=false):Ev (fun k=>accum_New.f k n) ((),(false,(0,false,0,([]:List Int))),some 2):=by
 unfold accum_New.f
 refine Ev.bind (Decode_no hn 0) ?_
 simp only [Option.isNone_some,Bool.false_eq_true,if_false,Option.getD_some]
 exact Ev.now _
theorem State_eq {n V:Nat} {nar:Bool} {t:Int} (hn:isW (n:Int)=true):accum_Acc_State.f (n:Int) nar t (ws V)=some ((),(),((n:Int),nar,t,(ws V).take (n / 4))):=by
 unfold accum_Acc_State.f
 obtain ⟨h1,h2⟩:=size_bounds hn
 rw [size_eq hn]
 simp only [Option.bind_some,Int.toNat_natCast]
 rw [if_pos (by omega),if_pos (by omega),if_pos (by rw [List.length_take,ws_len];omega)]
theorem state_len {n V:Nat} (hn:isW (n:Int)=true):((ws V).take (n / 4)).length=n / 4:=by
 obtain ⟨h1,h2⟩:=size_bounds hn
 rw [List.length_take,ws_len];omega
theorem Put_of {n a b:Int} {t:Int} {l:List Int} {nar:Bool} {n' t':Int} {l':List Int} {nar':Bool} {e:Option Int} (h:Ev (fun k=>accum_Acc_deposit.f k n nar t l a b false) ((n',nar',t',l'),(),e)):Ev (fun k=>accum_Acc_Put.f k n nar t l a b) ((n',nar',t',l'),(),e):=by
 unfold accum_Acc_Put.f
 exact Ev.bind (f:=fun _ (z:(Int×Bool×Int×List Int)×Unit×Option Int)=>some ((z.1.1,z.1.2.1,z.1.2.2.1,z.1.2.2.2),(),z.2.2)) h (Ev.now _)
theorem HW_pos (s:Nat):0 < HW s:=by rw [HW_def];exact Nat.mul_pos (PW_pos _) (by decide)
end Go.Proofs.YtbpcfhhcoklinaaGreat.V
namespace Go.Proofs.YtbpcfhhcoklinaaGreat.V
open Go Go.RowKit Go.Proofs.YtbpcfhhcoklinaaGreat.Ab Go.Proofs.YtbpcfhhcoklinaaGreat.Fn
theorem Same_l0 {l:List Int} (hl:l.length≤1000):∀ (d i:Nat),i+d=l.length→Ev (fun k=>vr15_Same.l0 k (i:Int) l l) true:=by
 intro d
 induction d with
 | zero =>
  intro i hi
  refine evs ?_
  simp only [vr15_Same.l0,nI_eq]
  simp only [if_neg (show ¬ ((i:Int) < (l.length:Int)) by omega)]
  exact Ev.now _
 | succ d ih =>
  intro i hi
  refine evs ?_
  simp only [vr15_Same.l0,nI_eq]
  have hw:wrap64 ((i:Int)+1)=((i+1:Nat):Int):=by rw [w64 (by omega) (by omega)];omega
  simp only [if_pos (show (i:Int) < (l.length:Int) by omega),if_pos (show (0:Int)≤(i:Int) by omega),if_true,hw]
  exact ih (i+1) (by omega)
theorem Same_refl {n:Int} {nar:Bool} {t:Int} {l:List Int} (hl:l.length≤1000):Ev (fun k=>vr15_Same.f k n nar t l n nar t l) true:=by
 unfold vr15_Same.f
 simp only [if_true,beq_self_eq_true,bne_self_eq_false]
 refine evs ?_
 simp only [vr15_Same.j0,Bool.false_eq_true,if_false]
 exact Same_l0 hl l.length 0 (by omega)
theorem depS_nar {n:Nat} {nar take:Bool} {z:Int} {p q:NM} (h:(depS n nar z p q take).1=true):(depS n nar z p q take).2=0:=by
 unfold depS at h ⊢
 split at h
 ·rename_i hc;rw [if_pos hc]
 ·cases h
end Go.Proofs.YtbpcfhhcoklinaaGreat.V
namespace Go.Proofs.YtbpcfhhcoklinaaGreat.V
open Go Go.RowKit Go.Proofs.YtbpcfhhcoklinaaGreat.Ab Go.Proofs.YtbpcfhhcoklinaaGreat.Fn
abbrev Tm:=Int×Int×Bool
def tmNar (n:Nat) (x:Tm):Bool:=decide ((decN n (x.1.toNat%2^n)).kd=2∨(decN n (x.2.1.toNat%2^n)).kd=2)
def tmVal (n:Nat) (x:Tm):Int:=if x.2.2 then -(prI n (decN n (x.1.toNat%2^n)) (decN n (x.2.1.toNat%2^n))) else prI n (decN n (x.1.toNat%2^n)) (decN n (x.2.1.toNat%2^n))
def narL (n:Nat):List Tm→Bool
 | []=>false
 | x :: l=>tmNar n x||narL n l
def sumL (n:Nat):List Tm→Int
 | []=>0
 | x :: l=>tmVal n x+sumL n l
def finN (n:Nat) (nar:Bool) (L:List Tm):Bool:=nar||narL n L
def finZ (n:Nat) (nar:Bool) (z:Int) (L:List Tm):Int:=if finN n nar L then 0 else z+sumL n L
theorem dep_one {n:Nat} {nar take:Bool} {z:Int} {p q:NM}:(depS n nar z p q take).1=(nar||decide (p.kd=2∨q.kd=2)):=by
 unfold depS
 by_cases h:nar=true∨p.kd=2∨q.kd=2
 ·rw [if_pos h]
  rcases h with h | h
  ·rw [h];rfl
  ·rw [decide_eq_true h,Bool.or_true]
 ·rw [if_neg h]
  have h1:nar=false:=by
   cases nar
   ·rfl
   ·exact absurd (.inl rfl) h
  rw [h1,decide_eq_false (fun h2=>h (.inr h2))];rfl
theorem dep_two {n:Nat} {nar take:Bool} {z:Int} {p q:NM} (hd:(depS n nar z p q take).1=false):(depS n nar z p q take).2=z+(if take=true then -(prI n p q) else prI n p q):=by
 unfold depS at hd ⊢
 split at hd
 ·cases hd
 ·rename_i h
  rw [if_neg h]
  cases take
  ·simp
  ·simp only [if_true];omega
theorem dep_fin {n:Nat} {nar take:Bool} {z:Int} {a b:Nat} {L:List Tm}:finN n (depS n nar z (decN n (a%2^n)) (decN n (b%2^n)) take).1 L=finN n nar (((a:Int),((b:Int),take)) :: L) ∧
  finZ n (depS n nar z (decN n (a%2^n)) (decN n (b%2^n)) take).1 (depS n nar z (decN n (a%2^n)) (decN n (b%2^n)) take).2 L=finZ n nar z (((a:Int),((b:Int),take)) :: L):=by
 have hN:(depS n nar z (decN n (a%2^n)) (decN n (b%2^n)) take).1=(nar||tmNar n ((a:Int),((b:Int),take))):=by
  unfold tmNar
  simp only [Int.toNat_natCast]
  exact dep_one
 have h1:finN n (depS n nar z (decN n (a%2^n)) (decN n (b%2^n)) take).1 L=finN n nar (((a:Int),((b:Int),take)) :: L):=by
  unfold finN
  rw [hN]
  simp only [narL,Bool.or_assoc]
 refine ⟨h1, ?_⟩
 unfold finZ
 rw [h1]
 by_cases hf:finN n nar (((a:Int),((b:Int),take)) :: L)=true
 ·rw [if_pos hf,if_pos hf]
 ·rw [if_neg hf,if_neg hf]
  have hd:(depS n nar z (decN n (a%2^n)) (decN n (b%2^n)) take).1=false:=by
   rw [← h1] at hf
   unfold finN at hf
   cases h:(depS n nar z (decN n (a%2^n)) (decN n (b%2^n)) take).1
   ·rfl
   ·rw [h] at hf;exact absurd rfl hf
  have hz:(depS n nar z (decN n (a%2^n)) (decN n (b%2^n)) take).2=z+tmVal n ((a:Int),((b:Int),take)):=by
   unfold tmVal
   simp only [Int.toNat_natCast]
   exact dep_two hd
  rw [hz]
  simp only [sumL]
  omega
end Go.Proofs.YtbpcfhhcoklinaaGreat.V
namespace Go.Proofs.YtbpcfhhcoklinaaGreat.V
open Go Go.RowKit Go.Proofs.YtbpcfhhcoklinaaGreat.Ab Go.Proofs.YtbpcfhhcoklinaaGreat.Fn
theorem fr_lat {m w:Nat} (h7:7≤m) (hm:m≤64) (hw0:0 < w) (hw:w < 2^m):∃ M:Nat,decFr m w*2^(decS m w+4*(m:Int) - 4).toNat=M*2^63∧M≤2^(8*m - 8)∧0≤decS m w+4*(m:Int) - 4:=by
 obtain ⟨-,s1,s2,r1,r2⟩:=dec_sig h7 hm hw0 hw
 have hex:=decEx_lt (m:=m) (w:=w)
 have hs:decS m w=4*decK m w+(decEx m w:Int):=rfl
 have hk:decK m w=(runL m w:Int) - 1∨decK m w = -(runL m w:Int):=by unfold decK;split;exact .inl rfl;exact .inr rfl
 have hd:dL1 m w=m - runL m w - 1:=rfl
 have hlf:dLf m w≤dL1 m w:=by unfold dLf;omega
 have hlf2:dLf m w≤63:=dLf_le hm
 have hK:((dLf m w:Nat):Int)≤decS m w+4*(m:Int) - 4:=by omega
 have htop:decS m w+4*(m:Int) - 4=((8*m - 8:Nat):Int)→dLf m w=0:=by omega
 have hKle:decS m w+4*(m:Int) - 4≤((8*m - 8:Nat):Int):=by omega
 have hf:=Nat.mod_lt w (two_pos (dLf m w))
 unfold decFr
 generalize decS m w+4*(m:Int) - 4=K at *
 generalize w%2^dLf m w=f at *
 generalize dLf m w=lf at *
 obtain ⟨K,rfl⟩:∃ k:Nat,K=k:=⟨K.toNat,by omega⟩
 rw [Int.toNat_natCast]
 have hKl:lf≤K:=by omega
 refine ⟨(2^lf+f)*2^(K - lf), ?_, ?_,by omega⟩
 ·have e1:(2:Nat)^63=2^lf*2^(63 - lf):=(pow_split hlf2).symm
  have e2:(2:Nat)^K=2^lf*2^(K - lf):=(pow_split hKl).symm
  rw [e1,e2]
  generalize 2^lf=A
  generalize 2^(63 - lf)=B
  generalize 2^(K - lf)=C
  grind
 ·by_cases ht:(K:Int)=((8*m - 8:Nat):Int)
  ·have h0:=htop ht
   subst h0
   have:f=0:=by simpa using hf
   subst this
   have:K=8*m - 8:=by omega
   subst this
   simp
  ·have h1:(2^lf+f)*2^(K - lf)≤2^(lf+1)*2^(K - lf):=Nat.mul_le_mul_right _ (by rw [Nat.pow_succ];omega)
   refine Nat.le_trans h1 ?_
   rw [← Nat.pow_add]
   exact pow_le (by omega)
theorem dec_lat {n x:Nat} (h8:8≤n) (hn:n≤64) (hx:x < 2^n) (hk:(decN n x).kd=1):∃ M k:Nat,(decN n x).fr*2^k=M*2^63∧M≤2^(8*n - 16)∧(k:Int)=(decN n x).sc+4*(n:Int) - 8:=by
 unfold decN at hk ⊢
 by_cases h0:x=0
 ·rw [if_pos h0] at hk;exact absurd hk (by decide)
 ·rw [if_neg h0] at hk ⊢
  by_cases h1:x=2^(n - 1)
  ·rw [if_pos h1] at hk;exact absurd hk (by decide)
  ·rw [if_neg h1]
   obtain ⟨b1,b2⟩:=magN_bounds (by omega) hx h0 h1
   obtain ⟨M,m1,m2,m3⟩:=fr_lat (m:=n - 1) (by omega) (by omega) b1 b2
   refine ⟨M,_,m1, ?_, ?_⟩
   ·rw [show 8*n - 16=8*(n - 1) - 8 by omega];exact m2
   ·show (((decS (n - 1) (magN n x)+4*((n - 1:Nat):Int) - 4).toNat:Nat):Int)=decS (n - 1) (magN n x)+4*(n:Int) - 8
    omega
theorem prM_lat {n:Nat} {a b:NM} {Ma Mb ka kb:Nat} (h8:8≤n) (ha:a.fr*2^ka=Ma*2^63) (hb:b.fr*2^kb=Mb*2^63) (ea:(ka:Int)=a.sc+4*(n:Int) - 8) (eb:(kb:Int)=b.sc+4*(n:Int) - 8):
  prM n a b=Ma*Mb∧(16 - 8*(n:Int)≤a.sc+b.sc - 126→prM n a b=a.fr*b.fr*2^(a.sc+b.sc - 126 - (16 - 8*(n:Int))).toNat)∧(a.sc+b.sc - 126 < 16 - 8*(n:Int)→a.fr*b.fr=prM n a b*2^(16 - 8*(n:Int) - (a.sc+b.sc - 126)).toNat):=by
 have hprod:a.fr*b.fr*2^(ka+kb)=Ma*Mb*2^126:=by
  rw [Nat.pow_add,show (126:Nat)=63+63 by rfl,Nat.pow_add]
  calc a.fr * b.fr * (2 ^ ka * 2 ^ kb) = (a.fr * 2 ^ ka) * (b.fr * 2 ^ kb) := by grind
   _=(Ma*2^63)*(Mb*2^63):=by rw [ha,hb]
   _=Ma*Mb*(2^63*2^63):=by grind
 have hs:a.sc+b.sc - 126+8*(n:Int) - 16=(ka:Int)+kb - 126:=by omega
 have hs2:a.sc+b.sc - 126 - (16 - 8*(n:Int))=(ka:Int)+kb - 126:=by omega
 have hs3:16 - 8*(n:Int) - (a.sc+b.sc - 126) = -((ka:Int)+kb - 126):=by omega
 unfold prM
 rw [hs,hs2,hs3]
 generalize a.fr*b.fr=F at *
 by_cases h:126≤ka+kb
 ·obtain ⟨t,ht⟩:∃ t,ka+kb=t+126:=⟨ka+kb - 126,by omega⟩
  rw [if_pos (by omega),show ((ka:Int)+kb - 126).toNat=t by omega]
  have h1:F*2^t=Ma*Mb:=by
   rw [ht,Nat.pow_add,← Nat.mul_assoc] at hprod
   exact Nat.eq_of_mul_eq_mul_right (two_pos 126) hprod
  exact ⟨h1,fun _=>rfl,fun h2=>by omega⟩
 ·obtain ⟨t,ht⟩:∃ t,ka+kb+t=126:=⟨126 - (ka+kb),by omega⟩
  rw [if_neg (by omega),show (-((ka:Int)+kb - 126)).toNat=t by omega]
  have h1:F=Ma*Mb*2^t:=by
   have e:(2:Nat)^126=2^t*2^(ka+kb):=by rw [← Nat.pow_add];exact pow_congr (by omega)
   rw [e,← Nat.mul_assoc] at hprod
   exact Nat.eq_of_mul_eq_mul_right (two_pos (ka+kb)) hprod
  have h2:F / 2^t=Ma*Mb:=by rw [h1];exact Nat.mul_div_cancel _ (two_pos t)
  rw [h2]
  exact ⟨rfl,fun h3=>by omega,fun _=>h1⟩
def EX.exa (x:EX) (z u:Int):Prop:=x.kd=1∧∀ e,e≤x.sc→(e - 127≤u→x.val e=z*2^(u - (e - 127)).toNat)∧(u≤e - 127→z=x.val e*2^(e - 127 - u).toNat)
theorem natX_exa {g:Bool} {M N:Nat} {e0 u:Int} (hM:0 < M) (hb:bl M≤128) (b0:-1099511627776≤e0+(bl M:Int) - 1) (b1:e0+(bl M:Int) - 1≤1099511627776) (h1:u≤e0→N=M*2^(e0 - u).toNat) (h2:e0 < u→M=N*2^(u - e0).toNat):
  (natX g M e0 false).exa (if g then -(N:Int) else (N:Int)) u∧natX g M e0 false=intX (if g then -(N:Int) else (N:Int)) u:=by
 constructor
 ·unfold natX
  rw [if_neg (by omega)]
  refine ⟨rfl,fun e he=>?_⟩
  have hsc:heldI (e0+(bl M:Int) - 1)=e0+(bl M:Int) - 1:=by unfold heldI;rw [if_neg (by omega),if_neg (by omega)]
  simp only [hsc] at he
  have hv:(⟨1,g,heldI (e0+(bl M:Int) - 1),mkV M,mkR M false⟩:EX).val e=if g then -((M*2^(e0+127 - e).toNat:Nat):Int) else ((M*2^(e0+127 - e).toNat:Nat):Int):=by
   unfold EX.val mkV
   simp only [hsc,if_pos hb]
   rw [Nat.mul_assoc,← Nat.pow_add,show 128 - bl M+(e0+(bl M:Int) - 1 - e).toNat=(e0+127 - e).toNat by omega]
  rw [hv]
  have hM2:e - 127≤u→M*2^(e0+127 - e).toNat=N*2^(u - (e - 127)).toNat:=by
   intro hu
   by_cases h:u≤e0
   ·rw [h1 h,Nat.mul_assoc,← Nat.pow_add]
    congr 2
    omega
   ·rw [h2 (by omega),Nat.mul_assoc,← Nat.pow_add]
    congr 2
    omega
  have hM3:u≤e - 127→N=M*2^(e0+127 - e).toNat*2^(e - 127 - u).toNat:=by
   intro hu
   rw [h1 (by omega),Nat.mul_assoc,← Nat.pow_add]
   congr 2
   omega
  refine ⟨fun hu=>?_,fun hu=>?_⟩
  ·rw [hM2 hu]
   cases g
   ·simp only [Bool.false_eq_true,if_false]
    rw [pow_cast,← Int.natCast_mul]
   ·simp only [if_true]
    rw [pow_cast,Int.neg_mul,← Int.natCast_mul]
  ·rw [hM3 hu]
   cases g
   ·simp only [Bool.false_eq_true,if_false]
    rw [pow_cast,← Int.natCast_mul]
   ·simp only [if_true]
    rw [pow_cast,Int.neg_mul,← Int.natCast_mul]
 ·rw [intX_nat]
  by_cases h:u≤e0
  ·rw [h1 h,natX_shift]
   congr 1
   omega
  ·rw [h2 (by omega),natX_shift]
   congr 1
   omega
theorem pr_real {n:Nat} {a b:NM} (h8:8≤n) (hn:n≤64) (ha:a.ok) (hb:b.ok) (ka:a.kd=1) (kb:b.kd=1) (la:∃ M k:Nat,a.fr*2^k=M*2^63∧M≤2^(8*n - 16)∧(k:Int)=a.sc+4*(n:Int) - 8) (lb:∃ M k:Nat,b.fr*2^k=M*2^63∧M≤2^(8*n - 16)∧(k:Int)=b.sc+4*(n:Int) - 8):
  (prodX a b).exa (prI n a b) (16 - 8*(n:Int))∧prodX a b=intX (prI n a b) (16 - 8*(n:Int))∧prM n a b≤2^(16*n - 32):=by
 obtain ⟨Ma,k1,a1,a2,a3⟩:=la
 obtain ⟨Mb,k2,b1,b2,b3⟩:=lb
 obtain ⟨e1,e2,e3⟩:=prM_lat h8 a1 b1 a3 b3
 rcases NM.cases ha with rfl | rfl | ⟨-,p1,p2,p3,p4⟩
 ·exact absurd ka (by decide)
 ·exact absurd ka (by decide)
 rcases NM.cases hb with rfl | rfl | ⟨-,q1,q2,q3,q4⟩
 ·exact absurd kb (by decide)
 ·exact absurd kb (by decide)
 have hle:prM n a b≤2^(16*n - 32):=by
  rw [e1,show 16*n - 32=8*n - 16+(8*n - 16) by omega,Nat.pow_add]
  exact Nat.mul_le_mul a2 b2
 have h128:a.fr*b.fr < 2^128:=by
  rw [p64] at p2 q2
  exact mul_lt128 p2 q2
 have hpos:0 < a.fr*b.fr:=Nat.mul_pos (Nat.lt_of_lt_of_le (two_pos 63) p1) (Nat.lt_of_lt_of_le (two_pos 63) q1)
 have hbl:=bl_le_of_lt h128
 unfold prodX prI
 rw [if_neg (by omega),if_neg (by omega),if_pos ⟨ka,kb⟩]
 obtain ⟨h1,h2⟩:=natX_exa (g:=a.ng != b.ng) (N:=prM n a b) (e0:=a.sc+b.sc - 126) (u:=16 - 8*(n:Int)) hpos hbl (by omega) (by omega) e2 e3
 exact ⟨h1,h2,hle⟩
theorem intX_zero (u:Int):intX 0 u=EX.zero:=by unfold intX;rw [Int.natAbs_zero,natX_zero]
theorem pr_any {n x y:Nat} (h8:8≤n) (hn:n≤64) (hx:x < 2^n) (hy:y < 2^n) (kx:(decN n x).kd≠2) (ky:(decN n y).kd≠2):
  prodX (decN n x) (decN n y)=intX (prI n (decN n x) (decN n y)) (16 - 8*(n:Int))∧(prI n (decN n x) (decN n y)).natAbs≤2^(16*n - 32) ∧
  ((prodX (decN n x) (decN n y)=EX.zero∧prI n (decN n x) (decN n y)=0)∨(prodX (decN n x) (decN n y)).exa (prI n (decN n x) (decN n y)) (16 - 8*(n:Int))):=by
 have ox:=decN_ok h8 hn hx
 have oy:=decN_ok h8 hn hy
 have cx:(decN n x).kd=0∨(decN n x).kd=1:=by
  rcases NM.cases ox with h | h | h
  ·left;rw [h]
  ·rw [h] at kx;exact absurd rfl kx
  ·exact .inr h.1
 have cy:(decN n y).kd=0∨(decN n y).kd=1:=by
  rcases NM.cases oy with h | h | h
  ·left;rw [h]
  ·rw [h] at ky;exact absurd rfl ky
  ·exact .inr h.1
 by_cases hr:(decN n x).kd=1∧(decN n y).kd=1
 ·obtain ⟨h1,h2,h3⟩:=pr_real h8 hn ox oy hr.1 hr.2 (dec_lat h8 hn hx hr.1) (dec_lat h8 hn hy hr.2)
  refine ⟨h2, ?_,.inr h1⟩
  unfold prI
  rw [if_pos hr]
  split
  ·rw [Int.natAbs_neg,Int.natAbs_natCast];exact h3
  ·rw [Int.natAbs_natCast];exact h3
 ·have h0:prodX (decN n x) (decN n y)=EX.zero:=by
   unfold prodX
   rw [if_neg (by omega),if_pos (by omega)]
  have h1:prI n (decN n x) (decN n y)=0:=by unfold prI;rw [if_neg hr]
  rw [h0,h1,intX_zero]
  exact ⟨rfl,by simp,.inl ⟨rfl,rfl⟩⟩
theorem HW_pow {n:Nat} (hn:isW (n:Int)=true):HW (n / 4)=2^(16*n - 1):=by
 have hb:=isW_cases hn
 have:n=8∨n=16∨n=32∨n=64:=by omega
 rcases this with rfl | rfl | rfl | rfl <;> rw [HW_def,PW_two] <;> decide +kernel
end Go.Proofs.YtbpcfhhcoklinaaGreat.V
namespace Go.Proofs.YtbpcfhhcoklinaaGreat.V
open Go Go.RowKit Go.Proofs.YtbpcfhhcoklinaaGreat.Ab Go.Proofs.YtbpcfhhcoklinaaGreat.Fn
def RD (n:Nat) (nar:Bool) (z:Int):Nat:=if nar=true then 2^(n - 1) else (intX z (16 - 8*(n:Int))).rnd n
theorem cap_units {n:Nat} (hn:isW (n:Int)=true):2147483647*2^(16*n - 32) < HW (n / 4):=by
 have hh:=HW_pow hn
 have hnb:=isW_cases hn
 have h2:2147483648*2^(16*n - 32)=2^(16*n - 1):=by
  rw [show (2147483648:Nat)=2^31 by decide,← Nat.pow_add]
  exact pow_congr (by omega)
 have hp:=two_pos (16*n - 32)
 rw [hh,← h2]
 exact Nat.mul_lt_mul_of_pos_right (by decide) hp
theorem Round_at {n:Nat} {t z:Int} {nar:Bool} (hn:isW (n:Int)=true) (hb:z.natAbs≤2147483647*2^(16*n - 32)):Ev (fun k=>accum_Acc_Round.f k (n:Int) nar t (ws (enc (n / 4) z))) ((),(),((RD n nar z:Nat):Int)):=by
 have h2:=cap_units hn
 unfold RD
 cases nar
 ·exact Round_z hn (by omega) (by omega)
 ·exact Round_nar hn
theorem tm_bound {n:Nat} {x:Tm} (h8:8≤n) (hn:n≤64):(tmVal n x).natAbs≤2^(16*n - 32):=by
 have h:(prI n (decN n (x.1.toNat%2^n)) (decN n (x.2.1.toNat%2^n))).natAbs≤2^(16*n - 32):=by
  by_cases hk:(decN n (x.1.toNat%2^n)).kd=2∨(decN n (x.2.1.toNat%2^n)).kd=2
  ·unfold prI
   rw [if_neg (by omega)]
   exact Nat.zero_le _
  ·exact (pr_any h8 hn (Nat.mod_lt x.1.toNat (two_pos n)) (Nat.mod_lt x.2.1.toNat (two_pos n)) (fun e=>hk (.inl e)) (fun e=>hk (.inr e))).2.1
 unfold tmVal
 split
 ·rw [Int.natAbs_neg];exact h
 ·exact h
theorem sum_bound {n:Nat} (h8:8≤n) (hn:n≤64):∀ L:List Tm,(sumL n L).natAbs≤L.length*2^(16*n - 32)
 | []=>by simp [sumL]
 | x :: L=>by
  have h1:=sum_bound h8 hn L
  have h2:=tm_bound (x:=x) h8 hn
  rw [List.length_cons,Nat.add_mul,Nat.one_mul]
  simp only [sumL]
  omega
theorem fin_bound {n:Nat} (h8:8≤n) (hn:n≤64) {L:List Tm} (hl:L.length≤2147483647):(finZ n false 0 L).natAbs≤2147483647*2^(16*n - 32):=by
 unfold finZ
 split
 ·exact Nat.zero_le _
 ·rw [Int.zero_add]
  exact Nat.le_trans (sum_bound h8 hn L) (Nat.mul_le_mul_right _ hl)
def dotR (n:Nat) (L:List Tm):Nat:=RD n (narL n L) (finZ n false 0 L)
end Go.Proofs.YtbpcfhhcoklinaaGreat.V
namespace Go.Proofs.YtbpcfhhcoklinaaGreat.V
open Go Go.RowKit Go.Proofs.YtbpcfhhcoklinaaGreat.Ab Go.Proofs.YtbpcfhhcoklinaaGreat.Fn
def tms (l:List (Int×Int)):List Tm:=l.map fun x=>(x.1,(x.2,false))
theorem tms_len (l:List (Int×Int)):(tms l).length=l.length:=by unfold tms;rw [List.length_map]
theorem fin_nil {n:Nat} {nar:Bool} {z:Int} (hz:nar=true→z=0):finN n nar []=nar∧finZ n nar z []=z:=by
 have e1:finN n nar []=nar:=by unfold finN narL;rw [Bool.or_false]
 refine ⟨e1, ?_⟩
 unfold finZ
 rw [e1]
 cases nar
 ·simp [sumL]
 ·simp [hz rfl]
theorem u64_of_inK {x:Int} (h:inK .u64 x):∃ a:Nat,x=a∧a < 18446744073709551616:=by
 obtain ⟨h1,h2⟩:=h
 simp only [kLo,kHi] at h1 h2
 exact ⟨x.toNat,by omega,by omega⟩
theorem into_l0 {n:Nat} (hn:isW (n:Int)=true):∀ (l:List (Int×Int)) (nar:Bool) (t z:Int),(∀ x∈l,inK .u64 x.1∧inK .u64 x.2)→0≤t→t+l.length≤2147483647→(nar=true→z=0) →
  Ev (fun k=>vec_Into.l0 k ((n:Int),nar,t,ws (enc (n / 4) z)) l) (((n:Int),finN n nar (tms l),t+l.length,ws (enc (n / 4) (finZ n nar z (tms l)))),(),none):=by
 intro l
 induction l with
 | nil =>
  intro nar t z hw ht0 ht hz
  obtain ⟨e1,e2⟩:=fin_nil (n:=n) hz
  rw [show tms []=[] from rfl,e1,e2,List.length_nil,Int.natCast_zero,Int.add_zero]
  exact Ev.now _
 | cons x l ih =>
  intro nar t z hw ht0 ht hz
  obtain ⟨p,q⟩:=x
  obtain ⟨h1,h2⟩:=hw _ List.mem_cons_self
  obtain ⟨a,rfl,ha⟩:=u64_of_inK h1
  obtain ⟨b,rfl,hb⟩:=u64_of_inK h2
  rw [List.length_cons] at ht ⊢
  have hd:=deposit_eq (take:=false) hn ht0 (by omega) ha hb hz
  obtain ⟨e1,e2⟩:=dep_fin (n:=n) (nar:=nar) (take:=false) (z:=z) (a:=a) (b:=b) (L:=tms l)
  have hnext:=ih (depS n nar z (decN n (a%2^n)) (decN n (b%2^n)) false).1 (t+1) (depS n nar z (decN n (a%2^n)) (decN n (b%2^n)) false).2 (fun y hy=>hw y (List.mem_cons_of_mem _ hy)) (by omega) (by omega) depS_nar
  rw [e1,e2,show t+1+(l.length:Int)=t+((l.length+1:Nat):Int) by omega] at hnext
  simp only [vec_Into.l0]
  refine Ev.bind (Put_of hd) ?_
  exact hnext
theorem Into_eq {n:Nat} {a b:List Int} {nar:Bool} {t z:Int} (hn:isW (n:Int)=true) (ha:∀ x∈a,inK .u64 x) (hb:∀ x∈b,inK .u64 x) (hl:a.length=b.length) (ht0:0≤t) (ht:t+a.length≤2147483647) (hz:nar=true→z=0):
  Ev (fun k=>vec_Into.f k (n:Int) nar t (ws (enc (n / 4) z)) a b) (((n:Int),finN n nar (tms (a.zip b)),t+a.length,ws (enc (n / 4) (finZ n nar z (tms (a.zip b))))),(),none):=by
 have hzl:(a.zip b).length=a.length:=by rw [List.length_zip];omega
 have h:=into_l0 hn (a.zip b) nar t z (fun x hx=>⟨ha _ (List.of_mem_zip hx).1,hb _ (List.of_mem_zip hx).2⟩) ht0 (by rw [hzl];exact ht) hz
 rw [hzl] at h
 unfold vec_Into.f
 have hw:wrap64 (2147483647 - t)=2147483647 - t:=w64 (by omega) (by omega)
 simp only [if_pos hl,State_eq hn,Option.bind_some,hw,if_neg (show ¬ ((a.length:Int) > 2147483647 - t) by omega)]
 exact h
theorem Into_full {n:Nat} {a b:List Int} {nar:Bool} {t:Int} {V:Nat} (hn:isW (n:Int)=true) (hl:a.length=b.length) (ht0:0≤t) (ht1:t≤2147483647) (ht:2147483647 < t+a.length):
  Ev (fun k=>vec_Into.f k (n:Int) nar t (ws V) a b) (((n:Int),nar,t,ws V),(),some 11):=by
 unfold vec_Into.f
 have hw:wrap64 (2147483647 - t)=2147483647 - t:=w64 (by omega) (by omega)
 simp only [if_pos hl,State_eq hn,Option.bind_some,hw,if_pos (show ((a.length:Int) > 2147483647 - t) by omega)]
 exact Ev.now _
theorem Into_len {n:Int} {a b:List Int} {nar:Bool} {t:Int} {l:List Int} (hl:¬ a.length=b.length):Ev (fun k=>vec_Into.f k n nar t l a b) ((n,nar,t,l),(),some 15):=by
 unfold vec_Into.f
 simp only [if_neg hl]
 exact Ev.now _
end Go.Proofs.YtbpcfhhcoklinaaGreat.V
namespace Go.Proofs.YtbpcfhhcoklinaaGreat.V
open Go Go.RowKit Go.Proofs.YtbpcfhhcoklinaaGreat.Ab Go.Proofs.YtbpcfhhcoklinaaGreat.Fn
def ones (n:Nat) (l:List Int):List (Int×Int):=l.map fun x=>(x,((2^(n - 2):Nat):Int))
theorem rd_at {l:List Int} {i:Nat} (h:i < l.length):rd l (i:Int)=l[i]:=by
 unfold rd
 rw [Int.toNat_natCast,List.getD_eq_getElem?_getD,List.getElem?_eq_getElem h]
 rfl
theorem Dot_eq {n:Nat} {a b:List Int} (hn:isW (n:Int)=true) (ha:∀ x∈a,inK .u64 x) (hb:∀ x∈b,inK .u64 x) (hl:a.length=b.length) (hm:a.length≤2147483647):
  Ev (fun k=>vec_Dot.f k (n:Int) a b) (((dotR n (tms (a.zip b)):Nat):Int),none):=by
 obtain ⟨b64,b8⟩:=pow64 hn
 have hi:=Into_eq (nar:=false) (t:=0) (z:=0) hn ha hb hl (by decide) (by omega) (fun _=>rfl)
 rw [enc_zero] at hi
 have hzl:(tms (a.zip b)).length≤2147483647:=by rw [tms_len,List.length_zip];omega
 have hr:=Round_at (t:=0+(a.length:Int)) (nar:=finN n false (tms (a.zip b))) hn (fin_bound b8 b64 hzl)
 have e:finN n false (tms (a.zip b))=narL n (tms (a.zip b)):=by unfold finN;rw [Bool.false_or]
 unfold vec_Dot.f
 refine Ev.bind (New_eq hn) ?_
 simp only [if_true,Option.isNone_none]
 refine Ev.bind hi ?_
 simp only [if_true,Option.isNone_none]
 refine Ev.bind hr ?_
 rw [e]
 exact Ev.now _
theorem Dot_len {n:Nat} {a b:List Int} (hn:isW (n:Int)=true) (hl:¬ a.length=b.length):Ev (fun k=>vec_Dot.f k (n:Int) a b) (0,some 15):=by
 unfold vec_Dot.f
 refine Ev.bind (New_eq hn) ?_
 simp only [if_true,Option.isNone_none]
 refine Ev.bind (Into_len hl) ?_
 simp only [Option.isNone_some,Bool.false_eq_true,if_false]
 exact Ev.now _
end Go.Proofs.YtbpcfhhcoklinaaGreat.V
namespace Go.Proofs.YtbpcfhhcoklinaaGreat.V
open Go Go.RowKit Go.Proofs.YtbpcfhhcoklinaaGreat.Ab Go.Proofs.YtbpcfhhcoklinaaGreat.Fn
def srtN (n:Nat) (M:List Nat):List Nat:=M.mergeSort fun x y=>decide (rkN n x≤rkN n y)
def foldL (n:Nat) (L:List Nat):List Nat:=L.map fun c=>c%2^n
def rkS (n:Nat) (M:List Nat):Prop:=M.Pairwise fun x y=>rkN n x≤rkN n y
theorem srtN_perm (n:Nat) (M:List Nat):(srtN n M).Perm M:=List.mergeSort_perm _ _
theorem srtN_sorted (n:Nat) (M:List Nat):rkS n (srtN n M):=by
 have h:=List.pairwise_mergeSort (le:=fun x y=>decide (rkN n x≤rkN n y)) (fun a b c h1 h2=>by simp only [decide_eq_true_eq] at *;omega) (fun a b=>by simp only [Bool.or_eq_true,decide_eq_true_eq];omega) M
 exact h.imp fun h=>of_decide_eq_true h
theorem rkS_unique {n:Nat}:∀ {M M':List Nat},M.Perm M'→(∀ x∈M,x < 2^n)→rkS n M→rkS n M'→M=M'
 | [],M',hp,_,_,_=>by rw [List.nil_perm.1 hp]
 | x :: M,[],hp,_,_,_=>by have:=hp.length_eq;simp at this
 | x :: M,y :: M',hp,hlt,h1,h2=>by
  obtain ⟨a1,a2⟩:=List.pairwise_cons.1 h1
  obtain ⟨b1,b2⟩:=List.pairwise_cons.1 h2
  have hx:x∈y :: M':=hp.subset List.mem_cons_self
  have hy:y∈x :: M:=hp.symm.subset List.mem_cons_self
  have e:x=y:=by
   rcases List.mem_cons.1 hx with h | h
   ·exact h
   ·rcases List.mem_cons.1 hy with h' | h'
    ·exact h'.symm
    ·have r1:=b1 _ h
     have r2:=a1 _ h'
     exact rkN_inj (hlt x List.mem_cons_self) (hlt y hy) (by omega)
  subst e
  rw [rkS_unique (List.Perm.cons_inv hp) (fun z hz=>hlt z (List.mem_cons_of_mem _ hz)) a2 b2]
theorem foldL_lt (n:Nat) (L:List Nat):∀ x∈foldL n L,x < 2^n:=by
 intro x hx
 unfold foldL at hx
 obtain ⟨c, -,rfl⟩:=List.mem_map.1 hx
 exact Nat.mod_lt _ (two_pos n)
theorem foldL_len (n:Nat) (L:List Nat):(foldL n L).length=L.length:=by unfold foldL;rw [List.length_map]
theorem low_bits {n x:Nat} (hn:n≤64) (hx:x < 18446744073709551616):x*2^(64 - n)%18446744073709551616 / 2^(64 - n)=x%2^n:=by
 have e:18446744073709551616=2^n*2^(64 - n):=by rw [pow_split hn,p64]
 rw [e,Nat.mul_mod_mul_right,Nat.mul_div_cancel _ (two_pos _)]
theorem sort1_eq {n a b:Nat} (h:isW (n:Int)=true) (ha:a < 18446744073709551616) (hb:b < 18446744073709551616):vec_Sort_1.f (a:Int) (b:Int) (n:Int)=some (cmpI (rkN n (a%2^n)) (rkN n (b%2^n))):=by
 unfold vec_Sort_1.f
 rw [order_Cmp_run h ha hb]
 rfl
theorem cf_eq {n a b:Nat} (h:isW (n:Int)=true) (ha:a < 2^n) (hb:b < 2^n):slices_SortFunc.cf (n:Int) (a:Int) (b:Int)=cmpI (rkN n a) (rkN n b):=by
 obtain ⟨b64,b8⟩:=pow64 h
 have h2:2^n≤18446744073709551616:=by rw [← p64];exact pow_le b64
 unfold slices_SortFunc.cf
 rw [sort1_eq h (Nat.lt_of_lt_of_le ha h2) (Nat.lt_of_lt_of_le hb h2),Nat.mod_eq_of_lt ha,Nat.mod_eq_of_lt hb]
 rfl
theorem ltC_eq {n a b:Nat} (h:isW (n:Int)=true) (ha:a < 2^n) (hb:b < 2^n):Srt.ltC (slices_SortFunc.cf (n:Int)) (a:Int) (b:Int)=decide (rkN n a < rkN n b):=by
 unfold Srt.ltC
 rw [cf_eq h ha hb]
 exact decide_eq_decide.2 cmpI_neg
theorem mem_ints {L:List Nat} {x:Int} (hx:x∈ints L):∃ c:Nat,c∈L∧x=(c:Int):=by
 unfold ints at hx
 obtain ⟨c,hc,rfl⟩:=List.mem_map.1 hx
 exact ⟨c,hc,rfl⟩
theorem SortFunc_eq {n:Nat} {M:List Nat} (h:isW (n:Int)=true) (hM:∀ x∈M,x < 2^n) (hl:M.length < 4611686018427387904):slices_SortFunc.f (n:Int) (ints M)=some (ints (srtN n M)):=by
 obtain ⟨b64,b8⟩:=pow64 h
 have h2:2^n≤18446744073709551616:=by rw [← p64];exact pow_le b64
 have hG:slices_SortFunc.Good (n:Int) (ints M):=by
  refine ⟨by rw [ints_len];exact hl,fun x hx y hy=>?_,fun x hx=>?_,fun x hx y hy z hz=>?_,fun x hx y hy z hz=>?_,fun x hx y hy=>?_⟩
  ·obtain ⟨a,ha,rfl⟩:=mem_ints hx
   obtain ⟨b,hb,rfl⟩:=mem_ints hy
   rw [sort1_eq h (Nat.lt_of_lt_of_le (hM a ha) h2) (Nat.lt_of_lt_of_le (hM b hb) h2)]
   rfl
  ·obtain ⟨a,ha,rfl⟩:=mem_ints hx
   rw [ltC_eq h (hM a ha) (hM a ha)]
   simp
  ·obtain ⟨a,ha,rfl⟩:=mem_ints hx
   obtain ⟨b,hb,rfl⟩:=mem_ints hy
   obtain ⟨c,hc,rfl⟩:=mem_ints hz
   rw [ltC_eq h (hM a ha) (hM b hb),ltC_eq h (hM b hb) (hM c hc),ltC_eq h (hM a ha) (hM c hc)]
   simp only [decide_eq_true_eq]
   omega
  ·obtain ⟨a,ha,rfl⟩:=mem_ints hx
   obtain ⟨b,hb,rfl⟩:=mem_ints hy
   obtain ⟨c,hc,rfl⟩:=mem_ints hz
   rw [ltC_eq h (hM a ha) (hM b hb),ltC_eq h (hM b hb) (hM c hc),ltC_eq h (hM a ha) (hM c hc)]
   simp only [decide_eq_false_iff_not]
   omega
  ·obtain ⟨a,ha,rfl⟩:=mem_ints hx
   obtain ⟨b,hb,rfl⟩:=mem_ints hy
   rw [ltC_eq h (hM a ha) (hM b hb),ltC_eq h (hM b hb) (hM a ha)]
   simp only [decide_eq_false_iff_not]
   intro h1 h3
   rw [rkN_inj (hM a ha) (hM b hb) (by omega)]
 unfold slices_SortFunc.f
 rw [if_pos hG]
 congr 1
 unfold Srt.srt srtN ints
 refine (List.map_mergeSort ?_).symm
 intro a ha b hb
 show decide (rkN n a≤rkN n b) = !Srt.ltC (slices_SortFunc.cf (n:Int)) ((b:Nat):Int) ((a:Nat):Int)
 rw [ltC_eq h (hM b hb) (hM a ha)]
 by_cases hab:rkN n a≤rkN n b
 ·rw [decide_eq_true hab,decide_eq_false (by omega)];rfl
 ·rw [decide_eq_false hab,decide_eq_true (by omega)];rfl
theorem Sort_l0 {n:Nat} (h:isW (n:Int)=true) {L:List Nat} (hL:∀ c∈L,c < 18446744073709551616) (hl:L.length≤4398046511104000):∀ (d i:Nat),i+d=L.length →
  Ev (fun k=>vec_Sort.l0 k (ints (foldL n (L.take i)++List.replicate d 0)) (ints L) (L.length:Int) (i:Int) (n:Int)) (ints (srtN n (foldL n L)),none):=by
 obtain ⟨b64,b8⟩:=pow64 h
 intro d
 induction d with
 | zero =>
  intro i hi
  have c1:¬ ((i:Int) < (L.length:Int)):=by omega
  have:L.take i=L:=List.take_of_length_le (by omega)
  rw [this]
  refine evs ?_
  simp only [vec_Sort.l0,if_neg c1,List.replicate_zero,List.append_nil]
  have hl2:(foldL n L).length < 4611686018427387904:=by rw [foldL_len];omega
  rw [SortFunc_eq h (foldL_lt n L) hl2]
  exact Ev.now _
 | succ d ih =>
  intro i hi
  have hil:i < L.length:=by omega
  have c1:(i:Int) < (L.length:Int):=by omega
  have c2:(0:Int)≤(i:Int):=by omega
  have hw:wrap64 ((i:Int)+1)=((i+1:Nat):Int):=by rw [w64 (by omega) (by omega)];omega
  have hn64:wrap64 (64 - (n:Int))=((64 - n:Nat):Int):=by rw [w64 (by omega) (by omega)];omega
  have c3:(0:Int)≤((64 - n:Nat):Int):=by omega
  have c4:64 - n≤64:=by omega
  have hfl:(foldL n (L.take i)).length=i:=by rw [foldL_len,List.length_take];omega
  have hlen:(foldL n (L.take i)++List.replicate (d+1) 0).length=L.length:=by rw [List.length_append,hfl,List.length_replicate];exact hi
  have hx:=hL _ (List.getElem_mem hil)
  have e1:shr .u64 (shl .u64 ((L[i]:Nat):Int) ((64 - n:Nat):Int)) ((64 - n:Nat):Int)=((L[i]%2^n:Nat):Int):=by
   rw [shl_nat _ _ c4,shr_nat _ _ c4,low_bits b64 hx]
  have e2:(foldL n (L.take i)++List.replicate (d+1) 0).set i (L[i]%2^n)=foldL n (L.take (i+1))++List.replicate d 0:=by
   rw [List.set_append_right _ _ (by rw [hfl];exact Nat.le_refl _),hfl,Nat.sub_self,List.replicate_succ,List.set_cons_zero,List.take_succ_eq_append_getElem hil]
   unfold foldL
   rw [List.map_append,List.append_assoc]
   rfl
  refine evs ?_
  simp only [vec_Sort.l0,nI_eq,ints_len,hlen,if_pos c1,if_pos c2,hn64,if_pos c3,ints_rd hil,e1,Int.toNat_natCast,ints_set,e2,hw]
  exact ih (i+1) (by omega)
theorem Sort_eq {n:Nat} (h:isW (n:Int)=true) {L:List Nat} (hL:∀ c∈L,c < 18446744073709551616) (hl:L.length≤35184372088832):Ev (fun k=>vec_Sort.f k (n:Int) (ints L)) (ints (srtN n (foldL n L)),none):=by
 have h0:=Sort_l0 h hL (by omega) L.length 0 (by omega)
 have hN:=order_Neg_eq (a:=0) h (by decide)
 unfold vec_Sort.f
 refine Ev.bind hN ?_
 simp only [Option.isNone_none,if_true,nI_eq,ints_len,Int.toNat_natCast,if_pos hl]
 have e:(List.replicate L.length (0:Int))=ints (foldL n (L.take 0)++List.replicate L.length 0):=by
  unfold ints foldL
  simp
 rw [e]
 exact h0
theorem same_l0 {l:List Int} (hl:l.length≤4611686018427387904):∀ (d i:Nat),i+d=l.length→Ev (fun k=>vr04_Same.l0 k l l (i:Int)) true:=by
 intro d
 induction d with
 | zero =>
  intro i hi
  have c1:¬ ((i:Int) < (l.length:Int)):=by omega
  refine evs ?_
  simp only [vr04_Same.l0,nI_eq,if_neg c1]
  exact Ev.now _
 | succ d ih =>
  intro i hi
  have c1:(i:Int) < (l.length:Int):=by omega
  have c2:(0:Int)≤(i:Int):=by omega
  have hw:wrap64 ((i:Int)+1)=((i+1:Nat):Int):=by rw [w64 (by omega) (by omega)];omega
  refine evs ?_
  simp only [vr04_Same.l0,nI_eq,if_pos c1,if_pos c2,if_true,hw]
  exact ih (i+1) (by omega)
theorem same_refl {l:List Int} (hl:l.length≤4611686018427387904):Ev (fun k=>vr04_Same.f k l l) true:=by
 unfold vr04_Same.f
 simp only [nI_eq,if_true]
 exact same_l0 hl l.length 0 (by omega)
end Go.Proofs.YtbpcfhhcoklinaaGreat.V
namespace Go.Proofs.YtbpcfhhcoklinaaGreat.V
open Go Go.RowKit Go.Proofs.YtbpcfhhcoklinaaGreat.Ab Go.Proofs.YtbpcfhhcoklinaaGreat.Fn
theorem up20:Ev (fun k=>vl20_shown.f k) true:=by
 have hn:isW ((8:Nat):Int)=true:=by decide
 have d1:=Dot_eq (n:=8) (a:=[127,1,129]) (b:=[127,64,127]) hn (by intro x hx;simp only [List.mem_cons,List.not_mem_nil,or_false] at hx;rcases hx with rfl | rfl | rfl <;> exact ⟨by decide,by decide⟩) (by intro x hx;simp only [List.mem_cons,List.not_mem_nil,or_false] at hx;rcases hx with rfl | rfl | rfl <;> exact ⟨by decide,by decide⟩) rfl (by decide)
 have v1:dotR 8 (tms (([127,1,129]:List Int).zip [127,64,127]))=1:=by decide +kernel
 rw [v1] at d1
 have d2:=Dot_len (n:=8) (a:=[64]) (b:=[]) hn (by decide)
 have d3:=Sort_eq (L:=[64,128,448,0]) hn (by decide) (by decide)
 have v3:srtN 8 (foldL 8 [64,128,448,0])=[128,192,0,64]:=by
  refine rkS_unique (n:=8) ?_ ?_ (srtN_sorted _ _) ?_
  ·exact (srtN_perm _ _).trans (by decide)
  ·intro x hx
   exact foldL_lt _ _ x ((srtN_perm _ _).subset hx)
  ·unfold rkS;decide
 rw [v3] at d3
 have d4:=vec_Poly_eq (n:=8) (x:=72) (L:=[64,64,64]) hn (by decide) (by decide) (by decide)
 have v4:polyN 8 (72%2^8) [64,64,64]=86:=by decide +kernel
 rw [v4] at d4
 have d5:=same_refl (l:=ints [128,192,0,64]) (by decide)
 unfold vl20_shown.f
 refine Ev.bind d1 ?_
 refine Ev.bind d2 ?_
 refine Ev.bind d3 ?_
 refine Ev.bind d5 ?_
 refine Ev.bind d4 ?_
 exact Ev.now _
end Go.Proofs.YtbpcfhhcoklinaaGreat.V
namespace Go.Proofs.YtbpcfhhcoklinaaGreat.V
open Go Go.RowKit Go.Proofs.YtbpcfhhcoklinaaGreat.Ab Go.Proofs.YtbpcfhhcoklinaaGreat.Fn
def dgs (m:Nat):List Int:=if h:m=0 then [] else ((m%16777216:Nat):Int) :: dgs (m / 16777216)
termination_by m
decreasing_by omega
theorem dgs_zero:dgs 0=[]:=by rw [dgs];rfl
theorem dgs_DL (m:Nat):DL (dgs m) m:=by
 induction m using Nat.strongRecOn with
 | ind m ih =>
  rw [dgs]
  by_cases h:m=0
  ·subst h
   exact DL.nil
  ·rw [dif_neg h]
   have h2:=ih (m / 16777216) (by omega)
   refine ⟨?_, ?_, ?_⟩
   ·intro x hx
    rcases List.mem_cons.1 hx with rfl | hx
    ·omega
    ·exact h2.ok x hx
   ·show (((m%16777216:Nat):Int)).toNat+16777216*dv (dgs (m / 16777216))=m
    rw [h2.val]
    omega
   ·intro _
    show W (dgs (m / 16777216)).length≤m
    by_cases h3:dgs (m / 16777216)=[]
    ·rw [h3]
     show W 0≤m
     rw [W_zero]
     omega
    ·have h4:=h2.can h3
     have h5:(dgs (m / 16777216)).length=(dgs (m / 16777216)).length - 1+1:=by
      have:(dgs (m / 16777216)).length≠0:=fun e=>h3 (List.length_eq_zero_iff.1 e)
      omega
     rw [h5,W_succ]
     omega
def RB:Nat:=W 50
theorem W_lt {k i:Nat} (h:k < 24*i):2^k < W i:=pow_lt h
theorem RB_lt {k:Nat} (h:k < 24*50):2^k < RB:=W_lt h
theorem RB_pos:0 < RB:=W_pos 50
theorem dgs_len {m:Nat} (h:m < RB):(dgs m).length≤50:=(dgs_DL m).len_le h
theorem dgs_is {l:List Int} {m:Nat} (h:DL l m):l=dgs m:=h.uniq (dgs_DL m)
theorem ev_dgs {g:Nat→Option (List Int)} {m:Nat} (h:∃ r,Ev g r∧DL r m):Ev g (dgs m):=by
 obtain ⟨r,h1,h2⟩:=h
 rw [← dgs_is h2]
 exact h1
theorem dgs_nil {m:Nat}:(nI (dgs m).length)=0↔m=0:=by
 rw [nI_eq]
 constructor
 ·intro h
  have:(dgs m).length=0:=by omega
  have e:dgs m=[]:=List.length_eq_zero_iff.1 this
  have:=(dgs_DL m).val
  rw [e] at this
  exact this.symm
 ·rintro rfl
  rw [dgs_zero]
  rfl
theorem decN_small {n x:Nat} (hn:n≤64):-260≤(decN n x).sc∧(decN n x).sc≤260:=by
 have hd:∀ w, -260≤decS (n - 1) w∧decS (n - 1) w≤260:=by
  intro w
  have:=decEx_lt (m:=n - 1) (w:=w)
  have hr:runL (n - 1) w≤n - 1:=by unfold runL;split <;> omega
  unfold decS decK
  split <;> omega
 unfold decN
 split
 ·exact ⟨by decide,by decide⟩
 ·split
  ·exact ⟨by decide,by decide⟩
  ·exact hd _
theorem ra_plus {n t z:Int} {nar g:Bool} {m:Nat} (hz:z.natAbs < RB) (hm:m < RB):
  Ev (fun k=>vr15_Acc_plus.f k n nar t (decide (z < 0)) (dgs z.natAbs) g (dgs m)) ((n,nar,t,decide (z+(if g=true then -(m:Int) else (m:Int)) < 0),dgs (z+(if g=true then -(m:Int) else (m:Int))).natAbs),(),()):=by
 have lz:=dgs_len hz
 have lm:=dgs_len hm
 have hA:=ev_dgs (r4_Add (dgs_DL z.natAbs) (dgs_DL m) (by omega) (by omega))
 have hC:=r4_Cmp (dgs_DL z.natAbs) (dgs_DL m) (by omega) (by omega)
 unfold vr15_Acc_plus.f
 by_cases hg:(g==decide (z < 0))=true
 ·simp only [if_pos hg]
  refine Ev.bind hA ?_
  by_cases h0:z < 0
  ·have eg:g=true:=by simpa [h0] using hg
   subst eg
   have e1:z+(if (true:Bool)=true then -(m:Int) else (m:Int))=z - m:=by rw [if_pos rfl];omega
   rw [e1]
   have e2:(z - (m:Int)).natAbs=z.natAbs+m:=by omega
   have e3:z - (m:Int) < 0:=by omega
   rw [e2,decide_eq_true e3,decide_eq_true h0]
   exact Ev.now _
  ·have eg:g=false:=by simpa [h0] using hg
   subst eg
   have e1:z+(if (false:Bool)=true then -(m:Int) else (m:Int))=z+m:=by rw [if_neg (by decide)]
   rw [e1]
   have e2:(z+(m:Int)).natAbs=z.natAbs+m:=by omega
   have e3:¬ z+(m:Int) < 0:=by omega
   rw [e2,decide_eq_false e3,decide_eq_false h0]
   exact Ev.now _
 ·simp only [if_neg hg]
  refine Ev.bind hC ?_
  have hgn:g = !decide (z < 0):=by
   revert hg
   cases g <;> cases decide (z < 0) <;> simp
  by_cases hc:m≤z.natAbs
  ·have hc2:cmpN z.natAbs m≥0:=by unfold cmpN;rw [if_neg (by omega)];split <;> decide
   simp only [if_pos hc2]
   refine Ev.bind (ev_dgs (r4_Sub (dgs_DL z.natAbs) (dgs_DL m) hc (by omega))) ?_
   have e2:(z+(if g=true then -(m:Int) else (m:Int))).natAbs=z.natAbs - m:=by
    rw [hgn]
    by_cases h0:z < 0
    ·simp [h0];omega
    ·simp [h0];omega
   rw [e2]
   by_cases he:z.natAbs - m=0
   ·simp only [if_pos (dgs_nil.2 he)]
    have e3:¬ z+(if g=true then -(m:Int) else (m:Int)) < 0:=by omega
    rw [decide_eq_false e3]
    exact Ev.now _
   ·simp only [if_neg (fun h=>he (dgs_nil.1 h))]
    have e3:decide (z+(if g=true then -(m:Int) else (m:Int)) < 0)=decide (z < 0):=by
     rw [hgn]
     by_cases h0:z < 0
     ·simp [h0];omega
     ·simp [h0];omega
    rw [e3]
    exact Ev.now _
  ·have hc2:¬ cmpN z.natAbs m≥0:=by unfold cmpN;rw [if_pos (by omega)];decide
   simp only [if_neg hc2]
   refine Ev.bind (ev_dgs (r4_Sub (dgs_DL m) (dgs_DL z.natAbs) (by omega) (by omega))) ?_
   have e2:(z+(if g=true then -(m:Int) else (m:Int))).natAbs=m - z.natAbs:=by
    rw [hgn]
    by_cases h0:z < 0
    ·simp [h0];omega
    ·simp [h0];omega
   rw [e2]
   have he:¬ m - z.natAbs=0:=by omega
   simp only [if_neg (fun h=>he (dgs_nil.1 h))]
   have e3:decide (z+(if g=true then -(m:Int) else (m:Int)) < 0)=g:=by
    rw [hgn]
    by_cases h0:z < 0
    ·simp [h0];omega
    ·simp [h0];omega
   rw [e3]
   exact Ev.now _
theorem prM_lt {n a b:Nat} (h8:8≤n) (hn:n≤64) (hk:(decN n (a%2^n)).kd=1) (hl:(decN n (b%2^n)).kd=1):prM n (decN n (a%2^n)) (decN n (b%2^n))≤2^(16*n - 32):=by
 have h:=(pr_any h8 hn (Nat.mod_lt a (two_pos n)) (Nat.mod_lt b (two_pos n)) (by rw [hk];decide) (by rw [hl];decide)).2.1
 unfold prI at h
 rw [if_pos ⟨hk,hl⟩] at h
 generalize prM n (decN n (a%2^n)) (decN n (b%2^n))=q at *
 split at h
 ·omega
 ·omega
theorem ra_Put {n a b:Nat} {t z:Int} {nar g:Bool} (hn:isW (n:Int)=true) (ht0:0≤t) (ht:t < 2147483647) (ha:a < 18446744073709551616) (hb:b < 18446744073709551616) (hz:nar=true→z=0) (hzb:z.natAbs < RB):
  Ev (fun k=>vr15_Acc_Put.f k (n:Int) nar t (decide (z < 0)) (dgs z.natAbs) (a:Int) (b:Int) g) (((n:Int),(depS n nar z (decN n (a%2^n)) (decN n (b%2^n)) g).1,t+1,decide ((depS n nar z (decN n (a%2^n)) (decN n (b%2^n)) g).2 < 0),dgs (depS n nar z (decN n (a%2^n)) (decN n (b%2^n)) g).2.natAbs),(),true):=by
 have hnb:=isW_cases hn
 have h8:8≤n:=by omega
 have h64:n≤64:=by omega
 have hp:=decN_ok h8 h64 (Nat.mod_lt a (two_pos n))
 have hq:=decN_ok h8 h64 (Nat.mod_lt b (two_pos n))
 have sp:=decN_small (n:=n) (x:=a%2^n) h64
 have sq:=decN_small (n:=n) (x:=b%2^n) h64
 have hM:=prM_lt (a:=a) (b:=b) h8 h64
 have hwt:wrap64 (t+1)=t+1:=w64 (by omega) (by omega)
 unfold vr15_Acc_Put.f
 simp only [if_neg (show ¬ (t=2147483647) by omega),hwt]
 refine Ev.bind (ref_Decode_N hn ha) ?_
 refine Ev.bind (ref_Decode_N hn hb) ?_
 generalize decN n (a%2^n)=p at *
 generalize decN n (b%2^n)=q at *
 have j1:∀ (nar':Bool) (z':Int) (x0 y0:Int),(nar'=true→z'=0)→z'.natAbs < RB→x0=p.kd→y0=q.kd→(p.kd=2∨q.kd=2→nar'=true) →
   Ev (fun k=>vr15_Acc_Put.j1 k (n:Int) nar' (t+1) (decide (z' < 0)) (dgs z'.natAbs) g x0 p.ng p.sc (p.fr:Int) y0 q.ng q.sc (q.fr:Int)) (((n:Int),(depS n nar' z' p q g).1,t+1,decide ((depS n nar' z' p q g).2 < 0),dgs (depS n nar' z' p q g).2.natAbs),(),true):=by
  intro nar' z' x0 y0 hz' hzb' hx hy hk
  subst hx
  subst hy
  refine evs ?_
  simp only [vr15_Acc_Put.j1]
  have stay:∀ x1 x2 x3 y1 y2 y3,(depS n nar' z' p q g=(nar',z'))→Ev (fun k=>vr15_Acc_Put.j2 k (n:Int) nar' (t+1) (decide (z' < 0)) (dgs z'.natAbs) g true x1 x2 x3 y1 y2 y3) (((n:Int),(depS n nar' z' p q g).1,t+1,decide ((depS n nar' z' p q g).2 < 0),dgs (depS n nar' z' p q g).2.natAbs),(),true):=by
   intro x1 x2 x3 y1 y2 y3 he
   rw [he]
   refine evs ?_
   simp only [vr15_Acc_Put.j2,if_true]
   exact Ev.now _
  cases hnr:nar'
  ·rw [hnr] at hz' hk stay
   simp only [Bool.false_eq_true,if_false]
   have k1:p.kd≠2:=fun h=>by cases hk (.inl h)
   have k2:q.kd≠2:=fun h=>by cases hk (.inr h)
   have hd:depS n false z' p q g=(false,if g=true then z' - prI n p q else z'+prI n p q):=by unfold depS;rw [if_neg (by simp [k1,k2])]
   rcases NM.cases hp with hp' | hp' | ⟨pk,p1,p2,p3,p4⟩
   ·have h0:p.kd=0:=by rw [hp']
    simp only [if_pos h0]
    refine stay _ _ _ _ _ _ ?_
    rw [hd]
    have:prI n p q=0:=by unfold prI;rw [if_neg (by omega)]
    rw [this]
    simp
   ·exact absurd (by rw [hp']) k1
   ·have h0:¬ p.kd=0:=by omega
    simp only [if_neg h0]
    rcases NM.cases hq with hq' | hq' | ⟨qk,q1,q2,q3,q4⟩
    ·have h0:(q.kd==0)=true:=by rw [hq'];rfl
     simp only [h0]
     refine stay _ _ _ _ _ _ ?_
     rw [hd]
     have:prI n p q=0:=by unfold prI;rw [if_neg (by rw [hq'];simp)]
     rw [this]
     simp
    ·exact absurd (by rw [hq']) k2
    ·have h0:(q.kd==0)=false:=by rw [qk];rfl
     simp only [h0]
     rw [p64] at p2 q2
     have hM:=hM pk qk
     have hMb:prM n p q < RB:=Nat.lt_of_le_of_lt hM (RB_lt (by omega))
     have hw:wrap64 ((wrap64 ((wrap64 ((wrap64 (p.sc+q.sc)) - 126))+(wrap64 (8*(n:Int))))) - 16)=p.sc+q.sc - 126+8*n - 16:=by
      rw [w64 (n:=p.sc+q.sc) (by omega) (by omega),w64 (n:=p.sc+q.sc - 126) (by omega) (by omega),w64 (n:=8*(n:Int)) (by omega) (by omega),w64 (n:=p.sc+q.sc - 126+8*n) (by omega) (by omega),w64 (by omega) (by omega)]
     have hpl:=ra_plus (n:=(n:Int)) (nar:=false) (t:=t+1) (z:=z') (m:=prM n p q) (g:=!((!(p.ng==q.ng))==g)) hzb' hMb
     have hres:z'+(if (!((!(p.ng==q.ng))==g))=true then -((prM n p q:Nat):Int) else ((prM n p q:Nat):Int))=(if g=true then z' - prI n p q else z'+prI n p q):=by
      have ep:prI n p q=if (p.ng != q.ng)=true then -(prM n p q:Int) else (prM n p q:Int):=by unfold prI;rw [if_pos ⟨pk,qk⟩]
      rw [ep,bne]
      cases g <;> cases (p.ng==q.ng) <;> simp <;> omega
     rw [hres] at hpl
     rw [hd]
     have l1:=dgs_len (m:=p.fr) (Nat.lt_trans p2 (by rw [← p64];exact RB_lt (by decide)))
     have l2:=dgs_len (m:=q.fr) (Nat.lt_trans q2 (by rw [← p64];exact RB_lt (by decide)))
     have l3:(dgs (p.fr*q.fr)).length≤50:=dgs_len (Nat.lt_trans (mul_lt128 p2 q2) (RB_lt (by decide)))
     refine evs ?_
     simp only [vr15_Acc_Put.j2,Bool.false_eq_true,if_false,hw]
     refine Ev.bind (ev_dgs (r4_Of _ p2)) ?_
     refine Ev.bind (ev_dgs (r4_Of _ q2)) ?_
     refine Ev.bind (ev_dgs (r4_Mul (dgs_DL p.fr) (dgs_DL q.fr) (by omega))) ?_
     by_cases hu:p.sc+q.sc - 126+8*(n:Int) - 16≥0
     ·simp only [if_pos hu]
      obtain ⟨u,hu2⟩:∃ u:Nat,p.sc+q.sc - 126+8*(n:Int) - 16=u:=⟨(p.sc+q.sc - 126+8*(n:Int) - 16).toNat,by omega⟩
      have e:p.fr*q.fr*2^u=prM n p q:=by unfold prM;rw [hu2,if_pos (by omega),Int.toNat_natCast]
      rw [hu2]
      refine Ev.bind (ev_dgs (r4_Shl (dgs_DL (p.fr*q.fr)) (k:=u) (by omega) (by omega))) ?_
      rw [e]
      refine Ev.bind hpl ?_
      exact Ev.now _
     ·simp only [if_neg hu]
      obtain ⟨u,hu2⟩:∃ u:Nat, -(p.sc+q.sc - 126+8*(n:Int) - 16)=u:=⟨(-(p.sc+q.sc - 126+8*(n:Int) - 16)).toNat,by omega⟩
      have e:p.fr*q.fr / 2^u=prM n p q:=by unfold prM;rw [hu2,if_neg (by omega),Int.toNat_natCast]
      have hw2:wrap64 (-(p.sc+q.sc - 126+8*(n:Int) - 16))=(u:Int):=by rw [hu2];exact w64 (by omega) (by omega)
      rw [hw2]
      refine Ev.bind (ev_dgs (r4_Shr (dgs_DL (p.fr*q.fr)) (k:=u) (by omega) (by omega))) ?_
      rw [e]
      refine Ev.bind hpl ?_
      exact Ev.now _
  ·rw [hnr] at hz' stay
   simp only [if_true]
   refine stay _ _ _ _ _ _ ?_
   unfold depS
   rw [if_pos (.inl rfl),hz' rfl]
 have j0:∀ x45:Bool,x45=decide (p.kd=2∨q.kd=2)→Ev (fun k=>vr15_Acc_Put.j0 k (n:Int) nar (t+1) (decide (z < 0)) (dgs z.natAbs) g x45 p.kd p.ng p.sc (p.fr:Int) q.kd q.ng q.sc (q.fr:Int)) (((n:Int),(depS n nar z p q g).1,t+1,decide ((depS n nar z p q g).2 < 0),dgs (depS n nar z p q g).2.natAbs),(),true):=by
  intro x45 hx
  refine evs ?_
  simp only [vr15_Acc_Put.j0]
  by_cases hk:p.kd=2∨q.kd=2
  ·rw [decide_eq_true hk] at hx
   subst hx
   simp only [if_true]
   have h:=j1 true 0 p.kd q.kd (fun _=>rfl) (RB_pos) rfl rfl (fun _=>rfl)
   have e:depS n true 0 p q g=depS n nar z p q g:=by unfold depS;rw [if_pos (.inl rfl),if_pos (.inr hk)]
   rw [e,show decide ((0:Int) < 0)=false by decide,show (0:Int).natAbs=0 from rfl,dgs_zero] at h
   exact h
  ·rw [decide_eq_false hk] at hx
   subst hx
   simp only [Bool.false_eq_true,if_false]
   exact j1 nar z p.kd q.kd hz hzb rfl rfl (fun h=>absurd h hk)
 by_cases hk:p.kd=2
 ·simp only [if_pos hk]
  have:=j0 true (by simp [hk])
  exact this
 ·simp only [if_neg hk]
  refine j0 _ ?_
  rw [beq_dec]
  simp [hk]
theorem ra_Round {n:Nat} {t z:Int} {nar:Bool} (hn:isW (n:Int)=true) (hz:z.natAbs < RB):Ev (fun k=>vr15_Acc_Round.f k (n:Int) nar t (decide (z < 0)) (dgs z.natAbs)) ((),(),((RD n nar z:Nat):Int)):=by
 have hnb:=isW_cases hn
 have lz:=dgs_len hz
 unfold vr15_Acc_Round.f RD
 cases nar
 ·have hx:Ev (fun k=>vr15_Acc_Exact.f k (n:Int) false t (decide (z < 0)) (dgs z.natAbs)) ((),(),((intX z (16 - 8*(n:Int))).kd,(intX z (16 - 8*(n:Int))).ng,(intX z (16 - 8*(n:Int))).sc,TH (intX z (16 - 8*(n:Int))).V,TL (intX z (16 - 8*(n:Int))).V,(intX z (16 - 8*(n:Int))).R)):=by
   unfold vr15_Acc_Exact.f
   have hw:wrap64 (16 - (wrap64 (8*(n:Int))))=16 - 8*(n:Int):=by rw [w64 (n:=8*(n:Int)) (by omega) (by omega),w64 (by omega) (by omega)]
   simp only [Bool.false_eq_true,if_false,hw]
   have h:=ref_Exactly_tup (ng:=decide (z < 0)) (R:=false) (dgs_DL z.natAbs) (by omega) (e:=16 - 8*(n:Int)) (by omega) (by omega)
   refine Ev.bind h ?_
   exact Ev.now _
  refine Ev.bind hx ?_
  refine Ev.bind (ref_Round_X hn (natX_ok _ _ _ _)) ?_
  exact Ev.now _
 ·have hx:Ev (fun k=>vr15_Acc_Exact.f k (n:Int) true t (decide (z < 0)) (dgs z.natAbs)) ((),(),(2,false,0,0,0,false)):=by
   unfold vr15_Acc_Exact.f
   simp only [if_true]
   exact Ev.now _
  refine Ev.bind hx ?_
  have h:=ref_Round_X (x:=EX.nar) hn (.inr (.inl rfl))
  have e:EX.nar.rnd n=2^(n - 1):=EX.rnd_nar n
  rw [e] at h
  refine Ev.bind h ?_
  exact Ev.now _
end Go.Proofs.YtbpcfhhcoklinaaGreat.V
namespace Go.Proofs.YtbpcfhhcoklinaaGreat.V
open Go Go.RowKit Go.Proofs.YtbpcfhhcoklinaaGreat.Ab Go.Proofs.YtbpcfhhcoklinaaGreat.Fn
theorem cap_RB {n u:Nat} (hn:isW (n:Int)=true) (hu:u≤2147483647*2^(16*n - 32)):u < RB:=by
 have h:=cap_units hn
 rw [HW_pow hn] at h
 have hnb:=isW_cases hn
 exact Nat.lt_trans (Nat.lt_of_le_of_lt hu h) (RB_lt (by omega))
theorem depS_bound {n a b t:Nat} {z:Int} {nar g:Bool} (h8:8≤n) (hn:n≤64) (hz:z.natAbs≤t*2^(16*n - 32)):(depS n nar z (decN n (a%2^n)) (decN n (b%2^n)) g).2.natAbs≤(t+1)*2^(16*n - 32):=by
 have h:=tm_bound (x:=((a:Int),((b:Int),false))) h8 hn
 unfold tmVal at h
 simp only [Bool.false_eq_true,if_false,Int.toNat_natCast] at h
 rw [Nat.succ_mul]
 unfold depS
 generalize prI n (decN n (a%2^n)) (decN n (b%2^n))=w at *
 generalize t*2^(16*n - 32)=T at *
 split
 ·show (0:Int).natAbs≤_
  rw [Int.natAbs_zero]
  omega
 ·cases g
  ·simp only [Bool.false_eq_true,if_false];omega
  ·simp only [if_true];omega
theorem ra_into {n:Nat} {a b:List Int} (hn:isW (n:Int)=true) (ha:∀ x∈a,inK .u64 x) (hb:∀ x∈b,inK .u64 x) (hl:a.length=b.length) (hlen:a.length < 4611686018427387904) {N:Bool} {Z:Int} {T:Int}:∀ (d i t:Nat) (nar:Bool) (z:Int),i+d=a.length→t+d≤2147483647→(t:Int)+d=T→(nar=true→z=0)→z.natAbs≤t*2^(16*n - 32)→finN n nar (tms ((a.zip b).drop i))=N→finZ n nar z (tms ((a.zip b).drop i))=Z →
  Ev (fun k=>vr20_Into.l0 k (n:Int) nar (t:Int) (decide (z < 0)) (dgs z.natAbs) a b (i:Int)) (((n:Int),N,T,decide (Z < 0),dgs Z.natAbs),(),0):=by
 obtain ⟨b64,b8⟩:=pow64 hn
 have hzl:(a.zip b).length=a.length:=by rw [List.length_zip];omega
 intro d
 induction d with
 | zero =>
  intro i t nar z hi ht hT hz hb h1 h2
  have c1:¬ ((i:Int) < ((a.length:Nat):Int)):=by omega
  have:(a.zip b).drop i=[]:=List.drop_eq_nil_of_le (by omega)
  rw [this] at h1 h2
  obtain ⟨e1,e2⟩:=fin_nil (n:=n) hz
  rw [show tms []=[] from rfl] at h1 h2
  rw [e1] at h1
  rw [e2] at h2
  subst h1
  subst h2
  have e3:(t:Int)=T:=by omega
  subst e3
  refine evs ?_
  simp only [vr20_Into.l0,nI_eq,if_neg c1]
  exact Ev.now _
 | succ d ih =>
  intro i t nar z hi ht hT hz hbd h1 h2
  have hia:i < a.length:=by omega
  have hib:i < b.length:=by omega
  have c1:(i:Int) < ((a.length:Nat):Int):=by omega
  have c2:(0:Int)≤(i:Int):=by omega
  have c3:(i:Int) < ((b.length:Nat):Int):=by omega
  have hw:wrap64 ((i:Int)+1)=((i+1:Nat):Int):=by rw [w64 (by omega) (by omega)];omega
  obtain ⟨x,hx,hx64⟩:=u64_of_inK (ha _ (List.getElem_mem hia))
  obtain ⟨y,hy,hy64⟩:=u64_of_inK (hb _ (List.getElem_mem hib))
  have hd:(a.zip b).drop i=((x:Int),(y:Int)) :: (a.zip b).drop (i+1):=by
   rw [List.drop_eq_getElem_cons (by omega),List.getElem_zip,hx,hy]
  have hd2:tms ((a.zip b).drop i)=((x:Int),((y:Int),false)) :: tms ((a.zip b).drop (i+1)):=by rw [hd];rfl
  rw [hd2] at h1 h2
  obtain ⟨e1,e2⟩:=dep_fin (n:=n) (nar:=nar) (take:=false) (z:=z) (a:=x) (b:=y) (L:=tms ((a.zip b).drop (i+1)))
  have hzb:z.natAbs < RB:=cap_RB hn (Nat.le_trans hbd (Nat.mul_le_mul_right _ (by omega)))
  have hp:=ra_Put (t:=(t:Int)) (g:=false) hn (by omega) (by omega) hx64 hy64 hz hzb
  refine evs ?_
  simp only [vr20_Into.l0,nI_eq,if_pos c1,if_pos c2,if_pos c3,rd_at hia,rd_at hib,hx,hy,hw]
  refine Ev.bind hp ?_
  exact ih (i+1) (t+1) _ _ (by omega) (by omega) (by omega) depS_nar (depS_bound b8 b64 hbd) (e1.trans h1) (e2.trans h2)
theorem ra_Into {n t:Nat} {a b:List Int} {nar:Bool} {z:Int} (hn:isW (n:Int)=true) (ha:∀ x∈a,inK .u64 x) (hb:∀ x∈b,inK .u64 x) (hl:a.length=b.length) (ht:t+a.length≤2147483647) (hz:nar=true→z=0) (hbd:z.natAbs≤t*2^(16*n - 32)):
  Ev (fun k=>vr20_Into.f k (n:Int) nar (t:Int) (decide (z < 0)) (dgs z.natAbs) a b) (((n:Int),finN n nar (tms (a.zip b)),(t:Int)+a.length,decide (finZ n nar z (tms (a.zip b)) < 0),dgs (finZ n nar z (tms (a.zip b))).natAbs),(),0):=by
 unfold vr20_Into.f
 have hw:wrap64 (2147483647 - (t:Int))=2147483647 - (t:Int):=w64 (by omega) (by omega)
 have hc:(nI a.length)=(nI b.length):=by rw [hl]
 simp only [if_pos hc,hw]
 simp only [nI_eq,if_neg (show ¬ (((a.length:Nat):Int) > 2147483647 - (t:Int)) by omega)]
 exact ra_into hn ha hb hl (by omega) a.length 0 t nar z (by omega) (by omega) rfl hz hbd rfl rfl
theorem ra_Into_full {n:Int} {t:Int} {a b:List Int} {nar ng:Bool} {s:List Int} (hl:a.length=b.length) (ht0:0≤t) (ht1:t≤2147483647) (ht:2147483647 < t+a.length):
  Ev (fun k=>vr20_Into.f k n nar t ng s a b) ((n,nar,t,ng,s),(),11):=by
 unfold vr20_Into.f
 have hw:wrap64 (2147483647 - t)=2147483647 - t:=w64 (by omega) (by omega)
 have hc:(nI a.length)=(nI b.length):=by rw [hl]
 simp only [if_pos hc,hw]
 simp only [nI_eq,if_pos (show (((a.length:Nat):Int) > 2147483647 - t) by omega)]
 exact Ev.now _
theorem ra_Into_len {n:Int} {t:Int} {a b:List Int} {nar ng:Bool} {s:List Int} (hl:¬ a.length=b.length):
  Ev (fun k=>vr20_Into.f k n nar t ng s a b) ((n,nar,t,ng,s),(),15):=by
 unfold vr20_Into.f
 simp only [nI_eq,if_neg (show ¬ ((a.length:Nat):Int)=((b.length:Nat):Int) by omega)]
 exact Ev.now _
end Go.Proofs.YtbpcfhhcoklinaaGreat.V
namespace Go.Proofs.YtbpcfhhcoklinaaGreat.V
open Go Go.RowKit Go.Proofs.YtbpcfhhcoklinaaGreat.Ab Go.Proofs.YtbpcfhhcoklinaaGreat.Fn
def wv:List Int→Nat
 | []=>0
 | d :: l=>d.toNat+18446744073709551616*wv l
theorem wv_lt:∀ {l:List Int},(∀ x∈l,inK .u64 x)→wv l < PW l.length
 | [],_=>by rw [List.length_nil,PW_zero];exact Nat.one_pos
 | d :: l,h=>by
  have h1:=wv_lt (l:=l) (fun x hx=>h x (List.mem_cons_of_mem _ hx))
  obtain ⟨a,rfl,ha⟩:=u64_of_inK (h d List.mem_cons_self)
  show (a:Int).toNat+18446744073709551616*wv l < PW (l.length+1)
  rw [PW_succ,Int.toNat_natCast]
  omega
theorem dgt_cons (d X i:Nat) (hd:d < 18446744073709551616):dgt (d+18446744073709551616*X) (i+1)=dgt X i:=by
 unfold dgt
 have e:PW (i+1)=18446744073709551616*PW i:=by rw [PW_succ,Nat.mul_comm]
 rw [e,← Nat.div_div_eq_div_mul]
 congr 2
 omega
theorem wv_dgt:∀ {l:List Int} {i:Nat} (h:i < l.length),(∀ x∈l,inK .u64 x)→((dgt (wv l) i:Nat):Int)=l[i]
 | d :: l,0,_,h=>by
  obtain ⟨a,rfl,ha⟩:=u64_of_inK (h d List.mem_cons_self)
  show ((dgt ((a:Int).toNat+18446744073709551616*wv l) 0:Nat):Int)=(a:Int)
  unfold dgt
  rw [PW_zero,Nat.div_one,Int.toNat_natCast]
  congr 1
  omega
 | d :: l,i+1,hi,h=>by
  obtain ⟨a,rfl,ha⟩:=u64_of_inK (h d List.mem_cons_self)
  show ((dgt ((a:Int).toNat+18446744073709551616*wv l) (i+1):Nat):Int)=l[i]'(by simpa using hi)
  rw [Int.toNat_natCast,dgt_cons _ _ _ ha]
  exact wv_dgt (by simpa using hi) (fun x hx=>h x (List.mem_cons_of_mem _ hx))
theorem ws_get {V i:Nat} (h:i < (ws V).length):(ws V)[i]=((dgt V i:Nat):Int):=by
 have h16:i < 16:=by rw [ws_len] at h;exact h
 unfold ws dgt
 simp
theorem ws_of {l:List Int} (hl:l.length≤16) (h:∀ x∈l,inK .u64 x):l.take 16++(ws 0).drop (l.take 16).length=ws (wv l):=by
 rw [List.take_of_length_le hl]
 apply List.ext_getElem
 ·rw [List.length_append,List.length_drop,ws_len,ws_len];omega
 ·intro i h1 h2
  rw [ws_get h2]
  by_cases hi:i < l.length
  ·rw [List.getElem_append_left hi,wv_dgt hi h]
  ·rw [List.getElem_append_right (by omega),List.getElem_drop,ws_get]
   have hz:dgt (wv l) i=0:=dgt_zero (Nat.lt_of_lt_of_le (wv_lt h) (PW_le (by omega)))
   have hz2:∀ j,dgt 0 j=0:=fun j=>dgt_zero (PW_pos j)
   rw [hz,hz2]
def zOf (s V:Nat):Int:=if HW s≤V then (V:Int) - PW s else V
theorem zOf_mag {s V:Nat} (hV:V < PW s):(zOf s V).natAbs=if HW s≤V then PW s - V else V:=by
 unfold zOf
 split <;> omega
theorem zOf_neg {s V:Nat} (hV:V < PW s):decide (zOf s V < 0)=decide (HW s≤V):=by
 unfold zOf
 by_cases h:HW s≤V
 ·rw [if_pos h,decide_eq_true h]
  exact decide_eq_true (by omega)
 ·rw [if_neg h,decide_eq_false h]
  exact decide_eq_false (by omega)
theorem zOf_enc {s V:Nat} (hV:V < PW s):enc s (zOf s V)=V:=by
 unfold zOf
 split
 ·exact enc_eq hV ⟨-1,by omega⟩
 ·exact enc_eq hV ⟨0,by omega⟩
theorem mod_PW (M i:Nat):M%PW (i+1)=M%PW i+PW i*dgt M i:=by
 unfold dgt
 rw [PW_succ,Nat.mod_mul]
theorem zero_split {a b p d:Nat} (hp:0 < p):(a+p*d=0)↔a=0∧d=0:=by
 constructor
 ·intro h
  have h1:a=0:=by omega
  have h2:p*d=0:=by omega
  refine ⟨h1, ?_⟩
  rcases Nat.mul_eq_zero.1 h2 with h3 | h3
  ·omega
  ·exact h3
 ·rintro ⟨rfl,rfl⟩
  simp
theorem room_l {M s:Nat} {T:Int} (hs:s≤16) (hT:T=(s:Int)):∀ (d i:Nat),i+d=s→M%PW i=0→Ev (fun k=>accum_Acc_room.l0 k T (i:Int) T (ws M)) ((),(),decide (M%PW s=0)):=by
 subst hT
 intro d
 induction d with
 | zero =>
  intro i hi hm
  have:i=s:=by omega
  subst this
  refine evs ?_
  simp only [accum_Acc_room.l0,if_neg (show ¬ ((i:Int) < (i:Int)) by omega),decide_eq_true hm]
  exact Ev.now _
 | succ d ih =>
  intro i hi hm
  have hw:wrap64 ((i:Int)+1)=((i+1:Nat):Int):=by rw [w64 (by omega) (by omega)];omega
  refine evs ?_
  simp only [accum_Acc_room.l0,if_pos (show ((i:Int) < (s:Int)) by omega),if_pos (show (0:Int)≤(i:Int) by omega),rd_dgt (show i < 16 by omega),hw]
  by_cases h0:dgt M i=0
  ·have e:((dgt M i:Nat):Int)=0:=by rw [h0];rfl
   simp only [if_pos e]
   exact ih (i+1) (by omega) (by rw [mod_PW,hm,h0];simp)
  ·have e:¬ ((dgt M i:Nat):Int)=0:=by omega
   simp only [if_neg e]
   have hne:¬ M%PW s=0:=by
    intro hz
    have hd:PW (i+1) ∣ PW s:=PW_dvd (by omega)
    have h1:M%PW (i+1)=0:=Nat.mod_eq_zero_of_dvd (Nat.dvd_trans hd (Nat.dvd_of_mod_eq_zero hz))
    rw [mod_PW,hm] at h1
    exact h0 (((zero_split (b:=0) (PW_pos i)).1 (by omega)).2)
   rw [decide_eq_false hne]
   exact Ev.now _
theorem le_units {M T p q:Nat} (hp:0 < p) (hd:M / p=q):(M≤T*(p*4294967296))↔(q / 4294967296 < T∨(q / 4294967296=T∧q%4294967296=0∧M%p=0)):=by
 have h1:M=p*q+M%p:=by rw [← hd];exact (Nat.div_add_mod M p).symm
 have h2:q=4294967296*(q / 4294967296)+q%4294967296:=(Nat.div_add_mod q 4294967296).symm
 have hlt:=Nat.mod_lt M hp
 have hl2:=Nat.mod_lt q (show 0 < 4294967296 by decide)
 generalize q / 4294967296=a at *
 generalize q%4294967296=b at *
 generalize M%p=c at *
 have e:T*(p*4294967296)=p*(4294967296*T):=by rw [Nat.mul_left_comm,Nat.mul_comm T 4294967296]
 rw [e,h1]
 constructor
 ·intro h
  by_cases ha:a < T
  ·exact .inl ha
  ·right
   have hle:q≤4294967296*T:=by
    rcases Nat.lt_or_ge (4294967296*T) q with hc | hc
    ·have:=Nat.mul_le_mul_left p (show 4294967296*T+1≤q from hc)
     rw [Nat.mul_add] at this
     omega
    ·exact hc
   have hq:q=4294967296*T:=by omega
   have hc0:c=0:=by rw [hq] at h;omega
   exact ⟨by omega,by omega,hc0⟩
 ·rintro (h | ⟨h,hb,hc⟩)
  ·have hq:q+1≤4294967296*T:=by omega
   have:=Nat.mul_le_mul_left p hq
   rw [Nat.mul_add] at this
   omega
  ·have hq:q=4294967296*T:=by omega
   rw [hq,hc]
   exact Nat.le_refl _
theorem room_eq {n V T:Nat} {nar:Bool} (hn:isW (n:Int)=true) (hV:V < PW (n / 4)) (hT:T≤2147483647):
  Ev (fun k=>accum_Acc_room.f k (n:Int) nar (T:Int) (ws V)) ((),(),decide ((if HW (n / 4)≤V then PW (n / 4) - V else V)≤T*2^(16*n - 32))):=by
 unfold accum_Acc_room.f
 have hm:=magnitude_eq hn hV nar (T:Int)
 refine Ev.bind hm ?_
 have hMlt:(if HW (n / 4)≤V then PW (n / 4) - V else V) < PW (n / 4):=by
  have:=HW_pos (n / 4)
  split <;> omega
 generalize (if HW (n / 4)≤V then PW (n / 4) - V else V)=M at *
 obtain ⟨s,hs⟩:∃ s,n / 4=s+1:=⟨n / 4 - 1,by have:=size_bounds hn;omega⟩
 have hnb:=isW_cases hn
 have hs16:s < 16:=by omega
 rw [hs] at hMlt
 have hsz:=size_eq hn nar (T:Int) (ws V)
 rw [hs] at hsz
 have e1:wrap64 (wrap64 (16*(n:Int)) - 32)=((64*s+32:Nat):Int):=by
  rw [w64 (n:=16*(n:Int)) (by omega) (by omega),w64 (by omega) (by omega)];omega
 have e2:wrap64 (Int.tdiv ((64*s+32:Nat):Int) 64)=(s:Int):=by
  rw [Int.tdiv_eq_ediv_of_nonneg (by omega),w64 (by omega) (by omega)];omega
 have e3:Int.tmod ((64*s+32:Nat):Int) 64=32:=by
  rw [Int.tmod_eq_emod_of_nonneg (by omega)];omega
 have e4:decide (wrap64 ((s:Int)+1) < ((s+1:Nat):Int))=false:=decide_eq_false (by rw [w64 (by omega) (by omega)];omega)
 have c1:(0:Int)≤(s:Int):=by omega
 have c2:(s:Int) < 16:=by omega
 have hdl:=dgt_lt M s
 have hshr:shr .u64 ((dgt M s:Nat):Int) 32=((dgt M s / 4294967296:Nat):Int):=by
  have:=shr_nat (dgt M s) 32 (by decide)
  exact this
 have hshl:shl .u64 ((dgt M s:Nat):Int) 32=((dgt M s%4294967296*4294967296:Nat):Int):=by
  have:=shl_nat (dgt M s) 32 (by decide)
  have e:dgt M s*2^32%18446744073709551616=dgt M s%4294967296*4294967296:=by omega
  rw [e] at this
  exact this
 have e5:wrap64 (64 - (32:Int))=32:=by rw [show (64 - (32:Int))=32 by decide];exact w64 (by omega) (by omega)
 have hpow:2^(16*n - 32)=PW s*4294967296:=by
  rw [PW_two,show (4294967296:Nat)=2^32 by decide,← Nat.pow_add]
  exact pow_congr (by omega)
 have hq:M / PW s=dgt M s:=(top_dgt hMlt).symm
 have hle:=le_units (T:=T) (PW_pos s) hq
 rw [← hpow] at hle
 have hwt:IntKind.u64.wrap (T:Int)=(T:Int):=u64_of (by omega) (by omega)
 simp only [e1,e2,e3,if_pos c1,if_pos c2,if_pos (show (0:Int)≤32 by decide),if_pos (show (32:Int) > 0 by decide),hsz,Option.bind_some,e4,rd_dgt hs16,hshr]
 refine evs ?_
 simp only [accum_Acc_room.j0,Bool.false_eq_true,if_false]
 refine evs ?_
 simp only [accum_Acc_room.j1,hwt,e2,e3,e5,if_pos c1,if_pos c2,if_pos (show (0:Int)≤32 by decide),if_pos (show (32:Int) > 0 by decide),rd_dgt hs16,hshl]
 by_cases hT1:((dgt M s / 4294967296:Nat):Int)=(T:Int)
 ·simp only [if_pos hT1]
  refine evs ?_
  simp only [accum_Acc_room.j2,e2]
  by_cases hb:dgt M s%4294967296=0
  ·have e6:((((dgt M s%4294967296*4294967296:Nat):Int)) != 0)=false:=by rw [hb];rfl
   simp only [e6,Bool.false_eq_true,if_false,if_pos c1,if_pos (show (s:Int)≤16 by omega)]
   have:=room_l (M:=M) (s:=s) (T:=(s:Int)) (by omega) rfl s 0 (by omega) (by rw [PW_zero];exact Nat.mod_one M)
   have e7:decide (M%PW s=0)=decide (M≤T*2^(16*n - 32)):=by
    rw [decide_eq_decide,hle]
    constructor
    ·intro h
     exact .inr ⟨by omega,hb,h⟩
    ·rintro (h | ⟨-, -,h⟩)
     ·omega
     ·exact h
   rw [e7] at this
   exact this
  ·have e6:((((dgt M s%4294967296*4294967296:Nat):Int)) != 0)=true:=by
    simp only [bne_iff_ne,ne_eq]
    omega
   simp only [e6,if_true]
   have e7:decide (M≤T*2^(16*n - 32))=false:=decide_eq_false fun h=>by
    rcases hle.1 h with h | ⟨-,h, -⟩
    ·omega
    ·exact hb h
   rw [e7]
   exact Ev.now _
 ·simp only [if_neg hT1]
  have e7:decide (((dgt M s / 4294967296:Nat):Int) < (T:Int))=decide (M≤T*2^(16*n - 32)):=by
   rw [decide_eq_decide,hle]
   constructor
   ·intro h
    exact .inl (by omega)
   ·rintro (h | ⟨h, -, -⟩)
    ·omega
    ·omega
  rw [e7]
  exact Ev.now _
theorem PW_RB {s:Nat} (h:s≤16):PW s < RB:=by
 rw [PW_two]
 exact RB_lt (by omega)
theorem dgs_one:dgs 1=[1]:=by
 rw [dgs,dif_neg (by decide)]
 rw [show 1 / 16777216=0 by decide,dgs_zero]
 rfl
theorem ra_Meant_l {l:List Int} (hl:l.length≤16) (h:∀ x∈l,inK .u64 x):∀ (i:Nat),i≤l.length→Ev (fun k=>vr04_Meant.l0 k l (dgs (wv (l.drop i))) ((i:Int) - 1)) (dgs (wv l)):=by
 intro i
 induction i with
 | zero =>
  intro _
  refine evs ?_
  simp only [vr04_Meant.l0,if_neg (show ¬ ((0:Nat):Int) - 1≥0 by omega),List.drop_zero]
  exact Ev.now _
 | succ i ih =>
  intro hi
  have hil:i < l.length:=hi
  have e1:((i+1:Nat):Int) - 1=(i:Int):=by omega
  obtain ⟨a,hx,ha⟩:=u64_of_inK (h _ (List.getElem_mem hil))
  have hd:l.drop i=(a:Int) :: l.drop (i+1):=by rw [← hx];exact List.drop_eq_getElem_cons hil
  have hX:wv (l.drop (i+1)) < PW 16:=Nat.lt_of_lt_of_le (wv_lt (fun x hx=>h x (List.mem_of_mem_drop hx))) (PW_le (by rw [List.length_drop];omega))
  have hw:wv (l.drop i)=wv (l.drop (i+1))*2^64+a:=by
   rw [hd]
   show (a:Int).toNat+18446744073709551616*wv (l.drop (i+1))=_
   rw [Int.toNat_natCast,p64,Nat.mul_comm (wv _)]
   omega
  have hY:wv (l.drop i) < PW 16:=Nat.lt_of_lt_of_le (wv_lt (fun x hx=>h x (List.mem_of_mem_drop hx))) (PW_le (by rw [List.length_drop];omega))
  have l1:=dgs_len (Nat.lt_trans hX (PW_RB (Nat.le_refl _)))
  have l2:(dgs (wv (l.drop (i+1))*2^64)).length≤50:=dgs_len (Nat.lt_of_le_of_lt (by omega) (Nat.lt_trans hY (PW_RB (Nat.le_refl _))))
  have l3:(dgs a).length≤50:=dgs_len (Nat.lt_trans ha (by rw [← p64];exact RB_lt (by decide)))
  have hwp:wrap64 ((i:Int) - 1)=(i:Int) - 1:=w64 (by omega) (by omega)
  refine evs ?_
  simp only [vr04_Meant.l0,nI_eq,e1,if_pos (show (i:Int)≥0 by omega),if_pos (show (0:Int)≤(i:Int) by omega),if_pos (show (i:Int) < (l.length:Int) by omega),rd_at hil,hx,hwp]
  refine Ev.bind (ev_dgs (r4_Shl (dgs_DL _) (k:=64) (by decide) (by omega))) ?_
  refine Ev.bind (ev_dgs (r4_Of a ha)) ?_
  refine Ev.bind (ev_dgs (r4_Add (dgs_DL _) (dgs_DL a) (by omega) (by omega))) ?_
  rw [← hw]
  exact ih (by omega)
theorem ra_Meant {l:List Int} (hl:l.length≤16) (h:∀ x∈l,inK .u64 x):Ev (fun k=>vr04_Meant.f k l) (dgs (wv l)):=by
 unfold vr04_Meant.f
 have hw:wrap64 ((nI l.length) - 1)=((l.length:Nat):Int) - 1:=by rw [nI_eq];exact w64 (by omega) (by omega)
 have:=ra_Meant_l hl h l.length (Nat.le_refl _)
 rw [List.drop_eq_nil_of_le (Nat.le_refl _)] at this
 simp only [hw]
 rw [show wv []=0 from rfl,dgs_zero] at this
 exact this
theorem ra_signed {l:List Int} {s:Nat} (hs:l.length=s) (h1:0 < s) (h16:s≤16) (h:∀ x∈l,inK .u64 x):Ev (fun k=>vr15_signed.f k l) (decide (HW s≤wv l),dgs (if HW s≤wv l then PW s - wv l else wv l)):=by
 have hV:wv l < PW s:=by rw [← hs];exact wv_lt h
 have htop:=top_bitW h1 hV
 have hP:=PW_RB h16
 have hsl:s - 1 < l.length:=by omega
 have hwd:=wv_dgt hsl h
 have hw:wrap64 (((s:Nat):Int) - 1)=((s - 1:Nat):Int):=by rw [w64 (by omega) (by omega)];omega
 unfold vr15_signed.f
 refine Ev.bind (ra_Meant (by omega) h) ?_
 simp only [nI_eq,hs,if_neg (show ¬ ((s:Nat):Int)=0 by omega),hw,if_pos (show (0:Int)≤((s - 1:Nat):Int) by omega),if_pos (show ((s - 1:Nat):Int) < ((s:Nat):Int) by omega),rd_at hsl]
 rw [← hwd]
 have hdl:=dgt_lt (wv l) (s - 1)
 by_cases hH:HW s≤wv l
 ·rw [if_pos hH] at htop
  have e:¬ (((dgt (wv l) (s - 1):Nat):Int) < 9223372036854775808):=by omega
  rw [decide_eq_false e,decide_eq_true hH,if_pos hH]
  have e64:wrap64 (64*((s:Nat):Int))=((64*s:Nat):Int):=by rw [w64 (by omega) (by omega)];omega
  have eP:1*2^(64*s)=PW s:=by rw [Nat.one_mul,PW_two]
  have lP:=dgs_len hP
  have hsh:=ev_dgs (r4_Shl (dgs_DL 1) (k:=64*s) (by omega) (by rw [dgs_one];decide))
  rw [eP,dgs_one] at hsh
  refine evs ?_
  simp only [vr15_signed.j0,Bool.false_eq_true,if_false,nI_eq,hs,e64]
  refine Ev.bind hsh ?_
  refine Ev.bind (ev_dgs (r4_Sub (dgs_DL (PW s)) (dgs_DL (wv l)) (by omega) (by omega))) ?_
  exact Ev.now _
 ·rw [if_neg hH] at htop
  have e:((dgt (wv l) (s - 1):Nat):Int) < 9223372036854775808:=by omega
  rw [decide_eq_true e,decide_eq_false hH,if_neg hH]
  refine evs ?_
  simp only [vr15_signed.j0,if_true]
  exact Ev.now _
def LoadNo (n:Int) (nar:Bool) (t:Int) (w:List Int) (c:Int):Prop:=
 Ev (fun k=>accum_Load.f k n nar t w) ((),(false,(0,false,0,([]:List Int))),some c)∧Ev (fun k=>vr15_Load.f k n nar t w) ((),(false,(0,false,0,false,([]:List Int))),c)
def LoadYes (n:Nat) (nar:Bool) (T:Nat) (w:List Int) (z:Int):Prop:=
 Ev (fun k=>accum_Load.f k (n:Int) nar (T:Int) w) ((),(true,((n:Int),nar,(T:Int),ws (enc (n / 4) z))),none)∧Ev (fun k=>vr15_Load.f k (n:Int) nar (T:Int) w) ((),(true,((n:Int),nar,(T:Int),decide (z < 0),dgs z.natAbs)),0)
theorem load_no {n t:Int} {nar:Bool} {w:List Int} (hn:isW n=false):LoadNo n nar t w 2:=by
 constructor
 ·unfold accum_Load.f
  refine Ev.bind (New_no hn) ?_
  simp only [Bool.false_eq_true,if_false,Option.isNone_some,Option.getD_some]
  exact Ev.now _
 ·unfold vr15_Load.f
  simp only [ref_Is_eq,hn,Option.bind_some,Bool.false_eq_true,if_false]
  exact Ev.now _
theorem load_bad {n:Nat} {t:Int} {nar:Bool} {w:List Int} (hn:isW (n:Int)=true) (h:t < 0∨2147483647 < t∨w.length≠n / 4) (hl:w.length < 4611686018427387904):LoadNo (n:Int) nar t w 12:=by
 have hnb:=isW_cases hn
 have hq:wrap64 (Int.tdiv (n:Int) 4)=((n / 4:Nat):Int):=by
  have:Int.tdiv (n:Int) 4=((n / 4:Nat):Int):=by rw [Int.tdiv_eq_ediv_of_nonneg (by omega)];omega
  rw [this]
  exact w64 (by omega) (by omega)
 have ja:∀ (a:Bool) (b:Int) (c:List Int) (d:Int) (e:List Int),Ev (fun k=>accum_Load.j0 k true a b c d e) ((),(false,(0,false,0,([]:List Int))),some 12):=by
  intro a b c d e
  refine evs ?_
  simp only [accum_Load.j0,if_true]
  exact Ev.now _
 have jb:∀ (a:Int) (b:Bool) (c:Int) (d:List Int),Ev (fun k=>vr15_Load.j0 k true a b c d) ((),(false,(0,false,0,false,([]:List Int))),12):=by
  intro a b c d
  refine evs ?_
  simp only [vr15_Load.j0,if_true]
  exact Ev.now _
 constructor
 ·unfold accum_Load.f
  refine Ev.bind (New_eq hn) ?_
  simp only [if_true,Option.isNone_none]
  by_cases h0:t < 0
  ·simp only [if_pos h0];exact ja _ _ _ _ _
  ·simp only [if_neg h0]
   by_cases h1:t > 2147483647
   ·simp only [if_pos h1];exact ja _ _ _ _ _
   ·have h2:w.length≠n / 4:=by omega
    have e:(((w.length:Nat):Int) != ((n / 4:Nat):Int))=true:=by simp only [bne_iff_ne,ne_eq];omega
    simp only [if_neg h1,size_eq hn,Option.bind_some,nI_eq,e]
    exact ja _ _ _ _ _
 ·unfold vr15_Load.f
  simp only [ref_Is_eq,hn,Option.bind_some,if_true]
  by_cases h0:t < 0
  ·simp only [if_pos h0];exact jb _ _ _ _
  ·simp only [if_neg h0]
   by_cases h1:t > 2147483647
   ·simp only [if_pos h1];exact jb _ _ _ _
   ·have h2:w.length≠n / 4:=by omega
    have e:(((w.length:Nat):Int) != ((n / 4:Nat):Int))=true:=by simp only [bne_iff_ne,ne_eq];omega
    simp only [if_neg h1,nI_eq,hq,e]
    exact jb _ _ _ _
theorem load_sound {n T:Nat} {nar:Bool} {w:List Int} (hn:isW (n:Int)=true) (hT:T≤2147483647) (hw:w.length=n / 4) (hin:∀ x∈w,inK .u64 x):
  LoadNo (n:Int) nar (T:Int) w 12∨∃ z:Int,LoadYes n nar T w z∧(nar=true→z=0)∧z.natAbs≤T*2^(16*n - 32):=by
 have hnb:=isW_cases hn
 obtain ⟨hs1,hs2⟩:=size_bounds hn
 have hV:wv w < PW (n / 4):=by rw [← hw];exact wv_lt hin
 have hq:wrap64 (Int.tdiv (n:Int) 4)=((n / 4:Nat):Int):=by
  have:Int.tdiv (n:Int) 4=((n / 4:Nat):Int):=by rw [Int.tdiv_eq_ediv_of_nonneg (by omega)];omega
  rw [this]
  exact w64 (by omega) (by omega)
 have hsg:=ra_signed hw (by omega) hs2 hin
 have hmag:=zOf_mag hV
 have hneg:=zOf_neg hV
 have henc:=zOf_enc hV
 rw [← hmag,← hneg] at hsg
 have hroom:=room_eq (nar:=nar) hn hV hT
 rw [← hmag] at hroom
 have hwsof:w.take 16++(ws 0).drop (w.take 16).length=ws (wv w):=ws_of (by omega) hin
 generalize hz:zOf (n / 4) (wv w)=z at *
 have hzRB:z.natAbs < RB:=by
  have:=PW_RB hs2
  have:=HW_pos (n / 4)
  rw [hmag]
  split <;> omega
 have lz:=dgs_len hzRB
 have c1:¬ ((T:Int) < 0):=by omega
 have c2:¬ ((T:Int) > 2147483647):=by omega
 -- the program,down to its last join
 have prog:∀ r,Ev (fun k=>accum_Load.j0 k false nar (T:Int) w (n:Int) (ws 0)) r→Ev (fun k=>accum_Load.f k (n:Int) nar (T:Int) w) r:=by
  intro r hr
  unfold accum_Load.f
  refine Ev.bind (New_eq hn) ?_
  simp only [if_true,Option.isNone_none,if_neg c1,if_neg c2,size_eq hn,Option.bind_some,nI_eq,hw,bne_self_eq_false]
  exact hr
 have refr:∀ r,Ev (fun k=>vr15_Load.j0 k false (n:Int) nar (T:Int) w) r→Ev (fun k=>vr15_Load.f k (n:Int) nar (T:Int) w) r:=by
  intro r hr
  unfold vr15_Load.f
  simp only [ref_Is_eq,hn,Option.bind_some,if_true,if_neg c1,if_neg c2,nI_eq,hw,hq,bne_self_eq_false]
  exact hr
 cases nar
 ·-- a number
  have hP:2^(16*n - 32) < RB:=RB_lt (by omega)
  have hcapRB:T*2^(16*n - 32) < RB:=cap_RB hn (Nat.mul_le_mul_right _ hT)
  have lc:=dgs_len hcapRB
  have lT:(dgs T).length≤50:=dgs_len (Nat.lt_of_le_of_lt (Nat.le_mul_of_pos_right T (two_pos (16*n - 32))) hcapRB)
  have hwT:IntKind.u64.wrap (T:Int)=(T:Int):=u64_of (by omega) (by omega)
  have hsh:wrap64 (wrap64 (16*(n:Int)) - 32)=((16*n - 32:Nat):Int):=by
   rw [w64 (n:=16*(n:Int)) (by omega) (by omega),w64 (by omega) (by omega)];omega
  have hOf:=ev_dgs (r4_Of T (by omega))
  have hShl:=ev_dgs (r4_Shl (dgs_DL T) (k:=16*n - 32) (by omega) (by omega))
  have hCmp:=r4_Cmp (dgs_DL z.natAbs) (dgs_DL (T*2^(16*n - 32))) (by omega) (by omega)
  by_cases hle:z.natAbs≤T*2^(16*n - 32)
  ·right
   refine ⟨z,⟨?_, ?_⟩,(fun h=>by cases h),hle⟩
   ·refine prog _ (evs ?_)
    simp only [accum_Load.j0,Bool.false_eq_true,if_false,hwsof]
    refine Ev.bind hroom ?_
    rw [decide_eq_true hle]
    simp only [if_true]
    rw [henc]
    exact Ev.now _
   ·refine refr _ (evs ?_)
    simp only [vr15_Load.j0,Bool.false_eq_true,if_false,hwT,hsh]
    refine Ev.bind hsg (Ev.bind hOf (Ev.bind hShl (Ev.bind hCmp ?_)))
    have hc:¬ cmpN z.natAbs (T*2^(16*n - 32)) > 0:=by
     unfold cmpN
     split
     ·decide
     ·split
      ·decide
      ·omega
    simp only [if_neg hc]
    exact Ev.now _
  ·left
   refine ⟨?_, ?_⟩
   ·refine prog _ (evs ?_)
    simp only [accum_Load.j0,Bool.false_eq_true,if_false,hwsof]
    refine Ev.bind hroom ?_
    rw [decide_eq_false hle]
    simp only [Bool.false_eq_true,if_false]
    exact Ev.now _
   ·refine refr _ (evs ?_)
    simp only [vr15_Load.j0,Bool.false_eq_true,if_false,hwT,hsh]
    refine Ev.bind hsg (Ev.bind hOf (Ev.bind hShl (Ev.bind hCmp ?_)))
    have hc:cmpN z.natAbs (T*2^(16*n - 32)) > 0:=by
     unfold cmpN
     rw [if_neg (by omega),if_neg (by omega)]
     decide
    simp only [if_pos hc]
    exact Ev.now _
 ·-- a NaR
  by_cases hT0:T=0
  ·left
   subst hT0
   refine ⟨?_, ?_⟩
   ·refine prog _ (evs ?_)
    simp only [accum_Load.j0,Bool.false_eq_true,if_false,if_true,if_pos (show ((0:Nat):Int)=0 from rfl)]
    exact Ev.now _
   ·refine refr _ (evs ?_)
    simp only [vr15_Load.j0,Bool.false_eq_true,if_false,if_true]
    refine Ev.bind hsg ?_
    simp only [if_pos (show ((0:Nat):Int)=0 from rfl)]
    refine evs ?_
    simp only [vr15_Load.j1,if_true]
    exact Ev.now _
  ·have hT1:¬ ((T:Int)=0):=by omega
   have hV16:wv w < PW 16:=Nat.lt_of_lt_of_le hV (PW_le hs2)
   have hz0:z=0↔wv w=0:=by
    have:=HW_pos (n / 4)
    constructor
    ·intro h
     have h1:=hmag
     rw [h] at h1
     split at h1
     ·rw [Int.natAbs_zero] at h1;omega
     ·rw [Int.natAbs_zero] at h1;omega
    ·intro h
     have h1:=hmag
     rw [h,if_neg (by omega)] at h1
     omega
   by_cases hz1:z=0
   ·right
    have hv0:=hz0.1 hz1
    refine ⟨z,⟨?_, ?_⟩,(fun _=>hz1),by rw [hz1];simp⟩
    ·refine prog _ (evs ?_)
     have hb:(ws (wv w)==([0,0,0,0,0,0,0,0,0,0,0,0,0,0,0,0]:List Int))=true:=by rw [hv0,ws_zero];decide
     simp only [accum_Load.j0,Bool.false_eq_true,if_false,if_true,if_neg hT1,hwsof,hb]
     refine Ev.bind hroom ?_
     have hle:z.natAbs≤T*2^(16*n - 32):=by rw [hz1];simp
     rw [decide_eq_true hle]
     simp only [if_true]
     rw [henc]
     exact Ev.now _
    ·refine refr _ (evs ?_)
     simp only [vr15_Load.j0,Bool.false_eq_true,if_false,if_true]
     refine Ev.bind hsg ?_
     have hd:decide ((nI (dgs z.natAbs).length) > 0)=false:=decide_eq_false (by rw [hz1];show ¬ (nI (dgs 0).length) > 0;rw [dgs_zero,nI_eq];decide)
     simp only [if_neg hT1,hd]
     refine evs ?_
     simp only [vr15_Load.j1,Bool.false_eq_true,if_false]
     have hd2:decide (z < 0)=false:=decide_eq_false (by omega)
     have hd3:dgs z.natAbs=[]:=by rw [hz1];exact dgs_zero
     rw [hd2,hd3]
     exact Ev.now _
   ·left
    refine ⟨?_, ?_⟩
    ·refine prog _ (evs ?_)
     have hb:(ws (wv w)==([0,0,0,0,0,0,0,0,0,0,0,0,0,0,0,0]:List Int))=false:=by
      refine beq_eq_false_iff_ne.2 fun h=>hz1 (hz0.2 (ws_inj_zero hV16 ?_))
      rw [ws_zero]
      exact h
     simp only [accum_Load.j0,Bool.false_eq_true,if_false,if_true,if_neg hT1,hwsof,hb]
     exact Ev.now _
    ·refine refr _ (evs ?_)
     simp only [vr15_Load.j0,Bool.false_eq_true,if_false,if_true]
     refine Ev.bind hsg ?_
     have hd:decide ((nI (dgs z.natAbs).length) > 0)=true:=decide_eq_true (by
      have:¬ (nI (dgs z.natAbs).length)=0:=fun h=>by have:=dgs_nil.1 h;omega
      rw [nI_eq] at this ⊢
      omega)
     simp only [if_neg hT1,hd]
     refine evs ?_
     simp only [vr15_Load.j1,if_true]
     exact Ev.now _
end Go.Proofs.YtbpcfhhcoklinaaGreat.V
namespace Go.Proofs.YtbpcfhhcoklinaaGreat.V
open Go Go.RowKit Go.Proofs.YtbpcfhhcoklinaaGreat.Ab Go.Proofs.YtbpcfhhcoklinaaGreat.Fn
def wl:Nat→Nat→List Int
 | 0,_=>[]
 | q+1,X=>((X%18446744073709551616:Nat):Int) :: wl q (X / 18446744073709551616)
theorem wl_len:∀ (q X:Nat),(wl q X).length=q
 | 0,_=>rfl
 | q+1,X=>by show (wl q _).length+1=_;rw [wl_len]
theorem dgt_div (X i:Nat):dgt X (i+1)=dgt (X / 18446744073709551616) i:=by
 unfold dgt
 have e:PW (i+1)=18446744073709551616*PW i:=by rw [PW_succ,Nat.mul_comm]
 rw [e,← Nat.div_div_eq_div_mul]
theorem wl_get:∀ (q X i:Nat) (h:i < (wl q X).length),(wl q X)[i]=((dgt X i:Nat):Int)
 | 0,X,i,h=>by rw [wl_len] at h;omega
 | q+1,X,0,_=>by
  show ((X%18446744073709551616:Nat):Int)=_
  unfold dgt
  rw [PW_zero,Nat.div_one]
 | q+1,X,i+1,h=>by
  rw [dgt_div]
  exact wl_get q (X / 18446744073709551616) i (by rw [wl_len] at h ⊢;omega)
theorem take_wl {E q:Nat} (hq:q≤16):(ws E).take q=wl q E:=by
 apply List.ext_getElem
 ·rw [List.length_take,ws_len,wl_len];omega
 ·intro i h1 h2
  rw [List.getElem_take,ws_get,wl_get]
theorem ra_State {n:Nat} {t z:Int} {nar:Bool} (hn:isW (n:Int)=true) (hz:z.natAbs≤2147483647*2^(16*n - 32)):
  Ev (fun k=>vr15_Acc_State.f k (n:Int) nar t (decide (z < 0)) (dgs z.natAbs)) ((),(),((n:Int),nar,t,(ws (enc (n / 4) z)).take (n / 4))):=by
 obtain ⟨hs1,hs2⟩:=size_bounds hn
 have hcap:=cap_units hn
 have hHW:z.natAbs < HW (n / 4):=Nat.lt_of_le_of_lt hz hcap
 have h2:=HW_two (s:=n / 4) (by omega)
 have hE:=enc_lt (n / 4) z
 have hP:=PW_RB hs2
 have h0:enc (n / 4) z < RB:=Nat.lt_trans hE hP
 have hW:∀ X:Nat,Ev (fun k=>vr04_Word.f k (dgs X)) ((X%18446744073709551616:Nat):Int):=fun X=>r4_Word (dgs_DL X)
 have hS:∀ X:Nat,X < RB→Ev (fun k=>vr04_Shr.f k (dgs X) 64) (dgs (X / 18446744073709551616)):=fun X hX=>by
  have l:=dgs_len hX
  have:=ev_dgs (r4_Shr (dgs_DL X) (k:=64) (by decide) (by omega))
  rw [p64] at this
  exact this
 have hD:∀ X:Nat,X < RB→X / 18446744073709551616 < RB:=fun X hX=>Nat.lt_of_le_of_lt (Nat.div_le_self _ _) hX
 rw [take_wl hs2]
 have hnb:=isW_cases hn
 have h16:wrap64 (16*(n:Int))=((64*(n / 4):Nat):Int):=by rw [w64 (by omega) (by omega)];omega
 have eP:1*2^(64*(n / 4))=PW (n / 4):=by rw [Nat.one_mul,PW_two]
 have hsh:=ev_dgs (r4_Shl (dgs_DL 1) (k:=64*(n / 4)) (by omega) (by rw [dgs_one];decide))
 rw [eP,dgs_one] at hsh
 have lP:=dgs_len hP
 have lz:=dgs_len (m:=z.natAbs) (by omega)
 have hsub:=ev_dgs (r4_Sub (dgs_DL (PW (n / 4))) (dgs_DL z.natAbs) (by omega) (by omega))
 have key:(z < 0∧PW (n / 4) - z.natAbs=enc (n / 4) z)∨(¬ z < 0∧z.natAbs=enc (n / 4) z):=by
  by_cases hng:z < 0
  ·left
   refine ⟨hng,(enc_eq (by omega) ⟨-1,by omega⟩).symm⟩
  ·right
   refine ⟨hng,(enc_eq (by omega) ⟨0,by omega⟩).symm⟩
 rw [← h16] at hsh
 generalize enc (n / 4) z=E at *
 have hn':n=8∨n=16∨n=32∨n=64:=by omega
 unfold vr15_Acc_State.f
 rcases key with ⟨hng,he⟩ | ⟨hng,he⟩
 ·rw [he] at hsub
  rw [decide_eq_true hng]
  simp only [if_true]
  refine Ev.bind hsh (Ev.bind hsub ?_)
  clear hsh hsub lz lP eP h16 hnb hP hE h2 hHW hcap hz he
  rcases hn' with rfl | rfl | rfl | rfl
  ·have hq:wrap64 (Int.tdiv ((8:Nat):Int) 4)=2:=by unfold wrap64;decide
   simp only [hq,Int.reduceLT,if_true,if_false,reduceIte]
   repeat (refine Ev.bind (hW _) (Ev.bind (hS _ h0) ?_);replace h0:=hD _ h0)
   exact Ev.now _
  ·have hq:wrap64 (Int.tdiv ((16:Nat):Int) 4)=4:=by unfold wrap64;decide
   simp only [hq,Int.reduceLT,if_true,if_false,reduceIte]
   repeat (refine Ev.bind (hW _) (Ev.bind (hS _ h0) ?_);replace h0:=hD _ h0)
   exact Ev.now _
  ·have hq:wrap64 (Int.tdiv ((32:Nat):Int) 4)=8:=by unfold wrap64;decide
   simp only [hq,Int.reduceLT,if_true,if_false,reduceIte]
   repeat (refine Ev.bind (hW _) (Ev.bind (hS _ h0) ?_);replace h0:=hD _ h0)
   exact Ev.now _
  ·have hq:wrap64 (Int.tdiv ((64:Nat):Int) 4)=16:=by unfold wrap64;decide
   simp only [hq,Int.reduceLT,if_true,if_false,reduceIte]
   repeat (refine Ev.bind (hW _) (Ev.bind (hS _ h0) ?_);replace h0:=hD _ h0)
   exact Ev.now _
 ·rw [decide_eq_false hng,he]
  simp only [Bool.false_eq_true,if_false]
  clear hsh hsub lz lP eP h16 hnb hP hE h2 hHW hcap hz he
  rcases hn' with rfl | rfl | rfl | rfl
  ·have hq:wrap64 (Int.tdiv ((8:Nat):Int) 4)=2:=by unfold wrap64;decide
   simp only [hq,Int.reduceLT,if_true,if_false,reduceIte]
   repeat (refine Ev.bind (hW _) (Ev.bind (hS _ h0) ?_);replace h0:=hD _ h0)
   exact Ev.now _
  ·have hq:wrap64 (Int.tdiv ((16:Nat):Int) 4)=4:=by unfold wrap64;decide
   simp only [hq,Int.reduceLT,if_true,if_false,reduceIte]
   repeat (refine Ev.bind (hW _) (Ev.bind (hS _ h0) ?_);replace h0:=hD _ h0)
   exact Ev.now _
  ·have hq:wrap64 (Int.tdiv ((32:Nat):Int) 4)=8:=by unfold wrap64;decide
   simp only [hq,Int.reduceLT,if_true,if_false,reduceIte]
   repeat (refine Ev.bind (hW _) (Ev.bind (hS _ h0) ?_);replace h0:=hD _ h0)
   exact Ev.now _
  ·have hq:wrap64 (Int.tdiv ((64:Nat):Int) 4)=16:=by unfold wrap64;decide
   simp only [hq,Int.reduceLT,if_true,if_false,reduceIte]
   repeat (refine Ev.bind (hW _) (Ev.bind (hS _ h0) ?_);replace h0:=hD _ h0)
   exact Ev.now _
end Go.Proofs.YtbpcfhhcoklinaaGreat.V
namespace Go.Proofs.YtbpcfhhcoklinaaGreat.Pure
open Go Go.RowKit Go.Proofs.YtbpcfhhcoklinaaGreat.Ab Go.Proofs.YtbpcfhhcoklinaaGreat.Fn Go.Proofs.YtbpcfhhcoklinaaGreat.V
theorem into_end {n:Nat} {nar nar':Bool} {t t' z z':Int} {a b:List Int} {e:Option Int} {c:Int} (hn:isW (n:Int)=true) (hb:z'.natAbs≤2147483647*2^(16*n - 32)) (hc:vl00_Code.f e=some c)
  (h1:Ev (fun k=>vec_Into.f k (n:Int) nar t (ws (enc (n / 4) z)) a b) (((n:Int),nar',t',ws (enc (n / 4) z')),(),e))
  (h2:Ev (fun k=>vr20_Into.f k (n:Int) nar t (decide (z < 0)) (dgs z.natAbs) a b) (((n:Int),nar',t',decide (z' < 0),dgs z'.natAbs),(),c)):
  Ev (fun k=>vl20_VecInto.j1 k a b true false (n:Int) nar t (ws (enc (n / 4) z)) (n:Int) nar t (decide (z < 0)) (dgs z.natAbs)) true:=by
 have hlen:((ws (enc (n / 4) z')).take (n / 4)).length≤1000:=by rw [state_len hn];have:=size_bounds hn;omega
 refine evs ?_
 simp only [vl20_VecInto.j1,Bool.false_eq_true,if_false]
 refine Ev.bind h1 (Ev.bind h2 (Ev.bind (evn (State_eq hn)) (Ev.bind (ra_State hn hb) (Ev.bind (Same_refl hlen) ?_))))
 simp only [if_true,hc,Option.bind_some]
 refine Ev.bind (Round_at hn hb) (Ev.bind (ra_Round hn (cap_RB hn hb)) ?_)
 simp only [beq_self_eq_true]
 exact Ev.now _
theorem fin_cap {n T:Nat} {nar:Bool} {z:Int} {L:List Tm} (h8:8≤n) (hn:n≤64) (hz:z.natAbs≤T*2^(16*n - 32)) (hT:T+L.length≤2147483647):(finZ n nar z L).natAbs≤2147483647*2^(16*n - 32):=by
 have h1:=sum_bound h8 hn L
 have h2:(T+L.length)*2^(16*n - 32)≤2147483647*2^(16*n - 32):=Nat.mul_le_mul_right _ hT
 rw [Nat.add_mul] at h2
 unfold finZ
 split
 ·rw [Int.natAbs_zero];exact Nat.zero_le _
 ·omega
theorem into_yes {n T:Nat} {nar:Bool} {z:Int} {a b:List Int} (hn:isW (n:Int)=true) (ha:∀ x∈a,inK .u64 x) (hb:∀ x∈b,inK .u64 x) (hT:T≤2147483647) (hz:nar=true→z=0) (hbd:z.natAbs≤T*2^(16*n - 32)):
  Ev (fun k=>vl20_VecInto.j1 k a b true false (n:Int) nar (T:Int) (ws (enc (n / 4) z)) (n:Int) nar (T:Int) (decide (z < 0)) (dgs z.natAbs)) true:=by
 obtain ⟨b64,b8⟩:=pow64 hn
 have hcap:z.natAbs≤2147483647*2^(16*n - 32):=Nat.le_trans hbd (Nat.mul_le_mul_right _ hT)
 by_cases hl:a.length=b.length
 ·by_cases hm:T+a.length≤2147483647
  ·have hzl:(tms (a.zip b)).length=a.length:=by rw [tms_len,List.length_zip];omega
   exact into_end hn (fin_cap (T:=T) b8 b64 hbd (by omega)) code_none (Into_eq hn ha hb hl (by omega) (by omega) hz) (ra_Into hn ha hb hl hm hz hbd)
  ·exact into_end hn hcap (show vl00_Code.f (some 11)=some 11 from rfl) (Into_full hn hl (by omega) (by omega) (by omega)) (ra_Into_full hl (by omega) (by omega) (by omega))
 ·exact into_end hn hcap (show vl00_Code.f (some 15)=some 15 from rfl) (Into_len hl) (ra_Into_len hl)
theorem VecInto:vl20_VecInto.Pure:=by
 intro a0 nar t w a b w0 w2 hw hwl ha hal hb hbl
 refine Ev.rounds (g:=fun k=>vl20_VecInto.f k a0 nar t w a b) ?_
 have refuse:∀ c:Int,LoadNo a0 nar t w c→vl00_Code.f (some c)=some c→c≠0→Ev (fun k=>vl20_VecInto.f k a0 nar t w a b) true:=by
  intro c h hc h0
  unfold vl20_VecInto.f
  refine Ev.bind up20 (Ev.bind h.1 ?_)
  simp only [Bool.false_eq_true,if_false]
  refine Ev.bind h.2 ?_
  simp only [Bool.false_eq_true,if_false,if_neg h0,if_true,hc,Option.bind_some,beq_self_eq_true]
  refine evs ?_
  simp only [vl20_VecInto.j0]
  exact Ev.now _
 by_cases hn:isW a0=true
 ·obtain ⟨n,rfl⟩:∃ n:Nat,a0=n:=by
   have:=isW_cases hn
   exact ⟨a0.toNat,by omega⟩
  by_cases hbad:t < 0∨2147483647 < t∨w.length≠n / 4
  ·exact refuse 12 (load_bad hn hbad (by omega)) rfl (by decide)
  ·obtain ⟨T,rfl⟩:∃ T:Nat,t=T:=⟨t.toNat,by omega⟩
   have hT:T≤2147483647:=by omega
   rcases load_sound (nar:=nar) hn hT (by omega) hw.2 with h | ⟨z,⟨h1,h2⟩,hz,hbd⟩
   ·exact refuse 12 h rfl (by decide)
   ·unfold vl20_VecInto.f
    refine Ev.bind up20 (Ev.bind h1 ?_)
    simp only [if_true]
    refine Ev.bind h2 ?_
    simp only [if_true,Option.isNone_none]
    exact into_yes hn ha.2 hb.2 hT hz hbd
 ·exact refuse 2 (load_no (by simpa using hn)) code_2 (by decide)
end Go.Proofs.YtbpcfhhcoklinaaGreat.Pure
