-- Written by a program of this session out of its own texts (wip/tools/link.py).
import Derived.Below
import Derived.ChangeKeysEq
import Derived.Deep.MidRow
import Derived.Deep.RegionHeld3
import Derived.Great.BuildSlice
import Derived.IntWalk
import Derived.KernelRfl
import Derived.LaidEql
import Derived.Laws.Bits64
import Derived.Laws.BitsLemmas
import Derived.Laws.BytesArg
import Derived.Laws.IdiomCopy
import Derived.Laws.OwnMore
import Derived.Laws.Rows
import Derived.Laws.Slices
import Derived.Laws.Strings
import Derived.Laws.StructEq
import Derived.Laws.Tables
import Derived.Lib.BitFns
import Derived.Lib.Mul64
import Derived.Lib.Slices
import Derived.Lib.Small
import Derived.Lib.Strings
import Derived.Lib.Walk
import Derived.Maps.AppendAt
import Derived.OrdersHeld
import Derived.RowKit
import Derived.Shelf.Spec.BitsCarry
import Derived.Test.YtfbbnpliaokmbaaProg
import Derived.Test.YtfbbnpliaokmbaaCFuseFar7
import Derived.Test.YtfbbnpliaokmbaaCFuseFar8
import Derived.Test.YtfbbnpliaokmbaaCFuseFar9
import Derived.Test.YtfbbnpliaokmbaaCFuseFar10
namespace Go.Proofs.Ytfbbnpliaokmbaa.V
open Go Go.RowKit Go.Proofs.Ytfbbnpliaokmbaa.Ab Go.Proofs.Ytfbbnpliaokmbaa.Fn
set_option linter.unusedVariables false
set_option linter.unusedSimpArgs false
theorem beq_dec (a b : Int) : (a == b) = decide (a = b) := by by_cases h : a = b <;> simp [h]
theorem mask32 (a : Nat) (ha : a < 18446744073709551616) : Go.bits .and .u64 (a : Int) 4294967295 = ((a % 4294967296 : Nat) : Int) := and_mask a 32 ha (by decide)
theorem div32 (a : Nat) : (a : Int) / 4294967296 = ((a / 4294967296 : Nat) : Int) := by omega
theorem mulC (a b : Nat) : (a : Int) * (b : Int) = ((a * b : Nat) : Int) := (Int.natCast_mul a b).symm
theorem addC (a b : Nat) : (a : Int) + (b : Int) = ((a + b : Nat) : Int) := (Int.natCast_add a b).symm
theorem wrapN (a : Nat) (ha : a < 18446744073709551616) : IntKind.u64.wrap (a : Int) = (a : Int) := u64_of (by omega) (by omega)
theorem bits_Mul64_eq {x y : Nat} (hx : x < 18446744073709551616) (hy : y < 18446744073709551616) : bits_Mul64.f (x : Int) (y : Int) = some (TH (x * y), TL (x * y)) := by
 obtain ⟨bd, bt, bw, hhi⟩ := Lib.mul64_hi x y hx hy
 have ba := Lib.half_mul_le (a := x / 4294967296) (b := y / 4294967296) (by omega) (by omega)
 have bb := Lib.half_mul_le (a := x / 4294967296) (b := y % 4294967296) (by omega) (by omega)
 have bc := Lib.half_mul_le (a := x % 4294967296) (b := y / 4294967296) (by omega) (by omega)
 have ba' : x / 4294967296 * (y / 4294967296) < 18446744073709551616 := by omega
 have bb' : x / 4294967296 * (y % 4294967296) < 18446744073709551616 := by omega
 have bc' : x % 4294967296 * (y / 4294967296) < 18446744073709551616 := by omega
 have bh1 : x / 4294967296 * (y / 4294967296) + (x / 4294967296 * (y % 4294967296) + x % 4294967296 * (y % 4294967296) / 4294967296) / 4294967296 < 18446744073709551616 := by omega
 have bh : x / 4294967296 * (y / 4294967296) + (x / 4294967296 * (y % 4294967296) + x % 4294967296 * (y % 4294967296) / 4294967296) / 4294967296 + ((x / 4294967296 * (y % 4294967296) + x % 4294967296 * (y % 4294967296) / 4294967296) % 4294967296 + x % 4294967296 * (y / 4294967296)) / 4294967296 < 18446744073709551616 := by omega
 unfold bits_Mul64.f
 simp only [mask32 x hx, mask32 y hy, div32, mulC, addC, wrapN _ bd, wrapN _ bb', wrapN _ bt, mask32 _ bt, wrapN _ bc', wrapN _ bw, wrapN _ ba', wrapN _ bh1, wrapN _ bh, u64_nat_wrap (x * y)]
 rw [hhi]
 rfl
theorem twin_Mul_eq {x y : Nat} (hx : x < 18446744073709551616) (hy : y < 18446744073709551616) : twin_Mul.f (x : Int) (y : Int) = some (TH (x * y), TL (x * y)) := by
 unfold twin_Mul.f
 rw [bits_Mul64_eq hx hy]; rfl
theorem mul_lt128 {x y : Nat} (hx : x < 18446744073709551616) (hy : y < 18446744073709551616) : x * y < 2 ^ 128 := by
 have := Nat.mul_le_mul (show x ≤ 18446744073709551615 by omega) (show y ≤ 18446744073709551615 by omega)
 rw [p128]
 omega
def prodE (kd : Int) (ng : Bool) (sc : Int) (fr : Nat) (kd' : Int) (ng' : Bool) (sc' : Int) (fr' : Nat) : Int × Bool × Int × Int × Int × Bool :=
 if kd = 2 ∨ kd' = 2 then (2, false, 0, 0, 0, false) else if kd = 0 ∨ kd' = 0 then (0, false, 0, 0, 0, false)
 else exactE (ng != ng') (fr * fr') (sc + sc' - 126) false
theorem soundN_cases {kd sc fr : Int} {ng : Bool} (h : soundN kd ng sc fr = true) : (kd = 0 ∧ ng = false ∧ sc = 0 ∧ fr = 0) ∨ (kd = 2 ∧ ng = false ∧ sc = 0 ∧ fr = 0) ∨ (kd = 1 ∧ 9223372036854775808 ≤ fr ∧ -1073741824 ≤ sc ∧ sc ≤ 1073741824) := by
 unfold soundN at h
 split at h
 ·rename_i hk
  have : ng = false ∧ sc = 0 ∧ fr = 0 := by simpa using h
  rcases hk with hk | hk
  ·exact .inl ⟨hk, this⟩
  ·exact .inr (.inl ⟨hk, this⟩)
 ·exact .inr (.inr (of_decide_eq_true h))
theorem makeV_exactE {ng R : Bool} {V : Nat} {e : Int} (hV : V < 2 ^ 128) (h0 : -4398046511104 ≤ e) (h1 : e ≤ 4398046511104) :
  makeV ng V e R = ((exactE ng V e R).1, (exactE ng V e R).2.1, (exactE ng V e R).2.2.1, (exactE ng V e R).2.2.2.1, (exactE ng V e R).2.2.2.2.1, (exactE ng V e R).2.2.2.2.2, none) := by
 unfold makeV exactE
 by_cases hz : V = 0
 ·rw [if_pos hz, if_pos hz]
 ·rw [if_neg hz, if_neg hz]
  have hb := bl_le_of_lt hV
  have hr : mkR V R = R := by unfold mkR; rw [show bl V - 128 = 0 by omega, Nat.pow_zero, Nat.mod_one]; simp
  have hf : farI e = e := by unfold farI; rw [if_neg (by omega), if_neg (by omega)]
  rw [hr, hf]
theorem prod_Exact_eq (kd : Int) (ng : Bool) (sc : Int) (fr : Nat) (kd' : Int) (ng' : Bool) (sc' : Int) (fr' : Nat) (hf : fr < 18446744073709551616) (hf' : fr' < 18446744073709551616) :
  Ev (fun k => prod_Exact.f k kd ng sc (fr : Int) kd' ng' sc' (fr' : Int)) (if soundN kd ng sc fr = true ∧ soundN kd' ng' sc' fr' = true then
   ((prodE kd ng sc fr kd' ng' sc' fr').1, (prodE kd ng sc fr kd' ng' sc' fr').2.1, (prodE kd ng sc fr kd' ng' sc' fr').2.2.1, (prodE kd ng sc fr kd' ng' sc' fr').2.2.2.1, (prodE kd ng sc fr kd' ng' sc' fr').2.2.2.2.1, (prodE kd ng sc fr kd' ng' sc' fr').2.2.2.2.2, none)
   else (0, false, 0, 0, 0, false, some 1)) := by
 unfold prod_Exact.f
 refine Ev.bind (round_Of_eq kd ng sc fr (by omega) (by omega)) ?_
 by_cases h1 : soundN kd ng sc fr = true
 ·simp only [h1, if_true, Option.isNone_none, true_and]
  refine Ev.bind (round_Of_eq kd' ng' sc' fr' (by omega) (by omega)) ?_
  by_cases h2 : soundN kd' ng' sc' fr' = true
  ·simp only [h2, if_true, Option.isNone_none]
   have c1 := soundN_cases h1
   have c2 := soundN_cases h2
   have j1 : Ev (fun k => prod_Exact.j0 k (decide (kd = 2 ∨ kd' = 2)) kd ng sc (fr : Int) kd' ng' sc' (fr' : Int)) ((prodE kd ng sc fr kd' ng' sc' fr').1, (prodE kd ng sc fr kd' ng' sc' fr').2.1, (prodE kd ng sc fr kd' ng' sc' fr').2.2.1, (prodE kd ng sc fr kd' ng' sc' fr').2.2.2.1, (prodE kd ng sc fr kd' ng' sc' fr').2.2.2.2.1, (prodE kd ng sc fr kd' ng' sc' fr').2.2.2.2.2, none) := by
    refine evs ?_
    simp only [prod_Exact.j0]
    unfold prodE
    by_cases hk : kd = 2 ∨ kd' = 2
    ·simp only [if_pos hk, decide_eq_true hk, if_true]
     exact Ev.now _
    ·simp only [if_neg hk, decide_eq_false hk, Bool.false_eq_true, if_false]
     have j2 : Ev (fun k => prod_Exact.j1 k (decide (kd = 0 ∨ kd' = 0)) ng sc (fr : Int) ng' sc' (fr' : Int)) (if kd = 0 ∨ kd' = 0 then (0, false, 0, 0, 0, false, none) else makeV (ng != ng') (fr * fr') (sc + sc' - 126) false) := by
      refine evs ?_
      simp only [prod_Exact.j1]
      by_cases h0 : kd = 0 ∨ kd' = 0
      ·simp only [if_pos h0, decide_eq_true h0, if_true]
       exact Ev.now _
      ·simp only [if_neg h0, decide_eq_false h0, Bool.false_eq_true, if_false]
       have ew : wrap64 (wrap64 (sc + sc') - 126) = sc + sc' - 126 := by
        rw [w64 (n := sc + sc') (by omega) (by omega), w64 (by omega) (by omega)]
       rw [ew, twin_Mul_eq hf hf']
       simp only [Option.bind_some]
       have := round_Make_eq (ng != ng') (fr * fr') (sc + sc' - 126) false (mul_lt128 hf hf')
       simp only [Bool.false_eq_true, false_and, if_false] at this
       refine Ev.bind this ?_
       exact Ev.now _
     have key : ((if kd = 0 ∨ kd' = 0 then (0, false, 0, 0, 0, false, none) else makeV (ng != ng') (fr * fr') (sc + sc' - 126) false) : Int × Bool × Int × Int × Int × Bool × Option Int) = ((if kd = 0 ∨ kd' = 0 then (0, false, 0, 0, 0, false) else exactE (ng != ng') (fr * fr') (sc + sc' - 126) false).1, (if kd = 0 ∨ kd' = 0 then (0, false, 0, 0, 0, false) else exactE (ng != ng') (fr * fr') (sc + sc' - 126) false).2.1, (if kd = 0 ∨ kd' = 0 then (0, false, 0, 0, 0, false) else exactE (ng != ng') (fr * fr') (sc + sc' - 126) false).2.2.1, (if kd = 0 ∨ kd' = 0 then (0, false, 0, 0, 0, false) else exactE (ng != ng') (fr * fr') (sc + sc' - 126) false).2.2.2.1, (if kd = 0 ∨ kd' = 0 then (0, false, 0, 0, 0, false) else exactE (ng != ng') (fr * fr') (sc + sc' - 126) false).2.2.2.2.1, (if kd = 0 ∨ kd' = 0 then (0, false, 0, 0, 0, false) else exactE (ng != ng') (fr * fr') (sc + sc' - 126) false).2.2.2.2.2, none) := by
      by_cases h0 : kd = 0 ∨ kd' = 0
      ·simp only [if_pos h0]
      ·simp only [if_neg h0]
       exact makeV_exactE (mul_lt128 hf hf') (by omega) (by omega)
     rw [← key]
     by_cases hk0 : kd = 0
     ·have hd : (kd == 0) = decide (kd = 0 ∨ kd' = 0) := by rw [decide_eq_true (.inl hk0)]; simp [hk0]
      simp only [if_pos hk0, hd]
      exact j2
     ·have hd : (kd' == 0) = decide (kd = 0 ∨ kd' = 0) := by rw [beq_dec]; simp [hk0]
      simp only [if_neg hk0, hd]
      exact j2
   by_cases hk2 : kd = 2
   ·have hd : (kd == 2) = decide (kd = 2 ∨ kd' = 2) := by simp [hk2]
    simp only [if_pos hk2, hd]
    exact j1
   ·have hd : (kd' == 2) = decide (kd = 2 ∨ kd' = 2) := by rw [beq_dec]; simp [hk2]
    simp only [if_neg hk2, hd]
    exact j1
  ·simp only [if_neg h2]
   exact Ev.now _
 ·simp only [if_neg h1, if_neg (show ¬ (soundN kd ng sc fr = true ∧ soundN kd' ng' sc' fr' = true) from fun h => h1 h.1)]
  exact Ev.now _
def prodX (a b : NM) : EX := if a.kd = 2 ∨ b.kd = 2 then EX.nar else if a.kd = 0 ∨ b.kd = 0 then EX.zero else natX (a.ng != b.ng) (a.fr * b.fr) (a.sc + b.sc - 126) false
theorem prodX_ok (a b : NM) : (prodX a b).ok := by
 unfold prodX
 split
 ·exact .inr (.inl rfl)
 ·split
  ·exact .inl rfl
  ·exact natX_ok _ _ _ _
theorem prodE_X (a b : NM) : prodE a.kd a.ng a.sc a.fr b.kd b.ng b.sc b.fr = ((prodX a b).kd, (prodX a b).ng, (prodX a b).sc, TH (prodX a b).V, TL (prodX a b).V, (prodX a b).R) := by
 unfold prodE prodX
 by_cases h2 : a.kd = 2 ∨ b.kd = 2
 ·rw [if_pos h2, if_pos h2]; rfl
 ·rw [if_neg h2, if_neg h2]
  by_cases h0 : a.kd = 0 ∨ b.kd = 0
  ·rw [if_pos h0, if_pos h0]; rfl
  ·rw [if_neg h0, if_neg h0, exactE_natX]
theorem prod_Exact_X {a b : NM} (ha : a.ok) (hb : b.ok) : Ev (fun k => prod_Exact.f k a.kd a.ng a.sc (a.fr : Int) b.kd b.ng b.sc (b.fr : Int)) ((prodX a b).kd, (prodX a b).ng, (prodX a b).sc, TH (prodX a b).V, TL (prodX a b).V, (prodX a b).R, none) := by
 have := prod_Exact_eq a.kd a.ng a.sc a.fr b.kd b.ng b.sc b.fr ha.2 hb.2
 rw [if_pos ⟨ha.1, hb.1⟩, prodE_X] at this
 exact this
end Go.Proofs.Ytfbbnpliaokmbaa.V
namespace Go.Proofs.Ytfbbnpliaokmbaa.V
open Go Go.RowKit Go.Proofs.Ytfbbnpliaokmbaa.Ab Go.Proofs.Ytfbbnpliaokmbaa.Fn
set_option linter.unusedVariables false
set_option linter.unusedSimpArgs false
theorem T_hi (r : Nat) : TH (r * 18446744073709551616) = (r : Int) ∧ TL (r * 18446744073709551616) = 0 := by
 unfold TH TL; omega
theorem Of_X {x : NM} (h : x.ok) : Ev (fun k => round_Of.f k x.kd x.ng x.sc (x.fr : Int)) (x.ex.kd, x.ex.ng, x.ex.sc, TH x.ex.V, TL x.ex.V, x.ex.R, none) := by
 have := round_Of_eq x.kd x.ng x.sc (x.fr : Int) (by have := h.2; omega) (by omega)
 rw [if_pos h.1] at this
 rw [(NM.ex_tup x h).1, (NM.ex_tup x h).2]
 exact this
end Go.Proofs.Ytfbbnpliaokmbaa.V
namespace Go.Proofs.Ytfbbnpliaokmbaa.V
open Go Go.RowKit Go.Proofs.Ytfbbnpliaokmbaa.Ab Go.Proofs.Ytfbbnpliaokmbaa.Fn
set_option linter.unusedVariables false
set_option linter.unusedSimpArgs false
theorem EX.ok_kd {x : EX} (hx : x.ok) : x.kd = 0 ∨ x.kd = 1 ∨ x.kd = 2 := by
 rcases hx with rfl | rfl | hx
 ·exact .inl rfl
 ·exact .inr (.inr rfl)
 ·exact .inr (.inl hx.1)
theorem sumX_nar {x y : EX} (h : x.kd = 2 ∨ y.kd = 2) : sumX x y = EX.nar := by unfold sumX; rw [if_pos h]
theorem sumX_z1 {x y : EX} (h : ¬ (x.kd = 2 ∨ y.kd = 2)) (h1 : x.kd = 0) : sumX x y = y := by unfold sumX; rw [if_neg h, if_pos h1]
theorem sumX_z2 {x y : EX} (h : ¬ (x.kd = 2 ∨ y.kd = 2)) (h1 : ¬ x.kd = 0) (h2 : y.kd = 0) : sumX x y = x := by unfold sumX; rw [if_neg h, if_neg h1, if_pos h2]
theorem broad_Sum_j0 {x y : EX} (hx : x.ok) (hy : y.ok) : Ev (fun k => broad_Sum.j0 k (decide (x.kd = 2 ∨ y.kd = 2)) x.kd x.ng x.sc (TH x.V) (TL x.V) x.R y.kd y.ng y.sc (TH y.V) (TL y.V) y.R) (sumX x y).tup := by
 refine evs ?_
 simp only [broad_Sum.j0]
 by_cases h : x.kd = 2 ∨ y.kd = 2
 ·simp only [if_pos (decide_eq_true h)]
  rw [sumX_nar h]
  exact Ev.now _
 ·simp only [if_neg (fun h' => h (of_decide_eq_true h') : ¬ decide (x.kd = 2 ∨ y.kd = 2) = true)]
  by_cases a : x.kd = 0
  ·simp only [if_pos a]
   rw [sumX_z1 h a]
   exact Ev.now _
  ·simp only [if_neg a]
   by_cases b : y.kd = 0
   ·simp only [if_pos b]
    rw [sumX_z2 h a b]
    exact Ev.now _
   ·simp only [if_neg b]
    have kx : x.kd = 1 := by have := EX.ok_kd hx; omega
    have ky : y.kd = 1 := by have := EX.ok_kd hy; omega
    by_cases c : x.sc < y.sc
    ·simp only [if_pos c]
     rw [sumX_comm hx hy]
     exact Sum_j1 hy hx ky kx (Int.le_of_lt c)
    ·simp only [if_neg c]
     exact Sum_j1 hx hy kx ky (Int.not_lt.1 c)
theorem broad_Sum_X {x y : EX} (hx : x.ok) (hy : y.ok) : Ev (fun k => broad_Sum.f k x.kd x.ng x.sc (TH x.V) (TL x.V) x.R y.kd y.ng y.sc (TH y.V) (TL y.V) y.R) (sumX x y).tup := by
 have h := broad_Sum_j0 hx hy
 unfold broad_Sum.f
 by_cases a : x.kd = 2
 ·simp only [if_pos a]
  rw [decide_eq_true (Or.inl a)] at h
  exact h
 ·simp only [if_neg a]
  rw [show decide (x.kd = 2 ∨ y.kd = 2) = (y.kd == 2) by rw [Bool.eq_iff_iff]; simp [a]] at h
  exact h
end Go.Proofs.Ytfbbnpliaokmbaa.V
namespace Go.Proofs.Ytfbbnpliaokmbaa.V
open Go Go.RowKit Go.Proofs.Ytfbbnpliaokmbaa.Ab
theorem prodX_comm (a b : NM) : prodX a b = prodX b a := by
 have e2 : (b.kd = 2 ∨ a.kd = 2) ↔ (a.kd = 2 ∨ b.kd = 2) := Or.comm
 have e0 : (b.kd = 0 ∨ a.kd = 0) ↔ (a.kd = 0 ∨ b.kd = 0) := Or.comm
 unfold prodX
 simp only [e2, e0, Nat.mul_comm b.fr, Int.add_comm b.sc, show (b.ng != a.ng) = (a.ng != b.ng) by cases a.ng <;> cases b.ng <;> rfl]
theorem prodX_neg {a : NM} (ha : a.ok) (b : NM) : prodX a.neg b = (prodX a b).neg := by
 rcases NM.cases ha with rfl | rfl | ⟨h, h2, h3, h4, h5⟩
 ·rw [show (⟨0, false, 0, 0⟩ : NM).neg = ⟨0, false, 0, 0⟩ from rfl]
  unfold prodX
  split
  ·rfl
  ·rw [if_pos (.inl rfl)]; rfl
 ·rw [show (⟨2, false, 0, 0⟩ : NM).neg = ⟨2, false, 0, 0⟩ from rfl]
  unfold prodX
  rw [if_pos (.inl rfl)]; rfl
 ·unfold NM.neg
  rw [if_pos h]
  unfold prodX
  simp only
  by_cases h2 : a.kd = 2 ∨ b.kd = 2
  ·rw [if_pos h2, if_pos h2]; rfl
  ·rw [if_neg h2, if_neg h2]
   by_cases h0 : a.kd = 0 ∨ b.kd = 0
   ·rw [if_pos h0, if_pos h0]; rfl
   ·rw [if_neg h0, if_neg h0, ← natX_neg]
    congr 1
    cases a.ng <;> cases b.ng <;> rfl
theorem decN_nar (n : Nat) : decN n (2 ^ (n - 1)) = ⟨2, false, 0, 0⟩ := by
 unfold decN
 rw [if_neg (Nat.ne_of_gt (two_pos (n - 1))), if_pos rfl]
end Go.Proofs.Ytfbbnpliaokmbaa.V
namespace Go.Proofs.Ytfbbnpliaokmbaa.V
open Go Go.RowKit Go.Proofs.Ytfbbnpliaokmbaa.Ab Go.Proofs.Ytfbbnpliaokmbaa.Fn
set_option linter.unusedVariables false
set_option linter.unusedSimpArgs false
theorem EX.ok_zero {x : EX} (hx : x.ok) (h : x.kd = 0) : x = EX.zero := by
 rcases hx with rfl | rfl | hx
 ·rfl
 ·exact absurd h (by decide)
 ·omega
theorem sumX_zero_r {x : EX} (hx : x.ok) : sumX x EX.zero = x := by
 unfold sumX
 by_cases h : x.kd = 2 ∨ EX.zero.kd = 2
 ·rw [if_pos h]
  have h2 : x.kd = 2 := h.elim id (fun h => absurd h (by decide))
  rcases hx with rfl | rfl | hx
  ·exact absurd h2 (by decide)
  ·rfl
  ·omega
 ·rw [if_neg h]
  by_cases h0 : x.kd = 0
  ·rw [if_pos h0, EX.ok_zero hx h0]
  ·rw [if_neg h0, if_pos (show EX.zero.kd = 0 from rfl)]
end Go.Proofs.Ytfbbnpliaokmbaa.V
namespace Go.Proofs.Ytfbbnpliaokmbaa.V
open Go Go.RowKit Go.Proofs.Ytfbbnpliaokmbaa.Ab Go.Proofs.Ytfbbnpliaokmbaa.Fn
set_option linter.unusedVariables false
set_option linter.unusedSimpArgs false
def rtL (m : Nat) : Nat → Nat → Nat
 | 0, r => r
 | k + 1, r => rtL m k (if (r + 2 ^ k) * (r + 2 ^ k) ≤ m then r + 2 ^ k else r)
theorem rtL_spec (m : Nat) : ∀ (k r : Nat), r * r ≤ m → m < (r + 2 ^ k) * (r + 2 ^ k) → rtL m k r * rtL m k r ≤ m ∧ m < (rtL m k r + 1) * (rtL m k r + 1)
 | 0, r, h1, h2 => ⟨h1, h2⟩
 | k + 1, r, h1, h2 => by
  unfold rtL
  have e : r + 2 ^ (k + 1) = r + 2 ^ k + 2 ^ k := by rw [Nat.pow_succ]; omega
  rw [e] at h2
  by_cases h : (r + 2 ^ k) * (r + 2 ^ k) ≤ m
  ·rw [if_pos h]; exact rtL_spec m k _ h h2
  ·rw [if_neg h]; exact rtL_spec m k _ h1 (by omega)
theorem rt_uniq {m r s : Nat} (h1 : r * r ≤ m) (h2 : m < (r + 1) * (r + 1)) (h3 : s * s ≤ m) (h4 : m < (s + 1) * (s + 1)) : r = s := by
 rcases Nat.lt_trichotomy r s with h | h | h
 ·have := Nat.mul_le_mul (show r + 1 ≤ s from h) (show r + 1 ≤ s from h); omega
 ·exact h
 ·have := Nat.mul_le_mul (show s + 1 ≤ r from h) (show s + 1 ≤ r from h); omega
theorem rtL_le (m : Nat) : ∀ (k r : Nat), r ≤ rtL m k r ∧ rtL m k r < r + 2 ^ k
 | 0, r => ⟨Nat.le_refl _, by show r < r + 2 ^ 0; omega⟩
 | k + 1, r => by
  unfold rtL
  have e : r + 2 ^ (k + 1) = r + 2 ^ k + 2 ^ k := by rw [Nat.pow_succ]; omega
  have hp := two_pos k
  split
  ·have := rtL_le m k (r + 2 ^ k); omega
  ·have := rtL_le m k r; omega
theorem twin_Cmp_eq (A B : Nat) : twin_Cmp.f (TH A) (TL A) (TH B) (TL B) = some (cmpN A B) := by
 unfold twin_Cmp.f
 by_cases h : A = B
 ·subst h
  rw [if_pos (by simp)]
  unfold cmpN; simp
 ·have hne : ¬ ((TH A == TH B && (TL A == TL B)) = true) := by
   intro hc
   simp only [Bool.and_eq_true, beq_iff_eq] at hc
   exact h (T_eq hc.1 hc.2)
  rw [if_neg hne]
  unfold cmpN
  rw [if_neg h]
  by_cases hl : A < B
  ·rw [if_pos hl]
   by_cases h1 : TH A < TH B
   ·rw [if_pos h1]
   ·rw [if_neg h1]
    have h2 : TH A = TH B := by unfold TH at *; omega
    have h3 : TL A < TL B := by unfold TH TL at *; omega
    rw [if_pos h2, if_pos h3]
  ·rw [if_neg hl]
   have h1 : ¬ TH A < TH B := by unfold TH at *; omega
   rw [if_neg h1]
   by_cases h2 : TH A = TH B
   ·have h3 : ¬ TL A < TL B := by unfold TH TL at *; omega
    rw [if_pos h2, if_neg h3]
   ·rw [if_neg h2]
theorem bits_Sub64_eq {x y b : Int} (hx : 0 ≤ x) (hy0 : 0 ≤ y) (hy : y < 18446744073709551616) (h0 : 0 ≤ b) (hb : b ≤ 1) : bits_Sub64.f x y b = some ((x - y - b) % 18446744073709551616, if x < y + b then 1 else 0) := by
 unfold bits_Sub64.f
 rw [if_pos ⟨hx, hy0, hy, h0, hb⟩]
theorem th_lt {A : Nat} (h : A < 2 ^ 128) : A / 18446744073709551616 < 18446744073709551616 := by rw [p128] at h; omega
theorem TL_range (A : Nat) : 0 ≤ TL A ∧ TL A < 18446744073709551616 := by unfold TL; omega
theorem TH_range {A : Nat} (h : A / 18446744073709551616 < 18446744073709551616) : 0 ≤ TH A ∧ TH A < 18446744073709551616 := by unfold TH; omega
theorem sub_T {A B : Nat} (hA : A / 18446744073709551616 < 18446744073709551616) (h : B ≤ A) (hc : TL A < TL B + 0) : (TH A - TH B - 1) % 18446744073709551616 = TH (A - B) ∧ (TL A - TL B - 0) % 18446744073709551616 = TL (A - B) ∧ ¬ TH A < TH B + 1 := by
 unfold TH TL at *; omega
theorem sub_T' {A B : Nat} (hA : A / 18446744073709551616 < 18446744073709551616) (h : B ≤ A) (hc : ¬ TL A < TL B + 0) : (TH A - TH B - 0) % 18446744073709551616 = TH (A - B) ∧ (TL A - TL B - 0) % 18446744073709551616 = TL (A - B) ∧ ¬ TH A < TH B + 0 := by
 unfold TH TL at *; omega
theorem twin_Sub_eq' {A B : Nat} (hA : A / 18446744073709551616 < 18446744073709551616) (h : B ≤ A) : twin_Sub.f (TH A) (TL A) (TH B) (TL B) = some (TH (A - B), TL (A - B), false) := by
 have hB : B / 18446744073709551616 < 18446744073709551616 := Nat.lt_of_le_of_lt (Nat.div_le_div_right h) hA
 have a := bits_Sub64_eq (b := 0) (TL_range A).1 (TL_range B).1 (TL_range B).2 (Int.le_refl 0) (by decide)
 have b0 := bits_Sub64_eq (b := 0) (TH_range hA).1 (TH_range hB).1 (TH_range hB).2 (Int.le_refl 0) (by decide)
 have b1 := bits_Sub64_eq (b := 1) (TH_range hA).1 (TH_range hB).1 (TH_range hB).2 (by decide) (Int.le_refl 1)
 unfold twin_Sub.f
 rw [a]
 by_cases hc : TL A < TL B + 0
 ·obtain ⟨c1, c2, c3⟩ := sub_T hA h hc
  rw [if_pos hc, Option.bind_some]
  rw [b1, if_neg c3, Option.bind_some, c1, c2]
  rfl
 ·obtain ⟨c1, c2, c3⟩ := sub_T' hA h hc
  rw [if_neg hc, Option.bind_some]
  rw [b0, if_neg c3, Option.bind_some, c1, c2]
  rfl
theorem twin_Sub_eq {A B : Nat} (hA : A < 2 ^ 128) (h : B ≤ A) : twin_Sub.f (TH A) (TL A) (TH B) (TL B) = some (TH (A - B), TL (A - B), false) := twin_Sub_eq' (th_lt hA) h
theorem cmpN_le {A B : Nat} : cmpN A B ≤ 0 ↔ A ≤ B := by
 unfold cmpN; split
 ·omega
 ·split <;> omega
theorem part_Root_l0 {m : Nat} (hm : ∀ r, r * r ≤ m → twin_Sub.f (TH m) (TL m) (TH (r * r)) (TL (r * r)) = some (TH (m - r * r), TL (m - r * r), false)) : ∀ (k r : Nat), r % 2 ^ k = 0 → r + 2 ^ k ≤ 18446744073709551616 → k ≤ 64 → r * r ≤ m → Ev (fun n => part_Root.l0 n (r : Int) ((k : Int) - 1) (TH m) (TL m)) (((rtL m k r : Nat) : Int), TH (m - rtL m k r * rtL m k r), TL (m - rtL m k r * rtL m k r))
 | 0, r, h0, h1, hk, hr => by
  rw [Nat.pow_zero] at h1
  refine evs ?_
  simp only [part_Root.l0, nI_eq, if_neg (show ¬ ((0 : Nat) : Int) - 1 ≥ 0 by decide), if_false]
  exact Ev.bind (evn (twin_Mul_eq (show r < 18446744073709551616 by omega) (show r < 18446744073709551616 by omega))) (Ev.bind (evn (hm r hr)) (Ev.now _))
 | k + 1, r, h0, h1, hk, hr => by
  have hp := two_pos k
  have e2 : 2 ^ (k + 1) = 2 ^ k * 2 := Nat.pow_succ ..
  have hpl : 2 ^ k < 18446744073709551616 := by rw [← p64]; exact pow_lt (by omega)
  have eor : Go.bits .or .u64 (r : Int) (shl .u64 1 (k : Int)) = ((r + 2 ^ k : Nat) : Int) := by
   have := shl_nat 1 k (by omega)
   rw [Nat.one_mul, Nat.mod_eq_of_lt hpl] at this
   have e1 : shl .u64 1 (k : Int) = ((2 ^ k : Nat) : Int) := this
   rw [e1]
   exact or_add r (2 ^ k) (k + 1) (by omega) h0 (by omega) hpl
  have ew : wrap64 ((k : Int) - 1) = (k : Int) - 1 := w64 (by omega) (by omega)
  have hd : r % 2 ^ k = 0 := by
   have := mod_pow_le (a := r) (b := k) (c := k + 1) (by omega)
   rw [h0, Nat.zero_mod] at this
   exact this.symm
  refine evs ?_
  simp only [part_Root.l0, nI_eq, show ((k + 1 : Nat) : Int) - 1 = (k : Int) by omega, if_pos (show (k : Int) ≥ 0 by omega), if_pos (show (0 : Int) ≤ (k : Int) by omega), eor, ew]
  refine Ev.bind (evn (twin_Mul_eq (show r + 2 ^ k < 18446744073709551616 by omega) (show r + 2 ^ k < 18446744073709551616 by omega))) (Ev.bind (evn (twin_Cmp_eq _ _)) ?_)
  unfold rtL
  by_cases h : (r + 2 ^ k) * (r + 2 ^ k) ≤ m
  ·simp only [if_pos (cmpN_le.mpr h), if_pos h]
   exact part_Root_l0 hm k (r + 2 ^ k) (by rw [Nat.add_mod_right]; exact hd) (by omega) (by omega) h
  ·simp only [if_neg (fun hc => h (cmpN_le.mp hc)), if_neg h]
   exact part_Root_l0 hm k r hd (by omega) (by omega) hr
theorem part_Root_eq {m : Nat} (hm : m < 2 ^ 128) : Ev (fun n => part_Root.f n (TH m) (TL m)) (((rtL m 64 0 : Nat) : Int), TH (m - rtL m 64 0 * rtL m 64 0), TL (m - rtL m 64 0 * rtL m 64 0)) := by
 unfold part_Root.f
 exact part_Root_l0 (fun r hr => twin_Sub_eq hm hr) 64 0 (Nat.zero_mod _) (by rw [p64]; omega) (by decide) (Nat.zero_le _)
theorem and_i64_1 (s : Int) : Go.bits .and .i64 s 1 = s % 2 := by
 simp only [Go.bits]
 have h1 : (BitVec.ofInt IntKind.i64.bits s) &&& (BitVec.ofInt IntKind.i64.bits 1) = BitVec.ofNat 64 (s % 2).toNat := by
  show (BitVec.ofInt 64 s) &&& (BitVec.ofInt 64 1) = BitVec.ofNat 64 (s % 2).toNat
  apply BitVec.eq_of_toNat_eq
  rw [BitVec.toNat_and, BitVec.toNat_ofInt, BitVec.toNat_ofInt, BitVec.toNat_ofNat]
  rw [show ((1 : Int) % ((2 ^ 64 : Nat) : Int)).toNat = 2 ^ 1 - 1 by decide, Nat.and_two_pow_sub_one_eq_mod]
  omega
 have h3 : (BitVec.ofNat 64 (s % 2).toNat).toNat = (s % 2).toNat := by rw [BitVec.toNat_ofNat]; omega
 rw [h1]
 show IntKind.i64.wrap ((BitVec.ofNat 64 (s % 2).toNat).toNat : Int) = _
 rw [h3, IntKind.wrap_i64]
 omega
def rootW (x : EX) : Nat := if x.sc % 2 = 0 then x.V / 2 else x.V
def rootX (x : EX) : EX := if x.kd = 0 then EX.zero else if x.kd = 2 ∨ x.ng = true then EX.nar else
 ⟨1, false, x.sc / 2, rtL (rootW x) 64 0 * 18446744073709551616, x.R || (decide (x.sc % 2 = 0 ∧ x.V % 2 ≠ 0) || decide (rtL (rootW x) 64 0 * rtL (rootW x) 64 0 ≠ rootW x))⟩
theorem rt_facts {m : Nat} (h0 : 2 ^ 126 ≤ m) (h1 : m < 2 ^ 128) : rtL m 64 0 * rtL m 64 0 ≤ m ∧ m < (rtL m 64 0 + 1) * (rtL m 64 0 + 1) ∧ 9223372036854775808 ≤ rtL m 64 0 ∧ rtL m 64 0 < 18446744073709551616 := by
 obtain ⟨a, b⟩ := rtL_spec m 64 0 (Nat.zero_le _) (by rw [Nat.zero_add, ← Nat.pow_add]; exact h1)
 have c := (rtL_le m 64 0).2
 rw [p64] at c
 refine ⟨a, b, ?_, by omega⟩
 generalize rtL m 64 0 = r at *
 rcases Nat.lt_or_ge r 9223372036854775808 with h | h
 ·have := Nat.mul_le_mul (show r + 1 ≤ 9223372036854775808 by omega) (show r + 1 ≤ 9223372036854775808 by omega)
  have e : (9223372036854775808 : Nat) * 9223372036854775808 = 2 ^ 126 := by decide
  omega
 ·exact h
theorem rootW_bounds {x : EX} (h1 : 2 ^ 127 ≤ x.V) (h2 : x.V < 2 ^ 128) : 2 ^ 126 ≤ rootW x ∧ rootW x < 2 ^ 128 := by
 have e : (2 : Nat) ^ 127 = 2 * 2 ^ 126 := by decide
 unfold rootW
 generalize (2 : Nat) ^ 128 = z at *
 generalize (2 : Nat) ^ 126 = y at *
 split <;> omega
theorem rootX_ok {x : EX} (hx : x.ok) : (rootX x).ok := by
 unfold rootX
 split
 ·exact .inl rfl
 ·split
  ·exact .inr (.inl rfl)
  ·rename_i h0 h2
   rcases hx with rfl | rfl | ⟨k1, k2, k3, k4, k5⟩
   ·exact absurd rfl h0
   ·exact absurd (.inl rfl) h2
   ·obtain ⟨w1, w2⟩ := rootW_bounds k2 k3
    obtain ⟨_, _, r1, r2⟩ := rt_facts w1 w2
    refine .inr (.inr ⟨rfl, ?_, ?_, ?_, ?_⟩)
    ·show 2 ^ 127 ≤ rtL (rootW x) 64 0 * 18446744073709551616
     rw [p127]; omega
    ·show rtL (rootW x) 64 0 * 18446744073709551616 < 2 ^ 128
     rw [p128]; omega
    ·show -1099511627776 ≤ x.sc / 2
     omega
    ·show x.sc / 2 ≤ 1099511627776
     omega
theorem left_ne {m r : Nat} (h : r * r ≤ m) : (!((TH (m - r * r) == 0) && (TL (m - r * r) == 0))) = decide (r * r ≠ m) := by
 by_cases e : r * r = m
 ·rw [e, Nat.sub_self, decide_eq_false (by omega)]; rfl
 ·rw [decide_eq_true e]
  generalize hd : m - r * r = d
  have h0 : d ≠ 0 := by omega
  by_cases h1 : TH d = 0
  ·have h2 : TL d ≠ 0 := by unfold TH TL at *; omega
   simp [h2]
  ·simp [h1]
theorem root_Exact_X {x : EX} (hx : x.ok) : Ev (fun k => root_Exact.f k x.kd x.ng x.sc (TH x.V) (TL x.V) x.R) ((rootX x).kd, (rootX x).ng, (rootX x).sc, TH (rootX x).V, TL (rootX x).V, (rootX x).R, none) := by
 unfold root_Exact.f
 refine Ev.bind (Round_X (n := 8) (by decide) hx) ?_
 simp only [Option.isNone_none, if_true]
 rcases hx with rfl | rfl | ⟨k1, k2, k3, k4, k5⟩
 ·exact Ev.now _
 ·exact Ev.now _
 ·have hk0 : ¬ x.kd = 0 := by omega
  have hk2 : ¬ x.kd = 2 := by omega
  simp only [if_neg hk0, if_neg hk2]
  by_cases hn : x.ng = true
  ·have e : rootX x = EX.nar := by unfold rootX; rw [if_neg hk0, if_pos (.inr hn)]
   simp only [if_pos hn, e]
   exact Ev.now _
  ·obtain ⟨w1, w2⟩ := rootW_bounds k2 k3
   obtain ⟨r1, r2, r3, r4⟩ := rt_facts w1 w2
   have e : rootX x = ⟨1, false, x.sc / 2, rtL (rootW x) 64 0 * 18446744073709551616, x.R || (decide (x.sc % 2 = 0 ∧ x.V % 2 ≠ 0) || decide (rtL (rootW x) 64 0 * rtL (rootW x) 64 0 ≠ rootW x))⟩ := by
    unfold rootX; rw [if_neg hk0, if_neg (fun h => h.elim hk2 hn)]
   have hR := part_Root_eq w2
   simp only [if_neg hn]
   refine evs ?_
   simp only [root_Exact.j0, and_i64_1, e, (T_hi _).1, (T_hi _).2]
   by_cases hs : x.sc % 2 = 0
   ·have hw : rootW x = x.V / 2 ^ 1 := by unfold rootW; rw [if_pos hs]
    simp only [if_pos hs]
    have hsh := twin_Shr_eq x.V 1 k3 (by decide)
    have hsh' : twin_Shr.f (TH x.V) (TL x.V) 1 = _ := hsh
    simp only [hsh', Option.bind_some]
    rw [← hw]
    by_cases hr : x.R = true
    ·simp only [if_pos hr]
     refine Ev.bind hR (evn ?_)
     simp [hr]
    ·simp only [if_neg hr]
     refine Ev.bind hR ?_
     by_cases hl : x.V % 2 ^ 1 ≠ 0
     ·simp only [decide_eq_true hl, if_true]
      refine evn ?_
      have : x.V % 2 ≠ 0 := hl
      simp [hs, this]
     ·simp only [decide_eq_false hl, Bool.false_eq_true, if_false, left_ne r1]
      refine evn ?_
      have h0 : x.V % 2 = 0 := by simpa using hl
      simp [hr, h0]
   ·have hw : rootW x = x.V := by unfold rootW; rw [if_neg hs]
    simp only [if_neg hs]
    rw [hw] at hR r1 ⊢
    refine Ev.bind hR ?_
    by_cases hr : x.R = true
    ·simp only [if_pos hr]
     refine evn ?_
     simp [hr]
    ·simp only [if_neg hr, left_ne r1]
     refine evn ?_
     simp [hr, hs]
end Go.Proofs.Ytfbbnpliaokmbaa.V
namespace Go.Proofs.Ytfbbnpliaokmbaa.V
open Go Go.RowKit Go.Proofs.Ytfbbnpliaokmbaa.Ab Go.Proofs.Ytfbbnpliaokmbaa.Fn
set_option linter.unusedVariables false
set_option linter.unusedSimpArgs false
theorem rootX_real {x : EX} (h : x.kd = 1) (hn : x.ng = false) : rootX x = ⟨1, false, x.sc / 2, rtL (rootW x) 64 0 * 18446744073709551616, x.R || (decide (x.sc % 2 = 0 ∧ x.V % 2 ≠ 0) || decide (rtL (rootW x) 64 0 * rtL (rootW x) 64 0 ≠ rootW x))⟩ := by
 unfold rootX
 rw [if_neg (by omega), if_neg (by rintro (h2 | h2); omega; rw [hn] at h2; cases h2)]
def NM.abs (x : NM) : NM := ⟨x.kd, false, x.sc, x.fr⟩
theorem rtL_sq {r : Nat} (h : r < 2 ^ 64) : rtL (r * r) 64 0 = r := by
 have hr : r * r < 2 ^ 128 := by
  have := Nat.mul_lt_mul'' h h
  rw [← Nat.pow_add] at this; exact this
 obtain ⟨a, b⟩ := rtL_spec (r * r) 64 0 (Nat.zero_le _) (by rw [Nat.zero_add, ← Nat.pow_add]; exact hr)
 exact rt_uniq a b (Nat.le_refl _) (Nat.mul_self_lt_mul_self (Nat.lt_succ_self _))
theorem rootX_sq {x : NM} (hx : x.ok) : rootX (prodX x x) = x.abs.ex := by
 rcases NM.cases hx with rfl | rfl | ⟨h1, h2, h3, h4, h5⟩
 ·rfl
 ·rfl
 ·unfold prodX
  rw [if_neg (by omega), if_neg (by omega)]
  have hng : (x.ng != x.ng) = false := by cases x.ng <;> rfl
  rw [hng]
  have hf0 : 0 < x.fr * x.fr := Nat.mul_pos (by rw [p63] at h2; omega) (by rw [p63] at h2; omega)
  have hlo : 2 ^ 126 ≤ x.fr * x.fr := by
   have := Nat.mul_le_mul h2 h2
   rw [← Nat.pow_add] at this; exact this
  have hhi : x.fr * x.fr < 2 ^ 128 := by
   have := Nat.mul_lt_mul'' h3 h3
   rw [← Nat.pow_add] at this; exact this
  have hrt := rtL_sq h3
  have hk : ∀ sc V : _, (natX false (x.fr * x.fr) (x.sc + x.sc - 126) false) = ⟨1, false, sc, V, false⟩ → sc / 2 = x.sc → rootW ⟨1, false, sc, V, false⟩ = x.fr * x.fr → ¬ (sc % 2 = 0 ∧ V % 2 ≠ 0) → rootX (natX false (x.fr * x.fr) (x.sc + x.sc - 126) false) = x.abs.ex := by
   intro sc V e1 e2 e3 e4
   rw [e1, rootX_real rfl rfl, e3, hrt]
   unfold NM.abs NM.ex
   refine EX.ext' h1.symm rfl e2 rfl ?_
   show (false || (decide (sc % 2 = 0 ∧ V % 2 ≠ 0) || decide (x.fr * x.fr ≠ x.fr * x.fr))) = false
   rw [decide_eq_false e4]; simp
  by_cases hb : x.fr * x.fr < 2 ^ 127
  ·have eb : bl (x.fr * x.fr) = 127 := bl_unique (by decide) hlo hb
   refine hk (2 * x.sc) (x.fr * x.fr * 2) ?_ (by omega) ?_ (by omega)
   ·unfold natX
    rw [if_neg (by omega), eb]
    refine EX.ext' rfl rfl ?_ ?_ ?_
    ·show heldI (x.sc + x.sc - 126 + ((127 : Nat) : Int) - 1) = 2 * x.sc
     unfold heldI; rw [if_neg (by omega), if_neg (by omega)]; omega
    ·show mkV (x.fr * x.fr) = _
     unfold mkV; rw [eb, if_pos (by decide)]
    ·show mkR (x.fr * x.fr) false = false
     unfold mkR; rw [eb, show (127 - 128 : Nat) = 0 from rfl, Nat.pow_zero, Nat.mod_one]; rfl
   ·unfold rootW
    rw [if_pos (by show 2 * x.sc % 2 = 0; omega)]
    show x.fr * x.fr * 2 / 2 = _
    omega
  ·have eb : bl (x.fr * x.fr) = 128 := bl_unique (by decide) (by show 2 ^ 127 ≤ x.fr * x.fr; omega) hhi
   refine hk (2 * x.sc + 1) (x.fr * x.fr) ?_ (by omega) ?_ (by omega)
   ·unfold natX
    rw [if_neg (by omega), eb]
    refine EX.ext' rfl rfl ?_ ?_ ?_
    ·show heldI (x.sc + x.sc - 126 + ((128 : Nat) : Int) - 1) = 2 * x.sc + 1
     unfold heldI; rw [if_neg (by omega), if_neg (by omega)]; omega
    ·show mkV (x.fr * x.fr) = _
     unfold mkV; rw [eb, if_pos (by decide), Nat.sub_self, Nat.pow_zero, Nat.mul_one]
    ·show mkR (x.fr * x.fr) false = false
     unfold mkR; rw [eb, Nat.sub_self, Nat.pow_zero, Nat.mod_one]; rfl
   ·unfold rootW
    rw [if_neg (by show ¬ (2 * x.sc + 1) % 2 = 0; omega)]
def absN (n x : Nat) : Nat := if 2 ^ (n - 1) < x then negP n x else x
theorem absN_eq {n x : Nat} (h8 : 8 ≤ n) (hn : n ≤ 64) (hx : x < 2 ^ n) (h1 : x ≠ 2 ^ (n - 1)) : (decN n x).abs.ex.rnd n = absN n x := by
 have key : (decN n x).abs = decN n (absN n x) := by
  unfold absN
  by_cases hs : 2 ^ (n - 1) < x
  ·have hp := two_pos (n - 1)
   rw [if_pos hs, decN_neg (by omega) hx]
   unfold decN
   rw [if_neg (by omega), if_neg h1, decide_eq_true hs]
   rfl
  ·rw [if_neg hs]
   unfold decN
   by_cases h0 : x = 0
   ·rw [if_pos h0]; rfl
   ·rw [if_neg h0, if_neg h1, decide_eq_false hs]; rfl
 have hlt : absN n x < 2 ^ n := by
  unfold absN; split
  ·exact negP_lt hx
  ·exact hx
 rw [key, dec_rnd h8 hn hlt]
theorem ref_Abs_eq {n a : Nat} (h : isW (n : Int) = true) (ha : a < 18446744073709551616) (h1 : a % 2 ^ n ≠ 2 ^ (n - 1)) : Ev (fun k => vernierref08_Abs.f k (n : Int) (a : Int)) (((absN n (a % 2 ^ n) : Nat) : Int), 0) := by
 obtain ⟨b64, b8⟩ := pow64 h
 have hx := Nat.mod_lt a (two_pos n)
 unfold vernierref08_Abs.f
 refine Ev.bind (ref_Rank_mod h ha) ?_
 simp only [if_true]
 have hr : rkN n (a % 2 ^ n) < 0 ↔ 2 ^ (n - 1) < a % 2 ^ n := by
  have := two_halves (n := n) (by omega)
  unfold rkN; split <;> omega
 by_cases hs : 2 ^ (n - 1) < a % 2 ^ n
 ·simp only [if_pos (hr.mpr hs)]
  have e : absN n (a % 2 ^ n) = negN n a := by unfold absN; rw [if_pos hs, negN_mod b64 ha]
  rw [e]
  exact Ev.bind (ref_Neg_eq h ha) (Ev.now _)
 ·simp only [if_neg (fun hh => hs (hr.mp hh))]
  have e : absN n (a % 2 ^ n) = a % 2 ^ n := by unfold absN; rw [if_neg hs]
  rw [e]
  exact Ev.bind (ref_Fold_eq h ha) (Ev.now _)
end Go.Proofs.Ytfbbnpliaokmbaa.V
namespace Go.Proofs.Ytfbbnpliaokmbaa.V
open Go Go.RowKit Go.Proofs.Ytfbbnpliaokmbaa.Ab Go.Proofs.Ytfbbnpliaokmbaa.Fn
set_option linter.unusedVariables false
set_option linter.unusedSimpArgs false
def prdX (n x y : Nat) : EX := prodX (decN n x) (decN n y)
theorem prdX_ok (n x y : Nat) : (prdX n x y).ok := prodX_ok _ _
def fmaN (n x y z : Nat) : Nat := (sumX (prdX n x y) (decN n z).ex).rnd n
def hypN (n x y : Nat) : Nat := (rootX (sumX (prdX n x x) (prdX n y y))).rnd n
theorem EX.neg_neg {x : EX} : x.neg.neg = x := by
 unfold EX.neg
 by_cases h : x.kd = 1
 ·rw [if_pos h]
  simp only [if_pos h, Bool.not_not]
 ·rw [if_neg h, if_neg h]
theorem prdX_comm (n x y : Nat) : prdX n x y = prdX n y x := prodX_comm _ _
theorem prdX_neg {n x y : Nat} (h8 : 8 ≤ n) (hn : n ≤ 64) (hx : x < 2 ^ n) : prdX n (negP n x) y = (prdX n x y).neg := by
 unfold prdX
 rw [decN_neg (by omega) hx, prodX_neg (decN_ok h8 hn hx)]
theorem prd_zero (n : Nat) : prdX n 0 0 = EX.zero := by
 unfold prdX
 rw [show decN n 0 = ⟨0, false, 0, 0⟩ from rfl]
 rfl
theorem hyp_zero {n x : Nat} (h8 : 8 ≤ n) (hn : n ≤ 64) (hx : x < 2 ^ n) : hypN n x 0 = ((decN n x).abs.ex).rnd n := by
 unfold hypN
 rw [prd_zero, sumX_zero_r (prdX_ok _ _ _)]
 unfold prdX
 rw [rootX_sq (decN_ok h8 hn hx)]
theorem hyp_swap {n x y : Nat} (h8 : 8 ≤ n) (hn : n ≤ 64) (hy : y < 2 ^ n) : hypN n (negP n y) x = hypN n x y := by
 unfold hypN
 rw [prdX_neg h8 hn hy, prdX_comm n y (negP n y), prdX_neg h8 hn hy, EX.neg_neg, sumX_comm (prdX_ok _ _ _) (prdX_ok _ _ _)]
theorem fuse_product_eq {n a b : Nat} (h : isW (n : Int) = true) (ha : a < 18446744073709551616) (hb : b < 18446744073709551616) : Ev (fun k => fuse_product.f k (n : Int) (a : Int) (b : Int)) ((prdX n (a % 2 ^ n) (b % 2 ^ n)).kd, (prdX n (a % 2 ^ n) (b % 2 ^ n)).ng, (prdX n (a % 2 ^ n) (b % 2 ^ n)).sc, TH (prdX n (a % 2 ^ n) (b % 2 ^ n)).V, TL (prdX n (a % 2 ^ n) (b % 2 ^ n)).V, (prdX n (a % 2 ^ n) (b % 2 ^ n)).R, none) := by
 obtain ⟨b64, b8⟩ := pow64 h
 have oa := decN_ok b8 b64 (Nat.mod_lt a (two_pos n))
 have ob := decN_ok b8 b64 (Nat.mod_lt b (two_pos n))
 unfold fuse_product.f
 refine Ev.bind (Decode_N h ha) ?_
 simp only [Option.isNone_none, if_true]
 exact Ev.bind (Decode_N h hb) (Ev.bind (prod_Exact_X oa ob) (Ev.now _))
theorem fuse_product_no {n : Int} (h : isW n = false) (a b : Int) : Ev (fun k => fuse_product.f k n a b) (0, false, 0, 0, 0, false, some 2) := by
 unfold fuse_product.f
 exact Ev.bind (Decode_no h a) (Ev.now _)
theorem fuse_Fma_eq {n a b c : Nat} (h : isW (n : Int) = true) (ha : a < 18446744073709551616) (hb : b < 18446744073709551616) (hc : c < 18446744073709551616) : Ev (fun k => fuse_Fma.f k (n : Int) (a : Int) (b : Int) (c : Int)) (((fmaN n (a % 2 ^ n) (b % 2 ^ n) (c % 2 ^ n) : Nat) : Int), none) := by
 obtain ⟨b64, b8⟩ := pow64 h
 have oc := decN_ok b8 b64 (Nat.mod_lt c (two_pos n))
 have op := prdX_ok n (a % 2 ^ n) (b % 2 ^ n)
 unfold fuse_Fma.f
 refine Ev.bind (fuse_product_eq h ha hb) ?_
 simp only [Option.isNone_none, if_true]
 exact Ev.bind (Decode_N h hc) (Ev.bind (Of_X oc) (Ev.bind (broad_Sum_X op (NM.ex_ok oc)) (Ev.bind (Round_X h (sumX_ok op (NM.ex_ok oc))) (Ev.now _))))
theorem fuse_Hypot_eq {n a b : Nat} (h : isW (n : Int) = true) (ha : a < 18446744073709551616) (hb : b < 18446744073709551616) : Ev (fun k => fuse_Hypot.f k (n : Int) (a : Int) (b : Int)) (((hypN n (a % 2 ^ n) (b % 2 ^ n) : Nat) : Int), none) := by
 have op := prdX_ok n (a % 2 ^ n) (a % 2 ^ n)
 have oq := prdX_ok n (b % 2 ^ n) (b % 2 ^ n)
 have os := sumX_ok op oq
 unfold fuse_Hypot.f
 refine Ev.bind (fuse_product_eq h ha ha) ?_
 simp only [Option.isNone_none, if_true]
 exact Ev.bind (fuse_product_eq h hb hb) (Ev.bind (broad_Sum_X op oq) (Ev.bind (root_Exact_X os) (Ev.bind (Round_X h (rootX_ok os)) (Ev.now _))))
theorem fuse_Hypot_no {n : Int} (h : isW n = false) (a b : Int) : Ev (fun k => fuse_Hypot.f k n a b) (0, some 2) := by
 unfold fuse_Hypot.f
 exact Ev.bind (fuse_product_no h _ _) (Ev.now _)
theorem up13 : Ev (fun k => vernierlaw13_up.f k) true := by
 unfold vernierlaw13_up.f
 have a := fuse_Fma_eq (n := 8) (a := 72) (b := 72) (c := 192) (by decide) (by decide) (by decide) (by decide)
 have b := fuse_Fma_eq (n := 8) (a := 127) (b := 1) (c := 192) (by decide) (by decide) (by decide) (by decide)
 rw [show fmaN 8 (72 % 2 ^ 8) (72 % 2 ^ 8) (192 % 2 ^ 8) = 76 by decide +kernel] at a
 rw [show fmaN 8 (127 % 2 ^ 8) (1 % 2 ^ 8) (192 % 2 ^ 8) = 0 by decide +kernel] at b
 exact Ev.bind a (Ev.bind b (Ev.now _))
end Go.Proofs.Ytfbbnpliaokmbaa.V
namespace Go.Proofs.Ytfbbnpliaokmbaa.Pure
open Go Go.RowKit Go.Proofs.Ytfbbnpliaokmbaa.Ab Go.Proofs.Ytfbbnpliaokmbaa.Fn Go.Proofs.Ytfbbnpliaokmbaa.V
set_option linter.unusedSimpArgs false
theorem abs_any {n a : Nat} (h : isW (n : Int) = true) (ha : a < 18446744073709551616) : Ev (fun k => vernierref08_Abs.f k (n : Int) (a : Int)) ((((decN n (a % 2 ^ n)).abs.ex.rnd n : Nat) : Int), 0) := by
 obtain ⟨b64, b8⟩ := pow64 h
 have hx := Nat.mod_lt a (two_pos n)
 have hh := two_halves (n := n) (by omega)
 have hpp := two_pos (n - 1)
 by_cases c : a % 2 ^ n = 2 ^ (n - 1)
 ·have e : (decN n (a % 2 ^ n)).abs.ex.rnd n = 2 ^ (n - 1) := by
   rw [c, decN_nar]
   have : (NM.abs ⟨2, false, 0, 0⟩).ex = EX.nar := by
    unfold NM.abs NM.ex EX.nar
    simp only [Nat.zero_mul]
   rw [this, EX.rnd_nar]
  rw [e]
  unfold vernierref08_Abs.f
  refine Ev.bind (ref_Rank_mod h ha) ?_
  simp only [if_true]
  have hr : rkN n (a % 2 ^ n) < 0 := by rw [c]; unfold rkN; split <;> omega
  simp only [if_pos hr]
  have hN := ref_Neg_eq h ha
  rw [negN_mod b64 ha, c, show negP n (2 ^ (n - 1)) = 2 ^ (n - 1) by unfold negP; rw [if_neg (by omega)]; omega] at hN
  exact Ev.bind hN (Ev.now _)
 ·rw [absN_eq b8 b64 hx c]
  exact ref_Abs_eq h ha c
theorem FuseFar : vernierlaw13_FuseFar.Pure := by
 intro n a b w0 w1 w2
 obtain ⟨a, rfl, ha⟩ := u64_nat w1
 obtain ⟨b, rfl, hb⟩ := u64_nat w2
 refine Ev.rounds (g := fun k => vernierlaw13_FuseFar.f k n (a : Int) (b : Int)) ?_
 unfold vernierlaw13_FuseFar.f
 refine Ev.bind up13 (Ev.bind (evn (ref_Is_eq _)) ?_)
 by_cases hn : isW n = true
 ·obtain ⟨n, rfl, _⟩ := isW_nat hn
  obtain ⟨b64, b8⟩ := pow64 hn
  have hx := Nat.mod_lt a (two_pos n)
  have hy := Nat.mod_lt b (two_pos n)
  rw [hn]
  have g3 : (18446744073709551616 - b) % 18446744073709551616 % 2 ^ n = negP n (b % 2 ^ n) := negN_mod b64 hb
  have q1 := fuse_Hypot_eq hn ha (show 0 < 18446744073709551616 by decide)
  have q2 := fuse_Hypot_eq hn ha hb
  have q3 := fuse_Hypot_eq hn (Nat.mod_lt (18446744073709551616 - b) (show 0 < 18446744073709551616 by decide)) ha
  rw [g3, hyp_swap b8 b64 hy, ← neg_wrap hb] at q3
  rw [Nat.zero_mod, hyp_zero b8 b64 hx] at q1
  refine Ev.bind q1 ?_
  simp only [if_true]
  refine Ev.bind q2 (Ev.bind q3 (Ev.bind (abs_any hn ha) (evn ?_)))
  simp
 ·have hn : isW n = false := by simpa using hn
  rw [hn]
  exact Ev.bind (fuse_Hypot_no hn _ _) (Ev.now _)
end Go.Proofs.Ytfbbnpliaokmbaa.Pure
