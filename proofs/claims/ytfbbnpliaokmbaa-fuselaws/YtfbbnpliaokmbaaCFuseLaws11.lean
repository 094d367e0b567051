-- Written by a program of this session out of its own texts (wip/tools/link.py).
import Derived.Below
import Derived.ChangeKeysEq
import Derived.Deep.MidRow
import Derived.Deep.RegionHeld3
import Derived.Great.BuildSlice
import Derived.IntWalk
import Derived.KernelRfl
import Derived.LaidEql
import Derived.Laws.Bits64
import Derived.Laws.BitsLemmas
import Derived.Laws.BytesArg
import Derived.Laws.IdiomCopy
import Derived.Laws.OwnMore
import Derived.Laws.Rows
import Derived.Laws.Slices
import Derived.Laws.Strings
import Derived.Laws.StructEq
import Derived.Laws.Tables
import Derived.Lib.BitFns
import Derived.Lib.Mul64
import Derived.Lib.Slices
import Derived.Lib.Small
import Derived.Lib.Strings
import Derived.Lib.Walk
import Derived.Maps.AppendAt
import Derived.OrdersHeld
import Derived.RowKit
import Derived.Shelf.Spec.BitsCarry
import Derived.Test.YtfbbnpliaokmbaaProg
import Derived.Test.YtfbbnpliaokmbaaCFuseLaws7
import Derived.Test.YtfbbnpliaokmbaaCFuseLaws8
import Derived.Test.YtfbbnpliaokmbaaCFuseLaws9
import Derived.Test.YtfbbnpliaokmbaaCFuseLaws10
namespace Go.Proofs.Ytfbbnpliaokmbaa.V
open Go Go.RowKit Go.Proofs.Ytfbbnpliaokmbaa.Ab Go.Proofs.Ytfbbnpliaokmbaa.Fn
set_option linter.unusedVariables false
set_option linter.unusedSimpArgs false
theorem beq_dec (a b : Int) : (a == b) = decide (a = b) := by by_cases h : a = b <;> simp [h]
theorem mask32 (a : Nat) (ha : a < 18446744073709551616) : Go.bits .and .u64 (a : Int) 4294967295 = ((a % 4294967296 : Nat) : Int) := and_mask a 32 ha (by decide)
theorem div32 (a : Nat) : (a : Int) / 4294967296 = ((a / 4294967296 : Nat) : Int) := by omega
theorem mulC (a b : Nat) : (a : Int) * (b : Int) = ((a * b : Nat) : Int) := (Int.natCast_mul a b).symm
theorem addC (a b : Nat) : (a : Int) + (b : Int) = ((a + b : Nat) : Int) := (Int.natCast_add a b).symm
theorem wrapN (a : Nat) (ha : a < 18446744073709551616) : IntKind.u64.wrap (a : Int) = (a : Int) := u64_of (by omega) (by omega)
theorem bits_Mul64_eq {x y : Nat} (hx : x < 18446744073709551616) (hy : y < 18446744073709551616) : bits_Mul64.f (x : Int) (y : Int) = some (TH (x * y), TL (x * y)) := by
 obtain ⟨bd, bt, bw, hhi⟩ := Lib.mul64_hi x y hx hy
 have ba := Lib.half_mul_le (a := x / 4294967296) (b := y / 4294967296) (by omega) (by omega)
 have bb := Lib.half_mul_le (a := x / 4294967296) (b := y % 4294967296) (by omega) (by omega)
 have bc := Lib.half_mul_le (a := x % 4294967296) (b := y / 4294967296) (by omega) (by omega)
 have ba' : x / 4294967296 * (y / 4294967296) < 18446744073709551616 := by omega
 have bb' : x / 4294967296 * (y % 4294967296) < 18446744073709551616 := by omega
 have bc' : x % 4294967296 * (y / 4294967296) < 18446744073709551616 := by omega
 have bh1 : x / 4294967296 * (y / 4294967296) + (x / 4294967296 * (y % 4294967296) + x % 4294967296 * (y % 4294967296) / 4294967296) / 4294967296 < 18446744073709551616 := by omega
 have bh : x / 4294967296 * (y / 4294967296) + (x / 4294967296 * (y % 4294967296) + x % 4294967296 * (y % 4294967296) / 4294967296) / 4294967296 + ((x / 4294967296 * (y % 4294967296) + x % 4294967296 * (y % 4294967296) / 4294967296) % 4294967296 + x % 4294967296 * (y / 4294967296)) / 4294967296 < 18446744073709551616 := by omega
 unfold bits_Mul64.f
 simp only [mask32 x hx, mask32 y hy, div32, mulC, addC, wrapN _ bd, wrapN _ bb', wrapN _ bt, mask32 _ bt, wrapN _ bc', wrapN _ bw, wrapN _ ba', wrapN _ bh1, wrapN _ bh, u64_nat_wrap (x * y)]
 rw [hhi]
 rfl
theorem twin_Mul_eq {x y : Nat} (hx : x < 18446744073709551616) (hy : y < 18446744073709551616) : twin_Mul.f (x : Int) (y : Int) = some (TH (x * y), TL (x * y)) := by
 unfold twin_Mul.f
 rw [bits_Mul64_eq hx hy]; rfl
theorem mul_lt128 {x y : Nat} (hx : x < 18446744073709551616) (hy : y < 18446744073709551616) : x * y < 2 ^ 128 := by
 have := Nat.mul_le_mul (show x ≤ 18446744073709551615 by omega) (show y ≤ 18446744073709551615 by omega)
 rw [p128]
 omega
def prodE (kd : Int) (ng : Bool) (sc : Int) (fr : Nat) (kd' : Int) (ng' : Bool) (sc' : Int) (fr' : Nat) : Int × Bool × Int × Int × Int × Bool :=
 if kd = 2 ∨ kd' = 2 then (2, false, 0, 0, 0, false) else if kd = 0 ∨ kd' = 0 then (0, false, 0, 0, 0, false)
 else exactE (ng != ng') (fr * fr') (sc + sc' - 126) false
theorem soundN_cases {kd sc fr : Int} {ng : Bool} (h : soundN kd ng sc fr = true) : (kd = 0 ∧ ng = false ∧ sc = 0 ∧ fr = 0) ∨ (kd = 2 ∧ ng = false ∧ sc = 0 ∧ fr = 0) ∨ (kd = 1 ∧ 9223372036854775808 ≤ fr ∧ -1073741824 ≤ sc ∧ sc ≤ 1073741824) := by
 unfold soundN at h
 split at h
 ·rename_i hk
  have : ng = false ∧ sc = 0 ∧ fr = 0 := by simpa using h
  rcases hk with hk | hk
  ·exact .inl ⟨hk, this⟩
  ·exact .inr (.inl ⟨hk, this⟩)
 ·exact .inr (.inr (of_decide_eq_true h))
theorem makeV_exactE {ng R : Bool} {V : Nat} {e : Int} (hV : V < 2 ^ 128) (h0 : -4398046511104 ≤ e) (h1 : e ≤ 4398046511104) :
  makeV ng V e R = ((exactE ng V e R).1, (exactE ng V e R).2.1, (exactE ng V e R).2.2.1, (exactE ng V e R).2.2.2.1, (exactE ng V e R).2.2.2.2.1, (exactE ng V e R).2.2.2.2.2, none) := by
 unfold makeV exactE
 by_cases hz : V = 0
 ·rw [if_pos hz, if_pos hz]
 ·rw [if_neg hz, if_neg hz]
  have hb := bl_le_of_lt hV
  have hr : mkR V R = R := by unfold mkR; rw [show bl V - 128 = 0 by omega, Nat.pow_zero, Nat.mod_one]; simp
  have hf : farI e = e := by unfold farI; rw [if_neg (by omega), if_neg (by omega)]
  rw [hr, hf]
theorem prod_Exact_eq (kd : Int) (ng : Bool) (sc : Int) (fr : Nat) (kd' : Int) (ng' : Bool) (sc' : Int) (fr' : Nat) (hf : fr < 18446744073709551616) (hf' : fr' < 18446744073709551616) :
  Ev (fun k => prod_Exact.f k kd ng sc (fr : Int) kd' ng' sc' (fr' : Int)) (if soundN kd ng sc fr = true ∧ soundN kd' ng' sc' fr' = true then
   ((prodE kd ng sc fr kd' ng' sc' fr').1, (prodE kd ng sc fr kd' ng' sc' fr').2.1, (prodE kd ng sc fr kd' ng' sc' fr').2.2.1, (prodE kd ng sc fr kd' ng' sc' fr').2.2.2.1, (prodE kd ng sc fr kd' ng' sc' fr').2.2.2.2.1, (prodE kd ng sc fr kd' ng' sc' fr').2.2.2.2.2, none)
   else (0, false, 0, 0, 0, false, some 1)) := by
 unfold prod_Exact.f
 refine Ev.bind (round_Of_eq kd ng sc fr (by omega) (by omega)) ?_
 by_cases h1 : soundN kd ng sc fr = true
 ·simp only [h1, if_true, Option.isNone_none, true_and]
  refine Ev.bind (round_Of_eq kd' ng' sc' fr' (by omega) (by omega)) ?_
  by_cases h2 : soundN kd' ng' sc' fr' = true
  ·simp only [h2, if_true, Option.isNone_none]
   have c1 := soundN_cases h1
   have c2 := soundN_cases h2
   have j1 : Ev (fun k => prod_Exact.j0 k (decide (kd = 2 ∨ kd' = 2)) kd ng sc (fr : Int) kd' ng' sc' (fr' : Int)) ((prodE kd ng sc fr kd' ng' sc' fr').1, (prodE kd ng sc fr kd' ng' sc' fr').2.1, (prodE kd ng sc fr kd' ng' sc' fr').2.2.1, (prodE kd ng sc fr kd' ng' sc' fr').2.2.2.1, (prodE kd ng sc fr kd' ng' sc' fr').2.2.2.2.1, (prodE kd ng sc fr kd' ng' sc' fr').2.2.2.2.2, none) := by
    refine evs ?_
    simp only [prod_Exact.j0]
    unfold prodE
    by_cases hk : kd = 2 ∨ kd' = 2
    ·simp only [if_pos hk, decide_eq_true hk, if_true]
     exact Ev.now _
    ·simp only [if_neg hk, decide_eq_false hk, Bool.false_eq_true, if_false]
     have j2 : Ev (fun k => prod_Exact.j1 k (decide (kd = 0 ∨ kd' = 0)) ng sc (fr : Int) ng' sc' (fr' : Int)) (if kd = 0 ∨ kd' = 0 then (0, false, 0, 0, 0, false, none) else makeV (ng != ng') (fr * fr') (sc + sc' - 126) false) := by
      refine evs ?_
      simp only [prod_Exact.j1]
      by_cases h0 : kd = 0 ∨ kd' = 0
      ·simp only [if_pos h0, decide_eq_true h0, if_true]
       exact Ev.now _
      ·simp only [if_neg h0, decide_eq_false h0, Bool.false_eq_true, if_false]
       have ew : wrap64 (wrap64 (sc + sc') - 126) = sc + sc' - 126 := by
        rw [w64 (n := sc + sc') (by omega) (by omega), w64 (by omega) (by omega)]
       rw [ew, twin_Mul_eq hf hf']
       simp only [Option.bind_some]
       have := round_Make_eq (ng != ng') (fr * fr') (sc + sc' - 126) false (mul_lt128 hf hf')
       simp only [Bool.false_eq_true, false_and, if_false] at this
       refine Ev.bind this ?_
       exact Ev.now _
     have key : ((if kd = 0 ∨ kd' = 0 then (0, false, 0, 0, 0, false, none) else makeV (ng != ng') (fr * fr') (sc + sc' - 126) false) : Int × Bool × Int × Int × Int × Bool × Option Int) = ((if kd = 0 ∨ kd' = 0 then (0, false, 0, 0, 0, false) else exactE (ng != ng') (fr * fr') (sc + sc' - 126) false).1, (if kd = 0 ∨ kd' = 0 then (0, false, 0, 0, 0, false) else exactE (ng != ng') (fr * fr') (sc + sc' - 126) false).2.1, (if kd = 0 ∨ kd' = 0 then (0, false, 0, 0, 0, false) else exactE (ng != ng') (fr * fr') (sc + sc' - 126) false).2.2.1, (if kd = 0 ∨ kd' = 0 then (0, false, 0, 0, 0, false) else exactE (ng != ng') (fr * fr') (sc + sc' - 126) false).2.2.2.1, (if kd = 0 ∨ kd' = 0 then (0, false, 0, 0, 0, false) else exactE (ng != ng') (fr * fr') (sc + sc' - 126) false).2.2.2.2.1, (if kd = 0 ∨ kd' = 0 then (0, false, 0, 0, 0, false) else exactE (ng != ng') (fr * fr') (sc + sc' - 126) false).2.2.2.2.2, none) := by
      by_cases h0 : kd = 0 ∨ kd' = 0
      ·simp only [if_pos h0]
      ·simp only [if_neg h0]
       exact makeV_exactE (mul_lt128 hf hf') (by omega) (by omega)
     rw [← key]
     by_cases hk0 : kd = 0
     ·have hd : (kd == 0) = decide (kd = 0 ∨ kd' = 0) := by rw [decide_eq_true (.inl hk0)]; simp [hk0]
      simp only [if_pos hk0, hd]
      exact j2
     ·have hd : (kd' == 0) = decide (kd = 0 ∨ kd' = 0) := by rw [beq_dec]; simp [hk0]
      simp only [if_neg hk0, hd]
      exact j2
   by_cases hk2 : kd = 2
   ·have hd : (kd == 2) = decide (kd = 2 ∨ kd' = 2) := by simp [hk2]
    simp only [if_pos hk2, hd]
    exact j1
   ·have hd : (kd' == 2) = decide (kd = 2 ∨ kd' = 2) := by rw [beq_dec]; simp [hk2]
    simp only [if_neg hk2, hd]
    exact j1
  ·simp only [if_neg h2]
   exact Ev.now _
 ·simp only [if_neg h1, if_neg (show ¬ (soundN kd ng sc fr = true ∧ soundN kd' ng' sc' fr' = true) from fun h => h1 h.1)]
  exact Ev.now _
def prodX (a b : NM) : EX := if a.kd = 2 ∨ b.kd = 2 then EX.nar else if a.kd = 0 ∨ b.kd = 0 then EX.zero else natX (a.ng != b.ng) (a.fr * b.fr) (a.sc + b.sc - 126) false
theorem prodX_ok (a b : NM) : (prodX a b).ok := by
 unfold prodX
 split
 ·exact .inr (.inl rfl)
 ·split
  ·exact .inl rfl
  ·exact natX_ok _ _ _ _
theorem prodE_X (a b : NM) : prodE a.kd a.ng a.sc a.fr b.kd b.ng b.sc b.fr = ((prodX a b).kd, (prodX a b).ng, (prodX a b).sc, TH (prodX a b).V, TL (prodX a b).V, (prodX a b).R) := by
 unfold prodE prodX
 by_cases h2 : a.kd = 2 ∨ b.kd = 2
 ·rw [if_pos h2, if_pos h2]; rfl
 ·rw [if_neg h2, if_neg h2]
  by_cases h0 : a.kd = 0 ∨ b.kd = 0
  ·rw [if_pos h0, if_pos h0]; rfl
  ·rw [if_neg h0, if_neg h0, exactE_natX]
theorem prod_Exact_X {a b : NM} (ha : a.ok) (hb : b.ok) : Ev (fun k => prod_Exact.f k a.kd a.ng a.sc (a.fr : Int) b.kd b.ng b.sc (b.fr : Int)) ((prodX a b).kd, (prodX a b).ng, (prodX a b).sc, TH (prodX a b).V, TL (prodX a b).V, (prodX a b).R, none) := by
 have := prod_Exact_eq a.kd a.ng a.sc a.fr b.kd b.ng b.sc b.fr ha.2 hb.2
 rw [if_pos ⟨ha.1, hb.1⟩, prodE_X] at this
 exact this
def mulN (n x y : Nat) : Nat := (prodX (decN n x) (decN n y)).rnd n
theorem prod_Mul_eq {n a b : Nat} (h : isW (n : Int) = true) (ha : a < 18446744073709551616) (hb : b < 18446744073709551616) : Ev (fun k => prod_Mul.f k (n : Int) (a : Int) (b : Int)) (((mulN n (a % 2 ^ n) (b % 2 ^ n) : Nat) : Int), none) := by
 obtain ⟨b64, b8⟩ := pow64 h
 unfold prod_Mul.f
 refine Ev.bind (Decode_N h ha) ?_
 simp only [Option.isNone_none, if_true]
 refine Ev.bind (Decode_N h hb) ?_
 refine Ev.bind (prod_Exact_X (decN_ok b8 b64 (Nat.mod_lt a (two_pos n))) (decN_ok b8 b64 (Nat.mod_lt b (two_pos n)))) ?_
 refine Ev.bind (Round_X h (prodX_ok _ _)) ?_
 exact Ev.now _
end Go.Proofs.Ytfbbnpliaokmbaa.V
namespace Go.Proofs.Ytfbbnpliaokmbaa.V
open Go Go.RowKit Go.Proofs.Ytfbbnpliaokmbaa.Ab Go.Proofs.Ytfbbnpliaokmbaa.Fn
set_option linter.unusedVariables false
set_option linter.unusedSimpArgs false
theorem Of_X {x : NM} (h : x.ok) : Ev (fun k => round_Of.f k x.kd x.ng x.sc (x.fr : Int)) (x.ex.kd, x.ex.ng, x.ex.sc, TH x.ex.V, TL x.ex.V, x.ex.R, none) := by
 have := round_Of_eq x.kd x.ng x.sc (x.fr : Int) (by have := h.2; omega) (by omega)
 rw [if_pos h.1] at this
 rw [(NM.ex_tup x h).1, (NM.ex_tup x h).2]
 exact this
end Go.Proofs.Ytfbbnpliaokmbaa.V
namespace Go.Proofs.Ytfbbnpliaokmbaa.V
open Go Go.RowKit Go.Proofs.Ytfbbnpliaokmbaa.Ab Go.Proofs.Ytfbbnpliaokmbaa.Fn
set_option linter.unusedVariables false
set_option linter.unusedSimpArgs false
theorem EX.ok_kd {x : EX} (hx : x.ok) : x.kd = 0 ∨ x.kd = 1 ∨ x.kd = 2 := by
 rcases hx with rfl | rfl | hx
 ·exact .inl rfl
 ·exact .inr (.inr rfl)
 ·exact .inr (.inl hx.1)
theorem sumX_nar {x y : EX} (h : x.kd = 2 ∨ y.kd = 2) : sumX x y = EX.nar := by unfold sumX; rw [if_pos h]
theorem sumX_z1 {x y : EX} (h : ¬ (x.kd = 2 ∨ y.kd = 2)) (h1 : x.kd = 0) : sumX x y = y := by unfold sumX; rw [if_neg h, if_pos h1]
theorem sumX_z2 {x y : EX} (h : ¬ (x.kd = 2 ∨ y.kd = 2)) (h1 : ¬ x.kd = 0) (h2 : y.kd = 0) : sumX x y = x := by unfold sumX; rw [if_neg h, if_neg h1, if_pos h2]
theorem broad_Sum_j0 {x y : EX} (hx : x.ok) (hy : y.ok) : Ev (fun k => broad_Sum.j0 k (decide (x.kd = 2 ∨ y.kd = 2)) x.kd x.ng x.sc (TH x.V) (TL x.V) x.R y.kd y.ng y.sc (TH y.V) (TL y.V) y.R) (sumX x y).tup := by
 refine evs ?_
 simp only [broad_Sum.j0]
 by_cases h : x.kd = 2 ∨ y.kd = 2
 ·simp only [if_pos (decide_eq_true h)]
  rw [sumX_nar h]
  exact Ev.now _
 ·simp only [if_neg (fun h' => h (of_decide_eq_true h') : ¬ decide (x.kd = 2 ∨ y.kd = 2) = true)]
  by_cases a : x.kd = 0
  ·simp only [if_pos a]
   rw [sumX_z1 h a]
   exact Ev.now _
  ·simp only [if_neg a]
   by_cases b : y.kd = 0
   ·simp only [if_pos b]
    rw [sumX_z2 h a b]
    exact Ev.now _
   ·simp only [if_neg b]
    have kx : x.kd = 1 := by have := EX.ok_kd hx; omega
    have ky : y.kd = 1 := by have := EX.ok_kd hy; omega
    by_cases c : x.sc < y.sc
    ·simp only [if_pos c]
     rw [sumX_comm hx hy]
     exact Sum_j1 hy hx ky kx (Int.le_of_lt c)
    ·simp only [if_neg c]
     exact Sum_j1 hx hy kx ky (Int.not_lt.1 c)
theorem broad_Sum_X {x y : EX} (hx : x.ok) (hy : y.ok) : Ev (fun k => broad_Sum.f k x.kd x.ng x.sc (TH x.V) (TL x.V) x.R y.kd y.ng y.sc (TH y.V) (TL y.V) y.R) (sumX x y).tup := by
 have h := broad_Sum_j0 hx hy
 unfold broad_Sum.f
 by_cases a : x.kd = 2
 ·simp only [if_pos a]
  rw [decide_eq_true (Or.inl a)] at h
  exact h
 ·simp only [if_neg a]
  rw [show decide (x.kd = 2 ∨ y.kd = 2) = (y.kd == 2) by rw [Bool.eq_iff_iff]; simp [a]] at h
  exact h
theorem sum_Exact_X {a b : NM} (ha : a.ok) (hb : b.ok) : Ev (fun k => sum_Exact.f k a.kd a.ng a.sc (a.fr : Int) b.kd b.ng b.sc (b.fr : Int)) ((sumX a.ex b.ex).kd, (sumX a.ex b.ex).ng, (sumX a.ex b.ex).sc, TH (sumX a.ex b.ex).V, TL (sumX a.ex b.ex).V, (sumX a.ex b.ex).R, none) := by
 unfold sum_Exact.f
 refine Ev.bind (Of_X ha) ?_
 simp only [Option.isNone_none, if_true]
 refine Ev.bind (Of_X hb) ?_
 simp only [Option.isNone_none, if_true]
 exact Ev.bind (broad_Sum_X (NM.ex_ok ha) (NM.ex_ok hb)) (Ev.now _)
def addN (n x y : Nat) : Nat := (sumX (decN n x).ex (decN n y).ex).rnd n
theorem sum_Add_eq {n a b : Nat} (h : isW (n : Int) = true) (ha : a < 18446744073709551616) (hb : b < 18446744073709551616) : Ev (fun k => sum_Add.f k (n : Int) (a : Int) (b : Int)) (((addN n (a % 2 ^ n) (b % 2 ^ n) : Nat) : Int), none) := by
 obtain ⟨b64, b8⟩ := pow64 h
 have oa := decN_ok b8 b64 (Nat.mod_lt a (two_pos n))
 have ob := decN_ok b8 b64 (Nat.mod_lt b (two_pos n))
 unfold sum_Add.f
 refine Ev.bind (Decode_N h ha) ?_
 simp only [Option.isNone_none, if_true]
 refine Ev.bind (Decode_N h hb) (Ev.bind (sum_Exact_X oa ob) ?_)
 simp only [Option.isNone_none, if_true]
 exact Ev.bind (Round_X h (sumX_ok (NM.ex_ok oa) (NM.ex_ok ob))) (Ev.now _)
end Go.Proofs.Ytfbbnpliaokmbaa.V
namespace Go.Proofs.Ytfbbnpliaokmbaa.V
open Go Go.RowKit Go.Proofs.Ytfbbnpliaokmbaa.Ab
theorem prodX_comm (a b : NM) : prodX a b = prodX b a := by
 have e2 : (b.kd = 2 ∨ a.kd = 2) ↔ (a.kd = 2 ∨ b.kd = 2) := Or.comm
 have e0 : (b.kd = 0 ∨ a.kd = 0) ↔ (a.kd = 0 ∨ b.kd = 0) := Or.comm
 unfold prodX
 simp only [e2, e0, Nat.mul_comm b.fr, Int.add_comm b.sc, show (b.ng != a.ng) = (a.ng != b.ng) by cases a.ng <;> cases b.ng <;> rfl]
theorem prodX_neg {a : NM} (ha : a.ok) (b : NM) : prodX a.neg b = (prodX a b).neg := by
 rcases NM.cases ha with rfl | rfl | ⟨h, h2, h3, h4, h5⟩
 ·rw [show (⟨0, false, 0, 0⟩ : NM).neg = ⟨0, false, 0, 0⟩ from rfl]
  unfold prodX
  split
  ·rfl
  ·rw [if_pos (.inl rfl)]; rfl
 ·rw [show (⟨2, false, 0, 0⟩ : NM).neg = ⟨2, false, 0, 0⟩ from rfl]
  unfold prodX
  rw [if_pos (.inl rfl)]; rfl
 ·unfold NM.neg
  rw [if_pos h]
  unfold prodX
  simp only
  by_cases h2 : a.kd = 2 ∨ b.kd = 2
  ·rw [if_pos h2, if_pos h2]; rfl
  ·rw [if_neg h2, if_neg h2]
   by_cases h0 : a.kd = 0 ∨ b.kd = 0
   ·rw [if_pos h0, if_pos h0]; rfl
   ·rw [if_neg h0, if_neg h0, ← natX_neg]
    congr 1
    cases a.ng <;> cases b.ng <;> rfl
theorem bl63 {f : Nat} (h : 2 ^ 63 ≤ f) (h2 : f < 2 ^ 64) : bl f = 64 := bl_unique (by decide) h h2
theorem prodX_one {a : NM} (ha : a.ok) : prodX a oneN = a.ex := by
 rcases NM.cases ha with rfl | rfl | ⟨h1, h2, h3, h4, h5⟩
 ·rfl
 ·rfl
 ·unfold prodX
  rw [if_neg (by unfold oneN; simp only; omega), if_neg (by unfold oneN; simp only; omega)]
  unfold oneN natX
  simp only
  have hp : a.fr * 9223372036854775808 ≠ 0 := by rw [p63] at h2; omega
  have hb : bl (a.fr * 9223372036854775808) = 127 := by
   rw [show (9223372036854775808 : Nat) = 2 ^ 63 from p63.symm, bl_mul_pow 63 (by rw [p63] at h2; omega), bl63 h2 h3]
  rw [if_neg hp, hb]
  unfold NM.ex
  refine EX.ext' h1.symm ?_ ?_ ?_ ?_
  ·simp
  ·simp only
   unfold heldI
   rw [if_neg (by omega), if_neg (by omega)]
   omega
  ·simp only
   unfold mkV
   rw [hb, if_pos (by decide), Nat.mul_assoc]
  ·simp only
   unfold mkR
   rw [hb, Nat.pow_zero, Nat.mod_one]; rfl
theorem decN_nar (n : Nat) : decN n (2 ^ (n - 1)) = ⟨2, false, 0, 0⟩ := by
 unfold decN
 rw [if_neg (Nat.ne_of_gt (two_pos (n - 1))), if_pos rfl]
theorem decN_kd {n x : Nat} (h : x ≠ 2 ^ (n - 1)) : (decN n x).kd ≠ 2 := by
 unfold decN
 by_cases h0 : x = 0
 ·rw [if_pos h0]; show (0 : Int) ≠ 2; decide
 ·rw [if_neg h0, if_neg h]; show (1 : Int) ≠ 2; decide
end Go.Proofs.Ytfbbnpliaokmbaa.V
namespace Go.Proofs.Ytfbbnpliaokmbaa.V
open Go Go.RowKit Go.Proofs.Ytfbbnpliaokmbaa.Ab Go.Proofs.Ytfbbnpliaokmbaa.Fn
set_option linter.unusedVariables false
set_option linter.unusedSimpArgs false
theorem EX.ok_zero {x : EX} (hx : x.ok) (h : x.kd = 0) : x = EX.zero := by
 rcases hx with rfl | rfl | hx
 ·rfl
 ·exact absurd h (by decide)
 ·omega
theorem sumX_zero_r {x : EX} (hx : x.ok) : sumX x EX.zero = x := by
 unfold sumX
 by_cases h : x.kd = 2 ∨ EX.zero.kd = 2
 ·rw [if_pos h]
  have h2 : x.kd = 2 := h.elim id (fun h => absurd h (by decide))
  rcases hx with rfl | rfl | hx
  ·exact absurd h2 (by decide)
  ·rfl
  ·omega
 ·rw [if_neg h]
  by_cases h0 : x.kd = 0
  ·rw [if_pos h0, EX.ok_zero hx h0]
  ·rw [if_neg h0, if_pos (show EX.zero.kd = 0 from rfl)]
theorem EX.neg_kd (x : EX) : x.neg.kd = x.kd := by unfold EX.neg; split <;> rfl
theorem EX.neg_sc (x : EX) : x.neg.sc = x.sc := by unfold EX.neg; split <;> rfl
theorem EX.neg_val {x : EX} (h : x.kd = 1) (e : Int) : x.neg.val e = -(x.val e) := by
 unfold EX.neg
 rw [if_pos h]
 unfold EX.val
 simp only
 cases x.ng <;> simp
theorem intX_neg (z e : Int) : intX (-z) e = (intX z e).neg := by
 unfold intX
 by_cases h : z = 0
 ·subst h; rfl
 ·rw [Int.natAbs_neg, ← natX_neg]
  congr 1
  rw [Bool.eq_iff_iff]
  simp only [decide_eq_true_eq, Bool.not_eq_true', decide_eq_false_iff_not]
  omega
theorem sumX_neg {x y : EX} (hx : x.ok) (hy : y.ok) : sumX x.neg y.neg = (sumX x y).neg := by
 unfold sumX
 rw [EX.neg_kd, EX.neg_kd, EX.neg_sc, EX.neg_sc]
 by_cases h : x.kd = 2 ∨ y.kd = 2
 ·rw [if_pos h, if_pos h]; rfl
 ·rw [if_neg h, if_neg h]
  by_cases a : x.kd = 0
  ·rw [if_pos a, if_pos a]
  ·rw [if_neg a, if_neg a]
   by_cases b : y.kd = 0
   ·rw [if_pos b, if_pos b]
   ·have kx : x.kd = 1 := by have := EX.ok_kd hx; omega
    have ky : y.kd = 1 := by have := EX.ok_kd hy; omega
    rw [if_neg b, if_neg b, EX.neg_val kx, EX.neg_val ky, ← intX_neg]
    congr 1
    omega
theorem sumX_self {x : EX} (hx : x.ok) (h : x.kd ≠ 2) : sumX x x.neg = EX.zero := by
 unfold sumX
 rw [EX.neg_kd, EX.neg_sc, if_neg (by omega)]
 by_cases a : x.kd = 0
 ·rw [if_pos a, EX.ok_zero hx a]; rfl
 ·have kx : x.kd = 1 := by have := EX.ok_kd hx; omega
  rw [if_neg a, if_neg a, EX.neg_val kx, Int.add_right_neg]
  unfold intX
  exact natX_zero _ _ _
end Go.Proofs.Ytfbbnpliaokmbaa.V
namespace Go.Proofs.Ytfbbnpliaokmbaa.V
open Go Go.RowKit Go.Proofs.Ytfbbnpliaokmbaa.Ab Go.Proofs.Ytfbbnpliaokmbaa.Fn
set_option linter.unusedVariables false
set_option linter.unusedSimpArgs false
def prdX (n x y : Nat) : EX := prodX (decN n x) (decN n y)
theorem prdX_ok (n x y : Nat) : (prdX n x y).ok := prodX_ok _ _
def fmaN (n x y z : Nat) : Nat := (sumX (prdX n x y) (decN n z).ex).rnd n
def pairN (n x y z w : Nat) : Nat := (sumX (prdX n x y) (prdX n z w)).rnd n
theorem EX.neg_neg {x : EX} : x.neg.neg = x := by
 unfold EX.neg
 by_cases h : x.kd = 1
 ·rw [if_pos h]
  simp only [if_pos h, Bool.not_not]
 ·rw [if_neg h, if_neg h]
theorem prdX_comm (n x y : Nat) : prdX n x y = prdX n y x := prodX_comm _ _
theorem prdX_neg {n x y : Nat} (h8 : 8 ≤ n) (hn : n ≤ 64) (hx : x < 2 ^ n) : prdX n (negP n x) y = (prdX n x y).neg := by
 unfold prdX
 rw [decN_neg (by omega) hx, prodX_neg (decN_ok h8 hn hx)]
theorem prdX_one {n x : Nat} (h : isW (n : Int) = true) (h8 : 8 ≤ n) (hn : n ≤ 64) (hx : x < 2 ^ n) : prdX n x (2 ^ (n - 2)) = (decN n x).ex := by
 unfold prdX
 rw [decN_one h, prodX_one (decN_ok h8 hn hx)]
theorem fma_one {n x z : Nat} (h : isW (n : Int) = true) (h8 : 8 ≤ n) (hn : n ≤ 64) (hx : x < 2 ^ n) : fmaN n x (2 ^ (n - 2)) z = addN n x z := by
 unfold fmaN addN
 rw [prdX_one h h8 hn hx]
theorem dec_ex_zero (n : Nat) : (decN n 0).ex = EX.zero := by
 rw [show decN n 0 = ⟨0, false, 0, 0⟩ from rfl]
 unfold NM.ex EX.zero
 simp only [Nat.zero_mul]
theorem fma_zero (n x y : Nat) : fmaN n x y 0 = mulN n x y := by
 unfold fmaN mulN
 rw [dec_ex_zero, sumX_zero_r (prdX_ok n x y)]
 rfl
theorem pair_swap (n x y z w : Nat) : pairN n w z y x = pairN n x y z w := by
 unfold pairN
 rw [prdX_comm n w z, prdX_comm n y x, sumX_comm (prdX_ok _ _ _) (prdX_ok _ _ _)]
theorem cross_swap {n x y z w : Nat} (h8 : 8 ≤ n) (hn : n ≤ 64) (hx : x < 2 ^ n) (hz : z < 2 ^ n) : pairN n z w (negP n x) y = negP n (pairN n x y (negP n z) w) := by
 unfold pairN
 rw [prdX_neg h8 hn hx, prdX_neg h8 hn hz]
 have ox := prdX_ok n x y
 have oz := prdX_ok n z w
 rw [← EX.rnd_neg h8 hn (sumX_ok ox (EX.neg_ok oz)), ← sumX_neg ox (EX.neg_ok oz), EX.neg_neg, sumX_comm oz (EX.neg_ok ox)]
theorem cross_self {n x y : Nat} (h8 : 8 ≤ n) (hn : n ≤ 64) (hy : y < 2 ^ n) (nx : x ≠ 2 ^ (n - 1)) (ny : y ≠ 2 ^ (n - 1)) : pairN n x y (negP n y) x = 0 := by
 have hk : (prdX n x y).kd ≠ 2 := by
  have h1 := decN_kd nx
  have h2 := decN_kd ny
  unfold prdX prodX
  rw [if_neg (by omega)]
  split
  ·decide
  ·unfold natX
   split
   ·decide
   ·show (1 : Int) ≠ 2; decide
 unfold pairN
 rw [prdX_neg h8 hn hy, prdX_comm n y x, sumX_self (prdX_ok _ _ _) hk, EX.rnd_zero]
theorem prdX_nar {n x y : Nat} (h : x = 2 ^ (n - 1) ∨ y = 2 ^ (n - 1)) : prdX n x y = EX.nar := by
 unfold prdX prodX
 rw [if_pos]
 rcases h with rfl | rfl
 ·exact .inl (by rw [decN_nar])
 ·exact .inr (by rw [decN_nar])
theorem fma_nar {n x y z : Nat} (h : x = 2 ^ (n - 1) ∨ y = 2 ^ (n - 1)) : fmaN n x y z = 2 ^ (n - 1) := by
 unfold fmaN
 rw [prdX_nar h, sumX_nar (.inl rfl), EX.rnd_nar]
theorem pair_nar {n x y z w : Nat} (h : x = 2 ^ (n - 1) ∨ y = 2 ^ (n - 1)) : pairN n x y z w = 2 ^ (n - 1) := by
 unfold pairN
 rw [prdX_nar h, sumX_nar (.inl rfl), EX.rnd_nar]
theorem fuse_product_eq {n a b : Nat} (h : isW (n : Int) = true) (ha : a < 18446744073709551616) (hb : b < 18446744073709551616) : Ev (fun k => fuse_product.f k (n : Int) (a : Int) (b : Int)) ((prdX n (a % 2 ^ n) (b % 2 ^ n)).kd, (prdX n (a % 2 ^ n) (b % 2 ^ n)).ng, (prdX n (a % 2 ^ n) (b % 2 ^ n)).sc, TH (prdX n (a % 2 ^ n) (b % 2 ^ n)).V, TL (prdX n (a % 2 ^ n) (b % 2 ^ n)).V, (prdX n (a % 2 ^ n) (b % 2 ^ n)).R, none) := by
 obtain ⟨b64, b8⟩ := pow64 h
 have oa := decN_ok b8 b64 (Nat.mod_lt a (two_pos n))
 have ob := decN_ok b8 b64 (Nat.mod_lt b (two_pos n))
 unfold fuse_product.f
 refine Ev.bind (Decode_N h ha) ?_
 simp only [Option.isNone_none, if_true]
 exact Ev.bind (Decode_N h hb) (Ev.bind (prod_Exact_X oa ob) (Ev.now _))
theorem fuse_product_no {n : Int} (h : isW n = false) (a b : Int) : Ev (fun k => fuse_product.f k n a b) (0, false, 0, 0, 0, false, some 2) := by
 unfold fuse_product.f
 exact Ev.bind (Decode_no h a) (Ev.now _)
theorem fuse_Fma_eq {n a b c : Nat} (h : isW (n : Int) = true) (ha : a < 18446744073709551616) (hb : b < 18446744073709551616) (hc : c < 18446744073709551616) : Ev (fun k => fuse_Fma.f k (n : Int) (a : Int) (b : Int) (c : Int)) (((fmaN n (a % 2 ^ n) (b % 2 ^ n) (c % 2 ^ n) : Nat) : Int), none) := by
 obtain ⟨b64, b8⟩ := pow64 h
 have oc := decN_ok b8 b64 (Nat.mod_lt c (two_pos n))
 have op := prdX_ok n (a % 2 ^ n) (b % 2 ^ n)
 unfold fuse_Fma.f
 refine Ev.bind (fuse_product_eq h ha hb) ?_
 simp only [Option.isNone_none, if_true]
 exact Ev.bind (Decode_N h hc) (Ev.bind (Of_X oc) (Ev.bind (broad_Sum_X op (NM.ex_ok oc)) (Ev.bind (Round_X h (sumX_ok op (NM.ex_ok oc))) (Ev.now _))))
theorem fuse_Fma_no {n : Int} (h : isW n = false) (a b c : Int) : Ev (fun k => fuse_Fma.f k n a b c) (0, some 2) := by
 unfold fuse_Fma.f
 exact Ev.bind (fuse_product_no h _ _) (Ev.now _)
theorem fuse_Pair_eq {n a b c d : Nat} (h : isW (n : Int) = true) (ha : a < 18446744073709551616) (hb : b < 18446744073709551616) (hc : c < 18446744073709551616) (hd : d < 18446744073709551616) : Ev (fun k => fuse_Pair.f k (n : Int) (a : Int) (b : Int) (c : Int) (d : Int)) (((pairN n (a % 2 ^ n) (b % 2 ^ n) (c % 2 ^ n) (d % 2 ^ n) : Nat) : Int), none) := by
 have op := prdX_ok n (a % 2 ^ n) (b % 2 ^ n)
 have oq := prdX_ok n (c % 2 ^ n) (d % 2 ^ n)
 unfold fuse_Pair.f
 refine Ev.bind (fuse_product_eq h ha hb) ?_
 simp only [Option.isNone_none, if_true]
 exact Ev.bind (fuse_product_eq h hc hd) (Ev.bind (broad_Sum_X op oq) (Ev.bind (Round_X h (sumX_ok op oq)) (Ev.now _)))
theorem fuse_Cross_eq {n a b c d : Nat} (h : isW (n : Int) = true) (ha : a < 18446744073709551616) (hb : b < 18446744073709551616) (hc : c < 18446744073709551616) (hd : d < 18446744073709551616) : Ev (fun k => fuse_Cross.f k (n : Int) (a : Int) (b : Int) (c : Int) (d : Int)) (((pairN n (a % 2 ^ n) (b % 2 ^ n) (negP n (c % 2 ^ n)) (d % 2 ^ n) : Nat) : Int), none) := by
 obtain ⟨b64, b8⟩ := pow64 h
 have g : (18446744073709551616 - c) % 18446744073709551616 % 2 ^ n = negP n (c % 2 ^ n) := negN_mod b64 hc
 have q := fuse_Pair_eq h ha hb (Nat.mod_lt (18446744073709551616 - c) (show 0 < 18446744073709551616 by decide)) hd
 rw [g, ← neg_wrap hc] at q
 unfold fuse_Cross.f
 exact Ev.bind q (Ev.now _)
theorem up13 : Ev (fun k => vernierlaw13_up.f k) true := by
 unfold vernierlaw13_up.f
 have a := fuse_Fma_eq (n := 8) (a := 72) (b := 72) (c := 192) (by decide) (by decide) (by decide) (by decide)
 have b := fuse_Fma_eq (n := 8) (a := 127) (b := 1) (c := 192) (by decide) (by decide) (by decide) (by decide)
 rw [show fmaN 8 (72 % 2 ^ 8) (72 % 2 ^ 8) (192 % 2 ^ 8) = 76 by decide +kernel] at a
 rw [show fmaN 8 (127 % 2 ^ 8) (1 % 2 ^ 8) (192 % 2 ^ 8) = 0 by decide +kernel] at b
 exact Ev.bind a (Ev.bind b (Ev.now _))
end Go.Proofs.Ytfbbnpliaokmbaa.V
namespace Go.Proofs.Ytfbbnpliaokmbaa.Pure
open Go Go.RowKit Go.Proofs.Ytfbbnpliaokmbaa.Ab Go.Proofs.Ytfbbnpliaokmbaa.Fn Go.Proofs.Ytfbbnpliaokmbaa.V
set_option linter.unusedSimpArgs false
theorem FuseLaws : vernierlaw13_FuseLaws.Pure := by
 intro n a b c d w0 w1 w2 w3 w4
 obtain ⟨a, rfl, ha⟩ := u64_nat w1
 obtain ⟨b, rfl, hb⟩ := u64_nat w2
 obtain ⟨c, rfl, hc⟩ := u64_nat w3
 obtain ⟨d, rfl, hd⟩ := u64_nat w4
 refine Ev.rounds (g := fun k => vernierlaw13_FuseLaws.f k n (a : Int) (b : Int) (c : Int) (d : Int)) ?_
 unfold vernierlaw13_FuseLaws.f
 refine Ev.bind up13 (Ev.bind (evn (ref_Is_eq _)) ?_)
 by_cases hn : isW n = true
 ·obtain ⟨n, rfl, _⟩ := isW_nat hn
  obtain ⟨b64, b8⟩ := pow64 hn
  have e2 : wrap64 ((n : Int) - 2) = ((n - 2 : Nat) : Int) := by rw [w64 (by omega) (by omega)]; omega
  have e1 : wrap64 ((n : Int) - 1) = ((n - 1 : Nat) : Int) := by rw [w64 (by omega) (by omega)]; omega
  have h2n : 2 ^ n ≤ 18446744073709551616 := by rw [← p64]; exact pow_le b64
  have hp2 : 2 ^ (n - 2) < 18446744073709551616 := by rw [← p64]; exact pow_lt (by omega)
  have hp2n : 2 ^ (n - 2) < 2 ^ n := pow_lt (by omega)
  have hx := Nat.mod_lt a (two_pos n)
  have hy := Nat.mod_lt b (two_pos n)
  have hz := Nat.mod_lt c (two_pos n)
  have hh := two_halves (n := n) (by omega)
  have hpp := two_pos (n - 1)
  rw [hn, e1, e2]
  clear e1 e2
  have q1 := fuse_Fma_eq hn ha hp2 hc
  rw [Nat.mod_eq_of_lt hp2n, fma_one hn b8 b64 hx] at q1
  have q3 := fuse_Fma_eq hn ha hb (show 0 < 18446744073709551616 by decide)
  rw [Nat.zero_mod, fma_zero] at q3
  have q6 := fuse_Pair_eq hn hd hc hb ha
  rw [pair_swap] at q6
  have q7 := fuse_Cross_eq hn ha hb hc hd
  have q8 := fuse_Cross_eq hn hc hd ha hb
  rw [cross_swap b8 b64 hx hz] at q8
  have q9 := fuse_Cross_eq hn ha hb hb ha
  have hzl : pairN n (a % 2 ^ n) (b % 2 ^ n) (negP n (c % 2 ^ n)) (d % 2 ^ n) < 2 ^ n := EX.rnd_lt b8 b64 (sumX_ok (prdX_ok _ _ _) (prdX_ok _ _ _))
  have hnZ := ref_Neg_eq hn (x := pairN n (a % 2 ^ n) (b % 2 ^ n) (negP n (c % 2 ^ n)) (d % 2 ^ n)) (by omega)
  rw [negN_mod b64 (by omega), Nat.mod_eq_of_lt hzl] at hnZ
  refine Ev.bind (fuse_Fma_eq hn ha hb hc) ?_
  simp only [if_true]
  refine Ev.bind (ref_Power_eq (by omega)) (Ev.bind (ref_Power_eq (by omega)) (Ev.bind q1 (Ev.bind (sum_Add_eq hn ha hc) (Ev.bind q3 (Ev.bind (prod_Mul_eq hn ha hb) (Ev.bind (fuse_Pair_eq hn ha hb hc hd) (Ev.bind q6 (Ev.bind q7 (Ev.bind q8 (Ev.bind q9 ?_))))))))))
  simp only [Option.isNone_none, if_true]
  refine evs ?_
  simp only [vernierlaw13_FuseLaws.j1, Bool.false_eq_true, if_false, if_true]
  refine Ev.bind hnZ ?_
  rw [bne_self_eq_false]
  refine evs ?_
  simp only [vernierlaw13_FuseLaws.j2, Bool.false_eq_true, if_false]
  refine Ev.bind (ref_Fold_eq hn ha) ?_
  by_cases c1 : a % 2 ^ n = 2 ^ (n - 1)
  ·simp only [if_pos (show ((a % 2 ^ n : Nat) : Int) = ((2 ^ (n - 1) : Nat) : Int) by rw [c1])]
   rw [pair_nar (.inl c1), fma_nar (.inl c1)]
   refine evn ?_
   simp
  ·simp only [if_neg (show ¬ ((a % 2 ^ n : Nat) : Int) = ((2 ^ (n - 1) : Nat) : Int) from fun h => c1 (Int.ofNat.inj h))]
   refine Ev.bind (ref_Fold_eq hn hb) ?_
   by_cases c2 : b % 2 ^ n = 2 ^ (n - 1)
   ·simp only [if_pos (show ((b % 2 ^ n : Nat) : Int) = ((2 ^ (n - 1) : Nat) : Int) by rw [c2])]
    rw [pair_nar (.inr c2), fma_nar (.inr c2)]
    refine evn ?_
    simp
   ·simp only [if_neg (show ¬ ((b % 2 ^ n : Nat) : Int) = ((2 ^ (n - 1) : Nat) : Int) from fun h => c2 (Int.ofNat.inj h))]
    rw [cross_self b8 b64 hy c1 c2]
    exact Ev.now _
 ·have hn : isW n = false := by simpa using hn
  rw [hn]
  exact Ev.bind (fuse_Fma_no hn _ _ _) (evs (Ev.now _))
end Go.Proofs.Ytfbbnpliaokmbaa.Pure
