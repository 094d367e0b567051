-- Written by a program of this session out of its own texts (wip/tools/link.py).
import Derived.Below
import Derived.ChangeKeysEq
import Derived.Deep.MidRow
import Derived.Deep.RegionHeld3
import Derived.Great.BuildSlice
import Derived.IntWalk
import Derived.KernelRfl
import Derived.LaidEql
import Derived.Laws.Bits64
import Derived.Laws.BitsLemmas
import Derived.Laws.BytesArg
import Derived.Laws.IdiomCopy
import Derived.Laws.OwnMore
import Derived.Laws.Rows
import Derived.Laws.Slices
import Derived.Laws.Strings
import Derived.Laws.StructEq
import Derived.Laws.Tables
import Derived.Lib.BitFns
import Derived.Lib.Mul64
import Derived.Lib.Slices
import Derived.Lib.Small
import Derived.Lib.Strings
import Derived.Lib.Walk
import Derived.Maps.AppendAt
import Derived.OrdersHeld
import Derived.RowKit
import Derived.Shelf.Spec.BitsCarry
import Derived.Test.YthofoolgbngobaaProg
import Derived.Test.YthofoolgbngobaaCTopHorners7
import Derived.Test.YthofoolgbngobaaCTopHorners8
import Derived.Test.YthofoolgbngobaaCTopHorners10
import Derived.Test.YthofoolgbngobaaCTopHorners11
namespace Go.Proofs.Ythofoolgbngobaa.V
open Go Go.RowKit Go.Proofs.Ythofoolgbngobaa.Ab Go.Proofs.Ythofoolgbngobaa.Fn
set_option linter.unusedVariables false
set_option linter.unusedSimpArgs false
theorem beq_dec (a b : Int) : (a == b) = decide (a = b) := by by_cases h : a = b <;> simp [h]
theorem mask32 (a : Nat) (ha : a < 18446744073709551616) : Go.bits .and .u64 (a : Int) 4294967295 = ((a % 4294967296 : Nat) : Int) := and_mask a 32 ha (by decide)
theorem div32 (a : Nat) : (a : Int) / 4294967296 = ((a / 4294967296 : Nat) : Int) := by omega
theorem mulC (a b : Nat) : (a : Int) * (b : Int) = ((a * b : Nat) : Int) := (Int.natCast_mul a b).symm
theorem addC (a b : Nat) : (a : Int) + (b : Int) = ((a + b : Nat) : Int) := (Int.natCast_add a b).symm
theorem wrapN (a : Nat) (ha : a < 18446744073709551616) : IntKind.u64.wrap (a : Int) = (a : Int) := u64_of (by omega) (by omega)
theorem bits_Mul64_eq {x y : Nat} (hx : x < 18446744073709551616) (hy : y < 18446744073709551616) : bits_Mul64.f (x : Int) (y : Int) = some (TH (x * y), TL (x * y)) := by
 obtain ⟨bd, bt, bw, hhi⟩ := Lib.mul64_hi x y hx hy
 have ba := Lib.half_mul_le (a := x / 4294967296) (b := y / 4294967296) (by omega) (by omega)
 have bb := Lib.half_mul_le (a := x / 4294967296) (b := y % 4294967296) (by omega) (by omega)
 have bc := Lib.half_mul_le (a := x % 4294967296) (b := y / 4294967296) (by omega) (by omega)
 have ba' : x / 4294967296 * (y / 4294967296) < 18446744073709551616 := by omega
 have bb' : x / 4294967296 * (y % 4294967296) < 18446744073709551616 := by omega
 have bc' : x % 4294967296 * (y / 4294967296) < 18446744073709551616 := by omega
 have bh1 : x / 4294967296 * (y / 4294967296) + (x / 4294967296 * (y % 4294967296) + x % 4294967296 * (y % 4294967296) / 4294967296) / 4294967296 < 18446744073709551616 := by omega
 have bh : x / 4294967296 * (y / 4294967296) + (x / 4294967296 * (y % 4294967296) + x % 4294967296 * (y % 4294967296) / 4294967296) / 4294967296 + ((x / 4294967296 * (y % 4294967296) + x % 4294967296 * (y % 4294967296) / 4294967296) % 4294967296 + x % 4294967296 * (y / 4294967296)) / 4294967296 < 18446744073709551616 := by omega
 unfold bits_Mul64.f
 simp only [mask32 x hx, mask32 y hy, div32, mulC, addC, wrapN _ bd, wrapN _ bb', wrapN _ bt, mask32 _ bt, wrapN _ bc', wrapN _ bw, wrapN _ ba', wrapN _ bh1, wrapN _ bh, u64_nat_wrap (x * y)]
 rw [hhi]
 rfl
theorem twin_Mul_eq {x y : Nat} (hx : x < 18446744073709551616) (hy : y < 18446744073709551616) : twin_Mul.f (x : Int) (y : Int) = some (TH (x * y), TL (x * y)) := by
 unfold twin_Mul.f
 rw [bits_Mul64_eq hx hy]; rfl
theorem mul_lt128 {x y : Nat} (hx : x < 18446744073709551616) (hy : y < 18446744073709551616) : x * y < 2 ^ 128 := by
 have := Nat.mul_le_mul (show x ≤ 18446744073709551615 by omega) (show y ≤ 18446744073709551615 by omega)
 rw [p128]
 omega
def prodE (kd : Int) (ng : Bool) (sc : Int) (fr : Nat) (kd' : Int) (ng' : Bool) (sc' : Int) (fr' : Nat) : Int × Bool × Int × Int × Int × Bool :=
 if kd = 2 ∨ kd' = 2 then (2, false, 0, 0, 0, false) else if kd = 0 ∨ kd' = 0 then (0, false, 0, 0, 0, false)
 else exactE (ng != ng') (fr * fr') (sc + sc' - 126) false
theorem soundN_cases {kd sc fr : Int} {ng : Bool} (h : soundN kd ng sc fr = true) : (kd = 0 ∧ ng = false ∧ sc = 0 ∧ fr = 0) ∨ (kd = 2 ∧ ng = false ∧ sc = 0 ∧ fr = 0) ∨ (kd = 1 ∧ 9223372036854775808 ≤ fr ∧ -1073741824 ≤ sc ∧ sc ≤ 1073741824) := by
 unfold soundN at h
 split at h
 ·rename_i hk
  have : ng = false ∧ sc = 0 ∧ fr = 0 := by simpa using h
  rcases hk with hk | hk
  ·exact .inl ⟨hk, this⟩
  ·exact .inr (.inl ⟨hk, this⟩)
 ·exact .inr (.inr (of_decide_eq_true h))
theorem makeV_exactE {ng R : Bool} {V : Nat} {e : Int} (hV : V < 2 ^ 128) (h0 : -4398046511104 ≤ e) (h1 : e ≤ 4398046511104) :
  makeV ng V e R = ((exactE ng V e R).1, (exactE ng V e R).2.1, (exactE ng V e R).2.2.1, (exactE ng V e R).2.2.2.1, (exactE ng V e R).2.2.2.2.1, (exactE ng V e R).2.2.2.2.2, none) := by
 unfold makeV exactE
 by_cases hz : V = 0
 ·rw [if_pos hz, if_pos hz]
 ·rw [if_neg hz, if_neg hz]
  have hb := bl_le_of_lt hV
  have hr : mkR V R = R := by unfold mkR; rw [show bl V - 128 = 0 by omega, Nat.pow_zero, Nat.mod_one]; simp
  have hf : farI e = e := by unfold farI; rw [if_neg (by omega), if_neg (by omega)]
  rw [hr, hf]
theorem prod_Exact_eq (kd : Int) (ng : Bool) (sc : Int) (fr : Nat) (kd' : Int) (ng' : Bool) (sc' : Int) (fr' : Nat) (hf : fr < 18446744073709551616) (hf' : fr' < 18446744073709551616) :
  Ev (fun k => prod_Exact.f k kd ng sc (fr : Int) kd' ng' sc' (fr' : Int)) (if soundN kd ng sc fr = true ∧ soundN kd' ng' sc' fr' = true then
   ((prodE kd ng sc fr kd' ng' sc' fr').1, (prodE kd ng sc fr kd' ng' sc' fr').2.1, (prodE kd ng sc fr kd' ng' sc' fr').2.2.1, (prodE kd ng sc fr kd' ng' sc' fr').2.2.2.1, (prodE kd ng sc fr kd' ng' sc' fr').2.2.2.2.1, (prodE kd ng sc fr kd' ng' sc' fr').2.2.2.2.2, none)
   else (0, false, 0, 0, 0, false, some 1)) := by
 unfold prod_Exact.f
 refine Ev.bind (round_Of_eq kd ng sc fr (by omega) (by omega)) ?_
 by_cases h1 : soundN kd ng sc fr = true
 ·simp only [h1, if_true, Option.isNone_none, true_and]
  refine Ev.bind (round_Of_eq kd' ng' sc' fr' (by omega) (by omega)) ?_
  by_cases h2 : soundN kd' ng' sc' fr' = true
  ·simp only [h2, if_true, Option.isNone_none]
   have c1 := soundN_cases h1
   have c2 := soundN_cases h2
   have j1 : Ev (fun k => prod_Exact.j0 k (decide (kd = 2 ∨ kd' = 2)) kd ng sc (fr : Int) kd' ng' sc' (fr' : Int)) ((prodE kd ng sc fr kd' ng' sc' fr').1, (prodE kd ng sc fr kd' ng' sc' fr').2.1, (prodE kd ng sc fr kd' ng' sc' fr').2.2.1, (prodE kd ng sc fr kd' ng' sc' fr').2.2.2.1, (prodE kd ng sc fr kd' ng' sc' fr').2.2.2.2.1, (prodE kd ng sc fr kd' ng' sc' fr').2.2.2.2.2, none) := by
    refine evs ?_
    simp only [prod_Exact.j0]
    unfold prodE
    by_cases hk : kd = 2 ∨ kd' = 2
    ·simp only [if_pos hk, decide_eq_true hk, if_true]
     exact Ev.now _
    ·simp only [if_neg hk, decide_eq_false hk, Bool.false_eq_true, if_false]
     have j2 : Ev (fun k => prod_Exact.j1 k (decide (kd = 0 ∨ kd' = 0)) ng sc (fr : Int) ng' sc' (fr' : Int)) (if kd = 0 ∨ kd' = 0 then (0, false, 0, 0, 0, false, none) else makeV (ng != ng') (fr * fr') (sc + sc' - 126) false) := by
      refine evs ?_
      simp only [prod_Exact.j1]
      by_cases h0 : kd = 0 ∨ kd' = 0
      ·simp only [if_pos h0, decide_eq_true h0, if_true]
       exact Ev.now _
      ·simp only [if_neg h0, decide_eq_false h0, Bool.false_eq_true, if_false]
       have ew : wrap64 (wrap64 (sc + sc') - 126) = sc + sc' - 126 := by
        rw [w64 (n := sc + sc') (by omega) (by omega), w64 (by omega) (by omega)]
       rw [ew, twin_Mul_eq hf hf']
       simp only [Option.bind_some]
       have := round_Make_eq (ng != ng') (fr * fr') (sc + sc' - 126) false (mul_lt128 hf hf')
       simp only [Bool.false_eq_true, false_and, if_false] at this
       refine Ev.bind this ?_
       exact Ev.now _
     have key : ((if kd = 0 ∨ kd' = 0 then (0, false, 0, 0, 0, false, none) else makeV (ng != ng') (fr * fr') (sc + sc' - 126) false) : Int × Bool × Int × Int × Int × Bool × Option Int) = ((if kd = 0 ∨ kd' = 0 then (0, false, 0, 0, 0, false) else exactE (ng != ng') (fr * fr') (sc + sc' - 126) false).1, (if kd = 0 ∨ kd' = 0 then (0, false, 0, 0, 0, false) else exactE (ng != ng') (fr * fr') (sc + sc' - 126) false).2.1, (if kd = 0 ∨ kd' = 0 then (0, false, 0, 0, 0, false) else exactE (ng != ng') (fr * fr') (sc + sc' - 126) false).2.2.1, (if kd = 0 ∨ kd' = 0 then (0, false, 0, 0, 0, false) else exactE (ng != ng') (fr * fr') (sc + sc' - 126) false).2.2.2.1, (if kd = 0 ∨ kd' = 0 then (0, false, 0, 0, 0, false) else exactE (ng != ng') (fr * fr') (sc + sc' - 126) false).2.2.2.2.1, (if kd = 0 ∨ kd' = 0 then (0, false, 0, 0, 0, false) else exactE (ng != ng') (fr * fr') (sc + sc' - 126) false).2.2.2.2.2, none) := by
      by_cases h0 : kd = 0 ∨ kd' = 0
      ·simp only [if_pos h0]
      ·simp only [if_neg h0]
       exact makeV_exactE (mul_lt128 hf hf') (by omega) (by omega)
     rw [← key]
     by_cases hk0 : kd = 0
     ·have hd : (kd == 0) = decide (kd = 0 ∨ kd' = 0) := by rw [decide_eq_true (.inl hk0)]; simp [hk0]
      simp only [if_pos hk0, hd]
      exact j2
     ·have hd : (kd' == 0) = decide (kd = 0 ∨ kd' = 0) := by rw [beq_dec]; simp [hk0]
      simp only [if_neg hk0, hd]
      exact j2
   by_cases hk2 : kd = 2
   ·have hd : (kd == 2) = decide (kd = 2 ∨ kd' = 2) := by simp [hk2]
    simp only [if_pos hk2, hd]
    exact j1
   ·have hd : (kd' == 2) = decide (kd = 2 ∨ kd' = 2) := by rw [beq_dec]; simp [hk2]
    simp only [if_neg hk2, hd]
    exact j1
  ·simp only [if_neg h2]
   exact Ev.now _
 ·simp only [if_neg h1, if_neg (show ¬ (soundN kd ng sc fr = true ∧ soundN kd' ng' sc' fr' = true) from fun h => h1 h.1)]
  exact Ev.now _
def prodX (a b : NM) : EX := if a.kd = 2 ∨ b.kd = 2 then EX.nar else if a.kd = 0 ∨ b.kd = 0 then EX.zero else natX (a.ng != b.ng) (a.fr * b.fr) (a.sc + b.sc - 126) false
theorem prodX_ok (a b : NM) : (prodX a b).ok := by
 unfold prodX
 split
 ·exact .inr (.inl rfl)
 ·split
  ·exact .inl rfl
  ·exact natX_ok _ _ _ _
theorem prodE_X (a b : NM) : prodE a.kd a.ng a.sc a.fr b.kd b.ng b.sc b.fr = ((prodX a b).kd, (prodX a b).ng, (prodX a b).sc, TH (prodX a b).V, TL (prodX a b).V, (prodX a b).R) := by
 unfold prodE prodX
 by_cases h2 : a.kd = 2 ∨ b.kd = 2
 ·rw [if_pos h2, if_pos h2]; rfl
 ·rw [if_neg h2, if_neg h2]
  by_cases h0 : a.kd = 0 ∨ b.kd = 0
  ·rw [if_pos h0, if_pos h0]; rfl
  ·rw [if_neg h0, if_neg h0, exactE_natX]
theorem prod_Exact_X {a b : NM} (ha : a.ok) (hb : b.ok) : Ev (fun k => prod_Exact.f k a.kd a.ng a.sc (a.fr : Int) b.kd b.ng b.sc (b.fr : Int)) ((prodX a b).kd, (prodX a b).ng, (prodX a b).sc, TH (prodX a b).V, TL (prodX a b).V, (prodX a b).R, none) := by
 have := prod_Exact_eq a.kd a.ng a.sc a.fr b.kd b.ng b.sc b.fr ha.2 hb.2
 rw [if_pos ⟨ha.1, hb.1⟩, prodE_X] at this
 exact this
end Go.Proofs.Ythofoolgbngobaa.V
namespace Go.Proofs.Ythofoolgbngobaa.V
open Go Go.RowKit Go.Proofs.Ythofoolgbngobaa.Ab Go.Proofs.Ythofoolgbngobaa.Fn
set_option linter.unusedVariables false
set_option linter.unusedSimpArgs false
theorem Of_X {x : NM} (h : x.ok) : Ev (fun k => round_Of.f k x.kd x.ng x.sc (x.fr : Int)) (x.ex.kd, x.ex.ng, x.ex.sc, TH x.ex.V, TL x.ex.V, x.ex.R, none) := by
 have := round_Of_eq x.kd x.ng x.sc (x.fr : Int) (by have := h.2; omega) (by omega)
 rw [if_pos h.1] at this
 rw [(NM.ex_tup x h).1, (NM.ex_tup x h).2]
 exact this
end Go.Proofs.Ythofoolgbngobaa.V
namespace Go.Proofs.Ythofoolgbngobaa.V
open Go Go.RowKit Go.Proofs.Ythofoolgbngobaa.Ab Go.Proofs.Ythofoolgbngobaa.Fn
set_option linter.unusedVariables false
set_option linter.unusedSimpArgs false
theorem EX.ok_kd {x : EX} (hx : x.ok) : x.kd = 0 ∨ x.kd = 1 ∨ x.kd = 2 := by
 rcases hx with rfl | rfl | hx
 ·exact .inl rfl
 ·exact .inr (.inr rfl)
 ·exact .inr (.inl hx.1)
theorem sumX_nar {x y : EX} (h : x.kd = 2 ∨ y.kd = 2) : sumX x y = EX.nar := by unfold sumX; rw [if_pos h]
theorem sumX_z1 {x y : EX} (h : ¬ (x.kd = 2 ∨ y.kd = 2)) (h1 : x.kd = 0) : sumX x y = y := by unfold sumX; rw [if_neg h, if_pos h1]
theorem sumX_z2 {x y : EX} (h : ¬ (x.kd = 2 ∨ y.kd = 2)) (h1 : ¬ x.kd = 0) (h2 : y.kd = 0) : sumX x y = x := by unfold sumX; rw [if_neg h, if_neg h1, if_pos h2]
theorem broad_Sum_j0 {x y : EX} (hx : x.ok) (hy : y.ok) : Ev (fun k => broad_Sum.j0 k (decide (x.kd = 2 ∨ y.kd = 2)) x.kd x.ng x.sc (TH x.V) (TL x.V) x.R y.kd y.ng y.sc (TH y.V) (TL y.V) y.R) (sumX x y).tup := by
 refine evs ?_
 simp only [broad_Sum.j0]
 by_cases h : x.kd = 2 ∨ y.kd = 2
 ·simp only [if_pos (decide_eq_true h)]
  rw [sumX_nar h]
  exact Ev.now _
 ·simp only [if_neg (fun h' => h (of_decide_eq_true h') : ¬ decide (x.kd = 2 ∨ y.kd = 2) = true)]
  by_cases a : x.kd = 0
  ·simp only [if_pos a]
   rw [sumX_z1 h a]
   exact Ev.now _
  ·simp only [if_neg a]
   by_cases b : y.kd = 0
   ·simp only [if_pos b]
    rw [sumX_z2 h a b]
    exact Ev.now _
   ·simp only [if_neg b]
    have kx : x.kd = 1 := by have := EX.ok_kd hx; omega
    have ky : y.kd = 1 := by have := EX.ok_kd hy; omega
    by_cases c : x.sc < y.sc
    ·simp only [if_pos c]
     rw [sumX_comm hx hy]
     exact Sum_j1 hy hx ky kx (Int.le_of_lt c)
    ·simp only [if_neg c]
     exact Sum_j1 hx hy kx ky (Int.not_lt.1 c)
theorem broad_Sum_X {x y : EX} (hx : x.ok) (hy : y.ok) : Ev (fun k => broad_Sum.f k x.kd x.ng x.sc (TH x.V) (TL x.V) x.R y.kd y.ng y.sc (TH y.V) (TL y.V) y.R) (sumX x y).tup := by
 have h := broad_Sum_j0 hx hy
 unfold broad_Sum.f
 by_cases a : x.kd = 2
 ·simp only [if_pos a]
  rw [decide_eq_true (Or.inl a)] at h
  exact h
 ·simp only [if_neg a]
  rw [show decide (x.kd = 2 ∨ y.kd = 2) = (y.kd == 2) by rw [Bool.eq_iff_iff]; simp [a]] at h
  exact h
theorem sum_Exact_X {a b : NM} (ha : a.ok) (hb : b.ok) : Ev (fun k => sum_Exact.f k a.kd a.ng a.sc (a.fr : Int) b.kd b.ng b.sc (b.fr : Int)) ((sumX a.ex b.ex).kd, (sumX a.ex b.ex).ng, (sumX a.ex b.ex).sc, TH (sumX a.ex b.ex).V, TL (sumX a.ex b.ex).V, (sumX a.ex b.ex).R, none) := by
 unfold sum_Exact.f
 refine Ev.bind (Of_X ha) ?_
 simp only [Option.isNone_none, if_true]
 refine Ev.bind (Of_X hb) ?_
 simp only [Option.isNone_none, if_true]
 exact Ev.bind (broad_Sum_X (NM.ex_ok ha) (NM.ex_ok hb)) (Ev.now _)
def addN (n x y : Nat) : Nat := (sumX (decN n x).ex (decN n y).ex).rnd n
theorem addN_lt {n x y : Nat} (h8 : 8 ≤ n) (hn : n ≤ 64) (hx : x < 2 ^ n) (hy : y < 2 ^ n) : addN n x y < 2 ^ n := EX.rnd_lt h8 hn (sumX_ok (NM.ex_ok (decN_ok h8 hn hx)) (NM.ex_ok (decN_ok h8 hn hy)))
theorem sum_Add_eq {n a b : Nat} (h : isW (n : Int) = true) (ha : a < 18446744073709551616) (hb : b < 18446744073709551616) : Ev (fun k => sum_Add.f k (n : Int) (a : Int) (b : Int)) (((addN n (a % 2 ^ n) (b % 2 ^ n) : Nat) : Int), none) := by
 obtain ⟨b64, b8⟩ := pow64 h
 have oa := decN_ok b8 b64 (Nat.mod_lt a (two_pos n))
 have ob := decN_ok b8 b64 (Nat.mod_lt b (two_pos n))
 unfold sum_Add.f
 refine Ev.bind (Decode_N h ha) ?_
 simp only [Option.isNone_none, if_true]
 refine Ev.bind (Decode_N h hb) (Ev.bind (sum_Exact_X oa ob) ?_)
 simp only [Option.isNone_none, if_true]
 exact Ev.bind (Round_X h (sumX_ok (NM.ex_ok oa) (NM.ex_ok ob))) (Ev.now _)
end Go.Proofs.Ythofoolgbngobaa.V
namespace Go.Proofs.Ythofoolgbngobaa.V
open Go Go.RowKit Go.Proofs.Ythofoolgbngobaa.Ab
theorem bl63 {f : Nat} (h : 2 ^ 63 ≤ f) (h2 : f < 2 ^ 64) : bl f = 64 := bl_unique (by decide) h h2
theorem prodX_one {a : NM} (ha : a.ok) : prodX a oneN = a.ex := by
 rcases NM.cases ha with rfl | rfl | ⟨h1, h2, h3, h4, h5⟩
 ·rfl
 ·rfl
 ·unfold prodX
  rw [if_neg (by unfold oneN; simp only; omega), if_neg (by unfold oneN; simp only; omega)]
  unfold oneN natX
  simp only
  have hp : a.fr * 9223372036854775808 ≠ 0 := by rw [p63] at h2; omega
  have hb : bl (a.fr * 9223372036854775808) = 127 := by
   rw [show (9223372036854775808 : Nat) = 2 ^ 63 from p63.symm, bl_mul_pow 63 (by rw [p63] at h2; omega), bl63 h2 h3]
  rw [if_neg hp, hb]
  unfold NM.ex
  refine EX.ext' h1.symm ?_ ?_ ?_ ?_
  ·simp
  ·simp only
   unfold heldI
   rw [if_neg (by omega), if_neg (by omega)]
   omega
  ·simp only
   unfold mkV
   rw [hb, if_pos (by decide), Nat.mul_assoc]
  ·simp only
   unfold mkR
   rw [hb, Nat.pow_zero, Nat.mod_one]; rfl
theorem decN_nar (n : Nat) : decN n (2 ^ (n - 1)) = ⟨2, false, 0, 0⟩ := by
 unfold decN
 rw [if_neg (Nat.ne_of_gt (two_pos (n - 1))), if_pos rfl]
theorem decN_kd {n x : Nat} (h : x ≠ 2 ^ (n - 1)) : (decN n x).kd ≠ 2 := by
 unfold decN
 by_cases h0 : x = 0
 ·rw [if_pos h0]; show (0 : Int) ≠ 2; decide
 ·rw [if_neg h0, if_neg h]; show (1 : Int) ≠ 2; decide
end Go.Proofs.Ythofoolgbngobaa.V
namespace Go.Proofs.Ythofoolgbngobaa.V
open Go Go.RowKit Go.Proofs.Ythofoolgbngobaa.Ab Go.Proofs.Ythofoolgbngobaa.Fn
set_option linter.unusedVariables false
set_option linter.unusedSimpArgs false
theorem EX.ok_zero {x : EX} (hx : x.ok) (h : x.kd = 0) : x = EX.zero := by
 rcases hx with rfl | rfl | hx
 ·rfl
 ·exact absurd h (by decide)
 ·omega
theorem sumX_zero_r {x : EX} (hx : x.ok) : sumX x EX.zero = x := by
 unfold sumX
 by_cases h : x.kd = 2 ∨ EX.zero.kd = 2
 ·rw [if_pos h]
  have h2 : x.kd = 2 := h.elim id (fun h => absurd h (by decide))
  rcases hx with rfl | rfl | hx
  ·exact absurd h2 (by decide)
  ·rfl
  ·omega
 ·rw [if_neg h]
  by_cases h0 : x.kd = 0
  ·rw [if_pos h0, EX.ok_zero hx h0]
  ·rw [if_neg h0, if_pos (show EX.zero.kd = 0 from rfl)]
theorem addN_comm {n x y : Nat} (h8 : 8 ≤ n) (hn : n ≤ 64) (hx : x < 2 ^ n) (hy : y < 2 ^ n) : addN n x y = addN n y x := by
 unfold addN
 rw [sumX_comm (NM.ex_ok (decN_ok h8 hn hx)) (NM.ex_ok (decN_ok h8 hn hy))]
theorem addN_zero {n x : Nat} (h8 : 8 ≤ n) (hn : n ≤ 64) (hx : x < 2 ^ n) : addN n x 0 = x := by
 have e : (decN n 0).ex = EX.zero := by
  rw [show decN n 0 = ⟨0, false, 0, 0⟩ from rfl]
  unfold NM.ex EX.zero
  simp only [Nat.zero_mul]
 unfold addN
 rw [e, sumX_zero_r (NM.ex_ok (decN_ok h8 hn hx)), dec_rnd h8 hn hx]
end Go.Proofs.Ythofoolgbngobaa.V
namespace Go.Proofs.Ythofoolgbngobaa.V
open Go Go.RowKit Go.Proofs.Ythofoolgbngobaa.Ab Go.Proofs.Ythofoolgbngobaa.Fn
set_option linter.unusedVariables false
set_option linter.unusedSimpArgs false
def prdX (n x y : Nat) : EX := prodX (decN n x) (decN n y)
theorem prdX_ok (n x y : Nat) : (prdX n x y).ok := prodX_ok _ _
def fmaN (n x y z : Nat) : Nat := (sumX (prdX n x y) (decN n z).ex).rnd n
theorem prdX_one {n x : Nat} (h : isW (n : Int) = true) (h8 : 8 ≤ n) (hn : n ≤ 64) (hx : x < 2 ^ n) : prdX n x (2 ^ (n - 2)) = (decN n x).ex := by
 unfold prdX
 rw [decN_one h, prodX_one (decN_ok h8 hn hx)]
theorem fma_one {n x z : Nat} (h : isW (n : Int) = true) (h8 : 8 ≤ n) (hn : n ≤ 64) (hx : x < 2 ^ n) : fmaN n x (2 ^ (n - 2)) z = addN n x z := by
 unfold fmaN addN
 rw [prdX_one h h8 hn hx]
theorem prdX_nar {n x y : Nat} (h : x = 2 ^ (n - 1) ∨ y = 2 ^ (n - 1)) : prdX n x y = EX.nar := by
 unfold prdX prodX
 rw [if_pos]
 rcases h with rfl | rfl
 ·exact .inl (by rw [decN_nar])
 ·exact .inr (by rw [decN_nar])
theorem fma_nar {n x y z : Nat} (h : x = 2 ^ (n - 1) ∨ y = 2 ^ (n - 1)) : fmaN n x y z = 2 ^ (n - 1) := by
 unfold fmaN
 rw [prdX_nar h, sumX_nar (.inl rfl), EX.rnd_nar]
theorem fuse_product_eq {n a b : Nat} (h : isW (n : Int) = true) (ha : a < 18446744073709551616) (hb : b < 18446744073709551616) : Ev (fun k => fuse_product.f k (n : Int) (a : Int) (b : Int)) ((prdX n (a % 2 ^ n) (b % 2 ^ n)).kd, (prdX n (a % 2 ^ n) (b % 2 ^ n)).ng, (prdX n (a % 2 ^ n) (b % 2 ^ n)).sc, TH (prdX n (a % 2 ^ n) (b % 2 ^ n)).V, TL (prdX n (a % 2 ^ n) (b % 2 ^ n)).V, (prdX n (a % 2 ^ n) (b % 2 ^ n)).R, none) := by
 obtain ⟨b64, b8⟩ := pow64 h
 have oa := decN_ok b8 b64 (Nat.mod_lt a (two_pos n))
 have ob := decN_ok b8 b64 (Nat.mod_lt b (two_pos n))
 unfold fuse_product.f
 refine Ev.bind (Decode_N h ha) ?_
 simp only [Option.isNone_none, if_true]
 exact Ev.bind (Decode_N h hb) (Ev.bind (prod_Exact_X oa ob) (Ev.now _))
theorem fuse_Fma_eq {n a b c : Nat} (h : isW (n : Int) = true) (ha : a < 18446744073709551616) (hb : b < 18446744073709551616) (hc : c < 18446744073709551616) : Ev (fun k => fuse_Fma.f k (n : Int) (a : Int) (b : Int) (c : Int)) (((fmaN n (a % 2 ^ n) (b % 2 ^ n) (c % 2 ^ n) : Nat) : Int), none) := by
 obtain ⟨b64, b8⟩ := pow64 h
 have oc := decN_ok b8 b64 (Nat.mod_lt c (two_pos n))
 have op := prdX_ok n (a % 2 ^ n) (b % 2 ^ n)
 unfold fuse_Fma.f
 refine Ev.bind (fuse_product_eq h ha hb) ?_
 simp only [Option.isNone_none, if_true]
 exact Ev.bind (Decode_N h hc) (Ev.bind (Of_X oc) (Ev.bind (broad_Sum_X op (NM.ex_ok oc)) (Ev.bind (Round_X h (sumX_ok op (NM.ex_ok oc))) (Ev.now _))))
end Go.Proofs.Ythofoolgbngobaa.V
namespace Go.Proofs.Ythofoolgbngobaa.V
open Go Go.RowKit Go.Proofs.Ythofoolgbngobaa.Ab Go.Proofs.Ythofoolgbngobaa.Fn
set_option linter.unusedVariables false
set_option linter.unusedSimpArgs false
theorem dig_test {y1 y0 u d g r : Nat} (hy1 : 2147483648 ≤ y1) (hy1' : y1 < 4294967296) (hy0 : y0 < 4294967296) (hu : u < y1 * 4294967296 + y0) (hd : d < 4294967296) (hg : u = g * y1 + r) (hr : r < 4294967296) :
  (¬ (4294967296 ≤ g ∨ 4294967296 * r + d < g * y0) → g ≤ (u * 4294967296 + d) / (y1 * 4294967296 + y0)) ∧ ((4294967296 ≤ g ∨ 4294967296 * r + d < g * y0) → (u * 4294967296 + d) / (y1 * 4294967296 + y0) < g) := by
 have hpos : 0 < y1 * 4294967296 + y0 := by omega
 have e : g * (y1 * 4294967296 + y0) = g * y1 * 4294967296 + g * y0 := by rw [Nat.mul_add, Nat.mul_assoc]
 have eu : u * 4294967296 = g * y1 * 4294967296 + r * 4294967296 := by rw [hg, Nat.add_mul]
 constructor
 ·intro h
  rw [Nat.le_div_iff_mul_le hpos, e]
  omega
 ·rintro (h | h)
  ·refine Nat.lt_of_lt_of_le ?_ h
   rw [Nat.div_lt_iff_lt_mul hpos]
   omega
  ·rw [Nat.div_lt_iff_lt_mul hpos, e]
   omega
theorem dig_break {y1 y0 u d g r : Nat} (hy1 : 2147483648 ≤ y1) (hy0 : y0 < 4294967296) (hg : u = g * y1 + r) (hr : 4294967296 ≤ r) (hb : g ≤ 4294967296) : g ≤ (u * 4294967296 + d) / (y1 * 4294967296 + y0) := by
 have hpos : 0 < y1 * 4294967296 + y0 := by omega
 have e : g * (y1 * 4294967296 + y0) = g * y1 * 4294967296 + g * y0 := by rw [Nat.mul_add, Nat.mul_assoc]
 have eu : u * 4294967296 = g * y1 * 4294967296 + r * 4294967296 := by rw [hg, Nat.add_mul]
 have h0 : g * y0 ≤ 4294967296 * 4294967295 := Nat.mul_le_mul hb (by omega)
 rw [Nat.le_div_iff_mul_le hpos, e]
 omega
structure Dig (y1 y0 u d q : Nat) : Prop where
 y1lo : 2147483648 ≤ y1
 y1hi : y1 < 4294967296
 y0hi : y0 < 4294967296
 dhi : d < 4294967296
 test : ∀ g r, u = g * y1 + r → r < 4294967296 → (¬ (4294967296 ≤ g ∨ 4294967296 * r + d < g * y0) → g ≤ q) ∧ ((4294967296 ≤ g ∨ 4294967296 * r + d < g * y0) → q < g)
 stop : ∀ g r, u = g * y1 + r → 4294967296 ≤ r → g ≤ 4294967296 → g ≤ q
theorem Dig.mk' {y1 y0 u d : Nat} (hy1 : 2147483648 ≤ y1) (hy1' : y1 < 4294967296) (hy0 : y0 < 4294967296) (hu : u < y1 * 4294967296 + y0) (hd : d < 4294967296) : Dig y1 y0 u d ((u * 4294967296 + d) / (y1 * 4294967296 + y0)) :=
 ⟨hy1, hy1', hy0, hd, fun g r h1 h2 => dig_test hy1 hy1' hy0 hu hd h1 h2, fun g r h1 h2 h3 => dig_break hy1 hy0 h1 h2 h3⟩
end Go.Proofs.Ythofoolgbngobaa.V
namespace Go.Proofs.Ythofoolgbngobaa.V
open Go Go.RowKit Go.Proofs.Ythofoolgbngobaa.Ab Go.Proofs.Ythofoolgbngobaa.Fn
set_option linter.unusedVariables false
set_option linter.unusedSimpArgs false
theorem fmaN_lt {n a b c : Nat} (h8 : 8 ≤ n) (hn : n ≤ 64) (hc : c < 2 ^ n) : fmaN n a b c < 2 ^ n := EX.rnd_lt h8 hn (sumX_ok (prdX_ok _ _ _) (NM.ex_ok (decN_ok h8 hn hc)))
theorem c8 {x : Nat} (h : x < 2 ^ 8) : ((x : Int) % 256) = x := by have : (2 : Nat) ^ 8 = 256 := rfl; omega
theorem c16 {x : Nat} (h : x < 2 ^ 16) : IntKind.u16.wrap (x : Int) = x := by
 have e : (2 : Nat) ^ 16 = 65536 := rfl
 have : IntKind.u16.wrap (x : Int) = (x : Int) % 65536 := by unfold IntKind.wrap; simp [IntKind.bits, IntKind.signed]
 omega
theorem c32 {x : Nat} (h : x < 2 ^ 32) : ((x : Int) % 4294967296) = x := by have : (2 : Nat) ^ 32 = 4294967296 := rfl; omega
theorem c64 {x : Nat} (h : x < 2 ^ 64) : (x : Int) = x := rfl
theorem wu {x : Nat} (h : x < 18446744073709551616) : IntKind.u64.wrap (x : Int) = (x : Int) := u64_of (by omega) (by omega)
theorem isW8 : isW ((8 : Nat) : Int) = true := by decide
theorem isW16 : isW ((16 : Nat) : Int) = true := by decide
theorem isW32 : isW ((32 : Nat) : Int) = true := by decide
theorem isW64 : isW ((64 : Nat) : Int) = true := by decide
theorem lt8 {x : Nat} (h : x < 2 ^ 8) : x < 18446744073709551616 := Nat.lt_of_lt_of_le h (by decide)
theorem lt16 {x : Nat} (h : x < 2 ^ 16) : x < 18446744073709551616 := Nat.lt_of_lt_of_le h (by decide)
theorem lt32 {x : Nat} (h : x < 2 ^ 32) : x < 18446744073709551616 := Nat.lt_of_lt_of_le h (by decide)
theorem lt64 {x : Nat} (h : x < 2 ^ 64) : x < 18446744073709551616 := Nat.lt_of_lt_of_le h (by decide)
theorem gen_Width_P8_eq : gen_Width_P8.f = some 8 := rfl
theorem gen_Width_P16_eq : gen_Width_P16.f = some 16 := rfl
theorem gen_Width_P32_eq : gen_Width_P32.f = some 32 := rfl
theorem gen_Width_P64_eq : gen_Width_P64.f = some 64 := rfl
theorem gen_Fma_P8_eq {a b c : Nat} (ha : a < 2 ^ 8) (hb : b < 2 ^ 8) (hc : c < 2 ^ 8) : Ev (fun k => gen_Fma_P8.f k (a : Int) (b : Int) (c : Int)) ((fmaN 8 a b c : Nat) : Int) := by
 have q := fuse_Fma_eq (n := 8) (a := a) (b := b) (c := c) isW8 (lt8 ha) (lt8 hb) (lt8 hc)
 rw [Nat.mod_eq_of_lt ha, Nat.mod_eq_of_lt hb, Nat.mod_eq_of_lt hc] at q
 have hl : fmaN 8 a b c < 2 ^ 8 := fmaN_lt (by decide) (by decide) hc
 unfold gen_Fma_P8.f
 rw [wu (lt8 ha), wu (lt8 hb), wu (lt8 hc)]
 exact Ev.bind (evn gen_Width_P8_eq) (Ev.bind q (evn (congrArg some (c8 hl))))
theorem gen_Fma_P16_eq {a b c : Nat} (ha : a < 2 ^ 16) (hb : b < 2 ^ 16) (hc : c < 2 ^ 16) : Ev (fun k => gen_Fma_P16.f k (a : Int) (b : Int) (c : Int)) ((fmaN 16 a b c : Nat) : Int) := by
 have q := fuse_Fma_eq (n := 16) (a := a) (b := b) (c := c) isW16 (lt16 ha) (lt16 hb) (lt16 hc)
 rw [Nat.mod_eq_of_lt ha, Nat.mod_eq_of_lt hb, Nat.mod_eq_of_lt hc] at q
 have hl : fmaN 16 a b c < 2 ^ 16 := fmaN_lt (by decide) (by decide) hc
 unfold gen_Fma_P16.f
 rw [wu (lt16 ha), wu (lt16 hb), wu (lt16 hc)]
 exact Ev.bind (evn gen_Width_P16_eq) (Ev.bind q (evn (congrArg some (c16 hl))))
theorem gen_Fma_P32_eq {a b c : Nat} (ha : a < 2 ^ 32) (hb : b < 2 ^ 32) (hc : c < 2 ^ 32) : Ev (fun k => gen_Fma_P32.f k (a : Int) (b : Int) (c : Int)) ((fmaN 32 a b c : Nat) : Int) := by
 have q := fuse_Fma_eq (n := 32) (a := a) (b := b) (c := c) isW32 (lt32 ha) (lt32 hb) (lt32 hc)
 rw [Nat.mod_eq_of_lt ha, Nat.mod_eq_of_lt hb, Nat.mod_eq_of_lt hc] at q
 have hl : fmaN 32 a b c < 2 ^ 32 := fmaN_lt (by decide) (by decide) hc
 unfold gen_Fma_P32.f
 rw [wu (lt32 ha), wu (lt32 hb), wu (lt32 hc)]
 exact Ev.bind (evn gen_Width_P32_eq) (Ev.bind q (evn (congrArg some (c32 hl))))
theorem gen_Fma_P64_eq {a b c : Nat} (ha : a < 2 ^ 64) (hb : b < 2 ^ 64) (hc : c < 2 ^ 64) : Ev (fun k => gen_Fma_P64.f k (a : Int) (b : Int) (c : Int)) ((fmaN 64 a b c : Nat) : Int) := by
 have q := fuse_Fma_eq (n := 64) (a := a) (b := b) (c := c) isW64 (lt64 ha) (lt64 hb) (lt64 hc)
 rw [Nat.mod_eq_of_lt ha, Nat.mod_eq_of_lt hb, Nat.mod_eq_of_lt hc] at q
 have hl : fmaN 64 a b c < 2 ^ 64 := fmaN_lt (by decide) (by decide) hc
 unfold gen_Fma_P64.f
 exact Ev.bind (evn gen_Width_P64_eq) (Ev.bind q (evn (congrArg some (c64 hl))))
end Go.Proofs.Ythofoolgbngobaa.V
namespace Go.Proofs.Ythofoolgbngobaa.V
open Go Go.RowKit Go.Proofs.Ythofoolgbngobaa.Ab Go.Proofs.Ythofoolgbngobaa.Fn
set_option linter.unusedVariables false
set_option linter.unusedSimpArgs false
def ints (L : List Nat) : List Int := L.map (fun c : Nat => Int.ofNat c)
theorem ints_len (L : List Nat) : (ints L).length = L.length := List.length_map _
theorem ints_rd {L : List Nat} {i : Nat} (h : i < L.length) : rd (ints L) (i : Int) = ((L[i] : Nat) : Int) := by
  unfold rd ints
  rw [Int.toNat_natCast, List.getD_eq_getElem?_getD, List.getElem?_map, List.getElem?_eq_getElem h]
  rfl
theorem ints_of {l : List Int} (h : inL .u64 l) : ∃ L : List Nat, l = ints L ∧ ∀ c ∈ L, c < 18446744073709551616 := by
  refine ⟨l.map Int.toNat, ?_, ?_⟩
  · unfold ints
    rw [List.map_map]
    refine (List.map_id _).symm.trans (List.map_congr_left fun n hn => ?_)
    have := (h.2 n hn).1
    simp only [kLo] at this
    show n = ((n.toNat : Nat) : Int)
    omega
  · intro c hc
    obtain ⟨n, hn, rfl⟩ := List.mem_map.1 hc
    have := h.2 n hn
    simp only [inK, kLo, kHi] at this
    omega
def horN (n x : Nat) (L : List Nat) (r : Nat) : Nat := L.foldr (fun c r => fmaN n r x (c % 2 ^ n)) r
theorem horN_take {n x r i : Nat} {L : List Nat} (h : i < L.length) : horN n x (L.take (i + 1)) r = horN n x (L.take i) (fmaN n r x (L[i] % 2 ^ n)) := by
  unfold horN
  rw [List.take_succ_eq_append_getElem h, List.foldr_append]
  rfl
theorem horN_lt {n x : Nat} (h8 : 8 ≤ n) (hn : n ≤ 64) : ∀ (L : List Nat) {r : Nat}, r < 2 ^ n → horN n x L r < 2 ^ n
  | [], _, h => h
  | c :: L, _, h => fmaN_lt h8 hn (Nat.mod_lt _ (two_pos n))
theorem idx_pred (i : Nat) (h : i < 4611686018427387904) : wrap64 ((i : Int) - 1) = (i : Int) - 1 := w64 (by omega) (by omega)
theorem gen_Horner_P8_l {x : Nat} (hx : x < 2 ^ 8) {L : List Nat} (hL : ∀ c ∈ L, c < 2 ^ 8) (hlen : L.length < 4611686018427387904) : ∀ (i r : Nat), i ≤ L.length → r < 2 ^ 8 →
    Ev (fun k => gen_Horner_P8.l0 k (ints L) (x : Int) (r : Int) ((i : Int) - 1)) ((horN 8 x (L.take i) r : Nat) : Int) := by
  intro i
  induction i with
  | zero =>
    intro r _ hr
    refine evs ?_
    simp only [gen_Horner_P8.l0, if_neg (show ¬ ((0 : Nat) : Int) - 1 ≥ 0 by omega)]
    exact Ev.now _
  | succ i ih =>
    intro r hi hr
    have hi' : i < L.length := hi
    have e1 : ((i + 1 : Nat) : Int) - 1 = (i : Int) := by omega
    refine evs ?_
    simp only [gen_Horner_P8.l0, nI_eq, ints_len, e1, if_pos (show (i : Int) ≥ 0 by omega), if_pos (show (0 : Int) ≤ (i : Int) by omega), if_pos (show (i : Int) < (L.length : Int) by omega), ints_rd hi', idx_pred i (by omega)]
    have hc := hL _ (List.getElem_mem hi')
    refine Ev.bind (gen_Fma_P8_eq hr hx hc) ?_
    rw [horN_take hi', Nat.mod_eq_of_lt hc]
    exact ih _ (by omega) (fmaN_lt (by decide) (by decide) hc)
theorem gen_Horner_P8_eq {x : Nat} (hx : x < 2 ^ 8) {L : List Nat} (hL : ∀ c ∈ L, c < 2 ^ 8) (hlen : L.length < 4611686018427387904) :
    Ev (fun k => gen_Horner_P8.f k (ints L) (x : Int)) ((horN 8 x L 0 : Nat) : Int) := by
  unfold gen_Horner_P8.f
  rw [nI_eq, ints_len, idx_pred _ hlen]
  have := gen_Horner_P8_l hx hL hlen L.length 0 (Nat.le_refl _) (two_pos 8)
  rw [List.take_length] at this
  exact this
theorem gen_Horner_P16_l {x : Nat} (hx : x < 2 ^ 16) {L : List Nat} (hL : ∀ c ∈ L, c < 2 ^ 16) (hlen : L.length < 4611686018427387904) : ∀ (i r : Nat), i ≤ L.length → r < 2 ^ 16 →
    Ev (fun k => gen_Horner_P16.l0 k (ints L) (x : Int) (r : Int) ((i : Int) - 1)) ((horN 16 x (L.take i) r : Nat) : Int) := by
  intro i
  induction i with
  | zero =>
    intro r _ hr
    refine evs ?_
    simp only [gen_Horner_P16.l0, if_neg (show ¬ ((0 : Nat) : Int) - 1 ≥ 0 by omega)]
    exact Ev.now _
  | succ i ih =>
    intro r hi hr
    have hi' : i < L.length := hi
    have e1 : ((i + 1 : Nat) : Int) - 1 = (i : Int) := by omega
    refine evs ?_
    simp only [gen_Horner_P16.l0, nI_eq, ints_len, e1, if_pos (show (i : Int) ≥ 0 by omega), if_pos (show (0 : Int) ≤ (i : Int) by omega), if_pos (show (i : Int) < (L.length : Int) by omega), ints_rd hi', idx_pred i (by omega)]
    have hc := hL _ (List.getElem_mem hi')
    refine Ev.bind (gen_Fma_P16_eq hr hx hc) ?_
    rw [horN_take hi', Nat.mod_eq_of_lt hc]
    exact ih _ (by omega) (fmaN_lt (by decide) (by decide) hc)
theorem gen_Horner_P16_eq {x : Nat} (hx : x < 2 ^ 16) {L : List Nat} (hL : ∀ c ∈ L, c < 2 ^ 16) (hlen : L.length < 4611686018427387904) :
    Ev (fun k => gen_Horner_P16.f k (ints L) (x : Int)) ((horN 16 x L 0 : Nat) : Int) := by
  unfold gen_Horner_P16.f
  rw [nI_eq, ints_len, idx_pred _ hlen]
  have := gen_Horner_P16_l hx hL hlen L.length 0 (Nat.le_refl _) (two_pos 16)
  rw [List.take_length] at this
  exact this
theorem gen_Horner_P32_l {x : Nat} (hx : x < 2 ^ 32) {L : List Nat} (hL : ∀ c ∈ L, c < 2 ^ 32) (hlen : L.length < 4611686018427387904) : ∀ (i r : Nat), i ≤ L.length → r < 2 ^ 32 →
    Ev (fun k => gen_Horner_P32.l0 k (ints L) (x : Int) (r : Int) ((i : Int) - 1)) ((horN 32 x (L.take i) r : Nat) : Int) := by
  intro i
  induction i with
  | zero =>
    intro r _ hr
    refine evs ?_
    simp only [gen_Horner_P32.l0, if_neg (show ¬ ((0 : Nat) : Int) - 1 ≥ 0 by omega)]
    exact Ev.now _
  | succ i ih =>
    intro r hi hr
    have hi' : i < L.length := hi
    have e1 : ((i + 1 : Nat) : Int) - 1 = (i : Int) := by omega
    refine evs ?_
    simp only [gen_Horner_P32.l0, nI_eq, ints_len, e1, if_pos (show (i : Int) ≥ 0 by omega), if_pos (show (0 : Int) ≤ (i : Int) by omega), if_pos (show (i : Int) < (L.length : Int) by omega), ints_rd hi', idx_pred i (by omega)]
    have hc := hL _ (List.getElem_mem hi')
    refine Ev.bind (gen_Fma_P32_eq hr hx hc) ?_
    rw [horN_take hi', Nat.mod_eq_of_lt hc]
    exact ih _ (by omega) (fmaN_lt (by decide) (by decide) hc)
theorem gen_Horner_P32_eq {x : Nat} (hx : x < 2 ^ 32) {L : List Nat} (hL : ∀ c ∈ L, c < 2 ^ 32) (hlen : L.length < 4611686018427387904) :
    Ev (fun k => gen_Horner_P32.f k (ints L) (x : Int)) ((horN 32 x L 0 : Nat) : Int) := by
  unfold gen_Horner_P32.f
  rw [nI_eq, ints_len, idx_pred _ hlen]
  have := gen_Horner_P32_l hx hL hlen L.length 0 (Nat.le_refl _) (two_pos 32)
  rw [List.take_length] at this
  exact this
theorem gen_Horner_P64_l {x : Nat} (hx : x < 2 ^ 64) {L : List Nat} (hL : ∀ c ∈ L, c < 2 ^ 64) (hlen : L.length < 4611686018427387904) : ∀ (i r : Nat), i ≤ L.length → r < 2 ^ 64 →
    Ev (fun k => gen_Horner_P64.l0 k (ints L) (x : Int) (r : Int) ((i : Int) - 1)) ((horN 64 x (L.take i) r : Nat) : Int) := by
  intro i
  induction i with
  | zero =>
    intro r _ hr
    refine evs ?_
    simp only [gen_Horner_P64.l0, if_neg (show ¬ ((0 : Nat) : Int) - 1 ≥ 0 by omega)]
    exact Ev.now _
  | succ i ih =>
    intro r hi hr
    have hi' : i < L.length := hi
    have e1 : ((i + 1 : Nat) : Int) - 1 = (i : Int) := by omega
    refine evs ?_
    simp only [gen_Horner_P64.l0, nI_eq, ints_len, e1, if_pos (show (i : Int) ≥ 0 by omega), if_pos (show (0 : Int) ≤ (i : Int) by omega), if_pos (show (i : Int) < (L.length : Int) by omega), ints_rd hi', idx_pred i (by omega)]
    have hc := hL _ (List.getElem_mem hi')
    refine Ev.bind (gen_Fma_P64_eq hr hx hc) ?_
    rw [horN_take hi', Nat.mod_eq_of_lt hc]
    exact ih _ (by omega) (fmaN_lt (by decide) (by decide) hc)
theorem gen_Horner_P64_eq {x : Nat} (hx : x < 2 ^ 64) {L : List Nat} (hL : ∀ c ∈ L, c < 2 ^ 64) (hlen : L.length < 4611686018427387904) :
    Ev (fun k => gen_Horner_P64.f k (ints L) (x : Int)) ((horN 64 x L 0 : Nat) : Int) := by
  unfold gen_Horner_P64.f
  rw [nI_eq, ints_len, idx_pred _ hlen]
  have := gen_Horner_P64_l hx hL hlen L.length 0 (Nat.le_refl _) (two_pos 64)
  rw [List.take_length] at this
  exact this
theorem horN_mod (n x : Nat) : ∀ (L : List Nat) (r : Nat), horN n x (L.map (· % 2 ^ n)) r = horN n x L r
  | [], _ => rfl
  | c :: L, r => by
    have := horN_mod n x L r
    unfold horN at *
    simp only [List.map_cons, List.foldr_cons, Nat.mod_mod]
    rw [this]
end Go.Proofs.Ythofoolgbngobaa.V
namespace Go.Proofs.Ythofoolgbngobaa.V
open Go Go.RowKit Go.Proofs.Ythofoolgbngobaa.Ab Go.Proofs.Ythofoolgbngobaa.Fn
set_option linter.unusedVariables false
set_option linter.unusedSimpArgs false
theorem fma_zero_l {n x c : Nat} (h8 : 8 ≤ n) (hn : n ≤ 64) (hc : c < 2 ^ n) (h : x ≠ 2 ^ (n - 1)) : fmaN n 0 x c = c := by
 have hk := decN_kd h
 have e : prdX n 0 x = EX.zero := by
  unfold prdX prodX
  rw [show decN n 0 = ⟨0, false, 0, 0⟩ from rfl, if_neg (by simp only; omega), if_pos (.inl rfl)]
 have ok := NM.ex_ok (decN_ok h8 hn hc)
 unfold fmaN
 rw [e, sumX_comm (.inl rfl) ok, sumX_zero_r ok, dec_rnd h8 hn hc]
theorem horN_snoc (n x : Nat) (L : List Nat) (c r : Nat) : horN n x (L ++ [c]) r = horN n x L (fmaN n r x (c % 2 ^ n)) := by
 unfold horN
 rw [List.foldr_append]
 rfl
theorem horN_nar {n x : Nat} (hx : x = 2 ^ (n - 1)) : ∀ {L : List Nat} {r : Nat}, L ≠ [] → horN n x L r = 2 ^ (n - 1)
 | [], _, h => absurd rfl h
 | c :: L, r, _ => fma_nar (.inr hx)
def polyN (n x : Nat) (L : List Nat) : Nat := if L = [] then 0 else horN n x L.dropLast ((L.getLast?.getD 0) % 2 ^ n)
theorem polyN_snoc (n x : Nat) (L : List Nat) (c : Nat) : polyN n x (L ++ [c]) = horN n x L (c % 2 ^ n) := by
 unfold polyN
 rw [if_neg (by simp), List.dropLast_concat, List.getLast?_concat]
 rfl
theorem snoc_of {L : List Nat} (h : L ≠ []) : ∃ M c, L = M ++ [c] := ⟨L.dropLast, L.getLast h, (List.dropLast_concat_getLast h).symm⟩
theorem polyN_hor {n x : Nat} (h8 : 8 ≤ n) (hn : n ≤ 64) {L : List Nat} (h : x ≠ 2 ^ (n - 1) ∨ L.length ≠ 1) : polyN n x L = horN n x L 0 := by
 by_cases hL : L = []
 ·subst hL; rfl
 ·obtain ⟨M, c, rfl⟩ := snoc_of hL
  rw [polyN_snoc, horN_snoc]
  by_cases hx : x = 2 ^ (n - 1)
  ·have hM : M ≠ [] := by
    rintro rfl
    rcases h with h | h
    ·exact h hx
    ·exact h rfl
   rw [horN_nar hx hM, horN_nar hx hM]
  ·rw [fma_zero_l h8 hn (Nat.mod_lt _ (two_pos n)) hx]
def sumsN (n : Nat) (L : List Nat) (t : Nat) : Nat := L.foldr (fun c t => addN n t (c % 2 ^ n)) t
theorem sumsN_take {n t i : Nat} {L : List Nat} (h : i < L.length) : sumsN n (L.take (i + 1)) t = sumsN n (L.take i) (addN n t (L[i] % 2 ^ n)) := by
 unfold sumsN
 rw [List.take_succ_eq_append_getElem h, List.foldr_append]
 rfl
theorem horN_nil (n x r : Nat) : horN n x [] r = r := rfl
theorem sumsN_nil (n t : Nat) : sumsN n [] t = t := rfl
theorem horN_cons (n x c r : Nat) (L : List Nat) : horN n x (c :: L) r = fmaN n (horN n x L r) x (c % 2 ^ n) := rfl
theorem sumsN_cons (n c t : Nat) (L : List Nat) : sumsN n (c :: L) t = addN n (sumsN n L t) (c % 2 ^ n) := rfl
theorem fma_sum {n o r c : Nat} (h : isW (n : Int) = true) (ho : 2 ^ (n - 2) = o) (hr : r < 2 ^ n) : fmaN n r o c = addN n r c := by
 obtain ⟨b64, b8⟩ := pow64 h
 subst ho
 exact fma_one h b8 b64 hr
theorem horN_sums {n o r : Nat} (h : isW (n : Int) = true) (ho : 2 ^ (n - 2) = o) (hr : r < 2 ^ n) (L : List Nat) : horN n o L r = sumsN n L r := by
 obtain ⟨b64, b8⟩ := pow64 h
 induction L with
 | nil => rw [horN_nil, sumsN_nil]
 | cons c L ih =>
  rw [horN_cons, sumsN_cons, ← ih]
  exact fma_sum h ho (horN_lt b8 b64 L hr)
theorem horN_one {n : Nat} (h : isW (n : Int) = true) (L : List Nat) {r : Nat} (hr : r < 2 ^ n) : horN n (2 ^ (n - 2)) L r = sumsN n L r := horN_sums h rfl hr L
theorem polyN_one {n : Nat} (h : isW (n : Int) = true) (L : List Nat) : polyN n (2 ^ (n - 2)) L = sumsN n L 0 := by
 obtain ⟨b64, b8⟩ := pow64 h
 by_cases hL : L = []
 ·subst hL; rfl
 ·obtain ⟨M, c, rfl⟩ := snoc_of hL
  rw [polyN_snoc, horN_one h M (Nat.mod_lt _ (two_pos n))]
  unfold sumsN
  rw [List.foldr_append]
  have : addN n 0 (c % 2 ^ n) = c % 2 ^ n := by rw [addN_comm b8 b64 (two_pos n) (Nat.mod_lt _ (two_pos n)), addN_zero b8 b64 (Nat.mod_lt _ (two_pos n))]
  show _ = List.foldr _ (addN n 0 (c % 2 ^ n)) M
  rw [this]
theorem order_Max_self {n a : Nat} (h : isW (n : Int) = true) (ha : a < 18446744073709551616) : Ev (fun _ => order_Max.f (n : Int) (a : Int) (a : Int)) (((a % 2 ^ n : Nat) : Int), none) := by
 refine evn ?_
 unfold order_Max.f
 rw [order_Cmp_run h ha ha]
 have : ¬ cmpI (rkN n (a % 2 ^ n)) (rkN n (a % 2 ^ n)) < 0 := by unfold cmpI; rw [if_neg (by omega), if_neg (by omega)]; decide
 simp only [Option.bind_some, if_neg this]
 rw [shape_Fold_eq h ha]
 rfl
theorem order_Sign_eq {n a : Nat} (h : isW (n : Int) = true) (ha : a < 18446744073709551616) : ∃ v, Ev (fun _ => order_Sign.f (n : Int) (a : Int)) (v, if a % 2 ^ n = 2 ^ (n - 1) then some 9 else none) := by
 obtain ⟨b64, b8⟩ := pow64 h
 have hp := two_pos (n - 1)
 unfold order_Sign.f
 rw [shape_Kind_eq h ha]
 simp only [Option.bind_some, Option.isNone_none, if_true]
 by_cases h1 : a % 2 ^ n = 2 ^ (n - 1)
 ·have h0 : ¬ a % 2 ^ n = 0 := by omega
  rw [if_neg h0, if_pos h1, if_pos h1]
  exact ⟨0, evn (if_pos rfl)⟩
 ·rw [if_neg h1, if_neg h1]
  have : ¬ (if a % 2 ^ n = 0 then (0 : Int) else 1) = 2 := by split <;> decide
  rw [if_neg this]
  have := order_Cmp_run (n := n) h ha (b := 0) (by decide)
  exact ⟨_, evn (by rw [show ((0 : Nat) : Int) = 0 from rfl] at this; rw [this]; rfl)⟩
theorem vec_Poly_l {n x : Nat} (h : isW (n : Int) = true) (hx : x < 18446744073709551616) {L : List Nat} (hL : ∀ c ∈ L, c < 18446744073709551616) (hlen : L.length < 4611686018427387904) : ∀ (i r : Nat), i ≤ L.length → r < 2 ^ n →
  Ev (fun k => vec_Poly.l0 k (n : Int) (ints L) (x : Int) (r : Int) none ((i : Int) - 1)) (((horN n (x % 2 ^ n) (L.take i) r : Nat) : Int), none) := by
 obtain ⟨b64, b8⟩ := pow64 h
 have h2 : 2 ^ n ≤ 18446744073709551616 := by rw [← p64]; exact pow_le b64
 intro i
 induction i with
 | zero =>
  intro r _ hr
  refine evs ?_
  simp only [vec_Poly.l0, if_neg (show ¬ ((0 : Nat) : Int) - 1 ≥ 0 by omega), Option.isNone_none, if_true]
  exact Ev.now _
 | succ i ih =>
  intro r hi hr
  have hi' : i < L.length := hi
  have e1 : ((i + 1 : Nat) : Int) - 1 = (i : Int) := by omega
  refine evs ?_
  simp only [vec_Poly.l0, nI_eq, ints_len, e1, if_pos (show (i : Int) ≥ 0 by omega), if_pos (show (0 : Int) ≤ (i : Int) by omega), if_pos (show (i : Int) < (L.length : Int) by omega), ints_rd hi', idx_pred i (by omega), Option.isNone_none, if_true]
  have hc := hL _ (List.getElem_mem hi')
  have q := fuse_Fma_eq h (a := r) (b := x) (c := L[i]) (by omega) hx hc
  rw [Nat.mod_eq_of_lt hr] at q
  refine Ev.bind q ?_
  rw [horN_take hi']
  exact ih _ (by omega) (fmaN_lt b8 b64 (Nat.mod_lt _ (two_pos n)))
theorem vec_Poly_eq {n x : Nat} (h : isW (n : Int) = true) (hx : x < 18446744073709551616) {L : List Nat} (hL : ∀ c ∈ L, c < 18446744073709551616) (hlen : L.length < 4611686018427387904) :
  Ev (fun k => vec_Poly.f k (n : Int) (ints L) (x : Int)) (((polyN n (x % 2 ^ n) L : Nat) : Int), none) := by
 obtain ⟨b64, b8⟩ := pow64 h
 unfold vec_Poly.f
 simp only [nI_eq, ints_len]
 by_cases hn : L = []
 ·subst hn
  simp only [List.length_nil, if_neg (show ¬ ((0 : Nat) : Int) > 0 by omega)]
  refine evs ?_
  simp only [vec_Poly.j0]
  have q := order_Max_self (a := 0) h (by decide)
  rw [Nat.zero_mod] at q
  refine Ev.bind q (evs ?_)
  have e : wrap64 ((nI (ints []).length) - 2) = -2 := by rw [nI_eq]; exact w64 (n := -2) (by omega) (by omega)
  simp only [vec_Poly.l0, e, if_neg (show ¬ (-2 : Int) ≥ 0 by omega), Option.isNone_none, if_true]
  exact Ev.now _
 ·obtain ⟨M, c, rfl⟩ := snoc_of hn
  have hl : (M ++ [c]).length = M.length + 1 := by simp
  rw [hl] at hlen ⊢
  have e1 : wrap64 (((M.length + 1 : Nat) : Int) - 1) = ((M.length : Nat) : Int) := by rw [w64 (by omega) (by omega)]; omega
  have e2 : wrap64 (((M.length + 1 : Nat) : Int) - 2) = ((M.length : Nat) : Int) - 1 := by rw [w64 (by omega) (by omega)]; omega
  have hc := hL c (by simp)
  have er : rd (ints (M ++ [c])) ((M.length : Nat) : Int) = (c : Int) := by rw [ints_rd (by simp)]; simp
  simp only [e1, er, if_pos (show ((M.length + 1 : Nat) : Int) > 0 by omega), if_pos (show (0 : Int) ≤ ((M.length : Nat) : Int) by omega), if_pos (show ((M.length : Nat) : Int) < ((M.length + 1 : Nat) : Int) by omega)]
  refine evs ?_
  simp only [vec_Poly.j0]
  refine Ev.bind (order_Max_self h hc) ?_
  simp only [nI_eq, ints_len, hl, e2]
  have := vec_Poly_l (x := x) h hx hL (by omega) M.length (c % 2 ^ n) (by omega) (Nat.mod_lt _ (two_pos n))
  rw [List.take_left] at this
  rw [polyN_snoc]
  exact this
theorem ints_set {M : List Nat} {i c : Nat} : (ints M).set i (c : Int) = ints (M.set i c) := by unfold ints; rw [List.map_set]; rfl
theorem set_next {α : Type} {A : List α} {z y : α} {d i : Nat} (h : A.length = i) : (A ++ List.replicate (d + 1) z).set i y = (A ++ [y]) ++ List.replicate d z := by
 rw [List.replicate_succ, List.set_append_right _ _ (by omega), h, Nat.sub_self, List.set_cons_zero, List.append_assoc]
 rfl
theorem vec_Scale_l {n x y : Nat} (h : isW (n : Int) = true) (hx : x < 18446744073709551616) {L M : List Nat} (hL : ∀ c ∈ L, c < 18446744073709551616) (hM : ∀ c ∈ M, c < 18446744073709551616) (hlen : L.length < 4611686018427387904) (hlm : M.length = L.length) :
  ∀ (d i : Nat), i + d = L.length → ∀ (A : List Nat), A = ((L.zip M).take i).map (fun p => fmaN n (x % 2 ^ n) (p.1 % 2 ^ n) (p.2 % 2 ^ n)) →
  Ev (fun k => vec_along_vec_Scale_1.l0 k (n : Int) (ints L) (ints M) ((n : Int), (x : Int)) (ints (A ++ List.replicate d 0)) ((L.length : Nat) : Int) (i : Int)) (ints ((L.zip M).map (fun p => fmaN n (x % 2 ^ n) (p.1 % 2 ^ n) (p.2 % 2 ^ n))), none) := by
 have hz : (L.zip M).length = L.length := by rw [List.length_zip]; omega
 intro d
 induction d with
 | zero =>
  intro i hi A hA
  have : i = L.length := by omega
  subst this
  refine evs ?_
  simp only [vec_along_vec_Scale_1.l0, if_neg (show ¬ ((L.length : Nat) : Int) < ((L.length : Nat) : Int) by omega)]
  rw [hA, List.take_of_length_le (by omega), List.replicate_zero, List.append_nil]
  exact Ev.now _
 | succ d ih =>
  intro i hi A hA
  have hi' : i < L.length := by omega
  have him : i < M.length := by omega
  have hAl : A.length = i := by rw [hA, List.length_map, List.length_take]; omega
  refine evs ?_
  simp only [vec_along_vec_Scale_1.l0, nI_eq, ints_len, if_pos (show (i : Int) < ((L.length : Nat) : Int) by omega), if_pos (show (i : Int) < ((M.length : Nat) : Int) by omega), if_pos (show (0 : Int) ≤ (i : Int) by omega), ints_rd hi', ints_rd him]
  have hc := hL _ (List.getElem_mem hi')
  have hd := hM _ (List.getElem_mem him)
  have q := fuse_Fma_eq h (a := x) (b := L[i]) (c := M[i]) hx hc hd
  have q2 : Ev (fun k => vec_Scale_1.f k (n : Int) ((L[i] : Nat) : Int) ((M[i] : Nat) : Int) (n : Int) (x : Int)) (((fmaN n (x % 2 ^ n) (L[i] % 2 ^ n) (M[i] % 2 ^ n) : Nat) : Int), none) := by
   unfold vec_Scale_1.f
   exact Ev.bind q (Ev.now _)
  refine Ev.bind q2 ?_
  simp only [Option.isNone_none, if_true, Int.toNat_natCast, ints_set, set_next hAl]
  have hl : (A ++ List.replicate (d + 1) 0).length = L.length := by simp; omega
  simp only [hl, if_pos (show (i : Int) < ((L.length : Nat) : Int) by omega), w_succ (show i < 4611686018427387904 by omega)]
  refine ih (i + 1) (by omega) _ ?_
  have hzi : i < (L.zip M).length := by omega
  rw [List.take_succ_eq_append_getElem hzi, List.map_append, ← hA]
  simp
theorem vec_Scale_eq {n x : Nat} (h : isW (n : Int) = true) (hx : x < 18446744073709551616) {L M : List Nat} (hL : ∀ c ∈ L, c < 18446744073709551616) (hM : ∀ c ∈ M, c < 18446744073709551616) (hlen : L.length ≤ 35184372088832) (hlm : M.length = L.length) :
  Ev (fun k => vec_Scale.f k (n : Int) (x : Int) (ints L) (ints M)) (ints ((L.zip M).map (fun p => fmaN n (x % 2 ^ n) (p.1 % 2 ^ n) (p.2 % 2 ^ n))), none) := by
 unfold vec_Scale.f
 have q : Ev (fun k => vec_along_vec_Scale_1.f k (n : Int) (ints L) (ints M) ((n : Int), (x : Int))) (ints ((L.zip M).map (fun p => fmaN n (x % 2 ^ n) (p.1 % 2 ^ n) (p.2 % 2 ^ n))), none) := by
  unfold vec_along_vec_Scale_1.f
  have q0 := order_Neg_eq (a := 0) h (by decide)
  refine Ev.bind q0 ?_
  simp only [Option.isNone_none, if_true, nI_eq, ints_len, hlm, if_pos, Int.toNat_natCast, if_pos hlen]
  have := vec_Scale_l (x := x) (y := 0) h hx hL hM (by omega) hlm L.length 0 (by omega) [] (by simp)
  have e : (List.replicate L.length 0 : List Int) = ints ([] ++ List.replicate L.length 0) := by unfold ints; simp
  rw [e]
  exact this
 exact Ev.bind q (Ev.now _)
end Go.Proofs.Ythofoolgbngobaa.V
namespace Go.Proofs.Ythofoolgbngobaa.Pure
open Go Go.RowKit Go.Proofs.Ythofoolgbngobaa.Ab Go.Proofs.Ythofoolgbngobaa.Fn Go.Proofs.Ythofoolgbngobaa.V
set_option linter.unusedSimpArgs false
set_option linter.unusedVariables false
theorem wide_of {a : Int} (h : (Lit.int .i64 a).wf = true) : ∃ n : Nat, isW (n : Int) = true ∧ Ev (fun k => verniertop_wide.f k a) (n : Int) := by
  obtain ⟨h1, h2⟩ := inK_wf h
  simp only [kLo, kHi] at h1 h2
  have ht : ∃ t : Nat, t < 4 ∧ verniertop_turn.f a 4 = some (t : Int) := by
    unfold verniertop_turn.f
    simp only [if_neg (show ¬ (4 : Int) = 0 by decide)]
    by_cases ha : a < 0
    · rw [if_pos ha, w64 (n := a + 1) (by omega) (by omega), w64 (by omega) (by omega), Int.tmod_eq_emod_of_nonneg (by omega)]
      exact ⟨((-(a + 1)) % 4).toNat, by omega, by congr 1; omega⟩
    · rw [if_neg ha, Int.tmod_eq_emod_of_nonneg (by omega)]
      exact ⟨(a % 4).toNat, by omega, by congr 1; omega⟩
  obtain ⟨t, ht, e⟩ := ht
  have hl : ∀ (t x : Nat), t < 4 → x * 2 ^ t ≤ 64 → Ev (fun k => verniertop_wide.l0 k (x : Int) (t : Int)) ((x * 2 ^ t : Nat) : Int) := by
    intro t
    induction t with
    | zero =>
      intro x _ _
      refine evs ?_
      simp only [verniertop_wide.l0, if_neg (show ¬ ((0 : Nat) : Int) > 0 by omega)]
      rw [Nat.pow_zero, Nat.mul_one]
      exact Ev.now _
    | succ t ih =>
      intro x ht hx
      rw [Nat.pow_succ] at hx
      have hp := two_pos t
      have hx2 : 2 * x * 2 ^ t = x * (2 ^ t * 2) := by rw [Nat.mul_comm 2 x, Nat.mul_assoc, Nat.mul_comm 2]
      have hxs : x * 2 ≤ x * (2 ^ t * 2) := Nat.mul_le_mul_left x (by omega)
      refine evs ?_
      have e1 : wrap64 (2 * (x : Int)) = ((2 * x : Nat) : Int) := by rw [w64 (by omega) (by omega)]; omega
      have e2 : wrap64 (((t + 1 : Nat) : Int) - 1) = (t : Int) := by rw [w64 (by omega) (by omega)]; omega
      simp only [verniertop_wide.l0, if_pos (show ((t + 1 : Nat) : Int) > 0 by omega), e1, e2]
      have := ih (2 * x) (by omega) (by omega)
      rw [hx2] at this
      rw [Nat.pow_succ]
      exact this
  refine ⟨8 * 2 ^ t, ?_, ?_⟩
  · obtain rfl | rfl | rfl | rfl : t = 0 ∨ t = 1 ∨ t = 2 ∨ t = 3 := by omega
    all_goals decide
  · unfold verniertop_wide.f
    refine Ev.bind (evn e) (hl t 8 ht ?_)
    obtain rfl | rfl | rfl | rfl : t = 0 ∨ t = 1 ∨ t = 2 ∨ t = 3 := by omega
    all_goals decide
theorem u16n (x : Nat) : IntKind.u16.wrap (x : Int) = ((x % 2 ^ 16 : Nat) : Int) := by
  have : IntKind.u16.wrap (x : Int) = (x : Int) % 65536 := by unfold IntKind.wrap; simp [IntKind.bits, IntKind.signed]
  have e : (2 : Nat) ^ 16 = 65536 := rfl
  rw [e]; omega
theorem u8n (x : Nat) : (x : Int) % 256 = ((x % 2 ^ 8 : Nat) : Int) := by
  have e : (2 : Nat) ^ 8 = 256 := rfl
  rw [e]; omega
theorem u32n (x : Nat) : (x : Int) % 4294967296 = ((x % 2 ^ 32 : Nat) : Int) := by
  have e : (2 : Nat) ^ 32 = 4294967296 := rfl
  rw [e]; omega
theorem ints_snoc (L : List Nat) (c : Nat) : ints L ++ ([((c : Nat) : Int)] : List Int) = ints (L ++ [c]) := by unfold ints; rw [List.map_append]; rfl
section
variable {L : List Nat} (hL : ∀ c ∈ L, c < 18446744073709551616) (hlen : L.length * 8 ≤ 140737488351232) {x : Nat} (hx : x < 18446744073709551616)
include hL hlen hx
theorem loop6 {n : Nat} (h : isW (n : Int) = true) : ∀ (d i : Nat), i + d = L.length → Ev (fun k => verniertop_TopHorners.l6 k (ints L) (x : Int) (n : Int) (ints ((L.zip L).map (fun p => fmaN n (x % 2 ^ n) (p.1 % 2 ^ n) (p.2 % 2 ^ n)))) (i : Int)) true := by
  have hz : (L.zip L).length = L.length := by rw [List.length_zip]; omega
  intro d
  induction d with
  | zero =>
    intro i hi
    have : i = L.length := by omega
    subst this
    refine evs ?_
    simp only [verniertop_TopHorners.l6, nI_eq, ints_len, if_neg (show ¬ ((L.length : Nat) : Int) < ((L.length : Nat) : Int) by omega)]
    exact Ev.now _
  | succ d ih =>
    intro i hi
    have hi' : i < L.length := by omega
    have hc := hL _ (List.getElem_mem hi')
    have er : rd (ints ((L.zip L).map (fun p => fmaN n (x % 2 ^ n) (p.1 % 2 ^ n) (p.2 % 2 ^ n)))) (i : Int) = ((fmaN n (x % 2 ^ n) (L[i] % 2 ^ n) (L[i] % 2 ^ n) : Nat) : Int) := by
      rw [ints_rd (by rw [List.length_map]; omega)]
      simp
    refine evs ?_
    simp only [verniertop_TopHorners.l6, nI_eq, ints_len, List.length_map, hz, if_pos (show (i : Int) < ((L.length : Nat) : Int) by omega), if_pos (show (0 : Int) ≤ (i : Int) by omega), ints_rd hi', er]
    refine Ev.bind (fuse_Fma_eq h hx hc hc) ?_
    simp only [Option.isNone_none, if_true, w_succ (show i < 4611686018427387904 by omega)]
    exact ih (i + 1) (by omega)
theorem join8 {n : Nat} (h : isW (n : Int) = true) : Ev (fun k => verniertop_TopHorners.j8 k (ints L) (x : Int) (n : Int) false) true := by
  have hz : (L.zip L).length = L.length := by rw [List.length_zip]; omega
  refine evs ?_
  simp only [verniertop_TopHorners.j8, Bool.false_eq_true, if_false]
  refine Ev.bind (vec_Scale_eq h hx hL hL (by omega) rfl) ?_
  have e : ((nI (ints ((L.zip L).map (fun p => fmaN n (x % 2 ^ n) (p.1 % 2 ^ n) (p.2 % 2 ^ n)))).length) != (nI (ints L).length)) = false := by
    rw [nI_eq, nI_eq, ints_len, ints_len, List.length_map, hz]
    exact bne_self_eq_false _
  simp only [Option.isNone_none, if_true, e]
  refine evs ?_
  simp only [verniertop_TopHorners.j9, Bool.false_eq_true, if_false]
  exact loop6 hL hlen hx h L.length 0 (by omega)
theorem loop5 {n : Nat} (h : isW (n : Int) = true) {S : Nat} : ∀ (i t : Nat), i ≤ L.length → t < 2 ^ n → sumsN n (L.take i) t = S →
    Ev (fun k => verniertop_TopHorners.l5 k (ints L) (x : Int) (n : Int) (S : Int) none (t : Int) ((i : Int) - 1)) true := by
  obtain ⟨b64, b8⟩ := pow64 h
  have h2 : 2 ^ n ≤ 18446744073709551616 := by rw [← p64]; exact pow_le b64
  intro i
  induction i with
  | zero =>
    intro t _ ht hS
    rw [List.take_zero, sumsN_nil] at hS
    subst hS
    refine evs ?_
    simp only [verniertop_TopHorners.l5, if_neg (show ¬ ((0 : Nat) : Int) - 1 ≥ 0 by omega), Option.isNone_none, if_true, bne_self_eq_false]
    exact join8 hL hlen hx h
  | succ i ih =>
    intro t hi ht hS
    have hi' : i < L.length := hi
    have hc := hL _ (List.getElem_mem hi')
    have e1 : ((i + 1 : Nat) : Int) - 1 = (i : Int) := by omega
    refine evs ?_
    simp only [verniertop_TopHorners.l5, nI_eq, ints_len, e1, if_pos (show (i : Int) ≥ 0 by omega), if_pos (show (0 : Int) ≤ (i : Int) by omega), if_pos (show (i : Int) < (L.length : Int) by omega), ints_rd hi', idx_pred i (by omega)]
    have q := sum_Add_eq h (a := t) (b := L[i]) (by omega) hc
    rw [Nat.mod_eq_of_lt ht] at q
    refine Ev.bind q ?_
    simp only [Option.isNone_none, if_true]
    rw [sumsN_take hi'] at hS
    exact ih _ (by omega) (addN_lt b8 b64 ht (Nat.mod_lt _ (two_pos n))) hS
theorem loop4 {n : Nat} (h : isW (n : Int) = true) : ∀ (d i : Nat), i + d = n - 2 → Ev (fun k => verniertop_TopHorners.l4 k (ints L) (x : Int) (n : Int) ((2 ^ i : Nat) : Int) (i : Int)) true := by
  obtain ⟨b64, b8⟩ := pow64 h
  have e0 : wrap64 ((n : Int) - 2) = ((n - 2 : Nat) : Int) := by rw [w64 (by omega) (by omega)]; omega
  intro d
  induction d with
  | zero =>
    intro i hi
    have : i = n - 2 := by omega
    subst this
    refine evs ?_
    simp only [verniertop_TopHorners.l4, e0, if_neg (show ¬ ((n - 2 : Nat) : Int) < ((n - 2 : Nat) : Int) by omega)]
    have hp : 2 ^ (n - 2) < 2 ^ n := pow_lt (by omega)
    have h2 : 2 ^ n ≤ 18446744073709551616 := by rw [← p64]; exact pow_le b64
    have q := vec_Poly_eq h (x := 2 ^ (n - 2)) (Nat.lt_of_lt_of_le hp h2) hL (by omega)
    rw [Nat.mod_eq_of_lt hp, polyN_one h] at q
    refine Ev.bind q ?_
    have := loop5 hL hlen hx h (S := sumsN n L 0) L.length 0 (Nat.le_refl _) (two_pos n) (by rw [List.take_length])
    simp only [nI_eq, ints_len, idx_pred L.length (by omega)]
    exact this
  | succ d ih =>
    intro i hi
    refine evs ?_
    have hp : 2 ^ (i + 1) < 18446744073709551616 := by rw [← p64]; exact pow_lt (by omega)
    have e1 : IntKind.u64.wrap (2 * ((2 ^ i : Nat) : Int)) = ((2 ^ (i + 1) : Nat) : Int) := by
      have : 2 * ((2 ^ i : Nat) : Int) = ((2 ^ (i + 1) : Nat) : Int) := by rw [Nat.pow_succ]; omega
      rw [this, wu hp]
    simp only [verniertop_TopHorners.l4, e0, e1, if_pos (show (i : Int) < ((n - 2 : Nat) : Int) by omega), w_succ (show i < 4611686018427387904 by omega)]
    exact ih (i + 1) (by omega)
theorem join4 {n : Nat} (h : isW (n : Int) = true) {p q : Nat} (hp : p = polyN n (x % 2 ^ n) L) (hq : q = horN n (x % 2 ^ n) L 0) : Ev (fun k => verniertop_TopHorners.j4 k (ints L) (x : Int) (n : Int) (p : Int) (q : Int)) true := by
  obtain ⟨b64, b8⟩ := pow64 h
  have h5 : Ev (fun k => verniertop_TopHorners.j5 k (ints L) (x : Int) (n : Int) false) true := by
    refine evs ?_
    simp only [verniertop_TopHorners.j5, Bool.false_eq_true, if_false]
    exact loop4 hL hlen hx h (n - 2) 0 (by omega)
  obtain ⟨v, hs⟩ := order_Sign_eq h hx
  refine evs ?_
  simp only [verniertop_TopHorners.j4]
  refine Ev.bind hs ?_
  by_cases hc : x % 2 ^ n ≠ 2 ^ (n - 1) ∨ L.length ≠ 1
  · have : (p : Int) = (q : Int) := by rw [hp, hq, polyN_hor b8 b64 hc]
    simp only [if_pos this]
    exact h5
  · have hx1 : x % 2 ^ n = 2 ^ (n - 1) := Decidable.byContradiction fun hn => hc (.inl hn)
    have hl1 : L.length = 1 := Decidable.byContradiction fun hn => hc (.inr hn)
    by_cases hpq : (p : Int) = (q : Int)
    · simp only [if_pos hpq]
      exact h5
    · simp only [if_neg hpq, if_pos hx1, Option.isNone_some, Bool.false_eq_true, if_false, nI_eq, ints_len, hl1]
      exact h5
theorem take_snoc {n i : Nat} (hi : i < L.length) : (L.take i).map (· % 2 ^ n) ++ [L[i] % 2 ^ n] = (L.take (i + 1)).map (· % 2 ^ n) := by
  have _u := hL
  have _v := hlen
  have _w := hx
  rw [List.take_succ_eq_append_getElem hi, List.map_append]
  rfl
theorem loop0 {p : Nat} (hp : p = polyN 8 (x % 2 ^ 8) L) : ∀ (d i : Nat), i + d = L.length → Ev (fun k => verniertop_TopHorners.l0 k (ints L) (x : Int) ((8 : Nat) : Int) (p : Int) (ints ((L.take i).map (· % 2 ^ 8))) (i : Int)) true := by
  intro d
  induction d with
  | zero =>
    intro i hi
    have : i = L.length := by omega
    subst this
    refine evs ?_
    simp only [verniertop_TopHorners.l0, nI_eq, ints_len, List.take_length, if_neg (show ¬ ((L.length : Nat) : Int) < ((L.length : Nat) : Int) by omega), u8n]
    have g := gen_Horner_P8_eq (x := x % 2 ^ 8) (Nat.mod_lt _ (two_pos 8)) (L := L.map (· % 2 ^ 8)) (fun c hc => by obtain ⟨b, _, rfl⟩ := List.mem_map.1 hc; exact Nat.mod_lt _ (two_pos 8)) (by simp; omega)
    rw [horN_mod] at g
    have hlt := horN_lt (n := 8) (x := x % 2 ^ 8) (by decide) (by decide) L (two_pos 8)
    refine Ev.bind g ?_
    rw [wu (lt8 hlt)]
    exact join4 hL hlen hx isW8 hp rfl
  | succ d ih =>
    intro i hi
    have hi' : i < L.length := by omega
    have hl : (L.take i).length = i := by rw [List.length_take]; omega
    refine evs ?_
    simp only [verniertop_TopHorners.l0, nI_eq, ints_len, List.length_map, hl, if_pos (show (i : Int) < ((L.length : Nat) : Int) by omega), if_pos (show (0 : Int) ≤ (i : Int) by omega), if_pos (show i < 140737488355328 by omega), ints_rd hi', u8n]
    simp only [ints_snoc, take_snoc hL hlen hx hi', w_succ (show i < 4611686018427387904 by omega)]
    exact ih (i + 1) (by omega)
theorem loop1 {p : Nat} (hp : p = polyN 16 (x % 2 ^ 16) L) : ∀ (d i : Nat), i + d = L.length → Ev (fun k => verniertop_TopHorners.l1 k (ints L) (x : Int) ((16 : Nat) : Int) (p : Int) (ints ((L.take i).map (· % 2 ^ 16))) (i : Int)) true := by
  intro d
  induction d with
  | zero =>
    intro i hi
    have : i = L.length := by omega
    subst this
    refine evs ?_
    simp only [verniertop_TopHorners.l1, nI_eq, ints_len, List.take_length, if_neg (show ¬ ((L.length : Nat) : Int) < ((L.length : Nat) : Int) by omega), u16n]
    have g := gen_Horner_P16_eq (x := x % 2 ^ 16) (Nat.mod_lt _ (two_pos 16)) (L := L.map (· % 2 ^ 16)) (fun c hc => by obtain ⟨b, _, rfl⟩ := List.mem_map.1 hc; exact Nat.mod_lt _ (two_pos 16)) (by simp; omega)
    rw [horN_mod] at g
    have hlt := horN_lt (n := 16) (x := x % 2 ^ 16) (by decide) (by decide) L (two_pos 16)
    refine Ev.bind g ?_
    rw [wu (lt16 hlt)]
    exact join4 hL hlen hx isW16 hp rfl
  | succ d ih =>
    intro i hi
    have hi' : i < L.length := by omega
    have hl : (L.take i).length = i := by rw [List.length_take]; omega
    refine evs ?_
    simp only [verniertop_TopHorners.l1, nI_eq, ints_len, List.length_map, hl, if_pos (show (i : Int) < ((L.length : Nat) : Int) by omega), if_pos (show (0 : Int) ≤ (i : Int) by omega), if_pos (show i < 70368744177664 by omega), ints_rd hi', u16n]
    simp only [ints_snoc, take_snoc hL hlen hx hi', w_succ (show i < 4611686018427387904 by omega)]
    exact ih (i + 1) (by omega)
theorem loop2 {p : Nat} (hp : p = polyN 32 (x % 2 ^ 32) L) : ∀ (d i : Nat), i + d = L.length → Ev (fun k => verniertop_TopHorners.l2 k (ints L) (x : Int) ((32 : Nat) : Int) (p : Int) (ints ((L.take i).map (· % 2 ^ 32))) (i : Int)) true := by
  intro d
  induction d with
  | zero =>
    intro i hi
    have : i = L.length := by omega
    subst this
    refine evs ?_
    simp only [verniertop_TopHorners.l2, nI_eq, ints_len, List.take_length, if_neg (show ¬ ((L.length : Nat) : Int) < ((L.length : Nat) : Int) by omega), u32n]
    have g := gen_Horner_P32_eq (x := x % 2 ^ 32) (Nat.mod_lt _ (two_pos 32)) (L := L.map (· % 2 ^ 32)) (fun c hc => by obtain ⟨b, _, rfl⟩ := List.mem_map.1 hc; exact Nat.mod_lt _ (two_pos 32)) (by simp; omega)
    rw [horN_mod] at g
    have hlt := horN_lt (n := 32) (x := x % 2 ^ 32) (by decide) (by decide) L (two_pos 32)
    refine Ev.bind g ?_
    rw [wu (lt32 hlt)]
    exact join4 hL hlen hx isW32 hp rfl
  | succ d ih =>
    intro i hi
    have hi' : i < L.length := by omega
    have hl : (L.take i).length = i := by rw [List.length_take]; omega
    refine evs ?_
    simp only [verniertop_TopHorners.l2, nI_eq, ints_len, List.length_map, hl, if_pos (show (i : Int) < ((L.length : Nat) : Int) by omega), if_pos (show (0 : Int) ≤ (i : Int) by omega), if_pos (show i < 35184372088832 by omega), ints_rd hi', u32n]
    simp only [ints_snoc, take_snoc hL hlen hx hi', w_succ (show i < 4611686018427387904 by omega)]
    exact ih (i + 1) (by omega)
theorem loop3 {p : Nat} (hp : p = polyN 64 (x % 2 ^ 64) L) : ∀ (d i : Nat), i + d = L.length → Ev (fun k => verniertop_TopHorners.l3 k (ints L) (x : Int) ((64 : Nat) : Int) (p : Int) (ints (L.take i)) (i : Int)) true := by
  intro d
  induction d with
  | zero =>
    intro i hi
    have : i = L.length := by omega
    subst this
    refine evs ?_
    simp only [verniertop_TopHorners.l3, nI_eq, ints_len, List.take_length, if_neg (show ¬ ((L.length : Nat) : Int) < ((L.length : Nat) : Int) by omega)]
    have g := gen_Horner_P64_eq (x := x) (by rw [p64]; exact hx) (L := L) (fun c hc => by rw [p64]; exact hL c hc) (by omega)
    have e : x % 2 ^ 64 = x := Nat.mod_eq_of_lt (by rw [p64]; exact hx)
    refine Ev.bind g (join4 hL hlen hx isW64 hp ?_)
    rw [e]
  | succ d ih =>
    intro i hi
    have hi' : i < L.length := by omega
    have hl : (L.take i).length = i := by rw [List.length_take]; omega
    refine evs ?_
    simp only [verniertop_TopHorners.l3, nI_eq, ints_len, hl, if_pos (show (i : Int) < ((L.length : Nat) : Int) by omega), if_pos (show (0 : Int) ≤ (i : Int) by omega), if_pos (show i < 17592186044416 by omega), ints_rd hi']
    have e1 : L.take i ++ [L[i]] = L.take (i + 1) := (List.take_succ_eq_append_getElem hi').symm
    simp only [ints_snoc, e1, w_succ (show i < 4611686018427387904 by omega)]
    exact ih (i + 1) (by omega)
end
theorem TopHorners : verniertop_TopHorners.Pure := by
  intro raw l x w0 w1 y1 w2
  obtain ⟨L, rfl, hL⟩ := ints_of w1
  obtain ⟨x, rfl, hx⟩ := u64_nat w2
  rw [ints_len] at y1
  refine Ev.rounds (g := fun k => verniertop_TopHorners.f k raw (ints L) (x : Int)) ?_
  unfold verniertop_TopHorners.f
  obtain ⟨n, hn, hw⟩ := wide_of w0
  refine Ev.bind hw (Ev.bind (vec_Poly_eq hn hx hL (by omega)) ?_)
  simp only [Option.isNone_none, if_true]
  have e0 : ([] : List Int) = ints ([] : List Nat) := rfl
  obtain ⟨m, e, hm⟩ := isW_nat hn
  have e : n = m := by omega
  subst e
  rcases hm with rfl | rfl | rfl | rfl
  · simp only [if_pos (show ((8 : Nat) : Int) = 8 from rfl)]
    exact loop0 hL y1 hx rfl L.length 0 (by omega)
  · simp only [if_neg (show ¬ ((16 : Nat) : Int) = 8 by decide), if_pos (show ((16 : Nat) : Int) = 16 from rfl)]
    exact loop1 hL y1 hx rfl L.length 0 (by omega)
  · simp only [if_neg (show ¬ ((32 : Nat) : Int) = 8 by decide), if_neg (show ¬ ((32 : Nat) : Int) = 16 by decide), if_pos (show ((32 : Nat) : Int) = 32 from rfl)]
    exact loop2 hL y1 hx rfl L.length 0 (by omega)
  · simp only [if_neg (show ¬ ((64 : Nat) : Int) = 8 by decide), if_neg (show ¬ ((64 : Nat) : Int) = 16 by decide), if_neg (show ¬ ((64 : Nat) : Int) = 32 by decide), if_pos (show ((64 : Nat) : Int) = 64 from rfl)]
    exact loop3 hL y1 hx rfl L.length 0 (by omega)
end Go.Proofs.Ythofoolgbngobaa.Pure
