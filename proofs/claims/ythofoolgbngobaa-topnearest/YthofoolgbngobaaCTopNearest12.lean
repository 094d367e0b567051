-- Written by a program of this session out of its own texts (wip/tools/link.py).
import Derived.Below
import Derived.ChangeKeysEq
import Derived.Deep.MidRow
import Derived.Deep.RegionHeld3
import Derived.Great.BuildSlice
import Derived.IntWalk
import Derived.KernelRfl
import Derived.LaidEql
import Derived.Laws.Bits64
import Derived.Laws.BitsLemmas
import Derived.Laws.BytesArg
import Derived.Laws.IdiomCopy
import Derived.Laws.OwnMore
import Derived.Laws.Rows
import Derived.Laws.Slices
import Derived.Laws.Strings
import Derived.Laws.StructEq
import Derived.Laws.Tables
import Derived.Lib.BitFns
import Derived.Lib.Mul64
import Derived.Lib.Slices
import Derived.Lib.Small
import Derived.Lib.Strings
import Derived.Lib.Walk
import Derived.Maps.AppendAt
import Derived.OrdersHeld
import Derived.RowKit
import Derived.Shelf.Spec.BitsCarry
import Derived.Test.YthofoolgbngobaaProg
import Derived.Test.YthofoolgbngobaaCTopNearest8
import Derived.Test.YthofoolgbngobaaCTopNearest9
import Derived.Test.YthofoolgbngobaaCTopNearest10
import Derived.Test.YthofoolgbngobaaCTopNearest11
namespace Go.Proofs.Ythofoolgbngobaa.V
open Go Go.RowKit Go.Proofs.Ythofoolgbngobaa.Ab Go.Proofs.Ythofoolgbngobaa.Fn
set_option linter.unusedVariables false
set_option linter.unusedSimpArgs false
theorem beq_dec (a b : Int) : (a == b) = decide (a = b) := by by_cases h : a = b <;> simp [h]
theorem mask32 (a : Nat) (ha : a < 18446744073709551616) : Go.bits .and .u64 (a : Int) 4294967295 = ((a % 4294967296 : Nat) : Int) := and_mask a 32 ha (by decide)
theorem div32 (a : Nat) : (a : Int) / 4294967296 = ((a / 4294967296 : Nat) : Int) := by omega
theorem mulC (a b : Nat) : (a : Int) * (b : Int) = ((a * b : Nat) : Int) := (Int.natCast_mul a b).symm
theorem addC (a b : Nat) : (a : Int) + (b : Int) = ((a + b : Nat) : Int) := (Int.natCast_add a b).symm
theorem wrapN (a : Nat) (ha : a < 18446744073709551616) : IntKind.u64.wrap (a : Int) = (a : Int) := u64_of (by omega) (by omega)
theorem bits_Mul64_eq {x y : Nat} (hx : x < 18446744073709551616) (hy : y < 18446744073709551616) : bits_Mul64.f (x : Int) (y : Int) = some (TH (x * y), TL (x * y)) := by
 obtain ⟨bd, bt, bw, hhi⟩ := Lib.mul64_hi x y hx hy
 have ba := Lib.half_mul_le (a := x / 4294967296) (b := y / 4294967296) (by omega) (by omega)
 have bb := Lib.half_mul_le (a := x / 4294967296) (b := y % 4294967296) (by omega) (by omega)
 have bc := Lib.half_mul_le (a := x % 4294967296) (b := y / 4294967296) (by omega) (by omega)
 have ba' : x / 4294967296 * (y / 4294967296) < 18446744073709551616 := by omega
 have bb' : x / 4294967296 * (y % 4294967296) < 18446744073709551616 := by omega
 have bc' : x % 4294967296 * (y / 4294967296) < 18446744073709551616 := by omega
 have bh1 : x / 4294967296 * (y / 4294967296) + (x / 4294967296 * (y % 4294967296) + x % 4294967296 * (y % 4294967296) / 4294967296) / 4294967296 < 18446744073709551616 := by omega
 have bh : x / 4294967296 * (y / 4294967296) + (x / 4294967296 * (y % 4294967296) + x % 4294967296 * (y % 4294967296) / 4294967296) / 4294967296 + ((x / 4294967296 * (y % 4294967296) + x % 4294967296 * (y % 4294967296) / 4294967296) % 4294967296 + x % 4294967296 * (y / 4294967296)) / 4294967296 < 18446744073709551616 := by omega
 unfold bits_Mul64.f
 simp only [mask32 x hx, mask32 y hy, div32, mulC, addC, wrapN _ bd, wrapN _ bb', wrapN _ bt, mask32 _ bt, wrapN _ bc', wrapN _ bw, wrapN _ ba', wrapN _ bh1, wrapN _ bh, u64_nat_wrap (x * y)]
 rw [hhi]
 rfl
theorem twin_Mul_eq {x y : Nat} (hx : x < 18446744073709551616) (hy : y < 18446744073709551616) : twin_Mul.f (x : Int) (y : Int) = some (TH (x * y), TL (x * y)) := by
 unfold twin_Mul.f
 rw [bits_Mul64_eq hx hy]; rfl
theorem mul_lt128 {x y : Nat} (hx : x < 18446744073709551616) (hy : y < 18446744073709551616) : x * y < 2 ^ 128 := by
 have := Nat.mul_le_mul (show x ≤ 18446744073709551615 by omega) (show y ≤ 18446744073709551615 by omega)
 rw [p128]
 omega
def prodE (kd : Int) (ng : Bool) (sc : Int) (fr : Nat) (kd' : Int) (ng' : Bool) (sc' : Int) (fr' : Nat) : Int × Bool × Int × Int × Int × Bool :=
 if kd = 2 ∨ kd' = 2 then (2, false, 0, 0, 0, false) else if kd = 0 ∨ kd' = 0 then (0, false, 0, 0, 0, false)
 else exactE (ng != ng') (fr * fr') (sc + sc' - 126) false
theorem soundN_cases {kd sc fr : Int} {ng : Bool} (h : soundN kd ng sc fr = true) : (kd = 0 ∧ ng = false ∧ sc = 0 ∧ fr = 0) ∨ (kd = 2 ∧ ng = false ∧ sc = 0 ∧ fr = 0) ∨ (kd = 1 ∧ 9223372036854775808 ≤ fr ∧ -1073741824 ≤ sc ∧ sc ≤ 1073741824) := by
 unfold soundN at h
 split at h
 ·rename_i hk
  have : ng = false ∧ sc = 0 ∧ fr = 0 := by simpa using h
  rcases hk with hk | hk
  ·exact .inl ⟨hk, this⟩
  ·exact .inr (.inl ⟨hk, this⟩)
 ·exact .inr (.inr (of_decide_eq_true h))
theorem makeV_exactE {ng R : Bool} {V : Nat} {e : Int} (hV : V < 2 ^ 128) (h0 : -4398046511104 ≤ e) (h1 : e ≤ 4398046511104) :
  makeV ng V e R = ((exactE ng V e R).1, (exactE ng V e R).2.1, (exactE ng V e R).2.2.1, (exactE ng V e R).2.2.2.1, (exactE ng V e R).2.2.2.2.1, (exactE ng V e R).2.2.2.2.2, none) := by
 unfold makeV exactE
 by_cases hz : V = 0
 ·rw [if_pos hz, if_pos hz]
 ·rw [if_neg hz, if_neg hz]
  have hb := bl_le_of_lt hV
  have hr : mkR V R = R := by unfold mkR; rw [show bl V - 128 = 0 by omega, Nat.pow_zero, Nat.mod_one]; simp
  have hf : farI e = e := by unfold farI; rw [if_neg (by omega), if_neg (by omega)]
  rw [hr, hf]
theorem prod_Exact_eq (kd : Int) (ng : Bool) (sc : Int) (fr : Nat) (kd' : Int) (ng' : Bool) (sc' : Int) (fr' : Nat) (hf : fr < 18446744073709551616) (hf' : fr' < 18446744073709551616) :
  Ev (fun k => prod_Exact.f k kd ng sc (fr : Int) kd' ng' sc' (fr' : Int)) (if soundN kd ng sc fr = true ∧ soundN kd' ng' sc' fr' = true then
   ((prodE kd ng sc fr kd' ng' sc' fr').1, (prodE kd ng sc fr kd' ng' sc' fr').2.1, (prodE kd ng sc fr kd' ng' sc' fr').2.2.1, (prodE kd ng sc fr kd' ng' sc' fr').2.2.2.1, (prodE kd ng sc fr kd' ng' sc' fr').2.2.2.2.1, (prodE kd ng sc fr kd' ng' sc' fr').2.2.2.2.2, none)
   else (0, false, 0, 0, 0, false, some 1)) := by
 unfold prod_Exact.f
 refine Ev.bind (round_Of_eq kd ng sc fr (by omega) (by omega)) ?_
 by_cases h1 : soundN kd ng sc fr = true
 ·simp only [h1, if_true, Option.isNone_none, true_and]
  refine Ev.bind (round_Of_eq kd' ng' sc' fr' (by omega) (by omega)) ?_
  by_cases h2 : soundN kd' ng' sc' fr' = true
  ·simp only [h2, if_true, Option.isNone_none]
   have c1 := soundN_cases h1
   have c2 := soundN_cases h2
   have j1 : Ev (fun k => prod_Exact.j0 k (decide (kd = 2 ∨ kd' = 2)) kd ng sc (fr : Int) kd' ng' sc' (fr' : Int)) ((prodE kd ng sc fr kd' ng' sc' fr').1, (prodE kd ng sc fr kd' ng' sc' fr').2.1, (prodE kd ng sc fr kd' ng' sc' fr').2.2.1, (prodE kd ng sc fr kd' ng' sc' fr').2.2.2.1, (prodE kd ng sc fr kd' ng' sc' fr').2.2.2.2.1, (prodE kd ng sc fr kd' ng' sc' fr').2.2.2.2.2, none) := by
    refine evs ?_
    simp only [prod_Exact.j0]
    unfold prodE
    by_cases hk : kd = 2 ∨ kd' = 2
    ·simp only [if_pos hk, decide_eq_true hk, if_true]
     exact Ev.now _
    ·simp only [if_neg hk, decide_eq_false hk, Bool.false_eq_true, if_false]
     have j2 : Ev (fun k => prod_Exact.j1 k (decide (kd = 0 ∨ kd' = 0)) ng sc (fr : Int) ng' sc' (fr' : Int)) (if kd = 0 ∨ kd' = 0 then (0, false, 0, 0, 0, false, none) else makeV (ng != ng') (fr * fr') (sc + sc' - 126) false) := by
      refine evs ?_
      simp only [prod_Exact.j1]
      by_cases h0 : kd = 0 ∨ kd' = 0
      ·simp only [if_pos h0, decide_eq_true h0, if_true]
       exact Ev.now _
      ·simp only [if_neg h0, decide_eq_false h0, Bool.false_eq_true, if_false]
       have ew : wrap64 (wrap64 (sc + sc') - 126) = sc + sc' - 126 := by
        rw [w64 (n := sc + sc') (by omega) (by omega), w64 (by omega) (by omega)]
       rw [ew, twin_Mul_eq hf hf']
       simp only [Option.bind_some]
       have := round_Make_eq (ng != ng') (fr * fr') (sc + sc' - 126) false (mul_lt128 hf hf')
       simp only [Bool.false_eq_true, false_and, if_false] at this
       refine Ev.bind this ?_
       exact Ev.now _
     have key : ((if kd = 0 ∨ kd' = 0 then (0, false, 0, 0, 0, false, none) else makeV (ng != ng') (fr * fr') (sc + sc' - 126) false) : Int × Bool × Int × Int × Int × Bool × Option Int) = ((if kd = 0 ∨ kd' = 0 then (0, false, 0, 0, 0, false) else exactE (ng != ng') (fr * fr') (sc + sc' - 126) false).1, (if kd = 0 ∨ kd' = 0 then (0, false, 0, 0, 0, false) else exactE (ng != ng') (fr * fr') (sc + sc' - 126) false).2.1, (if kd = 0 ∨ kd' = 0 then (0, false, 0, 0, 0, false) else exactE (ng != ng') (fr * fr') (sc + sc' - 126) false).2.2.1, (if kd = 0 ∨ kd' = 0 then (0, false, 0, 0, 0, false) else exactE (ng != ng') (fr * fr') (sc + sc' - 126) false).2.2.2.1, (if kd = 0 ∨ kd' = 0 then (0, false, 0, 0, 0, false) else exactE (ng != ng') (fr * fr') (sc + sc' - 126) false).2.2.2.2.1, (if kd = 0 ∨ kd' = 0 then (0, false, 0, 0, 0, false) else exactE (ng != ng') (fr * fr') (sc + sc' - 126) false).2.2.2.2.2, none) := by
      by_cases h0 : kd = 0 ∨ kd' = 0
      ·simp only [if_pos h0]
      ·simp only [if_neg h0]
       exact makeV_exactE (mul_lt128 hf hf') (by omega) (by omega)
     rw [← key]
     by_cases hk0 : kd = 0
     ·have hd : (kd == 0) = decide (kd = 0 ∨ kd' = 0) := by rw [decide_eq_true (.inl hk0)]; simp [hk0]
      simp only [if_pos hk0, hd]
      exact j2
     ·have hd : (kd' == 0) = decide (kd = 0 ∨ kd' = 0) := by rw [beq_dec]; simp [hk0]
      simp only [if_neg hk0, hd]
      exact j2
   by_cases hk2 : kd = 2
   ·have hd : (kd == 2) = decide (kd = 2 ∨ kd' = 2) := by simp [hk2]
    simp only [if_pos hk2, hd]
    exact j1
   ·have hd : (kd' == 2) = decide (kd = 2 ∨ kd' = 2) := by rw [beq_dec]; simp [hk2]
    simp only [if_neg hk2, hd]
    exact j1
  ·simp only [if_neg h2]
   exact Ev.now _
 ·simp only [if_neg h1, if_neg (show ¬ (soundN kd ng sc fr = true ∧ soundN kd' ng' sc' fr' = true) from fun h => h1 h.1)]
  exact Ev.now _
def prodX (a b : NM) : EX := if a.kd = 2 ∨ b.kd = 2 then EX.nar else if a.kd = 0 ∨ b.kd = 0 then EX.zero else natX (a.ng != b.ng) (a.fr * b.fr) (a.sc + b.sc - 126) false
theorem prodX_ok (a b : NM) : (prodX a b).ok := by
 unfold prodX
 split
 ·exact .inr (.inl rfl)
 ·split
  ·exact .inl rfl
  ·exact natX_ok _ _ _ _
theorem prodE_X (a b : NM) : prodE a.kd a.ng a.sc a.fr b.kd b.ng b.sc b.fr = ((prodX a b).kd, (prodX a b).ng, (prodX a b).sc, TH (prodX a b).V, TL (prodX a b).V, (prodX a b).R) := by
 unfold prodE prodX
 by_cases h2 : a.kd = 2 ∨ b.kd = 2
 ·rw [if_pos h2, if_pos h2]; rfl
 ·rw [if_neg h2, if_neg h2]
  by_cases h0 : a.kd = 0 ∨ b.kd = 0
  ·rw [if_pos h0, if_pos h0]; rfl
  ·rw [if_neg h0, if_neg h0, exactE_natX]
theorem prod_Exact_X {a b : NM} (ha : a.ok) (hb : b.ok) : Ev (fun k => prod_Exact.f k a.kd a.ng a.sc (a.fr : Int) b.kd b.ng b.sc (b.fr : Int)) ((prodX a b).kd, (prodX a b).ng, (prodX a b).sc, TH (prodX a b).V, TL (prodX a b).V, (prodX a b).R, none) := by
 have := prod_Exact_eq a.kd a.ng a.sc a.fr b.kd b.ng b.sc b.fr ha.2 hb.2
 rw [if_pos ⟨ha.1, hb.1⟩, prodE_X] at this
 exact this
def mulN (n x y : Nat) : Nat := (prodX (decN n x) (decN n y)).rnd n
theorem prod_Mul_eq {n a b : Nat} (h : isW (n : Int) = true) (ha : a < 18446744073709551616) (hb : b < 18446744073709551616) : Ev (fun k => prod_Mul.f k (n : Int) (a : Int) (b : Int)) (((mulN n (a % 2 ^ n) (b % 2 ^ n) : Nat) : Int), none) := by
 obtain ⟨b64, b8⟩ := pow64 h
 unfold prod_Mul.f
 refine Ev.bind (Decode_N h ha) ?_
 simp only [Option.isNone_none, if_true]
 refine Ev.bind (Decode_N h hb) ?_
 refine Ev.bind (prod_Exact_X (decN_ok b8 b64 (Nat.mod_lt a (two_pos n))) (decN_ok b8 b64 (Nat.mod_lt b (two_pos n)))) ?_
 refine Ev.bind (Round_X h (prodX_ok _ _)) ?_
 exact Ev.now _
theorem prod_Mul_no {n : Int} (h : isW n = false) (a b : Int) : Ev (fun k => prod_Mul.f k n a b) (0, some 2) := by
 unfold prod_Mul.f
 exact Ev.bind (Decode_no h a) (Ev.now _)
end Go.Proofs.Ythofoolgbngobaa.V
namespace Go.Proofs.Ythofoolgbngobaa.V
open Go Go.RowKit Go.Proofs.Ythofoolgbngobaa.Ab Go.Proofs.Ythofoolgbngobaa.Fn
set_option linter.unusedVariables false
set_option linter.unusedSimpArgs false
theorem EX.real {x : EX} (hx : x.ok) (kx : x.kd = 1) : 2 ^ 127 ≤ x.V ∧ x.V < 2 ^ 128 ∧ -1099511627776 ≤ x.sc ∧ x.sc ≤ 1099511627776 := by
 rcases hx with rfl | rfl | hx
 ·exact absurd kx (by decide)
 ·exact absurd kx (by decide)
 ·exact hx.2
end Go.Proofs.Ythofoolgbngobaa.V
namespace Go.Proofs.Ythofoolgbngobaa.V
open Go Go.RowKit Go.Proofs.Ythofoolgbngobaa.Ab Go.Proofs.Ythofoolgbngobaa.Fn
set_option linter.unusedVariables false
set_option linter.unusedSimpArgs false
theorem T_hi (r : Nat) : TH (r * 18446744073709551616) = (r : Int) ∧ TL (r * 18446744073709551616) = 0 := by
 unfold TH TL; omega
theorem Of_X {x : NM} (h : x.ok) : Ev (fun k => round_Of.f k x.kd x.ng x.sc (x.fr : Int)) (x.ex.kd, x.ex.ng, x.ex.sc, TH x.ex.V, TL x.ex.V, x.ex.R, none) := by
 have := round_Of_eq x.kd x.ng x.sc (x.fr : Int) (by have := h.2; omega) (by omega)
 rw [if_pos h.1] at this
 rw [(NM.ex_tup x h).1, (NM.ex_tup x h).2]
 exact this
end Go.Proofs.Ythofoolgbngobaa.V
namespace Go.Proofs.Ythofoolgbngobaa.V
open Go Go.RowKit Go.Proofs.Ythofoolgbngobaa.Ab Go.Proofs.Ythofoolgbngobaa.Fn
set_option linter.unusedVariables false
set_option linter.unusedSimpArgs false
theorem EX.ok_kd {x : EX} (hx : x.ok) : x.kd = 0 ∨ x.kd = 1 ∨ x.kd = 2 := by
 rcases hx with rfl | rfl | hx
 ·exact .inl rfl
 ·exact .inr (.inr rfl)
 ·exact .inr (.inl hx.1)
theorem sumX_nar {x y : EX} (h : x.kd = 2 ∨ y.kd = 2) : sumX x y = EX.nar := by unfold sumX; rw [if_pos h]
theorem sumX_z1 {x y : EX} (h : ¬ (x.kd = 2 ∨ y.kd = 2)) (h1 : x.kd = 0) : sumX x y = y := by unfold sumX; rw [if_neg h, if_pos h1]
theorem sumX_z2 {x y : EX} (h : ¬ (x.kd = 2 ∨ y.kd = 2)) (h1 : ¬ x.kd = 0) (h2 : y.kd = 0) : sumX x y = x := by unfold sumX; rw [if_neg h, if_neg h1, if_pos h2]
theorem broad_Sum_j0 {x y : EX} (hx : x.ok) (hy : y.ok) : Ev (fun k => broad_Sum.j0 k (decide (x.kd = 2 ∨ y.kd = 2)) x.kd x.ng x.sc (TH x.V) (TL x.V) x.R y.kd y.ng y.sc (TH y.V) (TL y.V) y.R) (sumX x y).tup := by
 refine evs ?_
 simp only [broad_Sum.j0]
 by_cases h : x.kd = 2 ∨ y.kd = 2
 ·simp only [if_pos (decide_eq_true h)]
  rw [sumX_nar h]
  exact Ev.now _
 ·simp only [if_neg (fun h' => h (of_decide_eq_true h') : ¬ decide (x.kd = 2 ∨ y.kd = 2) = true)]
  by_cases a : x.kd = 0
  ·simp only [if_pos a]
   rw [sumX_z1 h a]
   exact Ev.now _
  ·simp only [if_neg a]
   by_cases b : y.kd = 0
   ·simp only [if_pos b]
    rw [sumX_z2 h a b]
    exact Ev.now _
   ·simp only [if_neg b]
    have kx : x.kd = 1 := by have := EX.ok_kd hx; omega
    have ky : y.kd = 1 := by have := EX.ok_kd hy; omega
    by_cases c : x.sc < y.sc
    ·simp only [if_pos c]
     rw [sumX_comm hx hy]
     exact Sum_j1 hy hx ky kx (Int.le_of_lt c)
    ·simp only [if_neg c]
     exact Sum_j1 hx hy kx ky (Int.not_lt.1 c)
theorem broad_Sum_X {x y : EX} (hx : x.ok) (hy : y.ok) : Ev (fun k => broad_Sum.f k x.kd x.ng x.sc (TH x.V) (TL x.V) x.R y.kd y.ng y.sc (TH y.V) (TL y.V) y.R) (sumX x y).tup := by
 have h := broad_Sum_j0 hx hy
 unfold broad_Sum.f
 by_cases a : x.kd = 2
 ·simp only [if_pos a]
  rw [decide_eq_true (Or.inl a)] at h
  exact h
 ·simp only [if_neg a]
  rw [show decide (x.kd = 2 ∨ y.kd = 2) = (y.kd == 2) by rw [Bool.eq_iff_iff]; simp [a]] at h
  exact h
theorem sum_Exact_X {a b : NM} (ha : a.ok) (hb : b.ok) : Ev (fun k => sum_Exact.f k a.kd a.ng a.sc (a.fr : Int) b.kd b.ng b.sc (b.fr : Int)) ((sumX a.ex b.ex).kd, (sumX a.ex b.ex).ng, (sumX a.ex b.ex).sc, TH (sumX a.ex b.ex).V, TL (sumX a.ex b.ex).V, (sumX a.ex b.ex).R, none) := by
 unfold sum_Exact.f
 refine Ev.bind (Of_X ha) ?_
 simp only [Option.isNone_none, if_true]
 refine Ev.bind (Of_X hb) ?_
 simp only [Option.isNone_none, if_true]
 exact Ev.bind (broad_Sum_X (NM.ex_ok ha) (NM.ex_ok hb)) (Ev.now _)
def addN (n x y : Nat) : Nat := (sumX (decN n x).ex (decN n y).ex).rnd n
theorem sum_Add_eq {n a b : Nat} (h : isW (n : Int) = true) (ha : a < 18446744073709551616) (hb : b < 18446744073709551616) : Ev (fun k => sum_Add.f k (n : Int) (a : Int) (b : Int)) (((addN n (a % 2 ^ n) (b % 2 ^ n) : Nat) : Int), none) := by
 obtain ⟨b64, b8⟩ := pow64 h
 have oa := decN_ok b8 b64 (Nat.mod_lt a (two_pos n))
 have ob := decN_ok b8 b64 (Nat.mod_lt b (two_pos n))
 unfold sum_Add.f
 refine Ev.bind (Decode_N h ha) ?_
 simp only [Option.isNone_none, if_true]
 refine Ev.bind (Decode_N h hb) (Ev.bind (sum_Exact_X oa ob) ?_)
 simp only [Option.isNone_none, if_true]
 exact Ev.bind (Round_X h (sumX_ok (NM.ex_ok oa) (NM.ex_ok ob))) (Ev.now _)
theorem sum_Add_no {n : Int} (h : isW n = false) (a b : Int) : Ev (fun k => sum_Add.f k n a b) (0, some 2) := by
 unfold sum_Add.f
 exact Ev.bind (Decode_no h a) (Ev.now _)
end Go.Proofs.Ythofoolgbngobaa.V
namespace Go.Proofs.Ythofoolgbngobaa.V
open Go Go.RowKit Go.Proofs.Ythofoolgbngobaa.Ab Go.Proofs.Ythofoolgbngobaa.Fn
set_option linter.unusedVariables false
set_option linter.unusedSimpArgs false
theorem sum_Sub_eq {n a b : Nat} (h : isW (n : Int) = true) (ha : a < 18446744073709551616) (hb : b < 18446744073709551616) : Ev (fun k => sum_Sub.f k (n : Int) (a : Int) (b : Int)) (((addN n (a % 2 ^ n) (negP n (b % 2 ^ n)) : Nat) : Int), none) := by
 obtain ⟨b64, b8⟩ := pow64 h
 have g : (18446744073709551616 - b) % 18446744073709551616 % 2 ^ n = negP n (b % 2 ^ n) := negN_mod b64 hb
 have q := sum_Add_eq h ha (Nat.mod_lt (18446744073709551616 - b) (show 0 < 18446744073709551616 by decide))
 rw [g, ← neg_wrap hb] at q
 unfold sum_Sub.f
 exact Ev.bind q (Ev.now _)
theorem sum_Sub_no {n : Int} (h : isW n = false) (a b : Int) : Ev (fun k => sum_Sub.f k n a b) (0, some 2) := by
 unfold sum_Sub.f
 exact Ev.bind (sum_Add_no h _ _) (Ev.now _)
end Go.Proofs.Ythofoolgbngobaa.V
namespace Go.Proofs.Ythofoolgbngobaa.V
open Go Go.RowKit Go.Proofs.Ythofoolgbngobaa.Ab Go.Proofs.Ythofoolgbngobaa.Fn
set_option linter.unusedVariables false
set_option linter.unusedSimpArgs false
theorem EX.ok_zero {x : EX} (hx : x.ok) (h : x.kd = 0) : x = EX.zero := by
 rcases hx with rfl | rfl | hx
 ·rfl
 ·exact absurd h (by decide)
 ·omega
theorem sumX_zero_r {x : EX} (hx : x.ok) : sumX x EX.zero = x := by
 unfold sumX
 by_cases h : x.kd = 2 ∨ EX.zero.kd = 2
 ·rw [if_pos h]
  have h2 : x.kd = 2 := h.elim id (fun h => absurd h (by decide))
  rcases hx with rfl | rfl | hx
  ·exact absurd h2 (by decide)
  ·rfl
  ·omega
 ·rw [if_neg h]
  by_cases h0 : x.kd = 0
  ·rw [if_pos h0, EX.ok_zero hx h0]
  ·rw [if_neg h0, if_pos (show EX.zero.kd = 0 from rfl)]
theorem EX.neg_kd (x : EX) : x.neg.kd = x.kd := by unfold EX.neg; split <;> rfl
theorem NM.neg_ex (x : NM) : x.neg.ex = x.ex.neg := by
 unfold NM.neg EX.neg NM.ex
 by_cases h : x.kd = 1
 ·simp only [if_pos h]
 ·simp only [if_neg h]
end Go.Proofs.Ythofoolgbngobaa.V
namespace Go.Proofs.Ythofoolgbngobaa.V
open Go Go.RowKit Go.Proofs.Ythofoolgbngobaa.Ab Go.Proofs.Ythofoolgbngobaa.Fn
set_option linter.unusedVariables false
set_option linter.unusedSimpArgs false
def rtL (m : Nat) : Nat → Nat → Nat
 | 0, r => r
 | k + 1, r => rtL m k (if (r + 2 ^ k) * (r + 2 ^ k) ≤ m then r + 2 ^ k else r)
theorem rtL_spec (m : Nat) : ∀ (k r : Nat), r * r ≤ m → m < (r + 2 ^ k) * (r + 2 ^ k) → rtL m k r * rtL m k r ≤ m ∧ m < (rtL m k r + 1) * (rtL m k r + 1)
 | 0, r, h1, h2 => ⟨h1, h2⟩
 | k + 1, r, h1, h2 => by
  unfold rtL
  have e : r + 2 ^ (k + 1) = r + 2 ^ k + 2 ^ k := by rw [Nat.pow_succ]; omega
  rw [e] at h2
  by_cases h : (r + 2 ^ k) * (r + 2 ^ k) ≤ m
  ·rw [if_pos h]; exact rtL_spec m k _ h h2
  ·rw [if_neg h]; exact rtL_spec m k _ h1 (by omega)
theorem rtL_le (m : Nat) : ∀ (k r : Nat), r ≤ rtL m k r ∧ rtL m k r < r + 2 ^ k
 | 0, r => ⟨Nat.le_refl _, by show r < r + 2 ^ 0; omega⟩
 | k + 1, r => by
  unfold rtL
  have e : r + 2 ^ (k + 1) = r + 2 ^ k + 2 ^ k := by rw [Nat.pow_succ]; omega
  have hp := two_pos k
  split
  ·have := rtL_le m k (r + 2 ^ k); omega
  ·have := rtL_le m k r; omega
theorem twin_Cmp_eq (A B : Nat) : twin_Cmp.f (TH A) (TL A) (TH B) (TL B) = some (cmpN A B) := by
 unfold twin_Cmp.f
 by_cases h : A = B
 ·subst h
  rw [if_pos (by simp)]
  unfold cmpN; simp
 ·have hne : ¬ ((TH A == TH B && (TL A == TL B)) = true) := by
   intro hc
   simp only [Bool.and_eq_true, beq_iff_eq] at hc
   exact h (T_eq hc.1 hc.2)
  rw [if_neg hne]
  unfold cmpN
  rw [if_neg h]
  by_cases hl : A < B
  ·rw [if_pos hl]
   by_cases h1 : TH A < TH B
   ·rw [if_pos h1]
   ·rw [if_neg h1]
    have h2 : TH A = TH B := by unfold TH at *; omega
    have h3 : TL A < TL B := by unfold TH TL at *; omega
    rw [if_pos h2, if_pos h3]
  ·rw [if_neg hl]
   have h1 : ¬ TH A < TH B := by unfold TH at *; omega
   rw [if_neg h1]
   by_cases h2 : TH A = TH B
   ·have h3 : ¬ TL A < TL B := by unfold TH TL at *; omega
    rw [if_pos h2, if_neg h3]
   ·rw [if_neg h2]
theorem bits_Sub64_eq {x y b : Int} (hx : 0 ≤ x) (hy0 : 0 ≤ y) (hy : y < 18446744073709551616) (h0 : 0 ≤ b) (hb : b ≤ 1) : bits_Sub64.f x y b = some ((x - y - b) % 18446744073709551616, if x < y + b then 1 else 0) := by
 unfold bits_Sub64.f
 rw [if_pos ⟨hx, hy0, hy, h0, hb⟩]
theorem th_lt {A : Nat} (h : A < 2 ^ 128) : A / 18446744073709551616 < 18446744073709551616 := by rw [p128] at h; omega
theorem TL_range (A : Nat) : 0 ≤ TL A ∧ TL A < 18446744073709551616 := by unfold TL; omega
theorem TH_range {A : Nat} (h : A / 18446744073709551616 < 18446744073709551616) : 0 ≤ TH A ∧ TH A < 18446744073709551616 := by unfold TH; omega
theorem sub_T {A B : Nat} (hA : A / 18446744073709551616 < 18446744073709551616) (h : B ≤ A) (hc : TL A < TL B + 0) : (TH A - TH B - 1) % 18446744073709551616 = TH (A - B) ∧ (TL A - TL B - 0) % 18446744073709551616 = TL (A - B) ∧ ¬ TH A < TH B + 1 := by
 unfold TH TL at *; omega
theorem sub_T' {A B : Nat} (hA : A / 18446744073709551616 < 18446744073709551616) (h : B ≤ A) (hc : ¬ TL A < TL B + 0) : (TH A - TH B - 0) % 18446744073709551616 = TH (A - B) ∧ (TL A - TL B - 0) % 18446744073709551616 = TL (A - B) ∧ ¬ TH A < TH B + 0 := by
 unfold TH TL at *; omega
theorem twin_Sub_eq' {A B : Nat} (hA : A / 18446744073709551616 < 18446744073709551616) (h : B ≤ A) : twin_Sub.f (TH A) (TL A) (TH B) (TL B) = some (TH (A - B), TL (A - B), false) := by
 have hB : B / 18446744073709551616 < 18446744073709551616 := Nat.lt_of_le_of_lt (Nat.div_le_div_right h) hA
 have a := bits_Sub64_eq (b := 0) (TL_range A).1 (TL_range B).1 (TL_range B).2 (Int.le_refl 0) (by decide)
 have b0 := bits_Sub64_eq (b := 0) (TH_range hA).1 (TH_range hB).1 (TH_range hB).2 (Int.le_refl 0) (by decide)
 have b1 := bits_Sub64_eq (b := 1) (TH_range hA).1 (TH_range hB).1 (TH_range hB).2 (by decide) (Int.le_refl 1)
 unfold twin_Sub.f
 rw [a]
 by_cases hc : TL A < TL B + 0
 ·obtain ⟨c1, c2, c3⟩ := sub_T hA h hc
  rw [if_pos hc, Option.bind_some]
  rw [b1, if_neg c3, Option.bind_some, c1, c2]
  rfl
 ·obtain ⟨c1, c2, c3⟩ := sub_T' hA h hc
  rw [if_neg hc, Option.bind_some]
  rw [b0, if_neg c3, Option.bind_some, c1, c2]
  rfl
theorem twin_Sub_eq {A B : Nat} (hA : A < 2 ^ 128) (h : B ≤ A) : twin_Sub.f (TH A) (TL A) (TH B) (TL B) = some (TH (A - B), TL (A - B), false) := twin_Sub_eq' (th_lt hA) h
theorem cmpN_le {A B : Nat} : cmpN A B ≤ 0 ↔ A ≤ B := by
 unfold cmpN; split
 ·omega
 ·split <;> omega
theorem part_Root_l0 {m : Nat} (hm : ∀ r, r * r ≤ m → twin_Sub.f (TH m) (TL m) (TH (r * r)) (TL (r * r)) = some (TH (m - r * r), TL (m - r * r), false)) : ∀ (k r : Nat), r % 2 ^ k = 0 → r + 2 ^ k ≤ 18446744073709551616 → k ≤ 64 → r * r ≤ m → Ev (fun n => part_Root.l0 n (r : Int) ((k : Int) - 1) (TH m) (TL m)) (((rtL m k r : Nat) : Int), TH (m - rtL m k r * rtL m k r), TL (m - rtL m k r * rtL m k r))
 | 0, r, h0, h1, hk, hr => by
  rw [Nat.pow_zero] at h1
  refine evs ?_
  simp only [part_Root.l0, nI_eq, if_neg (show ¬ ((0 : Nat) : Int) - 1 ≥ 0 by decide), if_false]
  exact Ev.bind (evn (twin_Mul_eq (show r < 18446744073709551616 by omega) (show r < 18446744073709551616 by omega))) (Ev.bind (evn (hm r hr)) (Ev.now _))
 | k + 1, r, h0, h1, hk, hr => by
  have hp := two_pos k
  have e2 : 2 ^ (k + 1) = 2 ^ k * 2 := Nat.pow_succ ..
  have hpl : 2 ^ k < 18446744073709551616 := by rw [← p64]; exact pow_lt (by omega)
  have eor : Go.bits .or .u64 (r : Int) (shl .u64 1 (k : Int)) = ((r + 2 ^ k : Nat) : Int) := by
   have := shl_nat 1 k (by omega)
   rw [Nat.one_mul, Nat.mod_eq_of_lt hpl] at this
   have e1 : shl .u64 1 (k : Int) = ((2 ^ k : Nat) : Int) := this
   rw [e1]
   exact or_add r (2 ^ k) (k + 1) (by omega) h0 (by omega) hpl
  have ew : wrap64 ((k : Int) - 1) = (k : Int) - 1 := w64 (by omega) (by omega)
  have hd : r % 2 ^ k = 0 := by
   have := mod_pow_le (a := r) (b := k) (c := k + 1) (by omega)
   rw [h0, Nat.zero_mod] at this
   exact this.symm
  refine evs ?_
  simp only [part_Root.l0, nI_eq, show ((k + 1 : Nat) : Int) - 1 = (k : Int) by omega, if_pos (show (k : Int) ≥ 0 by omega), if_pos (show (0 : Int) ≤ (k : Int) by omega), eor, ew]
  refine Ev.bind (evn (twin_Mul_eq (show r + 2 ^ k < 18446744073709551616 by omega) (show r + 2 ^ k < 18446744073709551616 by omega))) (Ev.bind (evn (twin_Cmp_eq _ _)) ?_)
  unfold rtL
  by_cases h : (r + 2 ^ k) * (r + 2 ^ k) ≤ m
  ·simp only [if_pos (cmpN_le.mpr h), if_pos h]
   exact part_Root_l0 hm k (r + 2 ^ k) (by rw [Nat.add_mod_right]; exact hd) (by omega) (by omega) h
  ·simp only [if_neg (fun hc => h (cmpN_le.mp hc)), if_neg h]
   exact part_Root_l0 hm k r hd (by omega) (by omega) hr
theorem part_Root_eq {m : Nat} (hm : m < 2 ^ 128) : Ev (fun n => part_Root.f n (TH m) (TL m)) (((rtL m 64 0 : Nat) : Int), TH (m - rtL m 64 0 * rtL m 64 0), TL (m - rtL m 64 0 * rtL m 64 0)) := by
 unfold part_Root.f
 exact part_Root_l0 (fun r hr => twin_Sub_eq hm hr) 64 0 (Nat.zero_mod _) (by rw [p64]; omega) (by decide) (Nat.zero_le _)
theorem and_i64_1 (s : Int) : Go.bits .and .i64 s 1 = s % 2 := by
 simp only [Go.bits]
 have h1 : (BitVec.ofInt IntKind.i64.bits s) &&& (BitVec.ofInt IntKind.i64.bits 1) = BitVec.ofNat 64 (s % 2).toNat := by
  show (BitVec.ofInt 64 s) &&& (BitVec.ofInt 64 1) = BitVec.ofNat 64 (s % 2).toNat
  apply BitVec.eq_of_toNat_eq
  rw [BitVec.toNat_and, BitVec.toNat_ofInt, BitVec.toNat_ofInt, BitVec.toNat_ofNat]
  rw [show ((1 : Int) % ((2 ^ 64 : Nat) : Int)).toNat = 2 ^ 1 - 1 by decide, Nat.and_two_pow_sub_one_eq_mod]
  omega
 have h3 : (BitVec.ofNat 64 (s % 2).toNat).toNat = (s % 2).toNat := by rw [BitVec.toNat_ofNat]; omega
 rw [h1]
 show IntKind.i64.wrap ((BitVec.ofNat 64 (s % 2).toNat).toNat : Int) = _
 rw [h3, IntKind.wrap_i64]
 omega
def rootW (x : EX) : Nat := if x.sc % 2 = 0 then x.V / 2 else x.V
def rootX (x : EX) : EX := if x.kd = 0 then EX.zero else if x.kd = 2 ∨ x.ng = true then EX.nar else
 ⟨1, false, x.sc / 2, rtL (rootW x) 64 0 * 18446744073709551616, x.R || (decide (x.sc % 2 = 0 ∧ x.V % 2 ≠ 0) || decide (rtL (rootW x) 64 0 * rtL (rootW x) 64 0 ≠ rootW x))⟩
theorem rt_facts {m : Nat} (h0 : 2 ^ 126 ≤ m) (h1 : m < 2 ^ 128) : rtL m 64 0 * rtL m 64 0 ≤ m ∧ m < (rtL m 64 0 + 1) * (rtL m 64 0 + 1) ∧ 9223372036854775808 ≤ rtL m 64 0 ∧ rtL m 64 0 < 18446744073709551616 := by
 obtain ⟨a, b⟩ := rtL_spec m 64 0 (Nat.zero_le _) (by rw [Nat.zero_add, ← Nat.pow_add]; exact h1)
 have c := (rtL_le m 64 0).2
 rw [p64] at c
 refine ⟨a, b, ?_, by omega⟩
 generalize rtL m 64 0 = r at *
 rcases Nat.lt_or_ge r 9223372036854775808 with h | h
 ·have := Nat.mul_le_mul (show r + 1 ≤ 9223372036854775808 by omega) (show r + 1 ≤ 9223372036854775808 by omega)
  have e : (9223372036854775808 : Nat) * 9223372036854775808 = 2 ^ 126 := by decide
  omega
 ·exact h
theorem rootW_bounds {x : EX} (h1 : 2 ^ 127 ≤ x.V) (h2 : x.V < 2 ^ 128) : 2 ^ 126 ≤ rootW x ∧ rootW x < 2 ^ 128 := by
 have e : (2 : Nat) ^ 127 = 2 * 2 ^ 126 := by decide
 unfold rootW
 generalize (2 : Nat) ^ 128 = z at *
 generalize (2 : Nat) ^ 126 = y at *
 split <;> omega
theorem rootX_ok {x : EX} (hx : x.ok) : (rootX x).ok := by
 unfold rootX
 split
 ·exact .inl rfl
 ·split
  ·exact .inr (.inl rfl)
  ·rename_i h0 h2
   rcases hx with rfl | rfl | ⟨k1, k2, k3, k4, k5⟩
   ·exact absurd rfl h0
   ·exact absurd (.inl rfl) h2
   ·obtain ⟨w1, w2⟩ := rootW_bounds k2 k3
    obtain ⟨_, _, r1, r2⟩ := rt_facts w1 w2
    refine .inr (.inr ⟨rfl, ?_, ?_, ?_, ?_⟩)
    ·show 2 ^ 127 ≤ rtL (rootW x) 64 0 * 18446744073709551616
     rw [p127]; omega
    ·show rtL (rootW x) 64 0 * 18446744073709551616 < 2 ^ 128
     rw [p128]; omega
    ·show -1099511627776 ≤ x.sc / 2
     omega
    ·show x.sc / 2 ≤ 1099511627776
     omega
theorem left_ne {m r : Nat} (h : r * r ≤ m) : (!((TH (m - r * r) == 0) && (TL (m - r * r) == 0))) = decide (r * r ≠ m) := by
 by_cases e : r * r = m
 ·rw [e, Nat.sub_self, decide_eq_false (by omega)]; rfl
 ·rw [decide_eq_true e]
  generalize hd : m - r * r = d
  have h0 : d ≠ 0 := by omega
  by_cases h1 : TH d = 0
  ·have h2 : TL d ≠ 0 := by unfold TH TL at *; omega
   simp [h2]
  ·simp [h1]
theorem root_Exact_X {x : EX} (hx : x.ok) : Ev (fun k => root_Exact.f k x.kd x.ng x.sc (TH x.V) (TL x.V) x.R) ((rootX x).kd, (rootX x).ng, (rootX x).sc, TH (rootX x).V, TL (rootX x).V, (rootX x).R, none) := by
 unfold root_Exact.f
 refine Ev.bind (Round_X (n := 8) (by decide) hx) ?_
 simp only [Option.isNone_none, if_true]
 rcases hx with rfl | rfl | ⟨k1, k2, k3, k4, k5⟩
 ·exact Ev.now _
 ·exact Ev.now _
 ·have hk0 : ¬ x.kd = 0 := by omega
  have hk2 : ¬ x.kd = 2 := by omega
  simp only [if_neg hk0, if_neg hk2]
  by_cases hn : x.ng = true
  ·have e : rootX x = EX.nar := by unfold rootX; rw [if_neg hk0, if_pos (.inr hn)]
   simp only [if_pos hn, e]
   exact Ev.now _
  ·obtain ⟨w1, w2⟩ := rootW_bounds k2 k3
   obtain ⟨r1, r2, r3, r4⟩ := rt_facts w1 w2
   have e : rootX x = ⟨1, false, x.sc / 2, rtL (rootW x) 64 0 * 18446744073709551616, x.R || (decide (x.sc % 2 = 0 ∧ x.V % 2 ≠ 0) || decide (rtL (rootW x) 64 0 * rtL (rootW x) 64 0 ≠ rootW x))⟩ := by
    unfold rootX; rw [if_neg hk0, if_neg (fun h => h.elim hk2 hn)]
   have hR := part_Root_eq w2
   simp only [if_neg hn]
   refine evs ?_
   simp only [root_Exact.j0, and_i64_1, e, (T_hi _).1, (T_hi _).2]
   by_cases hs : x.sc % 2 = 0
   ·have hw : rootW x = x.V / 2 ^ 1 := by unfold rootW; rw [if_pos hs]
    simp only [if_pos hs]
    have hsh := twin_Shr_eq x.V 1 k3 (by decide)
    have hsh' : twin_Shr.f (TH x.V) (TL x.V) 1 = _ := hsh
    simp only [hsh', Option.bind_some]
    rw [← hw]
    by_cases hr : x.R = true
    ·simp only [if_pos hr]
     refine Ev.bind hR (evn ?_)
     simp [hr]
    ·simp only [if_neg hr]
     refine Ev.bind hR ?_
     by_cases hl : x.V % 2 ^ 1 ≠ 0
     ·simp only [decide_eq_true hl, if_true]
      refine evn ?_
      have : x.V % 2 ≠ 0 := hl
      simp [hs, this]
     ·simp only [decide_eq_false hl, Bool.false_eq_true, if_false, left_ne r1]
      refine evn ?_
      have h0 : x.V % 2 = 0 := by simpa using hl
      simp [hr, h0]
   ·have hw : rootW x = x.V := by unfold rootW; rw [if_neg hs]
    simp only [if_neg hs]
    rw [hw] at hR r1 ⊢
    refine Ev.bind hR ?_
    by_cases hr : x.R = true
    ·simp only [if_pos hr]
     refine evn ?_
     simp [hr]
    ·simp only [if_neg hr, left_ne r1]
     refine evn ?_
     simp [hr, hs]
end Go.Proofs.Ythofoolgbngobaa.V
namespace Go.Proofs.Ythofoolgbngobaa.V
open Go Go.RowKit Go.Proofs.Ythofoolgbngobaa.Ab Go.Proofs.Ythofoolgbngobaa.Fn
set_option linter.unusedVariables false
set_option linter.unusedSimpArgs false
def sqrtN (n x : Nat) : Nat := (rootX (decN n x).ex).rnd n
theorem root_Sqrt_eq {n a : Nat} (h : isW (n : Int) = true) (ha : a < 18446744073709551616) : Ev (fun k => root_Sqrt.f k (n : Int) (a : Int)) (((sqrtN n (a % 2 ^ n) : Nat) : Int), none) := by
 obtain ⟨b64, b8⟩ := pow64 h
 have hok := decN_ok b8 b64 (Nat.mod_lt a (two_pos n))
 unfold root_Sqrt.f
 refine Ev.bind (Decode_N h ha) ?_
 simp only [Option.isNone_none, if_true]
 refine Ev.bind (Of_X hok) (Ev.bind (root_Exact_X (NM.ex_ok hok)) ?_)
 simp only [Option.isNone_none, if_true]
 exact Ev.bind (Round_X h (rootX_ok (NM.ex_ok hok))) (Ev.now _)
theorem root_Sqrt_no {n : Int} (h : isW n = false) (a : Int) : Ev (fun k => root_Sqrt.f k n a) (0, some 2) := by
 unfold root_Sqrt.f
 exact Ev.bind (Decode_no h a) (Ev.now _)
theorem rootX_real {x : EX} (h : x.kd = 1) (hn : x.ng = false) : rootX x = ⟨1, false, x.sc / 2, rtL (rootW x) 64 0 * 18446744073709551616, x.R || (decide (x.sc % 2 = 0 ∧ x.V % 2 ≠ 0) || decide (rtL (rootW x) 64 0 * rtL (rootW x) 64 0 ≠ rootW x))⟩ := by
 unfold rootX
 rw [if_neg (by omega), if_neg (by rintro (h2 | h2); omega; rw [hn] at h2; cases h2)]
end Go.Proofs.Ythofoolgbngobaa.V
namespace Go.Proofs.Ythofoolgbngobaa.V
open Go Go.RowKit Go.Proofs.Ythofoolgbngobaa.Ab Go.Proofs.Ythofoolgbngobaa.Fn
set_option linter.unusedVariables false
set_option linter.unusedSimpArgs false
def prdX (n x y : Nat) : EX := prodX (decN n x) (decN n y)
theorem prdX_ok (n x y : Nat) : (prdX n x y).ok := prodX_ok _ _
def fmaN (n x y z : Nat) : Nat := (sumX (prdX n x y) (decN n z).ex).rnd n
theorem fuse_product_eq {n a b : Nat} (h : isW (n : Int) = true) (ha : a < 18446744073709551616) (hb : b < 18446744073709551616) : Ev (fun k => fuse_product.f k (n : Int) (a : Int) (b : Int)) ((prdX n (a % 2 ^ n) (b % 2 ^ n)).kd, (prdX n (a % 2 ^ n) (b % 2 ^ n)).ng, (prdX n (a % 2 ^ n) (b % 2 ^ n)).sc, TH (prdX n (a % 2 ^ n) (b % 2 ^ n)).V, TL (prdX n (a % 2 ^ n) (b % 2 ^ n)).V, (prdX n (a % 2 ^ n) (b % 2 ^ n)).R, none) := by
 obtain ⟨b64, b8⟩ := pow64 h
 have oa := decN_ok b8 b64 (Nat.mod_lt a (two_pos n))
 have ob := decN_ok b8 b64 (Nat.mod_lt b (two_pos n))
 unfold fuse_product.f
 refine Ev.bind (Decode_N h ha) ?_
 simp only [Option.isNone_none, if_true]
 exact Ev.bind (Decode_N h hb) (Ev.bind (prod_Exact_X oa ob) (Ev.now _))
theorem fuse_product_no {n : Int} (h : isW n = false) (a b : Int) : Ev (fun k => fuse_product.f k n a b) (0, false, 0, 0, 0, false, some 2) := by
 unfold fuse_product.f
 exact Ev.bind (Decode_no h a) (Ev.now _)
theorem fuse_Fma_eq {n a b c : Nat} (h : isW (n : Int) = true) (ha : a < 18446744073709551616) (hb : b < 18446744073709551616) (hc : c < 18446744073709551616) : Ev (fun k => fuse_Fma.f k (n : Int) (a : Int) (b : Int) (c : Int)) (((fmaN n (a % 2 ^ n) (b % 2 ^ n) (c % 2 ^ n) : Nat) : Int), none) := by
 obtain ⟨b64, b8⟩ := pow64 h
 have oc := decN_ok b8 b64 (Nat.mod_lt c (two_pos n))
 have op := prdX_ok n (a % 2 ^ n) (b % 2 ^ n)
 unfold fuse_Fma.f
 refine Ev.bind (fuse_product_eq h ha hb) ?_
 simp only [Option.isNone_none, if_true]
 exact Ev.bind (Decode_N h hc) (Ev.bind (Of_X oc) (Ev.bind (broad_Sum_X op (NM.ex_ok oc)) (Ev.bind (Round_X h (sumX_ok op (NM.ex_ok oc))) (Ev.now _))))
theorem fuse_Fma_no {n : Int} (h : isW n = false) (a b c : Int) : Ev (fun k => fuse_Fma.f k n a b c) (0, some 2) := by
 unfold fuse_Fma.f
 exact Ev.bind (fuse_product_no h _ _) (Ev.now _)
end Go.Proofs.Ythofoolgbngobaa.V
namespace Go.Proofs.Ythofoolgbngobaa.V
open Go Go.RowKit Go.Proofs.Ythofoolgbngobaa.Ab Go.Proofs.Ythofoolgbngobaa.Fn
set_option linter.unusedVariables false
set_option linter.unusedSimpArgs false
theorem dig_test {y1 y0 u d g r : Nat} (hy1 : 2147483648 ≤ y1) (hy1' : y1 < 4294967296) (hy0 : y0 < 4294967296) (hu : u < y1 * 4294967296 + y0) (hd : d < 4294967296) (hg : u = g * y1 + r) (hr : r < 4294967296) :
  (¬ (4294967296 ≤ g ∨ 4294967296 * r + d < g * y0) → g ≤ (u * 4294967296 + d) / (y1 * 4294967296 + y0)) ∧ ((4294967296 ≤ g ∨ 4294967296 * r + d < g * y0) → (u * 4294967296 + d) / (y1 * 4294967296 + y0) < g) := by
 have hpos : 0 < y1 * 4294967296 + y0 := by omega
 have e : g * (y1 * 4294967296 + y0) = g * y1 * 4294967296 + g * y0 := by rw [Nat.mul_add, Nat.mul_assoc]
 have eu : u * 4294967296 = g * y1 * 4294967296 + r * 4294967296 := by rw [hg, Nat.add_mul]
 constructor
 ·intro h
  rw [Nat.le_div_iff_mul_le hpos, e]
  omega
 ·rintro (h | h)
  ·refine Nat.lt_of_lt_of_le ?_ h
   rw [Nat.div_lt_iff_lt_mul hpos]
   omega
  ·rw [Nat.div_lt_iff_lt_mul hpos, e]
   omega
theorem dig_break {y1 y0 u d g r : Nat} (hy1 : 2147483648 ≤ y1) (hy0 : y0 < 4294967296) (hg : u = g * y1 + r) (hr : 4294967296 ≤ r) (hb : g ≤ 4294967296) : g ≤ (u * 4294967296 + d) / (y1 * 4294967296 + y0) := by
 have hpos : 0 < y1 * 4294967296 + y0 := by omega
 have e : g * (y1 * 4294967296 + y0) = g * y1 * 4294967296 + g * y0 := by rw [Nat.mul_add, Nat.mul_assoc]
 have eu : u * 4294967296 = g * y1 * 4294967296 + r * 4294967296 := by rw [hg, Nat.add_mul]
 have h0 : g * y0 ≤ 4294967296 * 4294967295 := Nat.mul_le_mul hb (by omega)
 rw [Nat.le_div_iff_mul_le hpos, e]
 omega
theorem dig_down {y1 u g r : Nat} (hg : u = (g + 1) * y1 + r) : u = g * y1 + (r + y1) := by rw [hg, Nat.add_mul]; omega
theorem dig_first {y1 y0 u : Nat} (hy1 : 2147483648 ≤ y1) (hy0 : y0 < 4294967296) (hu : u < y1 * 4294967296 + y0) : u / y1 ≤ 4294967297 := by
 have : u / y1 < 4294967298 := by rw [Nat.div_lt_iff_lt_mul (by omega)]; omega
 omega
theorem dig_below {y1 y0 u d : Nat} (hy1 : 2147483648 ≤ y1) (hd : d < 4294967296) : (u * 4294967296 + d) / (y1 * 4294967296 + y0) ≤ u / y1 := by
 rw [Nat.le_div_iff_mul_le (by omega)]
 have h := Nat.div_mul_le_self (u * 4294967296 + d) (y1 * 4294967296 + y0)
 generalize (u * 4294967296 + d) / (y1 * 4294967296 + y0) = q at *
 have e : q * (y1 * 4294967296 + y0) = q * y1 * 4294967296 + q * y0 := by rw [Nat.mul_add, Nat.mul_assoc]
 omega
theorem wN {n : Nat} (h : n < 18446744073709551616) : IntKind.u64.wrap (n : Int) = (n : Int) := u64_of (by omega) (by omega)
theorem wMul {a b : Nat} (h : a * b < 18446744073709551616) : IntKind.u64.wrap ((a : Int) * (b : Int)) = ((a * b : Nat) : Int) := by rw [mulC, wN h]
theorem wAdd {a b : Nat} (h : a + b < 18446744073709551616) : IntKind.u64.wrap ((a : Int) + (b : Int)) = ((a + b : Nat) : Int) := by rw [addC, wN h]
theorem wPred {a : Nat} (h : a < 18446744073709551616) (h0 : 0 < a) : IntKind.u64.wrap ((a : Int) - 1) = ((a - 1 : Nat) : Int) := by rw [show (a : Int) - 1 = ((a - 1 : Nat) : Int) by omega, wN (by omega)]
theorem wRest {u d g y : Nat} (h : g * y ≤ u * 4294967296 + d) (hl : u * 4294967296 + d - g * y < 18446744073709551616) : IntKind.u64.wrap (IntKind.u64.wrap (IntKind.u64.wrap ((u : Int) * 4294967296) + (d : Int)) - IntKind.u64.wrap ((g : Int) * (y : Int))) = ((u * 4294967296 + d - g * y : Nat) : Int) := by
 rw [mulC g y]
 generalize g * y = z at *
 simp only [u64_wrap]
 omega
theorem div_test_mul {a b : Nat} (ha : a ≤ 4294967297) (hb : b < 4294967296) : a * b < 18446744073709551616 := by
 have := Nat.mul_le_mul ha (show b ≤ 4294967295 by omega)
 omega
structure Dig (y1 y0 u d q : Nat) : Prop where
 y1lo : 2147483648 ≤ y1
 y1hi : y1 < 4294967296
 y0hi : y0 < 4294967296
 dhi : d < 4294967296
 test : ∀ g r, u = g * y1 + r → r < 4294967296 → (¬ (4294967296 ≤ g ∨ 4294967296 * r + d < g * y0) → g ≤ q) ∧ ((4294967296 ≤ g ∨ 4294967296 * r + d < g * y0) → q < g)
 stop : ∀ g r, u = g * y1 + r → 4294967296 ≤ r → g ≤ 4294967296 → g ≤ q
theorem Dig.mk' {y1 y0 u d : Nat} (hy1 : 2147483648 ≤ y1) (hy1' : y1 < 4294967296) (hy0 : y0 < 4294967296) (hu : u < y1 * 4294967296 + y0) (hd : d < 4294967296) : Dig y1 y0 u d ((u * 4294967296 + d) / (y1 * 4294967296 + y0)) :=
 ⟨hy1, hy1', hy0, hd, fun g r h1 h2 => dig_test hy1 hy1' hy0 hu hd h1 h2, fun g r h1 h2 h3 => dig_break hy1 hy0 h1 h2 h3⟩
theorem wB {r : Nat} (h : r < 4294967296) : IntKind.u64.wrap (4294967296 * (r : Int)) = ((4294967296 * r : Nat) : Int) := by rw [show (4294967296 : Int) * (r : Int) = ((4294967296 * r : Nat) : Int) by omega, wN (by omega)]
theorem wB' {r : Nat} (h : r < 4294967296) : IntKind.u64.wrap ((r : Int) * 4294967296) = ((r * 4294967296 : Nat) : Int) := by rw [show (r : Int) * 4294967296 = ((r * 4294967296 : Nat) : Int) by omega, wN (by omega)]
theorem Div64_l0 {y s y1 y0 u d v q : Nat} {res : Int × Int} (D : Dig y1 y0 u d q)
  (H : Ev (fun k => bits_Div64.j2 k (y : Int) (s : Int) (y1 : Int) (y0 : Int) (u : Int) (d : Int) (v : Int) (q : Int)) res) :
  ∀ (m g r : Nat), g ≤ q + m → q ≤ g → u = g * y1 + r → r < 4294967296 → g ≤ 4294967297 →
   Ev (fun k => bits_Div64.l0 k (y : Int) (s : Int) (y1 : Int) (y0 : Int) (u : Int) (d : Int) (v : Int) (g : Int) (r : Int)) res := by
 have hd := D.dhi
 have hy1 := D.y1hi
 intro m
 induction m with
 | zero =>
  intro g r h1 h2 h3 h4 h5
  obtain ⟨t1, t2⟩ := D.test g r h3 h4
  have hno : ¬ (4294967296 ≤ g ∨ 4294967296 * r + d < g * y0) := fun h => by have := t2 h; omega
  have hm := div_test_mul h5 D.y0hi
  refine evs ?_
  simp only [bits_Div64.l0, if_neg (show ¬ (g : Int) ≥ 4294967296 by omega), wMul hm, wB h4, wAdd (show 4294967296 * r + d < 18446744073709551616 by omega), decide_eq_false (show ¬ ((g * y0 : Nat) : Int) > ((4294967296 * r + d : Nat) : Int) by omega)]
  refine evs ?_
  simp only [bits_Div64.j1, Bool.false_eq_true, if_false]
  rw [show g = q by omega]
  exact H
 | succ m ih =>
  intro g r h1 h2 h3 h4 h5
  obtain ⟨t1, t2⟩ := D.test g r h3 h4
  have hm := div_test_mul h5 D.y0hi
  have go : ∀ b : Bool, (b = true ↔ (4294967296 ≤ g ∨ 4294967296 * r + d < g * y0)) → Ev (fun k => bits_Div64.j1 k (y : Int) (s : Int) (y1 : Int) (y0 : Int) (u : Int) (d : Int) (v : Int) (g : Int) (r : Int) b) res := by
   intro b hb
   refine evs ?_
   simp only [bits_Div64.j1]
   by_cases c : b = true
   ·have c' := hb.mp c
    have hlt := t2 c'
    obtain ⟨g', rfl⟩ : ∃ g', g = g' + 1 := ⟨g - 1, by omega⟩
    have h3' := dig_down h3
    clear h3
    simp only [if_pos c, wPred (show g' + 1 < 18446744073709551616 by omega) (Nat.succ_pos _), Nat.add_sub_cancel, wAdd (show r + y1 < 18446744073709551616 by omega)]
    by_cases hbr : 4294967296 ≤ r + y1
    ·simp only [if_pos (show ((r + y1 : Nat) : Int) ≥ 4294967296 by omega)]
     have := D.stop g' (r + y1) h3' hbr (by omega)
     rw [show g' = q by omega]
     exact H
    ·simp only [if_neg (show ¬ ((r + y1 : Nat) : Int) ≥ 4294967296 by omega)]
     exact ih g' (r + y1) (by omega) (by omega) h3' (by omega) (by omega)
   ·have c' : ¬ (4294967296 ≤ g ∨ 4294967296 * r + d < g * y0) := fun h => c (hb.mpr h)
    have := t1 c'
    simp only [if_neg c]
    rw [show g = q by omega]
    exact H
  refine evs ?_
  by_cases c : 4294967296 ≤ g
  ·simp only [bits_Div64.l0, if_pos (show (g : Int) ≥ 4294967296 by omega)]
   exact go true (by simp [c])
  ·simp only [bits_Div64.l0, if_neg (show ¬ (g : Int) ≥ 4294967296 by omega), wMul hm, wB h4, wAdd (show 4294967296 * r + d < 18446744073709551616 by omega)]
   exact go _ (by simp only [decide_eq_true_eq]; omega)
theorem Div64_l1 {y y1 y0 q1 u d q : Nat} {res : Int × Int} (D : Dig y1 y0 u d q)
  (fin : (some (IntKind.u64.wrap (IntKind.u64.wrap ((q1 : Int) * 4294967296) + (q : Int)), shr .u64 (IntKind.u64.wrap (IntKind.u64.wrap (IntKind.u64.wrap ((u : Int) * 4294967296) + (d : Int)) - IntKind.u64.wrap ((q : Int) * (y : Int)))) 0) : Option (Int × Int)) = some res) :
  ∀ (m g r : Nat), g ≤ q + m → q ≤ g → u = g * y1 + r → r < 4294967296 → g ≤ 4294967297 →
   Ev (fun k => bits_Div64.l1 k (y : Int) 0 (y1 : Int) (y0 : Int) (d : Int) (q1 : Int) (r : Int) (u : Int) (g : Int)) res := by
 have hd := D.dhi
 have hy1 := D.y1hi
 intro m
 induction m with
 | zero =>
  intro g r h1 h2 h3 h4 h5
  obtain ⟨t1, t2⟩ := D.test g r h3 h4
  have hno : ¬ (4294967296 ≤ g ∨ 4294967296 * r + d < g * y0) := fun h => by have := t2 h; omega
  have hm := div_test_mul h5 D.y0hi
  refine evs ?_
  simp only [bits_Div64.l1, if_neg (show ¬ (g : Int) ≥ 4294967296 by omega), wMul hm, wB h4, wAdd (show 4294967296 * r + d < 18446744073709551616 by omega), decide_eq_false (show ¬ ((g * y0 : Nat) : Int) > ((4294967296 * r + d : Nat) : Int) by omega)]
  refine evs ?_
  simp only [bits_Div64.j4, Bool.false_eq_true, if_false, Int.le_refl, if_true]
  rw [show g = q by omega]
  exact evn fin
 | succ m ih =>
  intro g r h1 h2 h3 h4 h5
  obtain ⟨t1, t2⟩ := D.test g r h3 h4
  have hm := div_test_mul h5 D.y0hi
  have go : ∀ b : Bool, (b = true ↔ (4294967296 ≤ g ∨ 4294967296 * r + d < g * y0)) → Ev (fun k => bits_Div64.j4 k (y : Int) 0 (y1 : Int) (y0 : Int) (d : Int) (q1 : Int) (r : Int) (u : Int) (g : Int) b) res := by
   intro b hb
   refine evs ?_
   simp only [bits_Div64.j4, Int.le_refl, if_true]
   by_cases c : b = true
   ·have c' := hb.mp c
    have hlt := t2 c'
    obtain ⟨g', rfl⟩ : ∃ g', g = g' + 1 := ⟨g - 1, by omega⟩
    have h3' := dig_down h3
    clear h3
    simp only [if_pos c, wPred (show g' + 1 < 18446744073709551616 by omega) (Nat.succ_pos _), Nat.add_sub_cancel, wAdd (show r + y1 < 18446744073709551616 by omega)]
    by_cases hbr : 4294967296 ≤ r + y1
    ·simp only [if_pos (show ((r + y1 : Nat) : Int) ≥ 4294967296 by omega)]
     have := D.stop g' (r + y1) h3' hbr (by omega)
     rw [show g' = q by omega]
     exact evn fin
    ·simp only [if_neg (show ¬ ((r + y1 : Nat) : Int) ≥ 4294967296 by omega)]
     exact ih g' (r + y1) (by omega) (by omega) h3' (by omega) (by omega)
   ·have c' : ¬ (4294967296 ≤ g ∨ 4294967296 * r + d < g * y0) := fun h => c (hb.mpr h)
    have := t1 c'
    simp only [if_neg c]
    rw [show g = q by omega]
    exact evn fin
  refine evs ?_
  by_cases c : 4294967296 ≤ g
  ·simp only [bits_Div64.l1, if_pos (show (g : Int) ≥ 4294967296 by omega)]
   exact go true (by simp [c])
  ·simp only [bits_Div64.l1, if_neg (show ¬ (g : Int) ≥ 4294967296 by omega), wMul hm, wB h4, wAdd (show 4294967296 * r + d < 18446744073709551616 by omega)]
   exact go _ (by simp only [decide_eq_true_eq]; omega)
theorem Div64_fin {q1 u d q z y : Nat} (h1 : q1 * 4294967296 + q < 18446744073709551616) (h2 : q1 < 4294967296) (h3 : q * y ≤ u * 4294967296 + d) (h4 : u * 4294967296 + d - q * y = z) (h5 : z < 18446744073709551616) :
  (some (IntKind.u64.wrap (IntKind.u64.wrap ((q1 : Int) * 4294967296) + (q : Int)), shr .u64 (IntKind.u64.wrap (IntKind.u64.wrap (IntKind.u64.wrap ((u : Int) * 4294967296) + (d : Int)) - IntKind.u64.wrap ((q : Int) * (y : Int)))) 0) : Option (Int × Int)) = some (((q1 * 4294967296 + q : Nat) : Int), (z : Int)) := by
 rw [wRest h3 (by omega), h4]
 rw [wB' h2, wAdd h1]
 have := shr_nat z 0 (by decide)
 rw [Nat.pow_zero, Nat.div_one] at this
 rw [show (0 : Int) = ((0 : Nat) : Int) from rfl, this]
theorem div_of_eq {V y q z : Nat} (h : V = q * y + z) (hz : z < y) : V / y = q ∧ V % y = z := by
 subst h
 rw [Nat.add_comm, Nat.add_mul_div_right _ _ (by omega), Nat.div_eq_of_lt hz, Nat.add_mul_mod_self_right, Nat.mod_eq_of_lt hz]
 exact ⟨by omega, rfl⟩
theorem dig_ex {y y1 y0 u d : Nat} (hy : y = y1 * 4294967296 + y0) (hy1 : 2147483648 ≤ y1) (hy1' : y1 < 4294967296) (hy0 : y0 < 4294967296) (hu : u < y) (hd : d < 4294967296) :
  ∃ q z, Dig y1 y0 u d q ∧ q ≤ u / y1 ∧ u / y1 ≤ 4294967297 ∧ u * 4294967296 + d = q * y + z ∧ z < y ∧ q < 4294967296 := by
 subst hy
 have hpos : 0 < y1 * 4294967296 + y0 := by omega
 refine ⟨(u * 4294967296 + d) / (y1 * 4294967296 + y0), (u * 4294967296 + d) % (y1 * 4294967296 + y0), Dig.mk' hy1 hy1' hy0 hu hd, dig_below hy1 hd, dig_first hy1 hy0 hu, ?_, Nat.mod_lt _ hpos, ?_⟩
 ·rw [Nat.mul_comm ((u * 4294967296 + d) / (y1 * 4294967296 + y0))]; exact (Nat.div_add_mod _ _).symm
 ·rw [Nat.div_lt_iff_lt_mul hpos]; omega
theorem dig_both' {B h l l1 l0 a b u z V : Nat} (h1 : V = h * (B * B) + l) (h2 : l = l1 * B + l0) (h3 : h * B + l1 = a + u) (h4 : u * B + l0 = b + z) : V = a * B + b + z := by
 have e : (h * B + l1) * B = (a + u) * B := by rw [h3]
 rw [Nat.add_mul, Nat.add_mul, Nat.mul_assoc] at e
 omega
theorem dig_both {h l l1 l0 q1 q2 y u z V : Nat} (h1 : V = h * 18446744073709551616 + l) (h2 : l = l1 * 4294967296 + l0) (h3 : h * 4294967296 + l1 = q1 * y + u) (h4 : u * 4294967296 + l0 = q2 * y + z) : V = (q1 * 4294967296 + q2) * y + z := by
 have e5 : (q1 * 4294967296 + q2) * y = q1 * y * 4294967296 + q2 * y := by rw [Nat.add_mul, Nat.mul_assoc, Nat.mul_comm 4294967296, ← Nat.mul_assoc]
 rw [e5]
 have e6 : (18446744073709551616 : Nat) = 4294967296 * 4294967296 := by decide
 rw [e6] at h1
 exact dig_both' h1 h2 h3 h4
theorem dig_guess {u y1 : Nat} (h : 2147483648 ≤ y1) (hu : u < 18446744073709551616) : IntKind.u64.wrap (Int.tdiv (u : Int) (y1 : Int)) = ((u / y1 : Nat) : Int) ∧ IntKind.u64.wrap ((u : Int) - IntKind.u64.wrap (((u / y1 : Nat) : Int) * (y1 : Int))) = ((u % y1 : Nat) : Int) ∧ u = u / y1 * y1 + u % y1 ∧ u % y1 < y1 := by
 have hdm := Nat.div_add_mod u y1
 have hml := Nat.mod_lt u (show 0 < y1 by omega)
 have hq : u / y1 ≤ u := Nat.div_le_self _ _
 rw [Nat.mul_comm] at hdm
 rw [tdivN]
 generalize u / y1 = q at *
 generalize u % y1 = r at *
 refine ⟨wN (by omega), ?_, by omega, hml⟩
 rw [wMul (by omega), show (u : Int) - ((q * y1 : Nat) : Int) = (r : Int) by omega, wN (by omega)]
theorem Div64_eq {h l y V : Nat} (hy : 9223372036854775808 ≤ y) (hy' : y < 18446744073709551616) (hh : h < y) (hl : l < 18446744073709551616) (hV : V = h * 18446744073709551616 + l) :
  Ev (fun k => bits_Div64.f k (h : Int) (l : Int) (y : Int)) (((V / y : Nat) : Int), ((V % y : Nat) : Int)) := by
 unfold bits_Div64.f
 simp only [if_neg (show ¬ (y : Int) = 0 by omega), if_neg (show ¬ (y : Int) ≤ (h : Int) by omega)]
 by_cases h0 : h = 0
 ·have hVl : V = l := by omega
  subst h0 hVl
  have hq : V / y < 18446744073709551616 := Nat.lt_of_le_of_lt (Nat.div_le_self _ _) hl
  simp only [show (((0 : Nat) : Int) = 0) = True from by simp, if_true, tdivN, tmodN, wN hq]
  exact Ev.now _
 ·simp only [if_neg (show ¬ (h : Int) = 0 by omega)]
  have hlz : bits_LeadingZeros64.f (y : Int) = some 0 := by
   have := Lead0_eq (x := y) hy'
   rw [bl_unique (n := 64) (by decide) (by rw [show (2 : Nat) ^ (64 - 1) = 9223372036854775808 by decide]; exact hy) (by rw [p64]; exact hy')] at this
   exact this
  have w0 : IntKind.u64.wrap 0 = 0 := by decide
  have w64' : IntKind.u64.wrap (64 - 0) = 64 := by decide
  have s0 : ∀ a : Nat, a < 18446744073709551616 → shl .u64 (a : Int) 0 = (a : Int) := fun a ha => by
   have := shl_nat a 0 (by decide)
   rw [Nat.pow_zero, Nat.mul_one, Nat.mod_eq_of_lt ha] at this
   exact this
  have s1 : shr .u64 (l : Int) 64 = 0 := by
   have := shr_nat l 64 (by decide)
   rw [p64, Nat.div_eq_of_lt hl] at this
   exact this
  have o0 : Go.bits .or .u64 (h : Int) 0 = (h : Int) := by
   have := or_nat h 0 (by omega) (by decide)
   rw [Nat.or_zero] at this
   exact this
  refine Ev.bind (evn hlz) ?_
  have hlh : h < 18446744073709551616 := by omega
  have hy1 : 2147483648 ≤ y / 4294967296 := by omega
  have hy1' : y / 4294967296 < 4294967296 := by omega
  have hy0 : y % 4294967296 < 4294967296 := by omega
  have hye : y = y / 4294967296 * 4294967296 + y % 4294967296 := by omega
  have hyi : (y : Int) / 4294967296 = ((y / 4294967296 : Nat) : Int) := by omega
  have hli : (l : Int) / 4294967296 = ((l / 4294967296 : Nat) : Int) := by omega
  obtain ⟨g1, g2, g3, g4⟩ := dig_guess hy1 hlh
  simp only [w0, w64', Int.le_refl, if_true, if_pos (show (0 : Int) ≤ 64 by decide), s0 y hy', s0 h hlh, s0 l hl, s1, o0, hyi, hli, if_neg (show ¬ ((y / 4294967296 : Nat) : Int) = 0 by omega), mask32 y hy', mask32 l hl, g1, g2]
  obtain ⟨q1, u, D1, b1, b2, b3, b4, b5⟩ := dig_ex hye hy1 hy1' hy0 hh (show l / 4294967296 < 4294967296 by omega)
  refine Div64_l0 (v := l % 4294967296) D1 ?_ (h / (y / 4294967296)) (h / (y / 4294967296)) (h % (y / 4294967296)) (Nat.le_add_left _ _) b1 g3 (Nat.lt_trans g4 hy1') b2
  obtain ⟨e1, e2, e3, e4⟩ := dig_guess hy1 (show u < 18446744073709551616 by omega)
  obtain ⟨q2, z, D2, c1, c2, c3, c4, c5⟩ := dig_ex hye hy1 hy1' hy0 b4 (show l % 4294967296 < 4294967296 by omega)
  have hwr := wRest (u := h) (d := l / 4294967296) (g := q1) (y := y) (by omega) (by omega)
  rw [show h * 4294967296 + l / 4294967296 - q1 * y = u by omega] at hwr
  have hfin := Div64_fin (q1 := q1) (u := u) (d := l % 4294967296) (q := q2) (z := z) (y := y) (by omega) b5 (by omega) (by omega) (by omega)
  have hVe := dig_both hV (show l = l / 4294967296 * 4294967296 + l % 4294967296 by omega) b3 c3
  obtain ⟨v1, v2⟩ := div_of_eq hVe c4
  rw [v1, v2]
  refine evs ?_
  simp only [bits_Div64.j2, if_neg (show ¬ ((y / 4294967296 : Nat) : Int) = 0 by omega), hwr, e1, e2]
  exact Div64_l1 D2 hfin (u / (y / 4294967296)) (u / (y / 4294967296)) (u % (y / 4294967296)) (Nat.le_add_left _ _) c1 e3 (Nat.lt_trans e4 hy1') c2
theorem part_Div_eq {V y : Nat} (hy : 9223372036854775808 ≤ y) (hy' : y < 18446744073709551616) (hV : V / 18446744073709551616 < y) : Ev (fun k => part_Div.f k (TH V) (TL V) (y : Int)) (((V / y : Nat) : Int), ((V % y : Nat) : Int), none) := by
 unfold part_Div.f
 have h1 : TH V < (y : Int) := by unfold TH; omega
 simp only [if_neg (show ¬ (y : Int) = 0 by omega), if_neg (show ¬ TH V ≥ (y : Int) by omega)]
 have := Div64_eq (V := V) (h := V / 18446744073709551616) (l := V % 18446744073709551616) hy hy' hV (Nat.mod_lt _ (by decide)) (by omega)
 exact Ev.bind this (Ev.now _)
end Go.Proofs.Ythofoolgbngobaa.V
namespace Go.Proofs.Ythofoolgbngobaa.V
open Go Go.RowKit Go.Proofs.Ythofoolgbngobaa.Ab Go.Proofs.Ythofoolgbngobaa.Fn
set_option linter.unusedVariables false
set_option linter.unusedSimpArgs false
def qtJ (a b : NM) : Nat := if b.fr ≤ a.fr then 63 else 64
def quotX (a b : NM) : EX := if a.kd = 2 ∨ b.kd ≠ 1 then EX.nar else if a.kd = 0 then EX.zero else
 ⟨1, a.ng != b.ng, a.sc - b.sc + 63 - (qtJ a b : Int), a.fr * 2 ^ qtJ a b / b.fr * 18446744073709551616, decide (a.fr * 2 ^ qtJ a b % b.fr ≠ 0)⟩
theorem qt_range {x y j : Nat} (h1 : 2 ^ 63 ≤ x) (h2 : x < 2 ^ 64) (h3 : 2 ^ 63 ≤ y) (h4 : y < 2 ^ 64) (hj : j = if y ≤ x then 63 else 64) : 2 ^ 63 ≤ x * 2 ^ j / y ∧ x * 2 ^ j / y < 2 ^ 64 := by
 have hy : 0 < y := Nat.lt_of_lt_of_le (two_pos 63) h3
 rw [Nat.le_div_iff_mul_le hy, Nat.div_lt_iff_lt_mul hy]
 rw [p63] at *
 rw [p64] at *
 by_cases h : y ≤ x
 ·rw [if_pos h] at hj
  subst hj
  rw [p63]; omega
 ·rw [if_neg h] at hj
  subst hj
  rw [p64]; omega
theorem quotX_ok {a b : NM} (ha : a.ok) (hb : b.ok) : (quotX a b).ok := by
 unfold quotX
 by_cases h : a.kd = 2 ∨ b.kd ≠ 1
 ·rw [if_pos h]; exact .inr (.inl rfl)
 ·rw [if_neg h]
  by_cases h0 : a.kd = 0
  ·rw [if_pos h0]; exact .inl rfl
  ·rw [if_neg h0]
   rcases NM.cases ha with rfl | rfl | ⟨a1, a2, a3, a4, a5⟩
   ·exact absurd rfl h0
   ·exact absurd (.inl rfl) h
   ·rcases NM.cases hb with rfl | rfl | ⟨b1, b2, b3, b4, b5⟩
    ·exact absurd (.inr (by decide)) h
    ·exact absurd (.inr (by decide)) h
    ·obtain ⟨r1, r2⟩ := qt_range a2 a3 b2 b3 rfl
     have hj : (if b.fr ≤ a.fr then 63 else 64) = qtJ a b := rfl
     rw [hj] at r1 r2
     have hj2 : qtJ a b = 63 ∨ qtJ a b = 64 := by unfold qtJ; split <;> omega
     rw [p63] at r1
     rw [p64] at r2
     refine .inr (.inr ⟨rfl, ?_, ?_, ?_, ?_⟩)
     ·show 2 ^ 127 ≤ a.fr * 2 ^ qtJ a b / b.fr * 18446744073709551616
      rw [p127]; omega
     ·show a.fr * 2 ^ qtJ a b / b.fr * 18446744073709551616 < 2 ^ 128
      rw [p128]; omega
     ·show -1099511627776 ≤ a.sc - b.sc + 63 - (qtJ a b : Int)
      omega
     ·show a.sc - b.sc + 63 - (qtJ a b : Int) ≤ 1099511627776
      omega
end Go.Proofs.Ythofoolgbngobaa.V
namespace Go.Proofs.Ythofoolgbngobaa.V
open Go Go.RowKit Go.Proofs.Ythofoolgbngobaa.Ab Go.Proofs.Ythofoolgbngobaa.Fn
set_option linter.unusedVariables false
set_option linter.unusedSimpArgs false
theorem quotX_real {a b : NM} (h1 : a.kd = 1) (h2 : b.kd = 1) : quotX a b = ⟨1, a.ng != b.ng, a.sc - b.sc + 63 - (qtJ a b : Int), a.fr * 2 ^ qtJ a b / b.fr * 18446744073709551616, decide (a.fr * 2 ^ qtJ a b % b.fr ≠ 0)⟩ := by
 unfold quotX
 rw [if_neg (by omega), if_neg (by omega)]
theorem pos_ne (n : Nat) : decide ((n : Int) > 0) = decide (n ≠ 0) := by
 rw [decide_eq_decide]; omega
theorem quot_Exact_X {a b : NM} (ha : a.ok) (hb : b.ok) : Ev (fun k => quot_Exact.f k a.kd a.ng a.sc (a.fr : Int) b.kd b.ng b.sc (b.fr : Int)) ((quotX a b).kd, (quotX a b).ng, (quotX a b).sc, TH (quotX a b).V, TL (quotX a b).V, (quotX a b).R, none) := by
 unfold quot_Exact.f
 refine Ev.bind (Of_X ha) ?_
 simp only [Option.isNone_none, if_true]
 refine Ev.bind (Of_X hb) ?_
 simp only [Option.isNone_none, if_true]
 have j0 : Ev (fun k => quot_Exact.j0 k (decide (a.kd = 2 ∨ b.kd ≠ 1)) a.kd a.ng a.sc (a.fr : Int) b.ng b.sc (b.fr : Int)) ((quotX a b).kd, (quotX a b).ng, (quotX a b).sc, TH (quotX a b).V, TL (quotX a b).V, (quotX a b).R, none) := by
  refine evs ?_
  simp only [quot_Exact.j0]
  by_cases c1 : a.kd = 2 ∨ b.kd ≠ 1
  ·have e : quotX a b = EX.nar := by unfold quotX; rw [if_pos c1]
   simp only [decide_eq_true c1, if_true, e]
   exact Ev.now _
  ·simp only [decide_eq_false c1, Bool.false_eq_true, if_false]
   by_cases c0 : a.kd = 0
   ·have e : quotX a b = EX.zero := by unfold quotX; rw [if_neg c1, if_pos c0]
    simp only [if_pos c0, e]
    exact Ev.now _
   ·simp only [if_neg c0]
    have ca := (NM.cases ha).resolve_left (fun h => c0 (by rw [h]))
    have ca := ca.resolve_left (fun h => c1 (.inl (by rw [h])))
    have hb1 : b.kd = 1 := Decidable.byContradiction fun h => c1 (.inr h)
    have cb := (NM.cases hb).resolve_left (fun h => by rw [h] at hb1; cases hb1)
    have cb := cb.resolve_left (fun h => by rw [h] at hb1; cases hb1)
    obtain ⟨a1, a2, a3, a4, a5⟩ := ca
    obtain ⟨b1, b2, b3, b4, b5⟩ := cb
    rw [quotX_real a1 b1]
    rw [p63] at a2 b2
    rw [p64] at a3 b3
    simp only [(T_hi _).1, (T_hi _).2]
    by_cases hc : b.fr ≤ a.fr
    ·have hj : qtJ a b = 63 := by unfold qtJ; rw [if_pos hc]
     have h1 : TH (a.fr * 2 ^ 63) = (a.fr : Int) / 2 := by unfold TH; rw [p63]; omega
     have h2 : TL (a.fr * 2 ^ 63) = IntKind.u64.wrap ((a.fr : Int) * 9223372036854775808) := by unfold TL; rw [p63, u64_wrap]; omega
     have h3 : a.fr * 2 ^ 63 / 18446744073709551616 < b.fr := by rw [p63]; omega
     have hd := part_Div_eq b2 b3 h3
     rw [h1, h2] at hd
     have es : wrap64 (wrap64 (wrap64 (a.sc - b.sc) - 1) + 1) = a.sc - b.sc + 63 - ((63 : Nat) : Int) := by
      rw [w64 (n := a.sc - b.sc) (by omega) (by omega), w64 (n := a.sc - b.sc - 1) (by omega) (by omega), w64 (by omega) (by omega)]; omega
     simp only [if_pos (show (a.fr : Int) ≥ (b.fr : Int) by omega), hj, es]
     refine Ev.bind hd (evn ?_)
     rw [pos_ne]
     rfl
    ·have hj : qtJ a b = 64 := by unfold qtJ; rw [if_neg hc]
     have h1 : TH (a.fr * 2 ^ 64) = (a.fr : Int) := by unfold TH; rw [p64]; omega
     have h2 : TL (a.fr * 2 ^ 64) = 0 := by unfold TL; rw [p64]; omega
     have h3 : a.fr * 2 ^ 64 / 18446744073709551616 < b.fr := by rw [p64]; omega
     have hd := part_Div_eq b2 b3 h3
     rw [h1, h2] at hd
     have es : wrap64 (wrap64 (a.sc - b.sc) - 1) = a.sc - b.sc + 63 - ((64 : Nat) : Int) := by
      rw [w64 (n := a.sc - b.sc) (by omega) (by omega), w64 (by omega) (by omega)]; omega
     simp only [if_neg (show ¬ (a.fr : Int) ≥ (b.fr : Int) by omega), hj, es]
     refine Ev.bind hd (evn ?_)
     rw [pos_ne]
     rfl
 by_cases c : a.kd = 2
 ·have hd : (a.kd == 2) = decide (a.kd = 2 ∨ b.kd ≠ 1) := by simp [c]
  simp only [if_pos c, hd]
  exact j0
 ·have hd : (b.kd != 1) = decide (a.kd = 2 ∨ b.kd ≠ 1) := by
   rw [Bool.eq_iff_iff]; simp [c]
  simp only [if_neg c, hd]
  exact j0
def divN (n x y : Nat) : Nat := (quotX (decN n x) (decN n y)).rnd n
theorem quot_Div_eq {n a b : Nat} (h : isW (n : Int) = true) (ha : a < 18446744073709551616) (hb : b < 18446744073709551616) : Ev (fun k => quot_Div.f k (n : Int) (a : Int) (b : Int)) (((divN n (a % 2 ^ n) (b % 2 ^ n) : Nat) : Int), none) := by
 obtain ⟨b64, b8⟩ := pow64 h
 have oa := decN_ok b8 b64 (Nat.mod_lt a (two_pos n))
 have ob := decN_ok b8 b64 (Nat.mod_lt b (two_pos n))
 unfold quot_Div.f
 refine Ev.bind (Decode_N h ha) ?_
 simp only [Option.isNone_none, if_true]
 refine Ev.bind (Decode_N h hb) (Ev.bind (quot_Exact_X oa ob) ?_)
 simp only [Option.isNone_none, if_true]
 exact Ev.bind (Round_X h (quotX_ok oa ob)) (Ev.now _)
theorem quot_Div_no {n : Int} (h : isW n = false) (a b : Int) : Ev (fun k => quot_Div.f k n a b) (0, some 2) := by
 unfold quot_Div.f
 exact Ev.bind (Decode_no h a) (Ev.now _)
theorem NM.neg_kd (a : NM) : a.neg.kd = a.kd := by unfold NM.neg; split <;> rfl
end Go.Proofs.Ythofoolgbngobaa.V
namespace Go.Proofs.Ythofoolgbngobaa.V
open Go Go.RowKit Go.Proofs.Ythofoolgbngobaa.Ab Go.Proofs.Ythofoolgbngobaa.Fn
set_option linter.unusedVariables false
set_option linter.unusedSimpArgs false
def EX.fin (x : EX) : Prop := x = EX.zero ∨ (x.kd = 1 ∧ 2 ^ 127 ≤ x.V ∧ x.V < 2 ^ 128 ∧ -1073741824 ≤ x.sc ∧ x.sc ≤ 1073741824 ∧ x.R = false)
theorem EX.fin.num {x : EX} (h : x.fin) : x.num := h.elim .inl (fun h => .inr ⟨h.1, h.2.1, h.2.2.1, by omega, by omega⟩)
theorem val_zero (e : Int) : EX.zero.val e = 0 := by
 unfold EX.val EX.zero
 simp
theorem val_step {x : EX} {m e : Int} (h1 : e ≤ m) (h2 : m ≤ x.sc) : x.val e = x.val m * 2 ^ (m - e).toNat := by
 unfold EX.val
 rw [show (x.sc - e).toNat = (x.sc - m).toNat + (m - e).toNat by omega, Nat.pow_add, ← Nat.mul_assoc, pow_cast]
 generalize x.V * 2 ^ (x.sc - m).toNat = a
 generalize 2 ^ (m - e).toNat = b
 cases x.ng
 ·simp
 ·simp [Int.neg_mul]
theorem fin_val {x : EX} (hx : x.fin) (kx : x.kd = 1) {e : Int} (h : e ≤ x.sc) : intX (x.val e) (e - 127) = x := by
 rcases hx with rfl | ⟨h1, h2, h3, h4, h5, h6⟩
 ·exact absurd kx (by decide)
 ·unfold EX.val
  rw [intX_nat, natX_shift]
  have hbl : bl x.V = 128 := bl_unique (by decide) h2 h3
  have hV : ¬ x.V = 0 := fun h0 => by rw [h0] at hbl; exact absurd hbl (by decide)
  have e1 : mkV x.V = x.V := by rw [mkV_ge128 (by omega), hbl, Nat.sub_self, Nat.pow_zero, Nat.div_one]
  have e2 : mkR x.V false = false := by unfold mkR; rw [hbl, Nat.sub_self, Nat.pow_zero, Nat.mod_one]; rfl
  unfold natX
  rw [if_neg hV, e1, e2, hbl, show e - 127 + ((x.sc - e).toNat : Int) + ((128 : Nat) : Int) - 1 = x.sc by omega, heldI_in (by omega) (by omega)]
  exact EX.ext' h1.symm rfl rfl rfl h6.symm
theorem sumX_at {x y : EX} (hx : x.fin) (hy : y.fin) {e : Int} (ex : x.kd = 1 → e ≤ x.sc) (ey : y.kd = 1 → e ≤ y.sc) : sumX x y = intX (x.val e + y.val e) (e - 127) := by
 have hx' := hx
 have hy' := hy
 rcases hx with h | ⟨h1, h2, h3, h4, h5, h6⟩
 ·subst h
  rw [val_zero, Int.zero_add]
  rcases hy with h | ⟨k1, k2, k3, k4, k5, k6⟩
  ·subst h
   rw [val_zero]
   rfl
  ·rw [fin_val hy' k1 (ey k1)]
   exact sumX_z1 (by rw [k1]; decide) rfl
 ·rcases hy with h | ⟨k1, k2, k3, k4, k5, k6⟩
  ·subst h
   rw [val_zero, Int.add_zero, fin_val hx' h1 (ex h1)]
   exact sumX_zero_r (hx'.num.ok)
  ·have ex := ex h1
   have ey := ey k1
   unfold sumX
   rw [if_neg (by omega), if_neg (by omega), if_neg (by omega)]
   have m0 : e ≤ min x.sc y.sc := by omega
   rw [val_step m0 (show min x.sc y.sc ≤ x.sc by omega), val_step m0 (show min x.sc y.sc ≤ y.sc by omega), ← Int.add_mul, intX_shift]
   congr 1
   omega
end Go.Proofs.Ythofoolgbngobaa.V
namespace Go.Proofs.Ythofoolgbngobaa.V
open Go Go.RowKit Go.Proofs.Ythofoolgbngobaa.Ab Go.Proofs.Ythofoolgbngobaa.Fn
set_option linter.unusedVariables false
set_option linter.unusedSimpArgs false
theorem decS_bounds {m w : Nat} (h : m ≤ 63) : -260 ≤ decS m w ∧ decS m w ≤ 260 := by
 have := decEx_lt (m := m) (w := w)
 have hr : runL m w ≤ m := by unfold runL; split <;> omega
 unfold decS decK
 split <;> omega
theorem decN_sc {n x : Nat} (hn : n ≤ 64) : -260 ≤ (decN n x).sc ∧ (decN n x).sc ≤ 260 := by
 unfold decN
 split
 ·exact ⟨by decide, by decide⟩
 ·split
  ·exact ⟨by decide, by decide⟩
  ·exact decS_bounds (by omega)
def NM.mid (a : NM) : Prop := a = ⟨0, false, 0, 0⟩ ∨ (a.kd = 1 ∧ 2 ^ 63 ≤ a.fr ∧ a.fr < 2 ^ 64 ∧ -260 ≤ a.sc ∧ a.sc ≤ 260)
theorem prodX_real {a b : NM} (h1 : a.kd = 1) (h2 : b.kd = 1) : prodX a b = natX (a.ng != b.ng) (a.fr * b.fr) (a.sc + b.sc - 126) false := by
 unfold prodX
 rw [if_neg (by omega), if_neg (by omega)]
theorem natX_parts (g : Bool) {m : Nat} (hm : 0 < m) (e : Int) (R : Bool) : natX g m e R = ⟨1, g, heldI (e + (bl m : Int) - 1), mkV m, mkR m R⟩ := by unfold natX; rw [if_neg (by omega)]
section
variable {n x z y c : Nat} (h8 : 8 ≤ n) (hn : n ≤ 64) (hx : x < 2 ^ n) (hz : z < 2 ^ n) (hy : y < 2 ^ n) (hc : c < 2 ^ n) (nx : x ≠ 2 ^ (n - 1)) (nz : z ≠ 2 ^ (n - 1)) (ny : y ≠ 2 ^ (n - 1)) (nc : c ≠ 2 ^ (n - 1))
include h8 hn hx hz hy hc nx nz ny nc
end
end Go.Proofs.Ythofoolgbngobaa.V
namespace Go.Proofs.Ythofoolgbngobaa.V
open Go Go.RowKit Go.Proofs.Ythofoolgbngobaa.Ab Go.Proofs.Ythofoolgbngobaa.Fn
set_option linter.unusedVariables false
set_option linter.unusedSimpArgs false
theorem q4' {n : Nat} (hn : n ≤ 64) : (2 : Nat) ^ (202 - n) = 4 * 2 ^ (200 - n) ∧ (2 : Nat) ^ (201 - n) = 2 * 2 ^ (200 - n) := by
 rw [show 202 - n = 200 - n + 1 + 1 by omega, show 201 - n = 200 - n + 1 by omega, Nat.pow_succ, Nat.pow_succ]
 omega
theorem near_up {n : Nat} {s : Int} {V : Nat} {R : Bool} {t : Int} {U : Nat} (h8 : 8 ≤ n) (hn : n ≤ 64) (hV0 : 2 ^ 127 ≤ V) (hV : V < 2 ^ 128) (hU0 : 2 ^ 127 ≤ U) (hU : U < 2 ^ 128) (ht0 : -272 ≤ t) (ht : t < 272)
  (hP : posP n s V R ≠ 2 ^ (n - 1) - 1) (hsig : sig t (U - 2 ^ 127) = (2 * posP n s V R + 1) * 2 ^ (200 - n)) :
  (s < t ∨ (s = t ∧ V < U)) ∨ ((s = t ∧ V = U ∧ R = false) ∧ posP n s V R % 2 = 0) := by
 have c1 : ¬ 4 * (n : Int) - 8 ≤ s := fun h => hP (by unfold posP; rw [if_pos h])
 obtain ⟨b1, _⟩ := posP_bounds (n := n) (s := s) (V := V) (R := R) h8 hn hV
 by_cases c2 : s < -(4 * (n : Int) - 8)
 ·left; left
  rcases Int.lt_or_le s t with h | h
  ·exact h
  ·exfalso
   have := sig_mono (s := t) (t := -(4 * (n : Int) - 8)) (f := U - 2 ^ 127) (g := 0) (by omega) (by omega) (fr_lt hU) (two_pos 127) (.inl (by omega))
   rw [sig_least h8 hn, hsig, (q4' hn).2] at this
   have := Nat.lt_of_mul_lt_mul_right this
   omega
 ·have hr : rne (202 - n) (2 * sig s (V - 2 ^ 127) + bR R) = posP n s V R := by
   unfold posP
   rw [if_neg c1, if_neg c2]
  obtain ⟨k1, -, k3, -⟩ := rne_spec (202 - n) (2 * sig s (V - 2 ^ 127) + bR R)
  rw [hr, (q4' hn).1, show (2 * posP n s V R + 1) * (4 * 2 ^ (200 - n)) = 4 * ((2 * posP n s V R + 1) * 2 ^ (200 - n)) by rw [Nat.mul_left_comm], ← hsig] at k1 k3
  rcases less_tri s (V - 2 ^ 127) t (U - 2 ^ 127) with h | h | h
  ·left
   rcases h with h | h
   ·exact .inl h
   ·exact .inr ⟨h.1, Nat.lt_of_not_le fun hle => absurd (Nat.sub_le_sub_right hle (2 ^ 127)) (by have := h.2; generalize (2 : Nat) ^ 127 = z at *; omega)⟩
  ·right
   obtain ⟨h1, h2⟩ := h
   have hVU : V = U := by generalize (2 : Nat) ^ 127 = z at *; omega
   rw [h1, h2] at k1
   have hR : R = false := by
    cases R
    ·rfl
    ·exfalso; unfold bR at k1; rw [if_pos rfl] at k1; omega
   rw [h1, h2, hR] at k3
   exact ⟨⟨h1, hVU, hR⟩, by rw [h1, hR]; exact k3 (by unfold bR; rw [if_neg (by decide)]; omega)⟩
  ·exfalso
   have := sig_mono (by omega) (by omega) (fr_lt hU) (fr_lt hV) h
   omega
theorem near_down {n : Nat} {s : Int} {V : Nat} {R : Bool} {t : Int} {U : Nat} (h8 : 8 ≤ n) (hn : n ≤ 64) (hV0 : 2 ^ 127 ≤ V) (hV : V < 2 ^ 128) (hU0 : 2 ^ 127 ≤ U) (hU : U < 2 ^ 128) (ht0 : -272 ≤ t) (ht : t < 272)
  (hP : posP n s V R ≠ 1) (hsig : sig t (U - 2 ^ 127) = (2 * (posP n s V R - 1) + 1) * 2 ^ (200 - n)) :
  (t < s ∨ (s = t ∧ (U < V ∨ (V = U ∧ R = true)))) ∨ ((s = t ∧ V = U ∧ R = false) ∧ posP n s V R % 2 = 0) := by
 obtain ⟨b1, b2⟩ := posP_bounds (n := n) (s := s) (V := V) (R := R) h8 hn hV
 have c2 : ¬ s < -(4 * (n : Int) - 8) := fun h => hP (by unfold posP; rw [if_neg (by omega), if_pos h])
 by_cases c1 : 4 * (n : Int) - 8 ≤ s
 ·left; left
  have hm : posP n s V R = 2 ^ (n - 1) - 1 := by unfold posP; rw [if_pos c1]
  rw [hm] at hsig b1
  rcases less_tri t (U - 2 ^ 127) (4 * (n : Int) - 8) 0 with h | h | h
  ·rcases h with h | h
   ·omega
   ·exact absurd h.2 (Nat.not_lt_zero _)
  ·exfalso
   rw [h.1, h.2, sig_most h8 hn, (q4' hn).2, ← Nat.mul_assoc] at hsig
   have := Nat.eq_of_mul_eq_mul_right (two_pos (200 - n)) hsig
   omega
  ·exfalso
   have := sig_mono (by omega) (by omega) (two_pos 127) (fr_lt hU) h
   rw [hsig, sig_most h8 hn, (q4' hn).2, ← Nat.mul_assoc] at this
   have := Nat.lt_of_mul_lt_mul_right this
   omega
 ·have hr : rne (202 - n) (2 * sig s (V - 2 ^ 127) + bR R) = posP n s V R := by
   unfold posP
   rw [if_neg c1, if_neg c2]
  obtain ⟨-, k2, -, k4⟩ := rne_spec (202 - n) (2 * sig s (V - 2 ^ 127) + bR R)
  rw [hr, (q4' hn).1] at k2 k4
  have e : 2 * posP n s V R * (4 * 2 ^ (200 - n)) = 4 * ((2 * (posP n s V R - 1) + 1) * 2 ^ (200 - n)) + 4 * 2 ^ (200 - n) := by
   obtain ⟨p, hp⟩ : ∃ p, posP n s V R = p + 1 := ⟨posP n s V R - 1, by omega⟩
   rw [hp, Nat.add_sub_cancel]
   generalize (2 : Nat) ^ (200 - n) = z
   grind
  rw [e, ← hsig] at k2 k4
  rcases less_tri s (V - 2 ^ 127) t (U - 2 ^ 127) with h | h | h
  ·exfalso
   have := sig_mono (by omega) (by omega) (fr_lt hV) (fr_lt hU) h
   have hb : bR R ≤ 1 := by unfold bR; split <;> omega
   omega
  ·obtain ⟨h1, h2⟩ := h
   have hVU : V = U := by generalize (2 : Nat) ^ 127 = z at *; omega
   cases hR : R
   ·right
    rw [h1, h2, hR] at k4
    exact ⟨⟨h1, hVU, rfl⟩, by rw [h1]; exact k4 (by unfold bR; rw [if_neg (by decide)]; omega)⟩
   ·left
    exact .inr ⟨h1, .inr ⟨hVU, rfl⟩⟩
  ·left
   rcases h with h | h
   ·exact .inl h
   ·exact .inr ⟨h.1.symm, .inl (Nat.lt_of_not_le fun hle => absurd (Nat.sub_le_sub_right hle (2 ^ 127)) (by have := h.2; generalize (2 : Nat) ^ 127 = z at *; omega))⟩
end Go.Proofs.Ythofoolgbngobaa.V
namespace Go.Proofs.Ythofoolgbngobaa.V
open Go Go.RowKit Go.Proofs.Ythofoolgbngobaa.Ab Go.Proofs.Ythofoolgbngobaa.Fn
set_option linter.unusedVariables false
set_option linter.unusedSimpArgs false
theorem DL_one' : DL ([1] : List Int) 1 := by
 refine ⟨?_, rfl, ?_⟩
 ·intro d hd
  have : d = 1 := by simpa using hd
  subst this
  exact ⟨by decide, by decide⟩
 ·intro _; decide
theorem w_less1 {e : Int} (h0 : -100000 ≤ e) (h1 : e ≤ 100000) : wrap64 (e - 1) = e - 1 := w64 (by omega) (by omega)
theorem len_few {r : List Int} {m j : Nat} (h : DL r m) (hm : m < 2 ^ j) (hj : j ≤ 72) : r.length ≤ 1000 :=
 Nat.le_trans (h.len_le (n := 3) (Nat.lt_of_lt_of_le hm (pow_le hj))) (by decide)
theorem frac_lt {c j d : Nat} (hc : c < 2 ^ (j + d)) : 2 ^ j + c / 2 ^ d < 2 ^ (j + 1) := by
 have : c / 2 ^ d < 2 ^ j := by rw [Nat.div_lt_iff_lt_mul (two_pos _), ← Nat.pow_add]; exact hc
 rw [Nat.pow_succ]; omega
theorem frac_next (c j d : Nat) : (2 ^ j + c / 2 ^ (d + 1)) * 2 ^ 1 + c / 2 ^ d % 2 = 2 ^ (j + 1) + c / 2 ^ d := by
 rw [Nat.pow_succ 2 d, ← Nat.div_div_eq_div_mul, Nat.pow_succ 2 j]
 generalize c / 2 ^ d = x
 generalize 2 ^ j = y
 omega
theorem tie_l1 {s : ByteArray} {l f c : Nat} (hsz : s.size = l) (hf : l = f + 2 ∨ (l ≤ 2 ∧ f = 0)) (hl : l ≤ 64) (hbit : ∀ j d, j + (d + 1) = f → bt s ((j + 2 : Nat) : Int) = 48 + ((c / 2 ^ d % 2 : Nat) : Int)) (hc : c < 2 ^ f) :
  ∀ (d j : Nat) (r : List Int) (e : Int), j + d = f → DL r (2 ^ j + c / 2 ^ d) → -1000 ≤ e - d → e ≤ 1000 → ∃ r', DL r' (2 ^ f + c) ∧ Ev (fun k => verniertop_tie.l1 k s e r ((j + 2 : Nat) : Int)) (false, r', e - d) := by
 intro d
 induction d with
 | zero =>
  intro j r e h hr _ _
  have hj : j = f := by omega
  subst hj
  rw [Nat.pow_zero, Nat.div_one] at hr
  refine ⟨r, hr, evs ?_⟩
  simp only [verniertop_tie.l1, nI_eq, hsz, if_neg (show ¬ ((j + 2 : Nat) : Int) < (l : Int) by omega)]
  rw [show e - ((0 : Nat) : Int) = e by omega]
  exact Ev.now _
 | succ d ih =>
  intro j r e h hr h0 h1
  have g1 : ((j + 2 : Nat) : Int) < (l : Int) := by omega
  have g2 : (0 : Int) ≤ ((j + 2 : Nat) : Int) := by omega
  have i1 : j + 1 + d = f := by omega
  have i2 : -1000 ≤ (e - 1) - (d : Int) := by omega
  have i3 : e - 1 ≤ 1000 := by omega
  have he : e - ((d + 1 : Nat) : Int) = (e - 1) - (d : Int) := by omega
  have ew : wrap64 (e - 1) = e - 1 := w_less1 (by omega) (by omega)
  have ej : wrap64 (((j + 2 : Nat) : Int) + 1) = ((j + 1 + 2 : Nat) : Int) := by rw [w64 (by omega) (by omega)]; omega
  have hc' : c < 2 ^ (j + (d + 1)) := by rw [h]; exact hc
  have hlt := frac_lt hc'
  obtain ⟨r1, k1, k2⟩ := r4_Shl hr (k := 1) (by decide) (len_few hr hlt (by omega))
  have hl4 : r1.length ≤ 1000 := len_few k2 (j := j + 2) (by rw [show j + 2 = j + 1 + 1 from rfl, Nat.pow_succ 2 (j + 1)]; exact Nat.mul_lt_mul_of_pos_right hlt (by decide)) (by omega)
  have hnext := frac_next c j d
  have bi := hbit j d h
  rw [he]
  clear h0 h1 he hlt hc'
  have two : c / 2 ^ d % 2 = 1 ∨ c / 2 ^ d % 2 = 0 := (Nat.mod_two_eq_zero_or_one _).symm
  rcases two with hb | hb
  ·obtain ⟨r2, k3, k4⟩ := r4_Add k2 DL_one' hl4 (by decide)
   rw [hb] at hnext bi
   rw [hnext] at k4
   obtain ⟨r3, m1, m2⟩ := ih (j + 1) r2 (e - 1) i1 k4 i2 i3
   refine ⟨r3, m1, evs ?_⟩
   simp only [verniertop_tie.l1, nI_eq, hsz, if_pos g1]
   refine Ev.bind k1 ?_
   simp only [if_pos g2, bi, if_pos (show (48 + (((1 : Nat) : Nat) : Int)) = 49 by decide), ew, ej]
   exact Ev.bind k3 m2
  ·rw [hb] at hnext bi
   rw [Nat.add_zero] at hnext
   rw [hnext] at k2
   obtain ⟨r3, m1, m2⟩ := ih (j + 1) r1 (e - 1) i1 k2 i2 i3
   refine ⟨r3, m1, evs ?_⟩
   simp only [verniertop_tie.l1, nI_eq, hsz, if_pos g1]
   refine Ev.bind k1 ?_
   simp only [if_pos g2, bi, if_neg (show ¬ (48 + (((0 : Nat) : Nat) : Int)) = 49 by decide), ew, ej]
   exact m2
theorem low_bit {w l d j : Nat} (h : j + (d + 1) = l - 2) (hl : 2 ≤ l) : w % 2 ^ l / 2 ^ (l - 1 - (j + 2)) % 2 = w % 2 ^ (l - 2) / 2 ^ d % 2 := by
 have e1 : l - 1 - (j + 2) = d := by omega
 rw [e1]
 have e2 : w % 2 ^ (l - 2) = w % 2 ^ l % 2 ^ (l - 2) := (mod_pow_le (by omega)).symm
 rw [e2]
 have e3 : (2 : Nat) ^ (l - 2) = 2 ^ d * 2 ^ (j + 1) := by rw [← Nat.pow_add]; exact pow_congr (by omega)
 rw [e3, Nat.mod_mul_right_div_self, Nat.mod_mod_of_dvd _ ⟨2 ^ j, by rw [Nat.pow_succ, Nat.mul_comm]⟩]
theorem tie_j3 {s : ByteArray} {l w m : Nat} {K : Int} (hs : BT s l (w % 2 ^ l)) (hl : l ≤ 64) (hd : dL1 m w = l) (hK : K = decK m w) (hm : m ≤ 64) :
  ∃ r, DL r (2 ^ dLf m w + w % 2 ^ dLf m w) ∧ Ev (fun k => verniertop_tie.j3 k K s) (false, r, decS m w - (dLf m w : Int)) := by
 have hx := decEx_lt (m := m) (w := w)
 have hr : runL m w ≤ m := by unfold runL; split <;> omega
 have lf : dLf m w = l - 2 := by unfold dLf dEb; omega
 have q1 := hs.append bt_lit00
 have q2 := (q1.parts 2 (by omega)).1
 rw [Nat.add_zero, show l + 2 - 2 = l by omega] at q2
 have x1 : w % 2 ^ l * 2 ^ 2 / 2 ^ l = decEx m w := by
  unfold decEx
  by_cases h2 : 2 ≤ l
  ·have eb : dEb m w = 2 := by unfold dEb; omega
   rw [eb, lf, Nat.sub_self, Nat.pow_zero, Nat.mul_one]
   rw [show (2 : Nat) ^ l = 2 ^ (l - 2) * 2 ^ 2 by rw [← Nat.pow_add]; exact pow_congr (by omega), Nat.mul_div_mul_right _ _ (two_pos 2), Nat.mod_mul_right_div_self]
  ·have eb : dEb m w = l := by unfold dEb; omega
   rw [eb, lf, show l - 2 = 0 by omega, Nat.pow_zero, Nat.div_one, show (2 : Nat) ^ 2 = 2 ^ (2 - l) * 2 ^ l by rw [← Nat.pow_add]; exact pow_congr (by omega), ← Nat.mul_assoc, Nat.mul_div_cancel _ (two_pos l)]
 rw [x1] at q2
 have hKb : -64 ≤ decK m w ∧ decK m w ≤ 64 := by unfold decK; split <;> omega
 have es : decS m w = 4 * decK m w + (decEx m w : Int) := rfl
 have h0 : w % 2 ^ (l - 2) / 2 ^ (l - 2) = 0 := Nat.div_eq_of_lt (Nat.mod_lt _ (two_pos _))
 obtain ⟨r, m1, m2⟩ := tie_l1 (f := l - 2) (c := w % 2 ^ (l - 2)) hs.size (by omega) hl (fun j d h => by rw [hs.bit (i := j + 2) (by omega), low_bit h (by omega)]) (Nat.mod_lt _ (two_pos _)) (l - 2) 0 [1] (decS m w) (by omega) (by rw [h0, Nat.pow_zero, Nat.add_zero]; exact DL_one') (by omega) (by omega)
 rw [lf]
 refine ⟨r, m1, evs ?_⟩
 have s4 : (s ++ (⟨#[48, 48]⟩ : ByteArray)).size = l + 2 := q1.size
 simp only [verniertop_tie.j3, nI_eq, hs.size, s4, if_pos (show l + 2 ≤ 9223372036854775807 by omega), if_pos (show (2 : Int) ≤ ((l + 2 : Nat) : Int) by omega)]
 refine Ev.bind (Number_eq q2 (by decide)) ?_
 have e1 : wrap64 (wrap64 (4 * K) + wrap64 ((decEx m w : Nat) : Int)) = decS m w := by
  rw [hK, w64 (n := 4 * decK m w) (by omega) (by omega), w64 (n := ((decEx m w : Nat) : Int)) (by omega) (by omega), w64 (by omega) (by omega)]
  exact es.symm
 rw [e1]
 exact m2
theorem tie_j1 {s : ByteArray} {m w : Nat} (hs : BT s m w) (h1 : 1 ≤ m) (hm : m ≤ 64) (hw0 : 0 < w) :
  ∃ r, DL r (2 ^ dLf m w + w % 2 ^ dLf m w) ∧ Ev (fun k => verniertop_tie.j1 k s ((runL m w : Nat) : Int)) (false, r, decS m w - (dLf m w : Int)) := by
 obtain ⟨_, _, r1, r2⟩ := run_bits h1 hw0 hs.lt
 have bs0 := hs.bit (i := 0) h1
 rw [Nat.sub_zero, top_bit h1 hs.lt] at bs0
 have bs0' : bt s 0 = _ := bs0
 have es' : (bt s 0 = 49) ↔ runO m w = true := by
  rw [bs0']
  unfold runO
  by_cases hc : 2 ^ (m - 1) ≤ w
  ·rw [if_pos hc, decide_eq_true hc]; simp
  ·rw [if_neg hc, decide_eq_false hc]; simp
 have j2 : ∀ K : Int, K = decK m w → ∃ r, DL r (2 ^ dLf m w + w % 2 ^ dLf m w) ∧ Ev (fun k => verniertop_tie.j2 k s ((runL m w : Nat) : Int) K) (false, r, decS m w - (dLf m w : Int)) := by
  intro K hK
  have h4 : runL m w < 4611686018427387904 := by omega
  by_cases hl : runL m w < m
  ·have q := (hs.parts (runL m w + 1) (by omega)).2
   have hd : dL1 m w = m - (runL m w + 1) := by unfold dL1; omega
   rw [hs.size] at q
   obtain ⟨r, k1, k2⟩ := tie_j3 q (by omega) hd hK hm
   refine ⟨r, k1, evs ?_⟩
   simp only [verniertop_tie.j2, nI_eq, hs.size, if_pos (show ((runL m w : Nat) : Int) < (m : Int) by omega), w_succ4 h4, if_pos (show (0 : Int) ≤ ((runL m w + 1 : Nat) : Int) by omega), if_pos (show ((runL m w + 1 : Nat) : Int) ≤ (m : Int) by omega), Int.toNat_natCast]
   exact k2
  ·have hd : dL1 m w = 0 := by unfold dL1; omega
   obtain ⟨r, k1, k2⟩ := tie_j3 (l := 0) (w := w) (by rw [Nat.pow_zero, Nat.mod_one]; exact bt_lit) (by decide) hd hK hm
   refine ⟨r, k1, evs ?_⟩
   simp only [verniertop_tie.j2, nI_eq, hs.size, if_neg (show ¬ ((runL m w : Nat) : Int) < (m : Int) by omega)]
   exact k2
 by_cases ho : runO m w = true
 ·have ew : wrap64 (((runL m w : Nat) : Int) - 1) = decK m w := by
   rw [w64 (by omega) (by omega)]; unfold decK; rw [if_pos ho]
  obtain ⟨r, k1, k2⟩ := j2 _ ew
  refine ⟨r, k1, evs ?_⟩
  simp only [verniertop_tie.j1, nI_eq, hs.size, if_pos (show (0 : Int) < (m : Int) by omega), if_pos (es'.mpr ho)]
  exact k2
 ·have ew : wrap64 (-((runL m w : Nat) : Int)) = decK m w := by
   rw [w64 (by omega) (by omega)]; unfold decK; rw [if_neg ho]
  obtain ⟨r, k1, k2⟩ := j2 _ ew
  refine ⟨r, k1, evs ?_⟩
  simp only [verniertop_tie.j1, nI_eq, hs.size, if_pos (show (0 : Int) < (m : Int) by omega), if_neg (fun h => ho (es'.mp h))]
  exact k2
theorem tie_l0 {s : ByteArray} {m w : Nat} (hs : BT s m w) (h1 : 1 ≤ m) (hm : m ≤ 64) (hw0 : 0 < w) {R : Bool × List Int × Int} (h : Ev (fun k => verniertop_tie.j1 k s ((runL m w : Nat) : Int)) R) :
  ∀ (d i : Nat), i + d = runL m w → Ev (fun k => verniertop_tie.l0 k s (i : Int)) R
 | 0, i, hi' => by
  obtain ⟨a, b, c, e⟩ := run_bits h1 hw0 hs.lt
  have hi : i = runL m w := by omega
  rw [← hi] at a b c e h
  refine evs ?_
  simp only [verniertop_tie.l0, nI_eq, hs.size]
  by_cases hl : i < m
  ·have b0 := hs.bit (i := 0) h1
   have bi := hs.bit (i := i) hl
   have hne : ¬ bt s (i : Int) = bt s 0 := by
    rw [show bt s 0 = bt s ((0 : Nat) : Int) from rfl, b0, bi, a 0 (by omega)]
    have := b hl
    generalize (if runO m w = true then 1 else 0) = z at *
    omega
   simp only [if_pos (show (i : Int) < (m : Int) by omega), if_pos (show (0 : Int) ≤ (i : Int) by omega), if_pos (show (0 : Int) < (m : Int) by omega), if_neg hne]
   exact h
  ·simp only [if_neg (show ¬ (i : Int) < (m : Int) by omega)]
   exact h
 | d + 1, i, hi' => by
  obtain ⟨a, b, c, e⟩ := run_bits h1 hw0 hs.lt
  refine evs ?_
  simp only [verniertop_tie.l0, nI_eq, hs.size]
  have b0 := hs.bit (i := 0) h1
  have bi := hs.bit (i := i) (by omega)
  have heq : bt s (i : Int) = bt s 0 := by
   rw [show bt s 0 = bt s ((0 : Nat) : Int) from rfl, b0, bi, a 0 (by omega), a i (by omega)]
  have h4 : i < 4611686018427387904 := by omega
  simp only [if_pos (show (i : Int) < (m : Int) by omega), if_pos (show (0 : Int) ≤ (i : Int) by omega), if_pos (show (0 : Int) < (m : Int) by omega), if_pos heq, w_succ4 h4]
  exact tie_l0 hs h1 hm hw0 h d (i + 1) (by omega)
theorem tie_eq {n p : Nat} (h8 : 8 ≤ n) (hn : n ≤ 64) (hp : p < 2 ^ (n - 1)) :
  ∃ r, DL r (2 ^ dLf n (2 * p + 1) + (2 * p + 1) % 2 ^ dLf n (2 * p + 1)) ∧ Ev (fun k => verniertop_tie.f k (n : Int) (p : Int)) (false, r, decS n (2 * p + 1) - (dLf n (2 * p + 1) : Int)) := by
 have hp64 : p < 18446744073709551616 := Nat.lt_of_lt_of_le hp (by rw [← p64]; exact pow_le (by omega))
 obtain ⟨s, s1, s2⟩ := Text_eq p (n - 1) hp64 (by omega)
 rw [Nat.mod_eq_of_lt hp] at s2
 have q := s2.append bt_lit1
 rw [show n - 1 + 1 = n by omega, show p * 2 ^ 1 + 1 = 2 * p + 1 by omega] at q
 obtain ⟨r, k1, k2⟩ := tie_j1 q (by omega) hn (by omega)
 refine ⟨r, k1, ?_⟩
 unfold verniertop_tie.f
 have e1 : wrap64 ((n : Int) - 1) = ((n - 1 : Nat) : Int) := by rw [w64 (by omega) (by omega)]; omega
 rw [e1]
 refine Ev.bind s1 ?_
 simp only [if_pos (show s.size < 9223372036854775807 by rw [s2.size]; omega)]
 exact tie_l0 q (by omega) hn (by omega) k2 (runL n (2 * p + 1)) 0 (by omega)
theorem tie_val {n p : Nat} (h8 : 8 ≤ n) (hn : n ≤ 64) (hp : p < 2 ^ (n - 1)) :
  sig (decS n (2 * p + 1)) (decV n (2 * p + 1) - 2 ^ 127) = (2 * p + 1) * 2 ^ (200 - n) ∧ 2 ^ 127 ≤ decV n (2 * p + 1) ∧ decV n (2 * p + 1) < 2 ^ 128 ∧ -270 ≤ decS n (2 * p + 1) ∧ decS n (2 * p + 1) ≤ 270 ∧ dLf n (2 * p + 1) ≤ 63 ∧
   decV n (2 * p + 1) = (2 ^ dLf n (2 * p + 1) + (2 * p + 1) % 2 ^ dLf n (2 * p + 1)) * 2 ^ (127 - dLf n (2 * p + 1)) := by
 have hw : 2 * p + 1 < 2 ^ n := by
  have := two_halves (n := n) (by omega)
  omega
 have h1 := decV_sig (m := n) (w := 2 * p + 1) (by omega) hn (by omega) hw
 obtain ⟨-, h2, h3⟩ := decV_sub (w := 2 * p + 1) (dLf_le (m := n) (w := 2 * p + 1) hn)
 have hl := dLf_le (m := n) (w := 2 * p + 1) hn
 have hs : -270 ≤ decS n (2 * p + 1) ∧ decS n (2 * p + 1) ≤ 270 := by
  have := decEx_lt (m := n) (w := 2 * p + 1)
  have hr : runL n (2 * p + 1) ≤ n := by unfold runL; split <;> omega
  unfold decS decK
  split <;> omega
 refine ⟨h1, h2, h3, hs.1, hs.2, hl, ?_⟩
 unfold decV decFr
 generalize (2 * p + 1) % 2 ^ dLf n (2 * p + 1) = c
 generalize dLf n (2 * p + 1) = f at *
 rw [← p64, Nat.add_mul, Nat.add_mul, Nat.mul_assoc c, ← Nat.pow_add, ← Nat.pow_add, ← Nat.pow_add]
 rw [show 63 + 64 = f + (127 - f) by omega, show 63 - f + 64 = 127 - f by omega]
end Go.Proofs.Ythofoolgbngobaa.V
namespace Go.Proofs.Ythofoolgbngobaa.V
open Go Go.RowKit Go.Proofs.Ythofoolgbngobaa.Ab Go.Proofs.Ythofoolgbngobaa.Fn
set_option linter.unusedVariables false
set_option linter.unusedSimpArgs false
structure Told (φ : Nat → Nat) (A c s V0 : Nat) (R : Bool) : Prop where
  mono : ∀ a b, a < b → φ a < φ b
  lo : φ (V0 * 2 ^ (s + c)) ≤ A
  hi : A < φ ((V0 + 1) * 2 ^ (s + c))
  rest : R = false → A = φ (V0 * 2 ^ (s + c))
  some_ : R = true → A ≠ φ (V0 * 2 ^ (s + c))
theorem Told.le {φ : Nat → Nat} {A c s V0 : Nat} {R : Bool} (h : Told φ A c s V0 R) {a b : Nat} (hab : a ≤ b) : φ a ≤ φ b := by
  rcases Nat.lt_or_ge a b with k | k
  · exact Nat.le_of_lt (h.mono a b k)
  · rw [Nat.le_antisymm hab k]; exact Nat.le_refl _
section
variable {φ : Nat → Nat} {A c s t V0 U0 : Nat} {R : Bool} (h : Told φ A c s V0 R) (hc : c ≤ 127) (hV0 : 2 ^ 127 ≤ V0 * 2 ^ c) (hV1 : V0 * 2 ^ c < 2 ^ 128) (hU0 : 2 ^ 127 ≤ U0 * 2 ^ c) (hU1 : U0 * 2 ^ c < 2 ^ 128)
include h hc hV0 hV1 hU0 hU1
theorem Told.below (k : s < t ∨ (s = t ∧ V0 * 2 ^ c < U0 * 2 ^ c)) : A < φ (U0 * 2 ^ (t + c)) := by
  have _u := hV0; have _v := hU1
  refine Nat.lt_of_lt_of_le h.hi (h.le ?_)
  rcases k with k | ⟨rfl, k⟩
  · have e : (2 : Nat) ^ 128 = 2 ^ (128 - c) * 2 ^ c := by rw [← Nat.pow_add]; congr 1; omega
    have v : V0 + 1 ≤ 2 ^ (128 - c) := by
      rw [e] at hV1
      exact Nat.lt_of_mul_lt_mul_right hV1
    calc (V0 + 1) * 2 ^ (s + c) ≤ 2 ^ (128 - c) * 2 ^ (s + c) := Nat.mul_le_mul_right _ v
      _ = 2 ^ (128 + s) := by rw [← Nat.pow_add]; congr 1; omega
      _ ≤ 2 ^ (127 + t) := pow_le (by omega)
      _ = 2 ^ 127 * 2 ^ t := Nat.pow_add 2 127 t
      _ ≤ U0 * 2 ^ c * 2 ^ t := Nat.mul_le_mul_right _ hU0
      _ = U0 * 2 ^ (t + c) := by rw [Nat.mul_assoc, ← Nat.pow_add, Nat.add_comm c t]
  · exact Nat.mul_le_mul_right _ (Nat.lt_of_mul_lt_mul_right k)
theorem Told.above (k : t < s ∨ (s = t ∧ (U0 * 2 ^ c < V0 * 2 ^ c ∨ (V0 * 2 ^ c = U0 * 2 ^ c ∧ R = true)))) : φ (U0 * 2 ^ (t + c)) < A := by
  have _u := hc; have _v := hV1
  rcases k with k | ⟨rfl, k⟩
  · refine Nat.lt_of_lt_of_le (h.mono _ _ ?_) h.lo
    calc U0 * 2 ^ (t + c) = U0 * 2 ^ c * 2 ^ t := by rw [Nat.mul_assoc, ← Nat.pow_add, Nat.add_comm c t]
      _ < 2 ^ 128 * 2 ^ t := Nat.mul_lt_mul_of_pos_right hU1 (two_pos t)
      _ = 2 ^ (128 + t) := (Nat.pow_add 2 128 t).symm
      _ ≤ 2 ^ (127 + s) := pow_le (by omega)
      _ = 2 ^ 127 * 2 ^ s := Nat.pow_add 2 127 s
      _ ≤ V0 * 2 ^ c * 2 ^ s := Nat.mul_le_mul_right _ hV0
      _ = V0 * 2 ^ (s + c) := by rw [Nat.mul_assoc, ← Nat.pow_add, Nat.add_comm c s]
  · rcases k with k | ⟨k, hR⟩
    · exact Nat.lt_of_lt_of_le (h.mono _ _ (Nat.mul_lt_mul_of_pos_right (Nat.lt_of_mul_lt_mul_right k) (two_pos _))) h.lo
    · have e : V0 = U0 := Nat.eq_of_mul_eq_mul_right (two_pos c) k
      subst e
      exact Nat.lt_of_le_of_ne h.lo (fun e => h.some_ hR e.symm)
theorem Told.on (k : s = t ∧ V0 * 2 ^ c = U0 * 2 ^ c ∧ R = false) : A = φ (U0 * 2 ^ (t + c)) := by
  have _u := hc; have _v := hV1; have _x := hV0; have _y := hU0; have _z := hU1
  obtain ⟨rfl, k, hR⟩ := k
  have e : V0 = U0 := Nat.eq_of_mul_eq_mul_right (two_pos c) k
  subst e
  exact h.rest hR
end
theorem cmpN_lt {a b : Nat} (h : a < b) : cmpN a b = -1 := by unfold cmpN; rw [if_pos h]
theorem cmpN_eq {a b : Nat} (h : a = b) : cmpN a b = 0 := by unfold cmpN; rw [if_neg (by omega), if_pos h]
theorem cmpN_gt {a b : Nat} (h : b < a) : cmpN a b = 1 := by unfold cmpN; rw [if_neg (by omega), if_neg (by omega)]
theorem cmpN_scale (a b k : Nat) : cmpN (a * 2 ^ k) (b * 2 ^ k) = cmpN a b := by
  have p := two_pos k
  rcases Nat.lt_trichotomy a b with h | h | h
  · rw [cmpN_lt h, cmpN_lt (Nat.mul_lt_mul_of_pos_right h p)]
  · rw [cmpN_eq h, cmpN_eq (by rw [h])]
  · rw [cmpN_gt h, cmpN_gt (Nat.mul_lt_mul_of_pos_right h p)]
def cmpR (M : Nat) (E : Int) (N : Nat) (F : Int) : Int := cmpN (M * 2 ^ (E - F).toNat) (N * 2 ^ (F - E).toNat)
theorem cmpR_at {M N : Nat} {E F e : Int} (h1 : e ≤ E) (h2 : e ≤ F) : cmpR M E N F = cmpN (M * 2 ^ (E - e).toNat) (N * 2 ^ (F - e).toNat) := by
  unfold cmpR
  have a : (E - e).toNat = (E - F).toNat + (min E F - e).toNat := by omega
  have b : (F - e).toNat = (F - E).toNat + (min E F - e).toNat := by omega
  rw [a, b, Nat.pow_add, Nat.pow_add, ← Nat.mul_assoc, ← Nat.mul_assoc, cmpN_scale]
structure ByTies (n P : Nat) (up low : Nat → Int) : Prop where
  hi : P < 2 ^ (n - 1) - 1 → up P < 0 ∨ (up P = 0 ∧ P % 2 = 0)
  lo : 1 < P → 0 < low (P - 1) ∨ (low (P - 1) = 0 ∧ P % 2 = 0)
def tieT (n p : Nat) (e : Int) : Nat := (2 ^ dLf n (2 * p + 1) + (2 * p + 1) % 2 ^ dLf n (2 * p + 1)) * 2 ^ (decS n (2 * p + 1) - (dLf n (2 * p + 1) : Int) - e).toNat
theorem by_ties {φ : Nat → Nat} {A c V0 n : Nat} {R : Bool} {s e : Int} (h8 : 8 ≤ n) (hn : n ≤ 64) (hc : c ≤ 64) (he : e ≤ -1000) (hs : e + 127 ≤ s) (h : Told φ A c (s - 127 - e).toNat V0 R) (hV0 : 2 ^ 127 ≤ V0 * 2 ^ c) (hV1 : V0 * 2 ^ c < 2 ^ 128)
    {cmp : Nat → Int} (hcmp : ∀ p, p < 2 ^ (n - 1) → cmp p = cmpN A (φ (tieT n p e))) : ByTies n (posP n s (V0 * 2 ^ c) R) cmp cmp := by
  obtain ⟨b1, b2⟩ := posP_bounds (n := n) (s := s) (V := V0 * 2 ^ c) (R := R) h8 hn hV1
  have key : ∀ p, p < 2 ^ (n - 1) → ∃ U0, decV n (2 * p + 1) = U0 * 2 ^ c ∧ tieT n p e = U0 * 2 ^ ((decS n (2 * p + 1) - 127 - e).toNat + c) := by
    intro p hp
    obtain ⟨-, -, -, t4, t5, t6, t7⟩ := tie_val h8 hn hp
    have hl : dLf n (2 * p + 1) ≤ 62 := by
      have hr : 1 ≤ runL n (2 * p + 1) := (run_bits (m := n) (w := 2 * p + 1) (by omega) (by omega) (by have := two_halves (n := n) (by omega); omega)).2.2.1
      unfold dLf dEb dL1; omega
    refine ⟨(2 ^ dLf n (2 * p + 1) + (2 * p + 1) % 2 ^ dLf n (2 * p + 1)) * 2 ^ (127 - dLf n (2 * p + 1) - c), ?_, ?_⟩
    · rw [t7, Nat.mul_assoc, ← Nat.pow_add]
      congr 2; omega
    · unfold tieT
      rw [Nat.mul_assoc, ← Nat.pow_add]
      congr 2; omega
  constructor
  · intro hP
    have hp : posP n s (V0 * 2 ^ c) R < 2 ^ (n - 1) := by omega
    obtain ⟨t1, t2, t3, t4, t5, t6, t7⟩ := tie_val h8 hn hp
    obtain ⟨U0, u1, u2⟩ := key _ hp
    rw [hcmp _ hp, u2]
    rw [u1] at t2 t3
    have nu := near_up (t := decS n (2 * posP n s (V0 * 2 ^ c) R + 1)) (U := decV n (2 * posP n s (V0 * 2 ^ c) R + 1)) h8 hn hV0 hV1 (by rw [u1]; exact t2) (by rw [u1]; exact t3) (by omega) (by omega) (by omega) t1
    rw [u1] at nu
    rcases nu with k | ⟨k, k2⟩
    · exact .inl (by rw [cmpN_lt (h.below (by omega) hV0 hV1 t2 t3 (by omega))]; decide)
    · exact .inr ⟨cmpN_eq (h.on (by omega) hV0 hV1 t2 t3 ⟨by have := k.1; omega, k.2.1, k.2.2⟩), k2⟩
  · intro hP
    have hp : posP n s (V0 * 2 ^ c) R - 1 < 2 ^ (n - 1) := by omega
    obtain ⟨t1, t2, t3, t4, t5, t6, t7⟩ := tie_val h8 hn hp
    obtain ⟨U0, u1, u2⟩ := key _ hp
    rw [hcmp _ hp, u2]
    rw [u1] at t2 t3
    have nd := near_down (t := decS n (2 * (posP n s (V0 * 2 ^ c) R - 1) + 1)) (U := decV n (2 * (posP n s (V0 * 2 ^ c) R - 1) + 1)) h8 hn hV0 hV1 (by rw [u1]; exact t2) (by rw [u1]; exact t3) (by omega) (by omega) (by omega) t1
    rw [u1] at nd
    rcases nd with k | ⟨k, k2⟩
    · exact .inl (by rw [cmpN_gt (h.above (by omega) hV0 hV1 t2 t3 (k.imp (fun h => by omega) (fun h => ⟨by have := h.1; omega, h.2⟩)))]; decide)
    · exact .inr ⟨cmpN_eq (h.on (by omega) hV0 hV1 t2 t3 ⟨by have := k.1; omega, k.2.1, k.2.2⟩), k2⟩
theorem told_natX {M : Nat} {E e : Int} (hM : 0 < M) (h1 : e + 127 ≤ E + (bl M : Int) - 1) (h2 : e ≤ E) : Told (fun z => z) (M * 2 ^ (E - e).toNat) 0 ((E + (bl M : Int) - 1) - 127 - e).toNat (mkV M) (mkR M false) := by
  have e0 : ∀ z : Nat, z + 0 = z := fun z => rfl
  by_cases hb : bl M ≤ 128
  · have hv : mkV M = M * 2 ^ (128 - bl M) := by unfold mkV; rw [if_pos hb]
    have hr : mkR M false = false := by
      unfold mkR
      rw [show bl M - 128 = 0 by omega, Nat.pow_zero, Nat.mod_one]; rfl
    have ex : mkV M * 2 ^ (((E + (bl M : Int) - 1) - 127 - e).toNat + 0) = M * 2 ^ (E - e).toNat := by
      rw [e0, hv, Nat.mul_assoc, ← Nat.pow_add]
      congr 2; omega
    have p := two_pos (((E + (bl M : Int) - 1) - 127 - e).toNat + 0)
    refine ⟨fun _ _ h => h, ?_, ?_, fun _ => ?_, fun h => ?_⟩
    · show mkV M * 2 ^ (((E + (bl M : Int) - 1) - 127 - e).toNat + 0) ≤ _
      rw [ex]; exact Nat.le_refl _
    · show _ < (mkV M + 1) * 2 ^ (((E + (bl M : Int) - 1) - 127 - e).toNat + 0)
      rw [Nat.add_mul, ex]; omega
    · exact ex.symm
    · rw [hr] at h; cases h
  · have hv : mkV M = M / 2 ^ (bl M - 128) := by unfold mkV; rw [if_neg hb]
    have hr : mkR M false = decide (M % 2 ^ (bl M - 128) ≠ 0) := by unfold mkR; rw [Bool.false_or]
    have d := Nat.div_add_mod M (2 ^ (bl M - 128))
    have r := Nat.mod_lt M (two_pos (bl M - 128))
    have es : ((E + (bl M : Int) - 1) - 127 - e).toNat = (bl M - 128) + (E - e).toNat := by omega
    have p := two_pos (E - e).toNat
    have ex : ∀ q, q * 2 ^ (((E + (bl M : Int) - 1) - 127 - e).toNat + 0) = (2 ^ (bl M - 128) * q) * 2 ^ (E - e).toNat := by
      intro q
      rw [e0, es, Nat.pow_add, ← Nat.mul_assoc, Nat.mul_comm q]
    rw [hv, hr]
    generalize M / 2 ^ (bl M - 128) = q at *
    generalize M % 2 ^ (bl M - 128) = c at *
    refine ⟨fun _ _ h => h, ?_, ?_, fun h => ?_, fun h => ?_⟩
    · simp only [ex]; exact Nat.mul_le_mul_right _ (by omega)
    · simp only [ex]; exact Nat.mul_lt_mul_of_pos_right (by rw [Nat.mul_add, Nat.mul_one]; omega) p
    · simp only [ex]
      have h0 : c = 0 := by simpa using h
      have hM' : M = 2 ^ (bl M - 128) * q := by omega
      exact congrArg (· * 2 ^ (E - e).toNat) hM'
    · simp only [ex]
      intro h'
      have := Nat.eq_of_mul_eq_mul_right p h'
      have : c = 0 := by omega
      rw [this] at h; simp at h
theorem told_quot {x y : NM} (x1 : 2 ^ 63 ≤ x.fr) (y1 : 2 ^ 63 ≤ y.fr) {e : Int} (h1 : e + 127 ≤ x.sc - y.sc + 63 - (qtJ x y : Int)) (h2 : e ≤ y.sc - 63) (h3 : 2 * e ≤ x.sc - 63) :
    Told (fun z => z * (y.fr * 2 ^ (y.sc - 63 - e).toNat)) (x.fr * 2 ^ (x.sc - 63 - 2 * e).toNat) 64 ((x.sc - y.sc + 63 - (qtJ x y : Int)) - 127 - e).toNat (x.fr * 2 ^ qtJ x y / y.fr) (decide (x.fr * 2 ^ qtJ x y % y.fr ≠ 0)) := by
  have y0 : 0 < y.fr := Nat.lt_of_lt_of_le (two_pos 63) y1
  have d := Nat.div_add_mod (x.fr * 2 ^ qtJ x y) y.fr
  have r := Nat.mod_lt (x.fr * 2 ^ qtJ x y) y0
  have hj : qtJ x y = 63 ∨ qtJ x y = 64 := by unfold qtJ; split <;> omega
  obtain ⟨k, hk⟩ : ∃ k, k = ((x.sc - y.sc + 63 - (qtJ x y : Int)) - 127 - e).toNat + 64 + (y.sc - 63 - e).toNat := ⟨_, rfl⟩
  have ea : x.fr * 2 ^ (x.sc - 63 - 2 * e).toNat = (x.fr * 2 ^ qtJ x y) * 2 ^ k := by
    rw [Nat.mul_assoc, ← Nat.pow_add]
    congr 2; omega
  have p := two_pos k
  have ex : ∀ q, q * 2 ^ (((x.sc - y.sc + 63 - (qtJ x y : Int)) - 127 - e).toNat + 64) * (y.fr * 2 ^ (y.sc - 63 - e).toNat) = (y.fr * q) * 2 ^ k := by
    intro q
    rw [hk, Nat.pow_add 2 (_ + 64)]
    generalize (2 : Nat) ^ (((x.sc - y.sc + 63 - (qtJ x y : Int)) - 127 - e).toNat + 64) = a
    generalize (2 : Nat) ^ (y.sc - 63 - e).toNat = b
    grind
  rw [ea]
  have pm : 0 < y.fr * 2 ^ (y.sc - 63 - e).toNat := Nat.mul_pos y0 (two_pos _)
  generalize x.fr * 2 ^ qtJ x y = N at *
  generalize N / y.fr = q at *
  generalize N % y.fr = c at *
  refine ⟨fun _ _ h => Nat.mul_lt_mul_of_pos_right h pm, ?_, ?_, fun h => ?_, fun h => ?_⟩
  · simp only [ex]; exact Nat.mul_le_mul_right _ (by omega)
  · simp only [ex]; exact Nat.mul_lt_mul_of_pos_right (by rw [Nat.mul_add, Nat.mul_one]; omega) p
  · simp only [ex]
    have : c = 0 := by simpa using h
    rw [← d, this, Nat.add_zero]
  · simp only [ex]
    intro h'
    have := Nat.eq_of_mul_eq_mul_right p h'
    have : c = 0 := by omega
    rw [this] at h; simp at h
theorem told_root {f : Nat} {s e : Int} (x1 : 2 ^ 63 ≤ f) (x2 : f < 2 ^ 64) (h1 : e + 127 ≤ s / 2) (r : Nat) (hr : r = rtL (rootW ⟨1, false, s, f * 18446744073709551616, false⟩) 64 0) :
    Told (fun z => z * z) (f * 2 ^ (s - 63 - 2 * e).toNat) 64 (s / 2 - 127 - e).toNat r (false || (decide (s % 2 = 0 ∧ f * 18446744073709551616 % 2 ≠ 0) || decide (r * r ≠ rootW ⟨1, false, s, f * 18446744073709551616, false⟩))) := by
  have e1 : decide (s % 2 = 0 ∧ f * 18446744073709551616 % 2 ≠ 0) = false := decide_eq_false (by omega)
  rw [e1, Bool.false_or, Bool.false_or]
  obtain ⟨k, hk⟩ : ∃ k, k = 2 * ((s / 2 - 127 - e).toNat + 64) := ⟨_, rfl⟩
  have hW : rootW ⟨1, false, s, f * 18446744073709551616, false⟩ * 2 ^ k = f * 2 ^ (s - 63 - 2 * e).toNat ∧ 2 ^ 126 ≤ rootW ⟨1, false, s, f * 18446744073709551616, false⟩ ∧ rootW ⟨1, false, s, f * 18446744073709551616, false⟩ < 2 ^ 128 := by
    unfold rootW
    simp only
    rw [p63] at x1
    rw [p64] at x2
    have q126 : (2 : Nat) ^ 126 = 85070591730234615865843651857942052864 := by decide
    by_cases hs : s % 2 = 0
    · rw [if_pos hs]
      refine ⟨?_, by rw [q126]; omega, by rw [p128]; omega⟩
      rw [show f * 18446744073709551616 / 2 = f * 2 ^ 63 by rw [p63]; omega, Nat.mul_assoc, ← Nat.pow_add]
      congr 2; omega
    · rw [if_neg hs]
      refine ⟨?_, by rw [q126]; omega, by rw [p128]; omega⟩
      rw [show f * 18446744073709551616 = f * 2 ^ 64 by rw [p64], Nat.mul_assoc, ← Nat.pow_add]
      congr 2; omega
  obtain ⟨w1, w2, w3⟩ := hW
  obtain ⟨a, b, -, -⟩ := rt_facts w2 w3
  rw [← hr] at a b
  rw [← w1]
  have p := two_pos k
  have ex : ∀ q : Nat, q * 2 ^ ((s / 2 - 127 - e).toNat + 64) * (q * 2 ^ ((s / 2 - 127 - e).toNat + 64)) = q * q * 2 ^ k := by
    intro q
    rw [hk]
    generalize (s / 2 - 127 - e).toNat + 64 = x
    rw [Nat.two_mul, Nat.pow_add]
    generalize (2 : Nat) ^ x = z
    grind
  generalize rootW ⟨1, false, s, f * 18446744073709551616, false⟩ = w at *
  refine ⟨fun a b h => Nat.mul_lt_mul_of_lt_of_le h (Nat.le_of_lt h) (by omega), ?_, ?_, fun h => ?_, fun h => ?_⟩
  · simp only [ex]; exact Nat.mul_le_mul_right _ a
  · simp only [ex]; exact Nat.mul_lt_mul_of_pos_right b p
  · simp only [ex]
    have : r * r = w := by simpa using h
    rw [this]
  · simp only [ex]
    intro h'
    have := Nat.eq_of_mul_eq_mul_right p h'
    rw [← this] at h; simp at h
end Go.Proofs.Ythofoolgbngobaa.V
namespace Go.Proofs.Ythofoolgbngobaa.V
open Go Go.RowKit Go.Proofs.Ythofoolgbngobaa.Ab Go.Proofs.Ythofoolgbngobaa.Fn
set_option linter.unusedVariables false
set_option linter.unusedSimpArgs false
def sgI (g : Bool) (m : Nat) : Int := if g then -(m : Int) else m
theorem lenW {r : List Int} {m k : Nat} (h : DL r m) (hm : m < 2 ^ k) (hk : k ≤ 6000) : r.length ≤ 1000 :=
 Nat.le_trans (h.len_le (n := k / 24 + 1) (Nat.lt_of_lt_of_le hm (by unfold W; exact pow_le (by omega)))) (by omega)
theorem shl_lt {M k a : Nat} (hM : M < 2 ^ a) : M * 2 ^ k < 2 ^ (a + k) := by
 rw [Nat.pow_add]
 exact Nat.mul_lt_mul_of_pos_right hM (two_pos k)
section
variable {g1 g2 : Bool} {x y : List Int} {M N a b : Nat} {E F : Int} (hx : DL x M) (hy : DL y N) (hM : M < 2 ^ a) (hN : N < 2 ^ b) (ha : a ≤ 1300) (hb : b ≤ 1300) (e0 : -1500 ≤ E) (e1 : E ≤ 1500) (f0 : -1500 ≤ F) (f1 : F ≤ 1500)
include hx hy hM hN ha hb e0 e1 f0 f1
theorem tdown_eq : ∃ x' y', DL x' (M * 2 ^ (E - F).toNat) ∧ DL y' (N * 2 ^ (F - E).toNat) ∧ Ev (fun k => verniertop_down.f k g1 x E g2 y F) (x', y', min E F) := by
 unfold verniertop_down.f
 by_cases h : E ≥ F
 ·simp only [if_pos h]
  obtain ⟨r, k1, k2⟩ := r4_Shl hx (k := (E - F).toNat) (by omega) (lenW hx hM (by omega))
  rw [show (((E - F).toNat : Nat) : Int) = wrap64 (E - F) by rw [w64 (by omega) (by omega)]; omega] at k1
  refine ⟨r, y, k2, ?_, Ev.bind k1 ?_⟩
  ·rw [show (F - E).toNat = 0 by omega, Nat.pow_zero, Nat.mul_one]; exact hy
  ·rw [show min E F = F by omega]; exact Ev.now _
 ·simp only [if_neg h]
  obtain ⟨r, k1, k2⟩ := r4_Shl hy (k := (F - E).toNat) (by omega) (lenW hy hN (by omega))
  rw [show (((F - E).toNat : Nat) : Int) = wrap64 (F - E) by rw [w64 (by omega) (by omega)]; omega] at k1
  refine ⟨x, r, ?_, k2, Ev.bind k1 ?_⟩
  ·rw [show (E - F).toNat = 0 by omega, Nat.pow_zero, Nat.mul_one]; exact hx
  ·rw [show min E F = E by omega]; exact Ev.now _
theorem tsize_eq : Ev (fun k => verniertop_size.f k g1 x E g2 y F) (cmpR M E N F) := by
 obtain ⟨x', y', k1, k2, k3⟩ := tdown_eq (g1 := g1) (g2 := g2) hx hy hM hN ha hb e0 e1 f0 f1
 unfold verniertop_size.f
 exact Ev.bind k3 (Ev.bind (r4_Cmp k1 k2 (lenW k1 (shl_lt hM) (by omega)) (lenW k2 (shl_lt hN) (by omega))) (Ev.now _))
theorem tplus_eq : ∃ g r, DL r (sgI g1 (M * 2 ^ (E - F).toNat) + sgI g2 (N * 2 ^ (F - E).toNat)).natAbs ∧
  (sgI g1 (M * 2 ^ (E - F).toNat) + sgI g2 (N * 2 ^ (F - E).toNat) ≠ 0 → g = decide (sgI g1 (M * 2 ^ (E - F).toNat) + sgI g2 (N * 2 ^ (F - E).toNat) < 0)) ∧
  Ev (fun k => verniertop_plus.f k g1 x E g2 y F) (g, r, min E F) := by
 obtain ⟨x', y', k1, k2, k3⟩ := tdown_eq (g1 := g1) (g2 := g2) hx hy hM hN ha hb e0 e1 f0 f1
 have l1 := lenW k1 (shl_lt hM) (by omega)
 have l2 := lenW k2 (shl_lt hN) (by omega)
 generalize M * 2 ^ (E - F).toNat = A at *
 generalize N * 2 ^ (F - E).toNat = B at *
 by_cases hg : g1 = g2
 ·subst hg
  obtain ⟨r, m1, m2⟩ := r4_Add k1 k2 l1 l2
  refine ⟨g1, r, ?_, ?_, ?_⟩
  ·have : (sgI g1 A + sgI g1 B).natAbs = A + B := by unfold sgI; cases g1 <;> simp <;> omega
   rw [this]; exact m2
  ·intro h
   unfold sgI at *
   cases g1
   ·simp; omega
   ·simp at h ⊢; omega
  ·unfold verniertop_plus.f
   refine Ev.bind k3 ?_
   simp only [beq_self_eq_true, if_true]
   exact Ev.bind m1 (Ev.now _)
 ·have hb : (g1 == g2) = false := by simpa using hg
  have hc := r4_Cmp k1 k2 l1 l2
  by_cases h : B ≤ A
  ·obtain ⟨r, m1, m2⟩ := r4_Sub k1 k2 h l1
   refine ⟨g1, r, ?_, ?_, ?_⟩
   ·have : (sgI g1 A + sgI g2 B).natAbs = A - B := by unfold sgI; cases g1 <;> cases g2 <;> simp at hg ⊢ <;> omega
    rw [this]; exact m2
   ·intro h'
    unfold sgI at *
    cases g1 <;> cases g2 <;> simp at hg h' ⊢ <;> omega
   ·unfold verniertop_plus.f
    refine Ev.bind k3 ?_
    simp only [hb, Bool.false_eq_true, if_false]
    refine Ev.bind hc ?_
    have c0 : cmpN A B ≥ 0 := by unfold cmpN; split <;> (try split) <;> omega
    simp only [if_pos c0]
    exact Ev.bind m1 (Ev.now _)
  ·obtain ⟨r, m1, m2⟩ := r4_Sub k2 k1 (by omega) l2
   refine ⟨g2, r, ?_, ?_, ?_⟩
   ·have : (sgI g1 A + sgI g2 B).natAbs = B - A := by unfold sgI; cases g1 <;> cases g2 <;> simp at hg ⊢ <;> omega
    rw [this]; exact m2
   ·intro h'
    unfold sgI at *
    cases g1 <;> cases g2 <;> simp at hg h' ⊢ <;> omega
   ·unfold verniertop_plus.f
    refine Ev.bind k3 ?_
    simp only [hb, Bool.false_eq_true, if_false]
    refine Ev.bind hc ?_
    have c0 : ¬ cmpN A B ≥ 0 := by unfold cmpN; split <;> (try split) <;> omega
    simp only [if_neg c0]
    exact Ev.bind m1 (Ev.now _)
theorem ttimes_eq : ∃ r, DL r (M * N) ∧ Ev (fun k => verniertop_times.f k g1 x E g2 y F) (g1 != g2, r, E + F) := by
 have q1 := hx.len_le (n := a / 24 + 1) (Nat.lt_of_lt_of_le hM (by unfold W; exact pow_le (by omega)))
 have q2 := hy.len_le (n := b / 24 + 1) (Nat.lt_of_lt_of_le hN (by unfold W; exact pow_le (by omega)))
 obtain ⟨r, k1, k2⟩ := r4_Mul hx hy (by omega)
 refine ⟨r, k2, ?_⟩
 unfold verniertop_times.f
 rw [w64 (by omega) (by omega)]
 exact Ev.bind k1 (Ev.now _)
end
def NM.vg (a : NM) : Bool := if a.kd = 1 then a.ng else false
def NM.vm (a : NM) : Nat := if a.kd = 1 then a.fr else 0
def NM.ve (a : NM) : Int := if a.kd = 1 then a.sc - 63 else 0
theorem NM.mid_v {a : NM} (h : a.mid) : a.vm < 2 ^ 64 ∧ -323 ≤ a.ve ∧ a.ve ≤ 197 ∧ (a.kd = 0 → a.vm = 0) ∧ (a.kd = 1 → 2 ^ 63 ≤ a.vm) ∧ (a.kd = 0 ∨ a.kd = 1) := by
 unfold NM.vm NM.ve
 rcases h with rfl | ⟨h1, h2, h3, h4, h5⟩
 ·exact ⟨two_pos 64, by decide, by decide, fun _ => rfl, fun h => absurd h (by decide), .inl rfl⟩
 ·simp only [if_pos h1]
  exact ⟨h3, by omega, by omega, fun h => by omega, fun _ => h2, .inr h1⟩
theorem bl_of64 {f : Nat} (h : 2 ^ 63 ≤ f) (h2 : f < 2 ^ 64) : bl f = 64 := bl_unique (by decide) h h2
theorem ex_natX {a : NM} (h : a.mid) : a.ex = natX a.vg a.vm a.ve false := by
 unfold NM.vg NM.vm NM.ve
 rcases h with rfl | ⟨h1, h2, h3, h4, h5⟩
 ·rfl
 ·simp only [if_pos h1]
  have hb := bl_of64 h2 h3
  rw [natX_parts _ (Nat.lt_of_lt_of_le (two_pos 63) h2), hb]
  have hv : mkV a.fr = a.fr * 18446744073709551616 := by unfold mkV; rw [hb, if_pos (by decide)]
  have hr : mkR a.fr false = false := by unfold mkR; rw [hb, show 64 - 128 = 0 by decide, Nat.pow_zero, Nat.mod_one]; rfl
  rw [hv, hr]
  unfold NM.ex
  refine EX.ext' h1 rfl ?_ rfl rfl
  show a.sc = heldI _
  unfold heldI; rw [if_neg (by omega), if_neg (by omega)]; omega
theorem prod_natX {a b : NM} (ha : a.mid) (hb : b.mid) : prodX a b = natX (a.vg != b.vg) (a.vm * b.vm) (a.ve + b.ve) false := by
 unfold NM.vg NM.vm NM.ve
 rcases ha with rfl | ⟨a1, a2, a3, a4, a5⟩
 ·rw [if_neg (show ¬ ((0 : Int) = 1) by decide), if_neg (show ¬ ((0 : Int) = 1) by decide), Nat.zero_mul, natX_zero]
  rcases hb with rfl | ⟨b1, -⟩
  ·rfl
  ·unfold prodX
   rw [if_neg (by simp [b1]), if_pos (by simp)]
 ·rcases hb with rfl | ⟨b1, -⟩
  ·rw [if_neg (show ¬ ((0 : Int) = 1) by decide), if_neg (show ¬ ((0 : Int) = 1) by decide), Nat.mul_zero, natX_zero]
   unfold prodX
   rw [if_neg (by simp [a1]), if_pos (by simp)]
  ·simp only [if_pos a1, if_pos b1]
   rw [prodX_real a1 b1]
   congr 1; omega
theorem natX_fin {g : Bool} {m : Nat} {E : Int} (hb : bl m ≤ 128) (h0 : -2000 ≤ E) (h1 : E ≤ 2000) : (natX g m E false).fin ∧ ((natX g m E false).kd = 1 → E ≤ (natX g m E false).sc) ∧ ∀ e, e ≤ E → (natX g m E false).val e = sgI g (m * 2 ^ (E - e).toNat) * 2 ^ 127 := by
 rcases Nat.eq_zero_or_pos m with h | h
 ·subst h
  rw [natX_zero]
  refine ⟨.inl rfl, fun h => absurd h (by decide), fun e _ => ?_⟩
  rw [val_zero, Nat.zero_mul]
  unfold sgI; cases g <;> simp
 ·have hp := bl_pos h
  have hR : mkR m false = false := by unfold mkR; rw [show bl m - 128 = 0 by omega, Nat.pow_zero, Nat.mod_one]; rfl
  have hs : heldI (E + (bl m : Int) - 1) = E + (bl m : Int) - 1 := by unfold heldI; rw [if_neg (by omega), if_neg (by omega)]
  rw [natX_parts _ h, hR, hs]
  refine ⟨.inr ⟨rfl, mkV_ge h, mkV_lt h, ?_, ?_, rfl⟩, fun _ => ?_, fun e he => ?_⟩
  ·show -1073741824 ≤ E + (bl m : Int) - 1; omega
  ·show E + (bl m : Int) - 1 ≤ 1073741824; omega
  ·show E ≤ E + (bl m : Int) - 1; omega
  ·unfold EX.val
   show (if g = true then _ else _) = _
   have e1 : mkV m * 2 ^ (E + (bl m : Int) - 1 - e).toNat = m * 2 ^ (E - e).toNat * 2 ^ 127 := by
    unfold mkV
    rw [if_pos hb, Nat.mul_assoc, Nat.mul_assoc, ← Nat.pow_add, ← Nat.pow_add]
    congr 2; omega
   show (if g = true then -((mkV m * 2 ^ (E + (bl m : Int) - 1 - e).toNat : Nat) : Int) else ((mkV m * 2 ^ (E + (bl m : Int) - 1 - e).toNat : Nat) : Int)) = _
   rw [e1]
   unfold sgI
   have e2 : ((m * 2 ^ (E - e).toNat * 2 ^ 127 : Nat) : Int) = ((m * 2 ^ (E - e).toNat : Nat) : Int) * 2 ^ 127 := by rw [Int.natCast_mul, pow_cast]
   rw [e2]
   cases g
   ·rfl
   ·simp only [if_true]; rw [Int.neg_mul]
theorem sum_natX {g1 g2 : Bool} {m1 m2 : Nat} {E F : Int} (b1 : bl m1 ≤ 128) (b2 : bl m2 ≤ 128) (e0 : -2000 ≤ E) (e1 : E ≤ 2000) (f0 : -2000 ≤ F) (f1 : F ≤ 2000) :
  sumX (natX g1 m1 E false) (natX g2 m2 F false) = intX (sgI g1 (m1 * 2 ^ (E - F).toNat) + sgI g2 (m2 * 2 ^ (F - E).toNat)) (min E F) := by
 obtain ⟨x1, x2, x3⟩ := natX_fin (g := g1) b1 e0 e1
 obtain ⟨y1, y2, y3⟩ := natX_fin (g := g2) b2 f0 f1
 rw [sumX_at x1 y1 (e := min E F) (fun h => by have := x2 h; omega) (fun h => by have := y2 h; omega), x3 _ (by omega), y3 _ (by omega), ← Int.add_mul, intX_shift]
 rw [show (E - min E F).toNat = (E - F).toNat by omega, show (F - min E F).toNat = (F - E).toNat by omega]
 congr 1; omega
structure Res (n : Nat) (x : EX) (s : Int) (cmp : Nat → Int) : Prop where
 zero : s = 0 → x = EX.zero
 real : s ≠ 0 → x.kd = 1 ∧ x.ng = decide (s < 0) ∧ 2 ^ 127 ≤ x.V ∧ x.V < 2 ^ 128 ∧ ByTies n (posP n x.sc x.V x.R) cmp cmp
def tieM (n p : Nat) : Nat := 2 ^ dLf n (2 * p + 1) + (2 * p + 1) % 2 ^ dLf n (2 * p + 1)
def tieE (n p : Nat) : Int := decS n (2 * p + 1) - (dLf n (2 * p + 1) : Int)
theorem tie_parts {n p : Nat} (h8 : 8 ≤ n) (hn : n ≤ 64) (hp : p < 2 ^ (n - 1)) : tieM n p < 2 ^ 64 ∧ -340 ≤ tieE n p ∧ tieE n p ≤ 270 := by
 obtain ⟨-, -, -, t4, t5, t6, -⟩ := tie_val h8 hn hp
 refine ⟨?_, by unfold tieE; omega, by unfold tieE; omega⟩
 unfold tieM
 have := Nat.mod_lt (2 * p + 1) (two_pos (dLf n (2 * p + 1)))
 have h2 : 2 ^ dLf n (2 * p + 1) ≤ 2 ^ 63 := pow_le t6
 rw [p63] at h2
 rw [p64]
 omega
theorem res_int {n : Nat} {z e : Int} (h8 : 8 ≤ n) (hn : n ≤ 64) (e0 : -1000 ≤ e) (e1 : e ≤ 1000) (hz : bl z.natAbs ≤ 4000) : Res n (intX z e) (if z < 0 then -1 else if z = 0 then 0 else 1) (fun p => cmpR z.natAbs e (tieM n p) (tieE n p)) := by
 constructor
 ·intro h
  have : z = 0 := by
   by_cases h1 : z < 0
   ·rw [if_pos h1] at h; cases h
   ·rw [if_neg h1] at h
    by_cases h2 : z = 0
    ·exact h2
    ·rw [if_neg h2] at h; cases h
  subst this
  rfl
 ·intro h
  have hz0 : z ≠ 0 := by rintro rfl; exact h rfl
  have hm : 0 < z.natAbs := by omega
  have hsg : decide ((if z < 0 then (-1 : Int) else if z = 0 then 0 else 1) < 0) = decide (z < 0) := by
   by_cases h1 : z < 0
   ·rw [if_pos h1, decide_eq_true h1]; rfl
   ·rw [if_neg h1, if_neg hz0, decide_eq_false h1]; rfl
  rw [hsg]
  have hp := bl_pos hm
  unfold intX
  generalize z.natAbs = M at *
  have hs : heldI (e + (bl M : Int) - 1) = e + (bl M : Int) - 1 := by unfold heldI; rw [if_neg (by omega), if_neg (by omega)]
  rw [natX_parts _ hm, hs]
  refine ⟨rfl, rfl, mkV_ge hm, mkV_lt hm, ?_⟩
  have ht := told_natX (M := M) (E := e) (e := -2000) hm (by omega) (by omega)
  have := by_ties (c := 0) (V0 := mkV M) (R := mkR M false) (s := e + (bl M : Int) - 1) (e := -2000) h8 hn (by decide) (by decide) (by omega) ht (by rw [Nat.pow_zero, Nat.mul_one]; exact mkV_ge hm) (by rw [Nat.pow_zero, Nat.mul_one]; exact mkV_lt hm)
   (cmp := fun p => cmpR M e (tieM n p) (tieE n p)) (fun p hp => by
    obtain ⟨-, t2, t3⟩ := tie_parts h8 hn hp
    exact cmpR_at (by omega) (by omega))
  rw [Nat.pow_zero, Nat.mul_one] at this
  exact this
theorem sg_ne {s : Bool} : (if s then (-1 : Int) else 1) ≠ 0 := by cases s <;> decide
theorem res_quot {n : Nat} {x y : NM} (h8 : 8 ≤ n) (hn : n ≤ 64) (hx : x.mid) (hy : y.mid) (y1 : y.kd = 1) : Res n (quotX x y) (if x.kd = 0 then 0 else if (x.ng != y.ng) then -1 else 1) (fun p => cmpR x.vm x.ve (tieM n p * y.vm) (tieE n p + y.ve)) := by
 rcases hy with rfl | ⟨-, b2, b3, b4, b5⟩
 ·cases y1
 rcases hx with rfl | ⟨a1, a2, a3, a4, a5⟩
 ·refine ⟨fun _ => ?_, fun h => absurd rfl h⟩
  unfold quotX
  rw [if_neg (by simp [y1]), if_pos rfl]
 ·constructor
  ·intro h
   rw [if_neg (by omega)] at h
   exact absurd h sg_ne
  ·intro _
   rw [if_neg (show ¬ x.kd = 0 by omega), quotX_real a1 y1]
   obtain ⟨r1, r2⟩ := qt_range a2 a3 b2 b3 (rfl : qtJ x y = if y.fr ≤ x.fr then 63 else 64)
   have hj : qtJ x y = 63 ∨ qtJ x y = 64 := by unfold qtJ; split <;> omega
   have v0 : 2 ^ 127 ≤ x.fr * 2 ^ qtJ x y / y.fr * 2 ^ 64 := by rw [p63] at r1; rw [p127, p64]; omega
   have v1 : x.fr * 2 ^ qtJ x y / y.fr * 2 ^ 64 < 2 ^ 128 := by rw [p64] at r2; rw [p128, p64]; omega
   have e64 : x.fr * 2 ^ qtJ x y / y.fr * 18446744073709551616 = x.fr * 2 ^ qtJ x y / y.fr * 2 ^ 64 := by rw [p64]
   rw [e64]
   refine ⟨rfl, ?_, v0, v1, ?_⟩
   ·show (x.ng != y.ng) = decide _
    cases (x.ng != y.ng) <;> rfl
   ·have ht := told_quot (x := x) (y := y) a2 b2 (e := -2000) (by omega) (by omega) (by omega)
    refine by_ties (c := 64) (V0 := x.fr * 2 ^ qtJ x y / y.fr) (R := decide (x.fr * 2 ^ qtJ x y % y.fr ≠ 0)) (s := x.sc - y.sc + 63 - (qtJ x y : Int)) (e := -2000) h8 hn (by decide) (by decide) (by omega) ht v0 v1 (fun p hp => ?_)
    obtain ⟨-, t2, t3⟩ := tie_parts h8 hn hp
    show cmpR x.vm x.ve (tieM n p * y.vm) (tieE n p + y.ve) = cmpN (x.fr * 2 ^ (x.sc - 63 - 2 * -2000).toNat) (tieT n p (-2000) * (y.fr * 2 ^ (y.sc - 63 - -2000).toNat))
    have vx : x.vm = x.fr ∧ x.ve = x.sc - 63 := by unfold NM.vm NM.ve; rw [if_pos a1, if_pos a1]; exact ⟨rfl, rfl⟩
    have vy : y.vm = y.fr ∧ y.ve = y.sc - 63 := by unfold NM.vm NM.ve; rw [if_pos y1, if_pos y1]; exact ⟨rfl, rfl⟩
    rw [vx.1, vx.2, vy.1, vy.2, cmpR_at (e := -4000) (by omega) (by omega)]
    congr 1
    show tieM n p * y.fr * _ = tieM n p * 2 ^ (tieE n p - -2000).toNat * _
    rw [show (tieE n p + (y.sc - 63) - -4000).toNat = (tieE n p - -2000).toNat + (y.sc - 63 - -2000).toNat by omega, Nat.pow_add]
    generalize (2 : Nat) ^ (tieE n p - -2000).toNat = u
    generalize (2 : Nat) ^ (y.sc - 63 - -2000).toNat = v
    generalize tieM n p = t
    generalize y.fr = w
    grind
theorem res_root {n : Nat} {x : NM} (h8 : 8 ≤ n) (hn : n ≤ 64) (hx : x.mid) (hg : x.ng = false) : Res n (rootX x.ex) (if x.kd = 0 then 0 else 1) (fun p => cmpR x.vm x.ve (tieM n p * tieM n p) (tieE n p + tieE n p)) := by
 rcases hx with rfl | ⟨a1, a2, a3, a4, a5⟩
 ·exact ⟨fun _ => rfl, fun h => absurd rfl h⟩
 ·constructor
  ·intro h
   rw [if_neg (by omega)] at h
   cases h
  ·intro _
   rw [if_neg (show ¬ x.kd = 0 by omega)]
   have hx1 : x.ex = ⟨1, false, x.sc, x.fr * 18446744073709551616, false⟩ := EX.ext' a1 hg rfl rfl rfl
   rw [hx1, rootX_real rfl rfl]
   have ht := told_root (f := x.fr) (s := x.sc) (e := -2000) a2 a3 (by omega) _ rfl
   have hW : 2 ^ 126 ≤ rootW ⟨1, false, x.sc, x.fr * 18446744073709551616, false⟩ ∧ rootW ⟨1, false, x.sc, x.fr * 18446744073709551616, false⟩ < 2 ^ 128 := by
    unfold rootW
    have q126 : (2 : Nat) ^ 126 = 85070591730234615865843651857942052864 := by decide
    rw [p63] at a2
    rw [p64] at a3
    simp only
    split
    ·rw [q126, p128]; omega
    ·rw [q126, p128]; omega
   obtain ⟨-, -, c1, c2⟩ := rt_facts hW.1 hW.2
   have v0 : 2 ^ 127 ≤ rtL (rootW ⟨1, false, x.sc, x.fr * 18446744073709551616, false⟩) 64 0 * 2 ^ 64 := by rw [p127, p64]; omega
   have v1 : rtL (rootW ⟨1, false, x.sc, x.fr * 18446744073709551616, false⟩) 64 0 * 2 ^ 64 < 2 ^ 128 := by rw [p128, p64]; omega
   have e64 : rtL (rootW ⟨1, false, x.sc, x.fr * 18446744073709551616, false⟩) 64 0 * 18446744073709551616 = rtL (rootW ⟨1, false, x.sc, x.fr * 18446744073709551616, false⟩) 64 0 * 2 ^ 64 := by rw [p64]
   rw [e64]
   refine ⟨rfl, rfl, v0, v1, ?_⟩
   refine by_ties (c := 64) (s := x.sc / 2) (e := -2000) h8 hn (by decide) (by decide) (by omega) ht v0 v1 (fun p hp => ?_)
   obtain ⟨-, t2, t3⟩ := tie_parts h8 hn hp
   show cmpR x.vm x.ve (tieM n p * tieM n p) (tieE n p + tieE n p) = cmpN (x.fr * 2 ^ (x.sc - 63 - 2 * -2000).toNat) (tieT n p (-2000) * tieT n p (-2000))
   have vx : x.vm = x.fr ∧ x.ve = x.sc - 63 := by unfold NM.vm NM.ve; rw [if_pos a1, if_pos a1]; exact ⟨rfl, rfl⟩
   rw [vx.1, vx.2, cmpR_at (e := -4000) (by omega) (by omega)]
   congr 1
   show tieM n p * tieM n p * _ = tieM n p * 2 ^ (tieE n p - -2000).toNat * (tieM n p * 2 ^ (tieE n p - -2000).toNat)
   rw [show (tieE n p + tieE n p - -4000).toNat = (tieE n p - -2000).toNat + (tieE n p - -2000).toNat by omega, Nat.pow_add]
   generalize (2 : Nat) ^ (tieE n p - -2000).toNat = u
   generalize tieM n p = t
   grind
end Go.Proofs.Ythofoolgbngobaa.V
namespace Go.Proofs.Ythofoolgbngobaa.Pure
open Go Go.RowKit Go.Proofs.Ythofoolgbngobaa.Ab Go.Proofs.Ythofoolgbngobaa.Fn Go.Proofs.Ythofoolgbngobaa.V
set_option linter.unusedSimpArgs false
set_option linter.unusedVariables false
theorem valOf_eq {a : NM} (h : a.mid) : ∃ l, DL l a.vm ∧ Ev (fun k => verniertop_valOf.f k a.kd a.ng a.sc (a.fr : Int)) (a.vg, l, a.ve) := by
  unfold verniertop_valOf.f NM.vg NM.vm NM.ve
  rcases h with rfl | ⟨h1, h2, h3, h4, h5⟩
  · exact ⟨[], DL.nil, Ev.now _⟩
  · rw [p64] at h3
    obtain ⟨l, k1, k2⟩ := r4_Of a.fr h3
    simp only [if_pos h1]
    refine ⟨l, k2, Ev.bind k1 ?_⟩
    rw [w64 (by omega) (by omega)]
    exact Ev.now _
theorem sign_eq {g : Bool} {l : List Int} {M : Nat} {E : Int} (h : DL l M) : verniertop_sign.f g l E = some (if M = 0 then 0 else if g = true then -1 else 1) := by
  unfold verniertop_sign.f
  rw [nI_eq]
  by_cases h0 : M = 0
  · subst h0
    rw [h.zero, if_pos rfl]; simp
  · have := h.pos (by omega)
    rw [if_neg (by omega), if_neg h0]
    cases g <;> rfl
section
variable {n : Nat} (hn : isW (n : Int) = true)
include hn
theorem j6_ok {o : Int} {P : Nat} {cmp : Nat → Int} {g g' : Bool} {l l' : List Int} {E E' : Int} (p1 : 1 ≤ P) (p2 : P ≤ 2 ^ (n - 1) - 1) (hb : ByTies n P cmp cmp)
    (hbes : ∀ p, p < 2 ^ (n - 1) → ∀ r, DL r (tieM n p) → Ev (fun k => verniertop_beside.f k o g l E g' l' E' false r (tieE n p)) (cmp p)) :
    Ev (fun k => verniertop_TopNearest.j6 k (n : Int) o (P : Int) ((2 ^ (n - 1) : Nat) : Int) g l E g' l' E') true := by
  obtain ⟨b64, b8⟩ := pow64 hn
  have q := two_pos (n - 1)
  have h64 : 2 ^ (n - 1) ≤ 9223372036854775808 := by rw [← p63]; exact pow_le (by omega)
  have e1 : IntKind.u64.wrap (((2 ^ (n - 1) : Nat) : Int) - 1) = ((2 ^ (n - 1) - 1 : Nat) : Int) := by rw [u64_of (by omega) (by omega)]; omega
  have e2 : Int.tmod (P : Int) 2 = ((P % 2 : Nat) : Int) := tmod2 P
  have j7 : ∀ b : Bool, b = decide (P % 2 = 0) → Ev (fun k => verniertop_TopNearest.j7 k (n : Int) o (P : Int) b g l E g' l' E') true := by
    intro b hbb
    refine evs ?_
    simp only [verniertop_TopNearest.j7]
    by_cases h1 : 1 < P
    · obtain ⟨r, k1, k2⟩ := tie_eq b8 b64 (show P - 1 < 2 ^ (n - 1) by omega)
      have e3 : IntKind.u64.wrap ((P : Int) - 1) = ((P - 1 : Nat) : Int) := by rw [u64_of (by omega) (by omega)]; omega
      simp only [if_pos (show (P : Int) > 1 by omega), e3]
      refine Ev.bind k2 (Ev.bind (hbes (P - 1) (by omega) r k1) ?_)
      rcases hb.lo h1 with k | ⟨k, k3⟩
      · simp only [if_pos (show cmp (P - 1) > 0 from k)]
        exact Ev.now _
      · simp only [if_neg (show ¬ cmp (P - 1) > 0 by omega), if_pos k]
        refine evn ?_
        rw [hbb, decide_eq_true k3]
    · simp only [if_neg (show ¬ (P : Int) > 1 by omega)]
      exact Ev.now _
  have hbe : ((((P % 2 : Nat) : Int) == 0) : Bool) = decide (P % 2 = 0) := by
    rw [Bool.eq_iff_iff, beq_iff_eq, decide_eq_true_eq]; omega
  refine evs ?_
  simp only [verniertop_TopNearest.j6, e1, e2, hbe]
  by_cases h1 : P < 2 ^ (n - 1) - 1
  · obtain ⟨r, k1, k2⟩ := tie_eq b8 b64 (show P < 2 ^ (n - 1) by omega)
    simp only [if_pos (show (P : Int) < ((2 ^ (n - 1) - 1 : Nat) : Int) by omega)]
    refine Ev.bind k2 (Ev.bind (hbes P (by omega) r k1) ?_)
    rcases hb.hi h1 with k | ⟨k, k3⟩
    · simp only [if_neg (show ¬ cmp P > 0 by omega), if_neg (show ¬ cmp P = 0 by omega)]
      exact j7 _ rfl
    · simp only [if_neg (show ¬ cmp P > 0 by omega), if_pos k, if_pos (show ((P % 2 : Nat) : Int) = 0 by omega)]
      exact j7 _ rfl
  · simp only [if_neg (show ¬ (P : Int) < ((2 ^ (n - 1) - 1 : Nat) : Int) by omega)]
    exact j7 _ rfl
theorem j4_ok {o s : Int} {x : EX} {cmp : Nat → Int} {g g' : Bool} {l l' : List Int} {E E' : Int} (hr : Res n x s cmp)
    (hbes : ∀ p, p < 2 ^ (n - 1) → ∀ r, DL r (tieM n p) → Ev (fun k => verniertop_beside.f k o g l E g' l' E' false r (tieE n p)) (cmp p)) :
    Ev (fun k => verniertop_TopNearest.j4 k (n : Int) o ((x.rnd n : Nat) : Int) ((2 ^ (n - 1) : Nat) : Int) s g l E g' l' E') true := by
  obtain ⟨b64, b8⟩ := pow64 hn
  have q := two_pos (n - 1)
  have h64 : 2 ^ (n - 1) ≤ 9223372036854775808 := by rw [← p63]; exact pow_le (by omega)
  have h2 := two_halves (n := n) (by omega)
  refine evs ?_
  simp only [verniertop_TopNearest.j4]
  by_cases h0 : s = 0
  · simp only [if_pos h0]
    rw [hr.zero h0, EX.rnd_zero]
    exact Ev.now _
  · simp only [if_neg h0]
    obtain ⟨x1, x2, x3, x4, x5⟩ := hr.real h0
    obtain ⟨b1, b2⟩ := posP_bounds (n := n) (s := x.sc) (V := x.V) (R := x.R) b8 b64 x4
    have hp := rnd_pos (n := n) (sc := x.sc) (V := x.V) (R := x.R) b8 b64 x4 x3
    have hP : x.rnd n = if s < 0 then 2 ^ n - posP n x.sc x.V x.R else posP n x.sc x.V x.R := by
      unfold EX.rnd
      rw [x1, x2]
      by_cases hs : s < 0
      · rw [decide_eq_true hs, rnd_neg, hp, negN_eq b64 b1 (by omega), if_neg (by omega), if_pos hs]
      · rw [decide_eq_false hs, hp, if_neg hs]
    have k6 := j6_ok hn (o := o) (g := g) (g' := g') (l := l) (l' := l') (E := E) (E' := E') b1 b2 x5 hbes
    generalize posP n x.sc x.V x.R = Q at *
    rw [hP]
    by_cases hs : s < 0
    · rw [if_pos hs]
      simp only [if_neg (show ¬ ((2 ^ n - Q : Nat) : Int) = 0 by omega), if_neg (show ¬ ((2 ^ n - Q : Nat) : Int) = ((2 ^ (n - 1) : Nat) : Int) by omega)]
      rw [decide_eq_true (show ((2 ^ n - Q : Nat) : Int) > ((2 ^ (n - 1) : Nat) : Int) by omega), decide_eq_true hs]
      refine evs ?_
      simp only [verniertop_TopNearest.j5, beq_self_eq_true, Bool.not_true, Bool.false_eq_true, if_false, if_pos hs]
      have hneg := ref_Neg_eq hn (x := 2 ^ n - Q) (by omega)
      rw [negN_eq b64 (by omega) (by omega), if_neg (by omega), show 2 ^ n - (2 ^ n - Q) = Q by omega] at hneg
      exact Ev.bind hneg k6
    · rw [if_neg hs]
      simp only [if_neg (show ¬ (Q : Int) = 0 by omega), if_neg (show ¬ (Q : Int) = ((2 ^ (n - 1) : Nat) : Int) by omega)]
      rw [decide_eq_false (show ¬ (Q : Int) > ((2 ^ (n - 1) : Nat) : Int) by omega), decide_eq_false hs]
      refine evs ?_
      simp only [verniertop_TopNearest.j5, beq_self_eq_true, Bool.not_true, Bool.false_eq_true, if_false, if_neg hs]
      exact k6
end
def exE (o : Int) (X Y Z : NM) : EX := if o = 0 then sumX X.ex Y.ex else if o = 1 then sumX X.ex Y.ex.neg else if o = 2 then prodX X Y else if o = 3 then quotX X Y else if o = 4 then rootX X.ex else sumX (prodX X Y) Z.ex
def Pack (n : Nat) (o : Int) (X Y Z : NM) (lx ly lz : List Int) : Prop :=
  ∃ g r E M s cmp, Ev (fun k => verniertop_exact.f k o X.vg lx X.ve Y.vg ly Y.ve Z.vg lz Z.ve) (g, r, E) ∧ DL r M ∧
    s = (if o = 3 then (if M = 0 then (0 : Int) else if g = true then -1 else 1) * (if Y.vm = 0 then 0 else if Y.vg = true then -1 else 1) else (if M = 0 then 0 else if g = true then -1 else 1)) ∧
    Res n (exE o X Y Z) s cmp ∧ ∀ p, p < 2 ^ (n - 1) → ∀ t, DL t (tieM n p) → Ev (fun k => verniertop_beside.f k o g r E Y.vg ly Y.ve false t (tieE n p)) (cmp p)
theorem sgn_z {z : Int} {g : Bool} (hg : z ≠ 0 → g = decide (z < 0)) : (if z.natAbs = 0 then (0 : Int) else if g = true then -1 else 1) = if z < 0 then -1 else if z = 0 then 0 else 1 := by
  by_cases h0 : z = 0
  · subst h0; rfl
  · rw [if_neg (by omega), hg h0, if_neg h0]
    by_cases h : z < 0
    · rw [decide_eq_true h, if_pos rfl, if_pos h]
    · rw [decide_eq_false h, if_neg (by decide), if_neg h]
theorem sg_abs (g : Bool) (m : Nat) : (if g = true then -(m : Int) else (m : Int)).natAbs = m := by cases g <;> simp
theorem natAbs_lt {g1 g2 : Bool} {A B k : Nat} (hA : A < 2 ^ k) (hB : B < 2 ^ k) : (sgI g1 A + sgI g2 B).natAbs < 2 ^ (k + 1) := by
  rw [Nat.pow_succ]
  unfold sgI
  cases g1 <;> cases g2 <;> simp <;> omega
theorem scaled_lt {M a k b : Nat} (hM : M < 2 ^ a) (h : a + k ≤ b) : M * 2 ^ k < 2 ^ b := by
  have : M * 2 ^ k < 2 ^ a * 2 ^ k := Nat.mul_lt_mul_of_pos_right hM (two_pos k)
  rw [← Nat.pow_add] at this
  exact Nat.lt_of_lt_of_le this (pow_le h)
theorem pack_sum {n : Nat} (h8 : 8 ≤ n) (hn : n ≤ 64) {g1 g2 : Bool} {M N : Nat} {E F : Int} (hM : M < 2 ^ 128) (hN : N < 2 ^ 64) (e0 : -700 ≤ E) (e1 : E ≤ 500) (f0 : -350 ≤ F) (f1 : F ≤ 250) {l1 l2 : List Int} (d1 : DL l1 M) (d2 : DL l2 N) :
    ∃ g r z e, Ev (fun k => verniertop_plus.f k g1 l1 E g2 l2 F) (g, r, e) ∧ DL r z.natAbs ∧ (z ≠ 0 → g = decide (z < 0)) ∧ sumX (natX g1 M E false) (natX g2 N F false) = intX z e ∧ (∃ c, c ≤ 1300 ∧ z.natAbs < 2 ^ c) ∧ -700 ≤ e ∧ e ≤ 500 ∧ Res n (intX z e) (if z < 0 then -1 else if z = 0 then 0 else 1) (fun p => cmpR z.natAbs e (tieM n p) (tieE n p)) := by
  obtain ⟨b, hb⟩ : ∃ b : Nat, b = 1200 := ⟨_, rfl⟩
  obtain ⟨g, r, k1, k2, k3⟩ := tplus_eq (g1 := g1) (g2 := g2) (E := E) (F := F) d1 d2 hM hN (by decide) (by decide) (by omega) (by omega) (by omega) (by omega)
  have hz := natAbs_lt (g1 := g1) (g2 := g2) (scaled_lt (k := (E - F).toNat) (b := b) hM (by omega)) (scaled_lt (k := (F - E).toNat) (b := b) hN (by omega))
  have hs := sum_natX (g1 := g1) (g2 := g2) (m1 := M) (m2 := N) (E := E) (F := F) (bl_le_of_lt hM) (Nat.le_trans (bl_le_of_lt hN) (by decide)) (by omega) (by omega) (by omega) (by omega)
  generalize sgI g1 (M * 2 ^ (E - F).toNat) + sgI g2 (N * 2 ^ (F - E).toNat) = z at *
  refine ⟨g, r, z, min E F, k3, k1, k2, hs, ⟨b + 1, by omega, hz⟩, by omega, by omega, ?_⟩
  exact res_int h8 hn (by omega) (by omega) (Nat.le_trans (bl_le_of_lt hz) (by omega))
theorem bes_int {n : Nat} (h8 : 8 ≤ n) (hn : n ≤ 64) {o : Int} (h3 : o ≠ 3) (h4 : o ≠ 4) {g g' : Bool} {r ly : List Int} {E E' : Int} {M : Nat} (hr : DL r M) (hM : ∃ c, c ≤ 1300 ∧ M < 2 ^ c) (e0 : -1500 ≤ E) (e1 : E ≤ 1500) :
    ∀ p, p < 2 ^ (n - 1) → ∀ t, DL t (tieM n p) → Ev (fun k => verniertop_beside.f k o g r E g' ly E' false t (tieE n p)) (cmpR M E (tieM n p) (tieE n p)) := by
  intro p hp t ht
  obtain ⟨t1, t2, t3⟩ := tie_parts h8 hn hp
  obtain ⟨c, hc, hM⟩ := hM
  unfold verniertop_beside.f
  simp only [if_neg h3, if_neg h4]
  exact Ev.bind (tsize_eq hr ht hM t1 hc (by decide) e0 e1 (by omega) (by omega)) (Ev.now _)
theorem pack_all {n : Nat} (h8 : 8 ≤ n) (hn : n ≤ 64) {o : Int} (o0 : 0 ≤ o) (o5 : o < 6) {X Y Z : NM} (hX : X.mid) (hY : Y.mid) (hZ : Z.mid) (h3 : o = 3 → Y.kd = 1) (h4 : o = 4 → X.ng = false) {lx ly lz : List Int} (dx : DL lx X.vm) (dy : DL ly Y.vm) (dz : DL lz Z.vm) :
    Pack n o X Y Z lx ly lz := by
  obtain ⟨xm, xe0, xe1, x0, x1, xk⟩ := NM.mid_v hX
  obtain ⟨ym, ye0, ye1, y0, y1, yk⟩ := NM.mid_v hY
  obtain ⟨zm, ze0, ze1, z0, z1, zk⟩ := NM.mid_v hZ
  have xm128 : X.vm < 2 ^ 128 := Nat.lt_of_lt_of_le xm (pow_le (by decide))
  have prod128 : X.vm * Y.vm < 2 ^ 128 := by
    exact Nat.lt_of_lt_of_le (Nat.mul_lt_mul_of_lt_of_le xm (Nat.le_of_lt ym) (two_pos 64)) (by rw [← Nat.pow_add]; exact Nat.le_refl _)
  unfold Pack exE
  have ho : o = 0 ∨ o = 1 ∨ o = 2 ∨ o = 3 ∨ o = 4 ∨ o = 5 := by omega
  rcases ho with rfl | rfl | rfl | rfl | rfl | rfl
  · obtain ⟨g, r, z, e, k1, k2, k3, k4, k5, k6, k7, k8⟩ := pack_sum h8 hn (g1 := X.vg) (g2 := Y.vg) (E := X.ve) (F := Y.ve) xm128 ym (by omega) (by omega) (by omega) (by omega) dx dy
    refine ⟨g, r, e, _, _, _, ?_, k2, rfl, ?_, bes_int h8 hn (by decide) (by decide) k2 k5 (by omega) (by omega)⟩
    · unfold verniertop_exact.f
      exact Ev.bind k1 (Ev.now _)
    · rw [if_pos rfl, if_neg (by decide), sgn_z k3, ex_natX hX, ex_natX hY, k4]; exact k8
  · obtain ⟨g, r, z, e, k1, k2, k3, k4, k5, k6, k7, k8⟩ := pack_sum h8 hn (g1 := X.vg) (g2 := !Y.vg) (E := X.ve) (F := Y.ve) xm128 ym (by omega) (by omega) (by omega) (by omega) dx dy
    refine ⟨g, r, e, _, _, _, ?_, k2, rfl, ?_, bes_int h8 hn (by decide) (by decide) k2 k5 (by omega) (by omega)⟩
    · unfold verniertop_exact.f
      exact Ev.bind k1 (Ev.now _)
    · rw [if_neg (by decide), if_pos rfl, if_neg (by decide), sgn_z k3, ex_natX hX, ex_natX hY, ← natX_neg, k4]; exact k8
  · obtain ⟨r, k1, k2⟩ := ttimes_eq (g1 := X.vg) (g2 := Y.vg) dx dy xm ym (by decide) (by decide) (by omega : -1500 ≤ X.ve) (by omega) (by omega : -1500 ≤ Y.ve) (by omega)
    have hr := res_int (n := n) (z := if (X.vg != Y.vg) then -((X.vm * Y.vm : Nat) : Int) else ((X.vm * Y.vm : Nat) : Int)) (e := X.ve + Y.ve) h8 hn (by omega) (by omega) (by
      have : (if (X.vg != Y.vg) = true then -((X.vm * Y.vm : Nat) : Int) else ((X.vm * Y.vm : Nat) : Int)).natAbs = X.vm * Y.vm := sg_abs _ _
      rw [this]; exact Nat.le_trans (bl_le_of_lt prod128) (by decide))
    rw [intX_nat] at hr
    have hna : (if (X.vg != Y.vg) = true then -((X.vm * Y.vm : Nat) : Int) else ((X.vm * Y.vm : Nat) : Int)).natAbs = X.vm * Y.vm := sg_abs _ _
    rw [hna] at hr
    have hsg : (if X.vm * Y.vm = 0 then (0 : Int) else if (X.vg != Y.vg) = true then -1 else 1) = if (if (X.vg != Y.vg) = true then -((X.vm * Y.vm : Nat) : Int) else ((X.vm * Y.vm : Nat) : Int)) < 0 then -1 else if (if (X.vg != Y.vg) = true then -((X.vm * Y.vm : Nat) : Int) else ((X.vm * Y.vm : Nat) : Int)) = 0 then 0 else 1 := by
      have := sgn_z (z := if (X.vg != Y.vg) = true then -((X.vm * Y.vm : Nat) : Int) else ((X.vm * Y.vm : Nat) : Int)) (g := (X.vg != Y.vg)) (fun h => by
        generalize X.vm * Y.vm = m at *
        cases (X.vg != Y.vg)
        · simp <;> omega
        · simp at h ⊢; omega)
      rw [hna] at this
      exact this
    refine ⟨(X.vg != Y.vg), r, X.ve + Y.ve, X.vm * Y.vm, _, _, ?_, k1, rfl, ?_, bes_int (E := X.ve + Y.ve) h8 hn (by decide) (by decide) k1 ⟨128, by decide, prod128⟩ (by omega) (by omega)⟩
    · unfold verniertop_exact.f
      exact Ev.bind k2 (Ev.now _)
    · rw [if_neg (by decide), if_neg (by decide), if_pos rfl, if_neg (by decide), prod_natX hX hY, hsg]; exact hr
  · have hy1 := h3 rfl
    have hyv : Y.vm ≠ 0 := by have := y1 hy1; have q := two_pos 63; omega
    have hr := res_quot h8 hn hX hY hy1
    refine ⟨X.vg, lx, X.ve, X.vm, _, fun p => cmpR X.vm X.ve (tieM n p * Y.vm) (tieE n p + Y.ve), ?_, dx, rfl, ?_, fun p hp t ht => ?_⟩
    · unfold verniertop_exact.f
      exact Ev.now _
    · rw [if_neg (by decide), if_neg (by decide), if_neg (by decide), if_pos rfl, if_pos rfl]
      have es : (if X.vm = 0 then (0 : Int) else if X.vg = true then -1 else 1) * (if Y.vm = 0 then 0 else if Y.vg = true then -1 else 1) = if X.kd = 0 then 0 else if (X.ng != Y.ng) = true then -1 else 1 := by
        rw [if_neg hyv]
        have vgy : Y.vg = Y.ng := by unfold NM.vg; rw [if_pos hy1]
        rcases xk with hk | hk
        · rw [if_pos (x0 hk), if_pos hk, Int.zero_mul]
        · have : X.vm ≠ 0 := by have := x1 hk; have q := two_pos 63; omega
          have vgx : X.vg = X.ng := by unfold NM.vg; rw [if_pos hk]
          rw [if_neg this, if_neg (show ¬ X.kd = 0 by omega), vgx, vgy]
          cases X.ng <;> cases Y.ng <;> rfl
      rw [es]; exact hr
    · obtain ⟨t1, t2, t3⟩ := tie_parts h8 hn hp
      obtain ⟨r, m1, m2⟩ := ttimes_eq (g1 := false) (g2 := Y.vg) ht dy t1 ym (by decide) (by decide) (by omega : -1500 ≤ tieE n p) (by omega) (by omega : -1500 ≤ Y.ve) (by omega)
      unfold verniertop_beside.f
      simp only [if_true]
      refine Ev.bind m2 (Ev.bind (tsize_eq (E := X.ve) (F := tieE n p + Y.ve) dx m1 (b := 128) xm ?_ (by decide) (by decide) (by omega) (by omega) (by omega) (by omega)) (Ev.now _))
      exact Nat.lt_of_lt_of_le (Nat.mul_lt_mul_of_lt_of_le t1 (Nat.le_of_lt ym) (two_pos 64)) (by rw [← Nat.pow_add]; exact Nat.le_refl _)
  · have hg := h4 rfl
    have hr := res_root h8 hn hX hg
    have vgx : X.vg = false := by unfold NM.vg; split; exact hg; rfl
    refine ⟨X.vg, lx, X.ve, X.vm, _, fun p => cmpR X.vm X.ve (tieM n p * tieM n p) (tieE n p + tieE n p), ?_, dx, rfl, ?_, fun p hp t ht => ?_⟩
    · unfold verniertop_exact.f
      exact Ev.now _
    · rw [if_neg (by decide), if_neg (by decide), if_neg (by decide), if_neg (by decide), if_pos rfl, if_neg (by decide)]
      have es : (if X.vm = 0 then (0 : Int) else if X.vg = true then -1 else 1) = if X.kd = 0 then 0 else 1 := by
        rw [vgx]
        rcases xk with hk | hk
        · rw [if_pos (x0 hk), if_pos hk]
        · have : X.vm ≠ 0 := by have := x1 hk; have q := two_pos 63; omega
          rw [if_neg this, if_neg (show ¬ X.kd = 0 by omega)]; rfl
      rw [es]; exact hr
    · obtain ⟨t1, t2, t3⟩ := tie_parts h8 hn hp
      obtain ⟨r, m1, m2⟩ := ttimes_eq (g1 := false) (g2 := false) ht ht t1 t1 (by decide) (by decide) (by omega : -1500 ≤ tieE n p) (by omega) (by omega : -1500 ≤ tieE n p) (by omega)
      have tp : 0 < tieM n p := by unfold tieM; have := two_pos (dLf n (2 * p + 1)); omega
      unfold verniertop_beside.f
      simp only [if_neg (show ¬ (4 : Int) = 3 by decide), if_true]
      refine Ev.bind m2 (Ev.bind (tsize_eq (E := X.ve) (F := tieE n p + tieE n p) dx m1 (b := 128) xm ?_ (by decide) (by decide) (by omega) (by omega) (by omega) (by omega)) (Ev.now _))
      exact Nat.lt_of_lt_of_le (Nat.mul_lt_mul_of_lt_of_le t1 (Nat.le_of_lt t1) (two_pos 64)) (by rw [← Nat.pow_add]; exact Nat.le_refl _)
  · obtain ⟨r, k1, k2⟩ := ttimes_eq (g1 := X.vg) (g2 := Y.vg) dx dy xm ym (by decide) (by decide) (by omega : -1500 ≤ X.ve) (by omega) (by omega : -1500 ≤ Y.ve) (by omega)
    obtain ⟨g, r2, z, e, m1, m2, m3, m4, m5, m6, m7, m8⟩ := pack_sum h8 hn (g1 := (X.vg != Y.vg)) (g2 := Z.vg) (E := X.ve + Y.ve) (F := Z.ve) prod128 zm (by omega : -700 ≤ X.ve + Y.ve) (by omega) (by omega) (by omega) k1 dz
    refine ⟨g, r2, e, _, _, _, ?_, m2, rfl, ?_, bes_int h8 hn (by decide) (by decide) m2 m5 (by omega) (by omega)⟩
    · unfold verniertop_exact.f
      exact Ev.bind k2 (Ev.bind m1 (Ev.now _))
    · rw [if_neg (by decide), if_neg (by decide), if_neg (by decide), if_neg (by decide), if_neg (by decide), if_neg (by decide), sgn_z m3, prod_natX hX hY, ex_natX hZ, m4]; exact m8
theorem mid_of {a : NM} (h : a.ok) (hk : a.kd ≠ 2) (h0 : -260 ≤ a.sc) (h1 : a.sc ≤ 260) : a.mid := by
  rcases NM.cases h with e | e | ⟨a1, a2, a3, -, -⟩
  · exact .inl e
  · rw [e] at hk; exact absurd rfl hk
  · exact .inr ⟨a1, a2, a3, h0, h1⟩
theorem j2_ok {n : Nat} (hn : isW (n : Int) = true) {o : Int} (o0 : 0 ≤ o) (o5 : o < 6) {X Y Z : NM} (hX : X.ok) (hY : Y.ok) (hZ : Z.ok) (sX : -260 ≤ X.sc ∧ X.sc ≤ 260) (sY : -260 ≤ Y.sc ∧ Y.sc ≤ 260) (sZ : -260 ≤ Z.sc ∧ Z.sc ≤ 260) {P : Nat}
    (hP : P = (exE o X Y Z).rnd n) (hnar : (X.kd = 2 ∨ Y.kd = 2 ∨ Z.kd = 2 ∨ (o = 3 ∧ Y.kd = 0) ∨ (o = 4 ∧ X.ng = true)) → P = 2 ^ (n - 1)) :
    Ev (fun k => verniertop_TopNearest.j2 k (n : Int) o (P : Int) X.kd X.ng X.sc (X.fr : Int) Y.kd Y.ng Y.sc (Y.fr : Int) Z.kd Z.ng Z.sc (Z.fr : Int)) true := by
  obtain ⟨b64, b8⟩ := pow64 hn
  have e1 : wrap64 ((n : Int) - 1) = ((n - 1 : Nat) : Int) := by rw [w64 (by omega) (by omega)]; omega
  have bad : ∀ b, b = true → (X.kd = 2 ∨ Y.kd = 2 ∨ Z.kd = 2 ∨ (o = 3 ∧ Y.kd = 0) ∨ (o = 4 ∧ X.ng = true)) → Ev (fun k => verniertop_TopNearest.j3 k (n : Int) o (P : Int) ((2 ^ (n - 1) : Nat) : Int) b X.kd X.ng X.sc (X.fr : Int) Y.kd Y.ng Y.sc (Y.fr : Int) Z.kd Z.ng Z.sc (Z.fr : Int)) true := by
    intro b hb h
    subst hb
    refine evs ?_
    simp only [verniertop_TopNearest.j3, if_true]
    rw [hnar h]
    exact evn (by rw [beq_self_eq_true])
  have good : ∀ b, b = false → X.kd ≠ 2 → Y.kd ≠ 2 → Z.kd ≠ 2 → (o = 3 → Y.kd = 1) → (o = 4 → X.ng = false) → Ev (fun k => verniertop_TopNearest.j3 k (n : Int) o (P : Int) ((2 ^ (n - 1) : Nat) : Int) b X.kd X.ng X.sc (X.fr : Int) Y.kd Y.ng Y.sc (Y.fr : Int) Z.kd Z.ng Z.sc (Z.fr : Int)) true := by
    intro b hb kX kY kZ h3 h4
    subst hb
    have mX := mid_of hX kX sX.1 sX.2
    have mY := mid_of hY kY sY.1 sY.2
    have mZ := mid_of hZ kZ sZ.1 sZ.2
    obtain ⟨lx, dx, vx⟩ := valOf_eq mX
    obtain ⟨ly, dy, vy⟩ := valOf_eq mY
    obtain ⟨lz, dz, vz⟩ := valOf_eq mZ
    obtain ⟨g, r, E, M, s, cmp, p1, p2, p3, p4, p5⟩ := pack_all b8 b64 o0 o5 mX mY mZ h3 h4 dx dy dz
    have k4 := j4_ok hn (o := o) p4 p5
    refine evs ?_
    simp only [verniertop_TopNearest.j3, Bool.false_eq_true, if_false]
    refine Ev.bind vx (Ev.bind vy (Ev.bind vz (Ev.bind p1 (Ev.bind vy (Ev.bind (evn (sign_eq p2)) ?_)))))
    rw [hP]
    by_cases ho : o = 3
    · simp only [if_pos ho] at p3 ⊢
      refine Ev.bind (evn (sign_eq dy)) ?_
      have ew : wrap64 ((if M = 0 then (0 : Int) else if g = true then -1 else 1) * (if Y.vm = 0 then 0 else if Y.vg = true then -1 else 1)) = s := by
        rw [← p3]
        refine w64 ?_ ?_ <;> · rw [p3]; repeat' split
                               all_goals decide
      rw [ew]
      exact k4
    · simp only [if_neg ho] at p3 ⊢
      rw [← p3]
      exact k4
  refine evs ?_
  simp only [verniertop_TopNearest.j2, e1]
  refine Ev.bind (ref_Power_eq (by omega)) ?_
  by_cases c1 : X.kd = 2
  · simp only [if_pos c1]; exact bad _ rfl (.inl c1)
  · simp only [if_neg c1]
    by_cases c2 : Y.kd = 2
    · simp only [if_pos c2]; exact bad _ rfl (.inr (.inl c2))
    · simp only [if_neg c2]
      by_cases c3 : Z.kd = 2
      · simp only [if_pos c3]; exact bad _ rfl (.inr (.inr (.inl c3)))
      · simp only [if_neg c3]
        by_cases c4 : o = 3
        · simp only [if_pos c4]
          by_cases c5 : Y.kd = 0
          · simp only [if_pos c5]; exact bad _ rfl (.inr (.inr (.inr (.inl ⟨c4, c5⟩))))
          · have y1 : Y.kd = 1 := by
              rcases NM.cases hY with e | e | ⟨a1, -⟩
              · rw [e] at c5; exact absurd rfl c5
              · rw [e] at c2; exact absurd rfl c2
              · exact a1
            simp only [if_neg c5, if_neg (show ¬ o = 4 by omega)]
            exact good _ rfl c1 c2 c3 (fun _ => y1) (fun h => by omega)
        · simp only [if_neg c4]
          by_cases c5 : o = 4
          · simp only [if_pos c5]
            cases hg : X.ng
            · have := good false rfl c1 c2 c3 (fun h => by omega) (fun _ => hg)
              rw [hg] at this
              exact this
            · have := bad true rfl (.inr (.inr (.inr (.inr ⟨c5, hg⟩))))
              rw [hg] at this
              exact this
          · simp only [if_neg c5]
            exact good _ rfl c1 c2 c3 (fun h => by omega) (fun h => by omega)
theorem pick_eq (c : Int) (h0 : -9223372036854775808 ≤ c) (h1 : c < 9223372036854775808) : ∃ o, verniertop_pick.f c 6 = some o ∧ 0 ≤ o ∧ o < 6 := by
  unfold verniertop_pick.f
  by_cases h : c < 0
  · rw [if_pos h, if_neg (by decide), w64 (n := c + 1) (by omega) (by omega), w64 (n := -(c + 1)) (by omega) (by omega)]
    refine ⟨_, rfl, ?_, ?_⟩
    · exact Int.tmod_nonneg _ (by omega)
    · exact Int.tmod_lt_of_pos _ (by decide)
  · rw [if_neg h, if_neg (by decide)]
    refine ⟨_, rfl, ?_, ?_⟩
    · exact Int.tmod_nonneg _ (by omega)
    · exact Int.tmod_lt_of_pos _ (by decide)
theorem TopNearest : verniertop_TopNearest.Pure := by
  intro n op a b c w0 w1 w2 w3 w4
  obtain ⟨a, rfl, ha⟩ := u64_nat w2
  obtain ⟨b, rfl, hb⟩ := u64_nat w3
  obtain ⟨c, rfl, hc⟩ := u64_nat w4
  have wo := wf_i64 w1
  obtain ⟨o, ho, o0, o5⟩ := pick_eq op wo.1 wo.2
  refine Ev.rounds (g := fun k => verniertop_TopNearest.f k n op (a : Int) (b : Int) (c : Int)) ?_
  unfold verniertop_TopNearest.f
  refine Ev.bind (evn ho) ?_
  have oc : o = 0 ∨ o = 1 ∨ o = 2 ∨ o = 3 ∨ o = 4 ∨ o = 5 := by omega
  by_cases hn : isW n = true
  · obtain ⟨n, rfl, _⟩ := isW_nat hn
    obtain ⟨b64, b8⟩ := pow64 hn
    have hx := Nat.mod_lt a (two_pos n)
    have hy := Nat.mod_lt b (two_pos n)
    have hz := Nat.mod_lt c (two_pos n)
    have okX := decN_ok b8 b64 hx
    have okY := decN_ok b8 b64 hy
    have okZ := decN_ok b8 b64 hz
    have sX := decN_sc (n := n) (x := a % 2 ^ n) b64
    have sY := decN_sc (n := n) (x := b % 2 ^ n) b64
    have sZ := decN_sc (n := n) (x := c % 2 ^ n) b64
    have okO : NM.ok ⟨0, false, 0, 0⟩ := ⟨rfl, by decide⟩
    have dX := ref_Decode_N hn ha
    have dY := ref_Decode_N hn hb
    have dZ := ref_Decode_N hn hc
    have done : Ev (fun k => verniertop_done.f k (n : Int) o (a : Int) (b : Int) (c : Int)) ((((exE o (decN n (a % 2 ^ n)) (decN n (b % 2 ^ n)) (decN n (c % 2 ^ n))).rnd n : Nat) : Int), none) := by
      unfold verniertop_done.f exE
      rcases oc with rfl | rfl | rfl | rfl | rfl | rfl
      · exact Ev.bind (sum_Add_eq hn ha hb) (Ev.now _)
      · have := sum_Sub_eq hn ha hb
        unfold addN at this
        rw [decN_neg (by omega) hy, NM.neg_ex] at this
        exact Ev.bind this (Ev.now _)
      · exact Ev.bind (prod_Mul_eq hn ha hb) (Ev.now _)
      · exact Ev.bind (quot_Div_eq hn ha hb) (Ev.now _)
      · exact Ev.bind (root_Sqrt_eq hn ha) (Ev.now _)
      · exact Ev.bind (fuse_Fma_eq hn ha hb hc) (Ev.now _)
    refine Ev.bind done (Ev.bind (evn (ref_Is_eq _)) ?_)
    rw [hn]
    simp only [if_true, Option.isNone_none]
    refine Ev.bind dX (Ev.bind dY (Ev.bind dZ ?_))
    generalize decN n (a % 2 ^ n) = X at *
    generalize decN n (b % 2 ^ n) = Y at *
    generalize decN n (c % 2 ^ n) = Z at *
    -- the parts that an operation does not look at
    have nar : ∀ x : EX, x = EX.nar → x.rnd n = 2 ^ (n - 1) := fun x h => by rw [h]; exact EX.rnd_nar n
    by_cases h4 : o = 4
    · subst h4
      simp only [if_true]
      refine evs ?_
      simp only [verniertop_TopNearest.j1, if_neg (show ¬ (4 : Int) = 5 by decide)]
      have := j2_ok hn (o := 4) (by decide) (by decide) (X := X) (Y := ⟨0, false, 0, 0⟩) (Z := ⟨0, false, 0, 0⟩) okX okO okO sX ⟨by decide, by decide⟩ ⟨by decide, by decide⟩ (P := (exE 4 X Y Z).rnd n) rfl (fun h => by
        refine nar _ ?_
        show rootX X.ex = EX.nar
        rcases h with h | h | h | h | h
        · unfold rootX NM.ex
          rw [if_neg (by simp [h]), if_pos (.inl h)]
        · cases h
        · cases h
        · exact absurd h.1 (by decide)
        · have hk : X.kd ≠ 0 := by
            intro h0
            rcases NM.cases okX with e | e | ⟨a1, -⟩
            · rw [e] at h; cases h.2
            · rw [e] at h0; cases h0
            · omega
          unfold rootX NM.ex
          rw [if_neg hk, if_pos (.inr h.2)])
      exact this
    · simp only [if_neg h4]
      refine evs ?_
      simp only [verniertop_TopNearest.j1]
      by_cases h5 : o = 5
      · subst h5
        simp only [if_true]
        exact j2_ok hn (o := 5) (by decide) (by decide) (X := X) (Y := Y) (Z := Z) okX okY okZ sX sY sZ (P := (exE 5 X Y Z).rnd n) rfl (fun h => by
          refine nar _ ?_
          show sumX (prodX X Y) Z.ex = EX.nar
          have pn : X.kd = 2 ∨ Y.kd = 2 → prodX X Y = EX.nar := fun h => by unfold prodX; rw [if_pos h]
          rcases h with h | h | h | h | h
          · rw [pn (.inl h)]; exact sumX_nar (.inl rfl)
          · rw [pn (.inr h)]; exact sumX_nar (.inl rfl)
          · exact sumX_nar (.inr h)
          · exact absurd h.1 (by decide)
          · exact absurd h.1 (by decide))
      · simp only [if_neg h5]
        have hoz : ∀ Z' : NM, exE o X Y Z' = exE o X Y Z := fun Z' => by
          unfold exE
          rcases oc with rfl | rfl | rfl | rfl | rfl | rfl
          · rfl
          · rfl
          · rfl
          · rfl
          · rfl
          · exact absurd rfl h5
        exact j2_ok hn (o := o) o0 o5 (X := X) (Y := Y) (Z := ⟨0, false, 0, 0⟩) okX okY okO sX sY ⟨by decide, by decide⟩ (P := (exE o X Y Z).rnd n) (by rw [hoz ⟨0, false, 0, 0⟩]) (fun h => by
          refine nar _ ?_
          unfold exE
          rcases oc with rfl | rfl | rfl | rfl | rfl | rfl
          · rcases h with h | h | h | h | h
            · exact sumX_nar (.inl h)
            · exact sumX_nar (.inr h)
            · cases h
            · exact absurd h.1 (by decide)
            · exact absurd h.1 (by decide)
          · rcases h with h | h | h | h | h
            · exact sumX_nar (.inl h)
            · exact sumX_nar (.inr (by rw [EX.neg_kd]; exact h))
            · cases h
            · exact absurd h.1 (by decide)
            · exact absurd h.1 (by decide)
          · rcases h with h | h | h | h | h
            · show prodX X Y = _; unfold prodX; rw [if_pos (.inl h)]
            · show prodX X Y = _; unfold prodX; rw [if_pos (.inr h)]
            · cases h
            · exact absurd h.1 (by decide)
            · exact absurd h.1 (by decide)
          · rcases h with h | h | h | h | h
            · show quotX X Y = _; unfold quotX; rw [if_pos (.inl h)]
            · show quotX X Y = _; unfold quotX; rw [if_pos (.inr (by omega))]
            · cases h
            · show quotX X Y = _; unfold quotX; rw [if_pos (.inr (by have := h.2; omega))]
            · exact absurd h.1 (by decide)
          · exact absurd rfl h4
          · exact absurd rfl h5)
  · have hn : isW n = false := by simpa using hn
    have done : Ev (fun k => verniertop_done.f k n o (a : Int) (b : Int) (c : Int)) (0, some 2) := by
      unfold verniertop_done.f
      rcases oc with rfl | rfl | rfl | rfl | rfl | rfl
      · exact Ev.bind (sum_Add_no hn _ _) (Ev.now _)
      · exact Ev.bind (sum_Sub_no hn _ _) (Ev.now _)
      · exact Ev.bind (prod_Mul_no hn _ _) (Ev.now _)
      · exact Ev.bind (quot_Div_no hn _ _) (Ev.now _)
      · exact Ev.bind (root_Sqrt_no hn _) (Ev.now _)
      · exact Ev.bind (fuse_Fma_no hn _ _ _) (Ev.now _)
    refine Ev.bind done (Ev.bind (evn (ref_Is_eq _)) ?_)
    rw [hn]
    simp only [Bool.false_eq_true, if_false, Option.isNone_some, Option.getD_some, if_true]
    refine evs ?_
    simp only [verniertop_TopNearest.j0]
    exact Ev.now _
end Go.Proofs.Ythofoolgbngobaa.Pure
