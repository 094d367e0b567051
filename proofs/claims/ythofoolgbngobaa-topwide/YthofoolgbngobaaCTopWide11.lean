-- Written by a program of this session out of its own texts (wip/tools/link.py).
import Derived.Below
import Derived.ChangeKeysEq
import Derived.Deep.MidRow
import Derived.Deep.RegionHeld3
import Derived.Great.BuildSlice
import Derived.IntWalk
import Derived.KernelRfl
import Derived.LaidEql
import Derived.Laws.Bits64
import Derived.Laws.BitsLemmas
import Derived.Laws.BytesArg
import Derived.Laws.IdiomCopy
import Derived.Laws.OwnMore
import Derived.Laws.Rows
import Derived.Laws.Slices
import Derived.Laws.Strings
import Derived.Laws.StructEq
import Derived.Laws.Tables
import Derived.Lib.BitFns
import Derived.Lib.Mul64
import Derived.Lib.Slices
import Derived.Lib.Small
import Derived.Lib.Strings
import Derived.Lib.Walk
import Derived.Maps.AppendAt
import Derived.OrdersHeld
import Derived.RowKit
import Derived.Shelf.Spec.BitsCarry
import Derived.Test.YthofoolgbngobaaProg
import Derived.Test.YthofoolgbngobaaCTopWide7
import Derived.Test.YthofoolgbngobaaCTopWide8
import Derived.Test.YthofoolgbngobaaCTopWide9
import Derived.Test.YthofoolgbngobaaCTopWide10
namespace Go.Proofs.Ythofoolgbngobaa.V
open Go Go.RowKit Go.Proofs.Ythofoolgbngobaa.Ab Go.Proofs.Ythofoolgbngobaa.Fn
set_option linter.unusedVariables false
set_option linter.unusedSimpArgs false
theorem beq_dec (a b : Int) : (a == b) = decide (a = b) := by by_cases h : a = b <;> simp [h]
theorem mask32 (a : Nat) (ha : a < 18446744073709551616) : Go.bits .and .u64 (a : Int) 4294967295 = ((a % 4294967296 : Nat) : Int) := and_mask a 32 ha (by decide)
theorem div32 (a : Nat) : (a : Int) / 4294967296 = ((a / 4294967296 : Nat) : Int) := by omega
theorem mulC (a b : Nat) : (a : Int) * (b : Int) = ((a * b : Nat) : Int) := (Int.natCast_mul a b).symm
theorem addC (a b : Nat) : (a : Int) + (b : Int) = ((a + b : Nat) : Int) := (Int.natCast_add a b).symm
theorem wrapN (a : Nat) (ha : a < 18446744073709551616) : IntKind.u64.wrap (a : Int) = (a : Int) := u64_of (by omega) (by omega)
theorem bits_Mul64_eq {x y : Nat} (hx : x < 18446744073709551616) (hy : y < 18446744073709551616) : bits_Mul64.f (x : Int) (y : Int) = some (TH (x * y), TL (x * y)) := by
 obtain ⟨bd, bt, bw, hhi⟩ := Lib.mul64_hi x y hx hy
 have ba := Lib.half_mul_le (a := x / 4294967296) (b := y / 4294967296) (by omega) (by omega)
 have bb := Lib.half_mul_le (a := x / 4294967296) (b := y % 4294967296) (by omega) (by omega)
 have bc := Lib.half_mul_le (a := x % 4294967296) (b := y / 4294967296) (by omega) (by omega)
 have ba' : x / 4294967296 * (y / 4294967296) < 18446744073709551616 := by omega
 have bb' : x / 4294967296 * (y % 4294967296) < 18446744073709551616 := by omega
 have bc' : x % 4294967296 * (y / 4294967296) < 18446744073709551616 := by omega
 have bh1 : x / 4294967296 * (y / 4294967296) + (x / 4294967296 * (y % 4294967296) + x % 4294967296 * (y % 4294967296) / 4294967296) / 4294967296 < 18446744073709551616 := by omega
 have bh : x / 4294967296 * (y / 4294967296) + (x / 4294967296 * (y % 4294967296) + x % 4294967296 * (y % 4294967296) / 4294967296) / 4294967296 + ((x / 4294967296 * (y % 4294967296) + x % 4294967296 * (y % 4294967296) / 4294967296) % 4294967296 + x % 4294967296 * (y / 4294967296)) / 4294967296 < 18446744073709551616 := by omega
 unfold bits_Mul64.f
 simp only [mask32 x hx, mask32 y hy, div32, mulC, addC, wrapN _ bd, wrapN _ bb', wrapN _ bt, mask32 _ bt, wrapN _ bc', wrapN _ bw, wrapN _ ba', wrapN _ bh1, wrapN _ bh, u64_nat_wrap (x * y)]
 rw [hhi]
 rfl
theorem twin_Mul_eq {x y : Nat} (hx : x < 18446744073709551616) (hy : y < 18446744073709551616) : twin_Mul.f (x : Int) (y : Int) = some (TH (x * y), TL (x * y)) := by
 unfold twin_Mul.f
 rw [bits_Mul64_eq hx hy]; rfl
theorem mul_lt128 {x y : Nat} (hx : x < 18446744073709551616) (hy : y < 18446744073709551616) : x * y < 2 ^ 128 := by
 have := Nat.mul_le_mul (show x ≤ 18446744073709551615 by omega) (show y ≤ 18446744073709551615 by omega)
 rw [p128]
 omega
def prodE (kd : Int) (ng : Bool) (sc : Int) (fr : Nat) (kd' : Int) (ng' : Bool) (sc' : Int) (fr' : Nat) : Int × Bool × Int × Int × Int × Bool :=
 if kd = 2 ∨ kd' = 2 then (2, false, 0, 0, 0, false) else if kd = 0 ∨ kd' = 0 then (0, false, 0, 0, 0, false)
 else exactE (ng != ng') (fr * fr') (sc + sc' - 126) false
theorem soundN_cases {kd sc fr : Int} {ng : Bool} (h : soundN kd ng sc fr = true) : (kd = 0 ∧ ng = false ∧ sc = 0 ∧ fr = 0) ∨ (kd = 2 ∧ ng = false ∧ sc = 0 ∧ fr = 0) ∨ (kd = 1 ∧ 9223372036854775808 ≤ fr ∧ -1073741824 ≤ sc ∧ sc ≤ 1073741824) := by
 unfold soundN at h
 split at h
 ·rename_i hk
  have : ng = false ∧ sc = 0 ∧ fr = 0 := by simpa using h
  rcases hk with hk | hk
  ·exact .inl ⟨hk, this⟩
  ·exact .inr (.inl ⟨hk, this⟩)
 ·exact .inr (.inr (of_decide_eq_true h))
theorem makeV_exactE {ng R : Bool} {V : Nat} {e : Int} (hV : V < 2 ^ 128) (h0 : -4398046511104 ≤ e) (h1 : e ≤ 4398046511104) :
  makeV ng V e R = ((exactE ng V e R).1, (exactE ng V e R).2.1, (exactE ng V e R).2.2.1, (exactE ng V e R).2.2.2.1, (exactE ng V e R).2.2.2.2.1, (exactE ng V e R).2.2.2.2.2, none) := by
 unfold makeV exactE
 by_cases hz : V = 0
 ·rw [if_pos hz, if_pos hz]
 ·rw [if_neg hz, if_neg hz]
  have hb := bl_le_of_lt hV
  have hr : mkR V R = R := by unfold mkR; rw [show bl V - 128 = 0 by omega, Nat.pow_zero, Nat.mod_one]; simp
  have hf : farI e = e := by unfold farI; rw [if_neg (by omega), if_neg (by omega)]
  rw [hr, hf]
theorem prod_Exact_eq (kd : Int) (ng : Bool) (sc : Int) (fr : Nat) (kd' : Int) (ng' : Bool) (sc' : Int) (fr' : Nat) (hf : fr < 18446744073709551616) (hf' : fr' < 18446744073709551616) :
  Ev (fun k => prod_Exact.f k kd ng sc (fr : Int) kd' ng' sc' (fr' : Int)) (if soundN kd ng sc fr = true ∧ soundN kd' ng' sc' fr' = true then
   ((prodE kd ng sc fr kd' ng' sc' fr').1, (prodE kd ng sc fr kd' ng' sc' fr').2.1, (prodE kd ng sc fr kd' ng' sc' fr').2.2.1, (prodE kd ng sc fr kd' ng' sc' fr').2.2.2.1, (prodE kd ng sc fr kd' ng' sc' fr').2.2.2.2.1, (prodE kd ng sc fr kd' ng' sc' fr').2.2.2.2.2, none)
   else (0, false, 0, 0, 0, false, some 1)) := by
 unfold prod_Exact.f
 refine Ev.bind (round_Of_eq kd ng sc fr (by omega) (by omega)) ?_
 by_cases h1 : soundN kd ng sc fr = true
 ·simp only [h1, if_true, Option.isNone_none, true_and]
  refine Ev.bind (round_Of_eq kd' ng' sc' fr' (by omega) (by omega)) ?_
  by_cases h2 : soundN kd' ng' sc' fr' = true
  ·simp only [h2, if_true, Option.isNone_none]
   have c1 := soundN_cases h1
   have c2 := soundN_cases h2
   have j1 : Ev (fun k => prod_Exact.j0 k (decide (kd = 2 ∨ kd' = 2)) kd ng sc (fr : Int) kd' ng' sc' (fr' : Int)) ((prodE kd ng sc fr kd' ng' sc' fr').1, (prodE kd ng sc fr kd' ng' sc' fr').2.1, (prodE kd ng sc fr kd' ng' sc' fr').2.2.1, (prodE kd ng sc fr kd' ng' sc' fr').2.2.2.1, (prodE kd ng sc fr kd' ng' sc' fr').2.2.2.2.1, (prodE kd ng sc fr kd' ng' sc' fr').2.2.2.2.2, none) := by
    refine evs ?_
    simp only [prod_Exact.j0]
    unfold prodE
    by_cases hk : kd = 2 ∨ kd' = 2
    ·simp only [if_pos hk, decide_eq_true hk, if_true]
     exact Ev.now _
    ·simp only [if_neg hk, decide_eq_false hk, Bool.false_eq_true, if_false]
     have j2 : Ev (fun k => prod_Exact.j1 k (decide (kd = 0 ∨ kd' = 0)) ng sc (fr : Int) ng' sc' (fr' : Int)) (if kd = 0 ∨ kd' = 0 then (0, false, 0, 0, 0, false, none) else makeV (ng != ng') (fr * fr') (sc + sc' - 126) false) := by
      refine evs ?_
      simp only [prod_Exact.j1]
      by_cases h0 : kd = 0 ∨ kd' = 0
      ·simp only [if_pos h0, decide_eq_true h0, if_true]
       exact Ev.now _
      ·simp only [if_neg h0, decide_eq_false h0, Bool.false_eq_true, if_false]
       have ew : wrap64 (wrap64 (sc + sc') - 126) = sc + sc' - 126 := by
        rw [w64 (n := sc + sc') (by omega) (by omega), w64 (by omega) (by omega)]
       rw [ew, twin_Mul_eq hf hf']
       simp only [Option.bind_some]
       have := round_Make_eq (ng != ng') (fr * fr') (sc + sc' - 126) false (mul_lt128 hf hf')
       simp only [Bool.false_eq_true, false_and, if_false] at this
       refine Ev.bind this ?_
       exact Ev.now _
     have key : ((if kd = 0 ∨ kd' = 0 then (0, false, 0, 0, 0, false, none) else makeV (ng != ng') (fr * fr') (sc + sc' - 126) false) : Int × Bool × Int × Int × Int × Bool × Option Int) = ((if kd = 0 ∨ kd' = 0 then (0, false, 0, 0, 0, false) else exactE (ng != ng') (fr * fr') (sc + sc' - 126) false).1, (if kd = 0 ∨ kd' = 0 then (0, false, 0, 0, 0, false) else exactE (ng != ng') (fr * fr') (sc + sc' - 126) false).2.1, (if kd = 0 ∨ kd' = 0 then (0, false, 0, 0, 0, false) else exactE (ng != ng') (fr * fr') (sc + sc' - 126) false).2.2.1, (if kd = 0 ∨ kd' = 0 then (0, false, 0, 0, 0, false) else exactE (ng != ng') (fr * fr') (sc + sc' - 126) false).2.2.2.1, (if kd = 0 ∨ kd' = 0 then (0, false, 0, 0, 0, false) else exactE (ng != ng') (fr * fr') (sc + sc' - 126) false).2.2.2.2.1, (if kd = 0 ∨ kd' = 0 then (0, false, 0, 0, 0, false) else exactE (ng != ng') (fr * fr') (sc + sc' - 126) false).2.2.2.2.2, none) := by
      by_cases h0 : kd = 0 ∨ kd' = 0
      ·simp only [if_pos h0]
      ·simp only [if_neg h0]
       exact makeV_exactE (mul_lt128 hf hf') (by omega) (by omega)
     rw [← key]
     by_cases hk0 : kd = 0
     ·have hd : (kd == 0) = decide (kd = 0 ∨ kd' = 0) := by rw [decide_eq_true (.inl hk0)]; simp [hk0]
      simp only [if_pos hk0, hd]
      exact j2
     ·have hd : (kd' == 0) = decide (kd = 0 ∨ kd' = 0) := by rw [beq_dec]; simp [hk0]
      simp only [if_neg hk0, hd]
      exact j2
   by_cases hk2 : kd = 2
   ·have hd : (kd == 2) = decide (kd = 2 ∨ kd' = 2) := by simp [hk2]
    simp only [if_pos hk2, hd]
    exact j1
   ·have hd : (kd' == 2) = decide (kd = 2 ∨ kd' = 2) := by rw [beq_dec]; simp [hk2]
    simp only [if_neg hk2, hd]
    exact j1
  ·simp only [if_neg h2]
   exact Ev.now _
 ·simp only [if_neg h1, if_neg (show ¬ (soundN kd ng sc fr = true ∧ soundN kd' ng' sc' fr' = true) from fun h => h1 h.1)]
  exact Ev.now _
def prodX (a b : NM) : EX := if a.kd = 2 ∨ b.kd = 2 then EX.nar else if a.kd = 0 ∨ b.kd = 0 then EX.zero else natX (a.ng != b.ng) (a.fr * b.fr) (a.sc + b.sc - 126) false
theorem prodX_ok (a b : NM) : (prodX a b).ok := by
 unfold prodX
 split
 ·exact .inr (.inl rfl)
 ·split
  ·exact .inl rfl
  ·exact natX_ok _ _ _ _
theorem prodE_X (a b : NM) : prodE a.kd a.ng a.sc a.fr b.kd b.ng b.sc b.fr = ((prodX a b).kd, (prodX a b).ng, (prodX a b).sc, TH (prodX a b).V, TL (prodX a b).V, (prodX a b).R) := by
 unfold prodE prodX
 by_cases h2 : a.kd = 2 ∨ b.kd = 2
 ·rw [if_pos h2, if_pos h2]; rfl
 ·rw [if_neg h2, if_neg h2]
  by_cases h0 : a.kd = 0 ∨ b.kd = 0
  ·rw [if_pos h0, if_pos h0]; rfl
  ·rw [if_neg h0, if_neg h0, exactE_natX]
theorem prod_Exact_X {a b : NM} (ha : a.ok) (hb : b.ok) : Ev (fun k => prod_Exact.f k a.kd a.ng a.sc (a.fr : Int) b.kd b.ng b.sc (b.fr : Int)) ((prodX a b).kd, (prodX a b).ng, (prodX a b).sc, TH (prodX a b).V, TL (prodX a b).V, (prodX a b).R, none) := by
 have := prod_Exact_eq a.kd a.ng a.sc a.fr b.kd b.ng b.sc b.fr ha.2 hb.2
 rw [if_pos ⟨ha.1, hb.1⟩, prodE_X] at this
 exact this
def mulN (n x y : Nat) : Nat := (prodX (decN n x) (decN n y)).rnd n
theorem mulN_lt {n x y : Nat} (h8 : 8 ≤ n) (hn : n ≤ 64) : mulN n x y < 2 ^ n := EX.rnd_lt h8 hn (prodX_ok _ _)
theorem prod_Mul_eq {n a b : Nat} (h : isW (n : Int) = true) (ha : a < 18446744073709551616) (hb : b < 18446744073709551616) : Ev (fun k => prod_Mul.f k (n : Int) (a : Int) (b : Int)) (((mulN n (a % 2 ^ n) (b % 2 ^ n) : Nat) : Int), none) := by
 obtain ⟨b64, b8⟩ := pow64 h
 unfold prod_Mul.f
 refine Ev.bind (Decode_N h ha) ?_
 simp only [Option.isNone_none, if_true]
 refine Ev.bind (Decode_N h hb) ?_
 refine Ev.bind (prod_Exact_X (decN_ok b8 b64 (Nat.mod_lt a (two_pos n))) (decN_ok b8 b64 (Nat.mod_lt b (two_pos n)))) ?_
 refine Ev.bind (Round_X h (prodX_ok _ _)) ?_
 exact Ev.now _
end Go.Proofs.Ythofoolgbngobaa.V
namespace Go.Proofs.Ythofoolgbngobaa.V
open Go Go.RowKit Go.Proofs.Ythofoolgbngobaa.Ab Go.Proofs.Ythofoolgbngobaa.Fn
set_option linter.unusedVariables false
set_option linter.unusedSimpArgs false
theorem Of_X {x : NM} (h : x.ok) : Ev (fun k => round_Of.f k x.kd x.ng x.sc (x.fr : Int)) (x.ex.kd, x.ex.ng, x.ex.sc, TH x.ex.V, TL x.ex.V, x.ex.R, none) := by
 have := round_Of_eq x.kd x.ng x.sc (x.fr : Int) (by have := h.2; omega) (by omega)
 rw [if_pos h.1] at this
 rw [(NM.ex_tup x h).1, (NM.ex_tup x h).2]
 exact this
end Go.Proofs.Ythofoolgbngobaa.V
namespace Go.Proofs.Ythofoolgbngobaa.V
open Go Go.RowKit Go.Proofs.Ythofoolgbngobaa.Ab Go.Proofs.Ythofoolgbngobaa.Fn
set_option linter.unusedVariables false
set_option linter.unusedSimpArgs false
theorem EX.ok_kd {x : EX} (hx : x.ok) : x.kd = 0 ∨ x.kd = 1 ∨ x.kd = 2 := by
 rcases hx with rfl | rfl | hx
 ·exact .inl rfl
 ·exact .inr (.inr rfl)
 ·exact .inr (.inl hx.1)
theorem sumX_nar {x y : EX} (h : x.kd = 2 ∨ y.kd = 2) : sumX x y = EX.nar := by unfold sumX; rw [if_pos h]
theorem sumX_z1 {x y : EX} (h : ¬ (x.kd = 2 ∨ y.kd = 2)) (h1 : x.kd = 0) : sumX x y = y := by unfold sumX; rw [if_neg h, if_pos h1]
theorem sumX_z2 {x y : EX} (h : ¬ (x.kd = 2 ∨ y.kd = 2)) (h1 : ¬ x.kd = 0) (h2 : y.kd = 0) : sumX x y = x := by unfold sumX; rw [if_neg h, if_neg h1, if_pos h2]
theorem broad_Sum_j0 {x y : EX} (hx : x.ok) (hy : y.ok) : Ev (fun k => broad_Sum.j0 k (decide (x.kd = 2 ∨ y.kd = 2)) x.kd x.ng x.sc (TH x.V) (TL x.V) x.R y.kd y.ng y.sc (TH y.V) (TL y.V) y.R) (sumX x y).tup := by
 refine evs ?_
 simp only [broad_Sum.j0]
 by_cases h : x.kd = 2 ∨ y.kd = 2
 ·simp only [if_pos (decide_eq_true h)]
  rw [sumX_nar h]
  exact Ev.now _
 ·simp only [if_neg (fun h' => h (of_decide_eq_true h') : ¬ decide (x.kd = 2 ∨ y.kd = 2) = true)]
  by_cases a : x.kd = 0
  ·simp only [if_pos a]
   rw [sumX_z1 h a]
   exact Ev.now _
  ·simp only [if_neg a]
   by_cases b : y.kd = 0
   ·simp only [if_pos b]
    rw [sumX_z2 h a b]
    exact Ev.now _
   ·simp only [if_neg b]
    have kx : x.kd = 1 := by have := EX.ok_kd hx; omega
    have ky : y.kd = 1 := by have := EX.ok_kd hy; omega
    by_cases c : x.sc < y.sc
    ·simp only [if_pos c]
     rw [sumX_comm hx hy]
     exact Sum_j1 hy hx ky kx (Int.le_of_lt c)
    ·simp only [if_neg c]
     exact Sum_j1 hx hy kx ky (Int.not_lt.1 c)
theorem broad_Sum_X {x y : EX} (hx : x.ok) (hy : y.ok) : Ev (fun k => broad_Sum.f k x.kd x.ng x.sc (TH x.V) (TL x.V) x.R y.kd y.ng y.sc (TH y.V) (TL y.V) y.R) (sumX x y).tup := by
 have h := broad_Sum_j0 hx hy
 unfold broad_Sum.f
 by_cases a : x.kd = 2
 ·simp only [if_pos a]
  rw [decide_eq_true (Or.inl a)] at h
  exact h
 ·simp only [if_neg a]
  rw [show decide (x.kd = 2 ∨ y.kd = 2) = (y.kd == 2) by rw [Bool.eq_iff_iff]; simp [a]] at h
  exact h
theorem sum_Exact_X {a b : NM} (ha : a.ok) (hb : b.ok) : Ev (fun k => sum_Exact.f k a.kd a.ng a.sc (a.fr : Int) b.kd b.ng b.sc (b.fr : Int)) ((sumX a.ex b.ex).kd, (sumX a.ex b.ex).ng, (sumX a.ex b.ex).sc, TH (sumX a.ex b.ex).V, TL (sumX a.ex b.ex).V, (sumX a.ex b.ex).R, none) := by
 unfold sum_Exact.f
 refine Ev.bind (Of_X ha) ?_
 simp only [Option.isNone_none, if_true]
 refine Ev.bind (Of_X hb) ?_
 simp only [Option.isNone_none, if_true]
 exact Ev.bind (broad_Sum_X (NM.ex_ok ha) (NM.ex_ok hb)) (Ev.now _)
def addN (n x y : Nat) : Nat := (sumX (decN n x).ex (decN n y).ex).rnd n
theorem addN_lt {n x y : Nat} (h8 : 8 ≤ n) (hn : n ≤ 64) (hx : x < 2 ^ n) (hy : y < 2 ^ n) : addN n x y < 2 ^ n := EX.rnd_lt h8 hn (sumX_ok (NM.ex_ok (decN_ok h8 hn hx)) (NM.ex_ok (decN_ok h8 hn hy)))
theorem sum_Add_eq {n a b : Nat} (h : isW (n : Int) = true) (ha : a < 18446744073709551616) (hb : b < 18446744073709551616) : Ev (fun k => sum_Add.f k (n : Int) (a : Int) (b : Int)) (((addN n (a % 2 ^ n) (b % 2 ^ n) : Nat) : Int), none) := by
 obtain ⟨b64, b8⟩ := pow64 h
 have oa := decN_ok b8 b64 (Nat.mod_lt a (two_pos n))
 have ob := decN_ok b8 b64 (Nat.mod_lt b (two_pos n))
 unfold sum_Add.f
 refine Ev.bind (Decode_N h ha) ?_
 simp only [Option.isNone_none, if_true]
 refine Ev.bind (Decode_N h hb) (Ev.bind (sum_Exact_X oa ob) ?_)
 simp only [Option.isNone_none, if_true]
 exact Ev.bind (Round_X h (sumX_ok (NM.ex_ok oa) (NM.ex_ok ob))) (Ev.now _)
end Go.Proofs.Ythofoolgbngobaa.V
namespace Go.Proofs.Ythofoolgbngobaa.V
open Go Go.RowKit Go.Proofs.Ythofoolgbngobaa.Ab
theorem decN_nar (n : Nat) : decN n (2 ^ (n - 1)) = ⟨2, false, 0, 0⟩ := by
 unfold decN
 rw [if_neg (Nat.ne_of_gt (two_pos (n - 1))), if_pos rfl]
theorem decN_kd {n x : Nat} (h : x ≠ 2 ^ (n - 1)) : (decN n x).kd ≠ 2 := by
 unfold decN
 by_cases h0 : x = 0
 ·rw [if_pos h0]; show (0 : Int) ≠ 2; decide
 ·rw [if_neg h0, if_neg h]; show (1 : Int) ≠ 2; decide
end Go.Proofs.Ythofoolgbngobaa.V
namespace Go.Proofs.Ythofoolgbngobaa.V
open Go Go.RowKit Go.Proofs.Ythofoolgbngobaa.Ab Go.Proofs.Ythofoolgbngobaa.Fn
set_option linter.unusedVariables false
set_option linter.unusedSimpArgs false
theorem sum_Sub_eq {n a b : Nat} (h : isW (n : Int) = true) (ha : a < 18446744073709551616) (hb : b < 18446744073709551616) : Ev (fun k => sum_Sub.f k (n : Int) (a : Int) (b : Int)) (((addN n (a % 2 ^ n) (negP n (b % 2 ^ n)) : Nat) : Int), none) := by
 obtain ⟨b64, b8⟩ := pow64 h
 have g : (18446744073709551616 - b) % 18446744073709551616 % 2 ^ n = negP n (b % 2 ^ n) := negN_mod b64 hb
 have q := sum_Add_eq h ha (Nat.mod_lt (18446744073709551616 - b) (show 0 < 18446744073709551616 by decide))
 rw [g, ← neg_wrap hb] at q
 unfold sum_Sub.f
 exact Ev.bind q (Ev.now _)
end Go.Proofs.Ythofoolgbngobaa.V
namespace Go.Proofs.Ythofoolgbngobaa.V
open Go Go.RowKit Go.Proofs.Ythofoolgbngobaa.Ab Go.Proofs.Ythofoolgbngobaa.Fn
set_option linter.unusedVariables false
set_option linter.unusedSimpArgs false
theorem EX.ok_zero {x : EX} (hx : x.ok) (h : x.kd = 0) : x = EX.zero := by
 rcases hx with rfl | rfl | hx
 ·rfl
 ·exact absurd h (by decide)
 ·omega
theorem sumX_zero_r {x : EX} (hx : x.ok) : sumX x EX.zero = x := by
 unfold sumX
 by_cases h : x.kd = 2 ∨ EX.zero.kd = 2
 ·rw [if_pos h]
  have h2 : x.kd = 2 := h.elim id (fun h => absurd h (by decide))
  rcases hx with rfl | rfl | hx
  ·exact absurd h2 (by decide)
  ·rfl
  ·omega
 ·rw [if_neg h]
  by_cases h0 : x.kd = 0
  ·rw [if_pos h0, EX.ok_zero hx h0]
  ·rw [if_neg h0, if_pos (show EX.zero.kd = 0 from rfl)]
end Go.Proofs.Ythofoolgbngobaa.V
namespace Go.Proofs.Ythofoolgbngobaa.V
open Go Go.RowKit Go.Proofs.Ythofoolgbngobaa.Ab Go.Proofs.Ythofoolgbngobaa.Fn
set_option linter.unusedVariables false
set_option linter.unusedSimpArgs false
theorem dec_ex_zero (n : Nat) : (decN n 0).ex = EX.zero := by
 rw [show decN n 0 = ⟨0, false, 0, 0⟩ from rfl]
 unfold NM.ex EX.zero
 simp only [Nat.zero_mul]
end Go.Proofs.Ythofoolgbngobaa.V
namespace Go.Proofs.Ythofoolgbngobaa.V
open Go Go.RowKit Go.Proofs.Ythofoolgbngobaa.Ab Go.Proofs.Ythofoolgbngobaa.Fn
set_option linter.unusedVariables false
set_option linter.unusedSimpArgs false
theorem dig_test {y1 y0 u d g r : Nat} (hy1 : 2147483648 ≤ y1) (hy1' : y1 < 4294967296) (hy0 : y0 < 4294967296) (hu : u < y1 * 4294967296 + y0) (hd : d < 4294967296) (hg : u = g * y1 + r) (hr : r < 4294967296) :
  (¬ (4294967296 ≤ g ∨ 4294967296 * r + d < g * y0) → g ≤ (u * 4294967296 + d) / (y1 * 4294967296 + y0)) ∧ ((4294967296 ≤ g ∨ 4294967296 * r + d < g * y0) → (u * 4294967296 + d) / (y1 * 4294967296 + y0) < g) := by
 have hpos : 0 < y1 * 4294967296 + y0 := by omega
 have e : g * (y1 * 4294967296 + y0) = g * y1 * 4294967296 + g * y0 := by rw [Nat.mul_add, Nat.mul_assoc]
 have eu : u * 4294967296 = g * y1 * 4294967296 + r * 4294967296 := by rw [hg, Nat.add_mul]
 constructor
 ·intro h
  rw [Nat.le_div_iff_mul_le hpos, e]
  omega
 ·rintro (h | h)
  ·refine Nat.lt_of_lt_of_le ?_ h
   rw [Nat.div_lt_iff_lt_mul hpos]
   omega
  ·rw [Nat.div_lt_iff_lt_mul hpos, e]
   omega
theorem dig_break {y1 y0 u d g r : Nat} (hy1 : 2147483648 ≤ y1) (hy0 : y0 < 4294967296) (hg : u = g * y1 + r) (hr : 4294967296 ≤ r) (hb : g ≤ 4294967296) : g ≤ (u * 4294967296 + d) / (y1 * 4294967296 + y0) := by
 have hpos : 0 < y1 * 4294967296 + y0 := by omega
 have e : g * (y1 * 4294967296 + y0) = g * y1 * 4294967296 + g * y0 := by rw [Nat.mul_add, Nat.mul_assoc]
 have eu : u * 4294967296 = g * y1 * 4294967296 + r * 4294967296 := by rw [hg, Nat.add_mul]
 have h0 : g * y0 ≤ 4294967296 * 4294967295 := Nat.mul_le_mul hb (by omega)
 rw [Nat.le_div_iff_mul_le hpos, e]
 omega
structure Dig (y1 y0 u d q : Nat) : Prop where
 y1lo : 2147483648 ≤ y1
 y1hi : y1 < 4294967296
 y0hi : y0 < 4294967296
 dhi : d < 4294967296
 test : ∀ g r, u = g * y1 + r → r < 4294967296 → (¬ (4294967296 ≤ g ∨ 4294967296 * r + d < g * y0) → g ≤ q) ∧ ((4294967296 ≤ g ∨ 4294967296 * r + d < g * y0) → q < g)
 stop : ∀ g r, u = g * y1 + r → 4294967296 ≤ r → g ≤ 4294967296 → g ≤ q
theorem Dig.mk' {y1 y0 u d : Nat} (hy1 : 2147483648 ≤ y1) (hy1' : y1 < 4294967296) (hy0 : y0 < 4294967296) (hu : u < y1 * 4294967296 + y0) (hd : d < 4294967296) : Dig y1 y0 u d ((u * 4294967296 + d) / (y1 * 4294967296 + y0)) :=
 ⟨hy1, hy1', hy0, hd, fun g r h1 h2 => dig_test hy1 hy1' hy0 hu hd h1 h2, fun g r h1 h2 h3 => dig_break hy1 hy0 h1 h2 h3⟩
end Go.Proofs.Ythofoolgbngobaa.V
namespace Go.Proofs.Ythofoolgbngobaa.V
open Go Go.RowKit Go.Proofs.Ythofoolgbngobaa.Ab Go.Proofs.Ythofoolgbngobaa.Fn
set_option linter.unusedVariables false
set_option linter.unusedSimpArgs false
def EX.fin (x : EX) : Prop := x = EX.zero ∨ (x.kd = 1 ∧ 2 ^ 127 ≤ x.V ∧ x.V < 2 ^ 128 ∧ -1073741824 ≤ x.sc ∧ x.sc ≤ 1073741824 ∧ x.R = false)
theorem EX.fin.num {x : EX} (h : x.fin) : x.num := h.elim .inl (fun h => .inr ⟨h.1, h.2.1, h.2.2.1, by omega, by omega⟩)
theorem decN_fin {n x : Nat} (h8 : 8 ≤ n) (hn : n ≤ 64) (hx : x < 2 ^ n) (h : x ≠ 2 ^ (n - 1)) : (decN n x).ex.fin := by
 have hk := decN_kd h
 have hnum := decN_num h8 hn hx h
 rcases NM.cases (decN_ok h8 hn hx) with e | e | ⟨h1, h2, h3, h4, h5⟩
 ·rcases hnum with h | h
  ·exact .inl h
  ·rw [e] at h; exact absurd h.1 (by decide)
 ·rw [e] at hk; exact absurd rfl hk
 ·rcases hnum with h | h
  ·exact .inl h
  ·exact .inr ⟨h.1, h.2.1, h.2.2.1, h4, h5, rfl⟩
theorem val_zero (e : Int) : EX.zero.val e = 0 := by
 unfold EX.val EX.zero
 simp
theorem val_step {x : EX} {m e : Int} (h1 : e ≤ m) (h2 : m ≤ x.sc) : x.val e = x.val m * 2 ^ (m - e).toNat := by
 unfold EX.val
 rw [show (x.sc - e).toNat = (x.sc - m).toNat + (m - e).toNat by omega, Nat.pow_add, ← Nat.mul_assoc, pow_cast]
 generalize x.V * 2 ^ (x.sc - m).toNat = a
 generalize 2 ^ (m - e).toNat = b
 cases x.ng
 ·simp
 ·simp [Int.neg_mul]
theorem fin_val {x : EX} (hx : x.fin) (kx : x.kd = 1) {e : Int} (h : e ≤ x.sc) : intX (x.val e) (e - 127) = x := by
 rcases hx with rfl | ⟨h1, h2, h3, h4, h5, h6⟩
 ·exact absurd kx (by decide)
 ·unfold EX.val
  rw [intX_nat, natX_shift]
  have hbl : bl x.V = 128 := bl_unique (by decide) h2 h3
  have hV : ¬ x.V = 0 := fun h0 => by rw [h0] at hbl; exact absurd hbl (by decide)
  have e1 : mkV x.V = x.V := by rw [mkV_ge128 (by omega), hbl, Nat.sub_self, Nat.pow_zero, Nat.div_one]
  have e2 : mkR x.V false = false := by unfold mkR; rw [hbl, Nat.sub_self, Nat.pow_zero, Nat.mod_one]; rfl
  unfold natX
  rw [if_neg hV, e1, e2, hbl, show e - 127 + ((x.sc - e).toNat : Int) + ((128 : Nat) : Int) - 1 = x.sc by omega, heldI_in (by omega) (by omega)]
  exact EX.ext' h1.symm rfl rfl rfl h6.symm
theorem sumX_at {x y : EX} (hx : x.fin) (hy : y.fin) {e : Int} (ex : x.kd = 1 → e ≤ x.sc) (ey : y.kd = 1 → e ≤ y.sc) : sumX x y = intX (x.val e + y.val e) (e - 127) := by
 have hx' := hx
 have hy' := hy
 rcases hx with h | ⟨h1, h2, h3, h4, h5, h6⟩
 ·subst h
  rw [val_zero, Int.zero_add]
  rcases hy with h | ⟨k1, k2, k3, k4, k5, k6⟩
  ·subst h
   rw [val_zero]
   rfl
  ·rw [fin_val hy' k1 (ey k1)]
   exact sumX_z1 (by rw [k1]; decide) rfl
 ·rcases hy with h | ⟨k1, k2, k3, k4, k5, k6⟩
  ·subst h
   rw [val_zero, Int.add_zero, fin_val hx' h1 (ex h1)]
   exact sumX_zero_r (hx'.num.ok)
  ·have ex := ex h1
   have ey := ey k1
   unfold sumX
   rw [if_neg (by omega), if_neg (by omega), if_neg (by omega)]
   have m0 : e ≤ min x.sc y.sc := by omega
   rw [val_step m0 (show min x.sc y.sc ≤ x.sc by omega), val_step m0 (show min x.sc y.sc ≤ y.sc by omega), ← Int.add_mul, intX_shift]
   congr 1
   omega
end Go.Proofs.Ythofoolgbngobaa.V
namespace Go.Proofs.Ythofoolgbngobaa.V
open Go Go.RowKit Go.Proofs.Ythofoolgbngobaa.Ab Go.Proofs.Ythofoolgbngobaa.Fn
set_option linter.unusedVariables false
set_option linter.unusedSimpArgs false
theorem decS_bounds {m w : Nat} (h : m ≤ 63) : -260 ≤ decS m w ∧ decS m w ≤ 260 := by
 have := decEx_lt (m := m) (w := w)
 have hr : runL m w ≤ m := by unfold runL; split <;> omega
 unfold decS decK
 split <;> omega
theorem decN_sc {n x : Nat} (hn : n ≤ 64) : -260 ≤ (decN n x).sc ∧ (decN n x).sc ≤ 260 := by
 unfold decN
 split
 ·exact ⟨by decide, by decide⟩
 ·split
  ·exact ⟨by decide, by decide⟩
  ·exact decS_bounds (by omega)
def NM.mid (a : NM) : Prop := a = ⟨0, false, 0, 0⟩ ∨ (a.kd = 1 ∧ 2 ^ 63 ≤ a.fr ∧ a.fr < 2 ^ 64 ∧ -260 ≤ a.sc ∧ a.sc ≤ 260)
theorem decN_mid {n x : Nat} (h8 : 8 ≤ n) (hn : n ≤ 64) (hx : x < 2 ^ n) (h : x ≠ 2 ^ (n - 1)) : (decN n x).mid := by
 have hs := decN_sc (n := n) (x := x) hn
 rcases NM.cases (decN_ok h8 hn hx) with e | e | ⟨h1, h2, h3, h4, h5⟩
 ·exact .inl e
 ·have := decN_kd h; rw [e] at this; exact absurd rfl this
 ·exact .inr ⟨h1, h2, h3, hs.1, hs.2⟩
theorem mul_fr {x y : Nat} (h1 : 2 ^ 63 ≤ x) (h2 : x < 2 ^ 64) (h3 : 2 ^ 63 ≤ y) (h4 : y < 2 ^ 64) : 2 ^ 126 ≤ x * y ∧ x * y < 2 ^ 128 := by
 refine ⟨?_, ?_⟩
 ·have := Nat.mul_le_mul h1 h3
  rw [← Nat.pow_add] at this
  exact this
 ·exact Nat.lt_of_lt_of_le (Nat.mul_lt_mul_of_lt_of_le h2 (Nat.le_of_lt h4) (two_pos 64)) (by rw [← Nat.pow_add]; exact Nat.le_refl _)
theorem prodX_real {a b : NM} (h1 : a.kd = 1) (h2 : b.kd = 1) : prodX a b = natX (a.ng != b.ng) (a.fr * b.fr) (a.sc + b.sc - 126) false := by
 unfold prodX
 rw [if_neg (by omega), if_neg (by omega)]
theorem natX_parts (g : Bool) {m : Nat} (hm : 0 < m) (e : Int) (R : Bool) : natX g m e R = ⟨1, g, heldI (e + (bl m : Int) - 1), mkV m, mkR m R⟩ := by unfold natX; rw [if_neg (by omega)]
section
variable {n x z y c : Nat} (h8 : 8 ≤ n) (hn : n ≤ 64) (hx : x < 2 ^ n) (hz : z < 2 ^ n) (hy : y < 2 ^ n) (hc : c < 2 ^ n) (nx : x ≠ 2 ^ (n - 1)) (nz : z ≠ 2 ^ (n - 1)) (ny : y ≠ 2 ^ (n - 1)) (nc : c ≠ 2 ^ (n - 1))
include h8 hn hx hz hy hc nx nz ny nc
end
end Go.Proofs.Ythofoolgbngobaa.V
namespace Go.Proofs.Ythofoolgbngobaa.V
open Go Go.RowKit Go.Proofs.Ythofoolgbngobaa.Ab Go.Proofs.Ythofoolgbngobaa.Fn
set_option linter.unusedVariables false
set_option linter.unusedSimpArgs false
theorem decS_range {m w : Nat} (h : m ≤ 63) : -260 ≤ decS m w ∧ decS m w ≤ 260 := by
 have := decEx_lt (m := m) (w := w)
 have hr : runL m w ≤ m := by unfold runL; split <;> omega
 unfold decS decK
 split <;> omega
theorem dec_longer {m d w : Nat} (h1 : 7 ≤ m) (hm : m + d ≤ 63) (hw0 : 0 < w) (hw : w < 2 ^ m) : decS (m + d) (w * 2 ^ d) = decS m w ∧ decFr (m + d) (w * 2 ^ d) = decFr m w := by
 have hw0' : 0 < w * 2 ^ d := Nat.mul_pos hw0 (two_pos d)
 have hw' : w * 2 ^ d < 2 ^ (m + d) := by rw [Nat.pow_add]; exact Nat.mul_lt_mul_of_pos_right hw (two_pos d)
 have s1 := decV_sig h1 (by omega) hw0 hw
 have s2 := decV_sig (m := m + d) (by omega) hm hw0' hw'
 have e : w * 2 ^ d * 2 ^ (200 - (m + d)) = w * 2 ^ (200 - m) := by
  rw [Nat.mul_assoc, ← Nat.pow_add, show d + (200 - (m + d)) = 200 - m by omega]
 rw [e] at s2
 obtain ⟨a1, a2⟩ := decS_range (m := m) (w := w) (by omega)
 obtain ⟨b1, b2⟩ := decS_range (m := m + d) (w := w * 2 ^ d) hm
 obtain ⟨-, p1, p2⟩ := decV_sub (w := w) (dLf_le (m := m) (w := w) (by omega))
 obtain ⟨-, q1, q2⟩ := decV_sub (w := w * 2 ^ d) (dLf_le (m := m + d) (w := w * 2 ^ d) hm)
 obtain ⟨r1, r2⟩ := sig_inj (by omega) (by omega) (by omega) (by omega) (fr_lt q2) (fr_lt p2) (s2.trans s1.symm)
 refine ⟨r1, ?_⟩
 unfold decV at *
 omega
theorem magN_longer {n d x : Nat} (h1 : 1 ≤ n) : magN (n + d) (x * 2 ^ d) = magN n x * 2 ^ d := by
 unfold magN
 have e : 2 ^ (n + d - 1) = 2 ^ (n - 1) * 2 ^ d := by rw [← Nat.pow_add]; congr 1; omega
 have p := two_pos d
 rw [e]
 by_cases h : 2 ^ (n - 1) < x
 ·rw [if_pos h, if_pos (Nat.mul_lt_mul_of_pos_right h p), Nat.pow_add, Nat.sub_mul]
 ·rw [if_neg h, if_neg (fun h' => h (Nat.lt_of_mul_lt_mul_right h'))]
theorem decN_longer {n d x : Nat} (h8 : 8 ≤ n) (hm : n + d ≤ 64) (hx : x < 2 ^ n) : decN (n + d) (x * 2 ^ d) = decN n x := by
 have p := two_pos d
 have e : 2 ^ (n + d - 1) = 2 ^ (n - 1) * 2 ^ d := by rw [← Nat.pow_add]; congr 1; omega
 unfold decN
 by_cases h0 : x = 0
 ·subst h0; rw [Nat.zero_mul, if_pos rfl, if_pos rfl]
 ·rw [if_neg h0, if_neg (show ¬ x * 2 ^ d = 0 by rw [Nat.mul_eq_zero]; omega), e]
  by_cases h1 : x = 2 ^ (n - 1)
  ·subst h1; rw [if_pos rfl, if_pos rfl]
  ·rw [if_neg h1, if_neg (fun h' => h1 (Nat.eq_of_mul_eq_mul_right p h'))]
   have hm' := magN_bounds (by omega) hx h0 h1
   rw [magN_longer (by omega), show n + d - 1 = n - 1 + d by omega]
   obtain ⟨a, b⟩ := dec_longer (m := n - 1) (d := d) (by omega) (by omega) hm'.1 hm'.2
   rw [a, b]
   have g : decide (2 ^ (n - 1) * 2 ^ d < x * 2 ^ d) = decide (2 ^ (n - 1) < x) := by
    rw [decide_eq_decide]
    exact ⟨fun h' => Nat.lt_of_mul_lt_mul_right h', fun h' => Nat.mul_lt_mul_of_pos_right h' p⟩
   rw [g]
def convN (n m x : Nat) : Nat := (decN n x).ex.rnd m
theorem convN_lt {n m x : Nat} (h8 : 8 ≤ n) (hn : n ≤ 64) (g8 : 8 ≤ m) (hm : m ≤ 64) (hx : x < 2 ^ n) : convN n m x < 2 ^ m := EX.rnd_lt g8 hm (NM.ex_ok (decN_ok h8 hn hx))
theorem convN_up {n d x : Nat} (h8 : 8 ≤ n) (hm : n + d ≤ 64) (hx : x < 2 ^ n) : convN n (n + d) x = x * 2 ^ d := by
 unfold convN
 rw [← decN_longer h8 hm hx]
 exact dec_rnd (by omega) hm (by rw [Nat.pow_add]; exact Nat.mul_lt_mul_of_pos_right hx (two_pos d))
theorem convN_back {n d x : Nat} (h8 : 8 ≤ n) (hm : n + d ≤ 64) (hx : x < 2 ^ n) : convN (n + d) n (x * 2 ^ d) = x := by
 unfold convN
 rw [decN_longer h8 hm hx]
 exact dec_rnd h8 (by omega) hx
theorem gen_Convert_eq {n m p : Nat} (hn : isW (n : Int) = true) (hm : isW (m : Int) = true) (hp : p < 18446744073709551616) : Ev (fun k => gen_Convert.f k (n : Int) (m : Int) (p : Int)) (((convN n m (p % 2 ^ n) : Nat) : Int), none) := by
 obtain ⟨b64, b8⟩ := pow64 hn
 have oa := decN_ok b8 b64 (Nat.mod_lt p (two_pos n))
 unfold gen_Convert.f
 refine Ev.bind (evn (shape_Of_eq hm)) ?_
 simp only [Option.isNone_none, if_true]
 refine Ev.bind (Decode_N hn hp) ?_
 simp only [Option.isNone_none, if_true]
 exact Ev.bind (Of_X oa) (Ev.bind (Round_X hm (NM.ex_ok oa)) (Ev.now _))
end Go.Proofs.Ythofoolgbngobaa.V
namespace Go.Proofs.Ythofoolgbngobaa.V
open Go Go.RowKit Go.Proofs.Ythofoolgbngobaa.Ab Go.Proofs.Ythofoolgbngobaa.Fn
set_option linter.unusedVariables false
set_option linter.unusedSimpArgs false
theorem fit_pos {n w : Nat} {s : Int} {V : Nat} (h8 : 8 ≤ n) (hn : n ≤ 64) (hV0 : 2 ^ 127 ≤ V) (hV : V < 2 ^ 128) (s0 : -(4 * (n : Int) - 8) ≤ s) (s1 : s < 4 * (n : Int) - 8) (hd : sig s (V - 2 ^ 127) = w * 2 ^ (201 - n)) :
  posP n s V false = w ∧ decS (n - 1) w = s ∧ decV (n - 1) w = V ∧ 0 < w ∧ w < 2 ^ (n - 1) := by
 have e : (2 : Nat) ^ 200 = 2 ^ (n - 1) * 2 ^ (201 - n) := by rw [← Nat.pow_add]; exact pow_congr (by omega)
 obtain ⟨r1, r2⟩ := sig_range (n := n) (s := s) h8 hn (fr_lt hV) s0 s1
 rw [hd] at r1 r2
 have p := two_pos (201 - n)
 have w0 : 0 < w := by
  rcases Nat.eq_zero_or_pos w with h | h
  ·subst h; rw [Nat.zero_mul] at r1; omega
  ·exact h
 have w1 : w < 2 ^ (n - 1) := by
  rw [e] at r2
  refine Nat.lt_of_mul_lt_mul_right (a := 2 ^ (201 - n)) ?_
  omega
 have hp : posP n s V false = w := by
  unfold posP
  rw [if_neg (by omega), if_neg (by omega), hd, show bR false = 0 from rfl, Nat.add_zero, show 2 * (w * 2 ^ (201 - n)) = w * 2 ^ (202 - n) by rw [Nat.mul_left_comm, show 202 - n = (201 - n) + 1 by omega, Nat.pow_succ, Nat.mul_comm 2]]
  exact rne_exact _ _
 have hs := decV_sig (m := n - 1) (by omega) (by omega) w0 w1
 obtain ⟨a1, a2⟩ := decS_range (m := n - 1) (w := w) (by omega)
 obtain ⟨-, p1, p2⟩ := decV_sub (w := w) (dLf_le (m := n - 1) (w := w) (by omega))
 have e2 : sig (decS (n - 1) w) (decV (n - 1) w - 2 ^ 127) = sig s (V - 2 ^ 127) := by
  rw [hs, hd]; congr 1; exact pow_congr (by omega)
 obtain ⟨q1, q2⟩ := sig_inj (by omega) (by omega) (by omega) (by omega) (fr_lt p2) (fr_lt hV) e2
 exact ⟨hp, q1, by omega, w0, w1⟩
def EX.fits (n : Nat) (x : EX) : Prop := x = EX.zero ∨ x = EX.nar ∨ (x.kd = 1 ∧ 2 ^ 127 ≤ x.V ∧ x.V < 2 ^ 128 ∧ x.R = false ∧ -(4 * (n : Int) - 8) ≤ x.sc ∧ x.sc < 4 * (n : Int) - 8 ∧ 2 ^ (201 - n) ∣ sig x.sc (x.V - 2 ^ 127))
theorem dec_fit {n : Nat} {x : EX} (h8 : 8 ≤ n) (hn : n ≤ 64) (h : x.fits n) : (decN n (x.rnd n)).ex = x := by
 rcases h with rfl | rfl | ⟨h1, h2, h3, h4, h5, h6, w, h7⟩
 ·rw [EX.rnd_zero]; exact dec_ex_zero n
 ·rw [EX.rnd_nar, decN_nar]; rfl
 ·rw [Nat.mul_comm] at h7
  obtain ⟨f1, f2, f3, f4, f5⟩ := fit_pos h8 hn h2 h3 h5 h6 h7
  have hV : decFr (n - 1) w * 18446744073709551616 = x.V := f3
  have hpos : decN n w = ⟨1, false, x.sc, decFr (n - 1) w⟩ := by
   unfold decN
   rw [if_neg (by omega), if_neg (by omega)]
   have : magN n w = w := by unfold magN; rw [if_neg (by omega)]
   rw [this, f2, decide_eq_false (by omega)]
  have hr : V.rnd n 1 false x.sc x.V false = w := by rw [rnd_pos h8 hn h3 h2, f1]
  unfold EX.rnd
  rw [h1, h4]
  cases hg : x.ng
  ·rw [hr, hpos]
   exact EX.ext' h1.symm hg.symm rfl hV h4.symm
  ·have h2' := two_halves (n := n) (by omega)
   rw [rnd_neg, hr, negN_eq hn f4 (by omega), if_neg (by omega)]
   have : (2 : Nat) ^ n - w = negP n w := by unfold negP; rw [if_neg (by omega)]
   rw [this, decN_neg (by omega) (by omega), hpos]
   exact EX.ext' h1.symm hg.symm rfl hV h4.symm
theorem sig_dvd {s : Int} {f c m q : Nat} (hs0 : -(4 * (q : Int)) ≤ s) (hs1 : s < 4 * (q : Int)) (hc : c ≤ 127) (hf : 2 ^ c ∣ f) (hq : q ≤ 60) (h : m + q ≤ c + 70) : 2 ^ m ∣ sig s f := by
 rcases scale_cases s with ⟨p, e, h1, h2⟩ | ⟨p, e, h1, h2, h3⟩
 ·rw [sig_pos_eq h1 h2]
  have d1 : 2 ^ c ∣ (2 ^ (p + 1) - 1) * 2 ^ 130 + e * 2 ^ 127 + f :=
   Nat.dvd_add (Nat.dvd_add (Nat.dvd_mul_left_of_dvd (Nat.pow_dvd_pow 2 (by omega)) _) (Nat.dvd_mul_left_of_dvd (Nat.pow_dvd_pow 2 hc) _)) hf
  have := Nat.mul_dvd_mul d1 (Nat.dvd_refl (2 ^ (69 - p)))
  rw [← Nat.pow_add] at this
  exact Nat.dvd_trans (Nat.pow_dvd_pow 2 (by omega)) this
 ·rw [sig_neg_eq h1 h2 h3]
  have d1 : 2 ^ c ∣ 2 ^ 129 + e * 2 ^ 127 + f :=
   Nat.dvd_add (Nat.dvd_add (Nat.pow_dvd_pow 2 (by omega)) (Nat.dvd_mul_left_of_dvd (Nat.pow_dvd_pow 2 hc) _)) hf
  have := Nat.mul_dvd_mul d1 (Nat.dvd_refl (2 ^ (70 - p)))
  rw [← Nat.pow_add] at this
  exact Nat.dvd_trans (Nat.pow_dvd_pow 2 (by omega)) this
theorem dvd_sub127 {c V : Nat} (hc : c ≤ 127) (h : 2 ^ c ∣ V) : 2 ^ c ∣ V - 2 ^ 127 := Nat.dvd_sub h (Nat.pow_dvd_pow 2 hc)
theorem fits_of {x : EX} {c q : Nat} (h1 : x.kd = 1) (h2 : 2 ^ 127 ≤ x.V) (h3 : x.V < 2 ^ 128) (h4 : x.R = false) (hc : c ≤ 127) (hd : 2 ^ c ∣ x.V) (s0 : -(4 * (q : Int)) ≤ x.sc) (s1 : x.sc < 4 * (q : Int)) (hq : 67 + q ≤ c) : x.fits 64 := by
 refine .inr (.inr ⟨h1, h2, h3, h4, by omega, by omega, ?_⟩)
 exact sig_dvd (q := q) s0 s1 hc (dvd_sub127 hc hd) (by omega) (by omega)
theorem natX_dvd {m c : Nat} (hm : 0 < m) (hd : 2 ^ c ∣ m) (hb : bl m ≤ 128) : 2 ^ c ∣ mkV m := by
 unfold mkV
 rw [if_pos hb]
 exact Nat.dvd_mul_right_of_dvd hd _
theorem decFr_dvd {m w : Nat} (h1 : 7 ≤ m) (hm : m ≤ 63) (hw0 : 0 < w) (hw : w < 2 ^ m) : 2 ^ (67 - m) ∣ decFr m w := by
 have hl : dLf m w ≤ m - 4 := by
  have hr : 1 ≤ runL m w := by
   have p := two_pos (m - 1)
   have e : 2 ^ m = 2 * 2 ^ (m - 1) := by rw [← Nat.pow_succ']; exact pow_congr (by omega)
   unfold runL runO
   by_cases c : 2 ^ (m - 1) ≤ w
   ·rw [if_pos (decide_eq_true c)]
    have : bl (2 ^ m - 1 - w) ≤ m - 1 := bl_le_of_lt (by omega)
    omega
   ·rw [if_neg (by simpa using c)]
    have : bl w ≤ m - 1 := bl_le_of_lt (by omega)
    omega
  unfold dLf dEb dL1
  omega
 unfold decFr
 exact Nat.dvd_add (Nat.pow_dvd_pow 2 (by omega)) (Nat.dvd_mul_left_of_dvd (Nat.pow_dvd_pow 2 (by omega)) _)
theorem decN_dvd {n x : Nat} (h8 : 8 ≤ n) (hn : n ≤ 64) (hx : x < 2 ^ n) : 2 ^ (68 - n) ∣ (decN n x).fr := by
 unfold decN
 by_cases h0 : x = 0
 ·rw [if_pos h0]; exact Nat.dvd_zero _
 ·rw [if_neg h0]
  by_cases h1 : x = 2 ^ (n - 1)
  ·rw [if_pos h1]; exact Nat.dvd_zero _
  ·rw [if_neg h1]
   have hm := magN_bounds (by omega) hx h0 h1
   have := decFr_dvd (m := n - 1) (by omega) (by omega) hm.1 hm.2
   rw [show 67 - (n - 1) = 68 - n by omega] at this
   exact this
theorem decN_sc_n {n x : Nat} (hn : n ≤ 64) (h8 : 8 ≤ n) : -(4 * (n : Int) - 4) ≤ (decN n x).sc ∧ (decN n x).sc < 4 * (n : Int) - 4 := by
 have hd : ∀ w, -(4 * (n : Int) - 4) ≤ decS (n - 1) w ∧ decS (n - 1) w < 4 * (n : Int) - 4 := by
  intro w
  have := decEx_lt (m := n - 1) (w := w)
  have hr : runL (n - 1) w ≤ n - 1 := by unfold runL; split <;> omega
  unfold decS decK
  split <;> omega
 unfold decN
 split
 ·simp; omega
 ·split
  ·simp; omega
  ·exact hd _
theorem prod_fits {n : Nat} (h8 : 8 ≤ n) (hn : n ≤ 16) {a b : Nat} (ha : a < 2 ^ n) (hb : b < 2 ^ n) : (prodX (decN n a) (decN n b)).fits 64 := by
 by_cases na : a = 2 ^ (n - 1)
 ·refine .inr (.inl ?_)
  unfold prodX
  rw [na, decN_nar, if_pos (.inl rfl)]
 by_cases nb : b = 2 ^ (n - 1)
 ·refine .inr (.inl ?_)
  unfold prodX
  rw [nb, decN_nar, if_pos (.inr rfl)]
 have ma := decN_mid h8 (by omega) ha na
 have mb := decN_mid h8 (by omega) hb nb
 have da := decN_dvd h8 (by omega) ha
 have db := decN_dvd h8 (by omega) hb
 have sa := decN_sc_n (n := n) (x := a) (by omega) h8
 have sb := decN_sc_n (n := n) (x := b) (by omega) h8
 generalize decN n a = x at *
 generalize decN n b = y at *
 rcases ma with rfl | ⟨a1, a2, a3, -, -⟩
 ·refine .inl ?_
  rcases mb with rfl | ⟨b1, -⟩
  ·rfl
  ·unfold prodX
   rw [if_neg (by simp [b1]), if_pos (by simp)]
 ·rcases mb with rfl | ⟨b1, b2, b3, -, -⟩
  ·refine .inl ?_
   unfold prodX
   rw [if_neg (by simp [a1]), if_pos (by simp)]
  ·obtain ⟨m1, m2⟩ := mul_fr a2 a3 b2 b3
   have m0 : 0 < x.fr * y.fr := Nat.lt_of_lt_of_le (two_pos 126) m1
   have hb1 := le_bl_of_le m1
   have hb2 := bl_le_of_lt m2
   have hd : 2 ^ (136 - 2 * n) ∣ x.fr * y.fr := by
    have := Nat.mul_dvd_mul da db
    rw [← Nat.pow_add, show 68 - n + (68 - n) = 136 - 2 * n by omega] at this
    exact this
   rw [prodX_real a1 b1, natX_parts _ m0]
   have hsc : heldI (x.sc + y.sc - 126 + (bl (x.fr * y.fr) : Int) - 1) = x.sc + y.sc - 126 + (bl (x.fr * y.fr) : Int) - 1 := by unfold heldI; rw [if_neg (by omega), if_neg (by omega)]
   rw [hsc]
   have hR : mkR (x.fr * y.fr) false = false := by
    unfold mkR
    rw [show bl (x.fr * y.fr) - 128 = 0 by omega, Nat.pow_zero, Nat.mod_one]; rfl
   rw [hR]
   refine fits_of (c := 136 - 2 * n) (q := 2 * n) rfl (mkV_ge m0) (mkV_lt m0) rfl (by omega) (natX_dvd m0 hd hb2) ?_ ?_ (by omega)
   ·show -(4 * ((2 * n : Nat) : Int)) ≤ x.sc + y.sc - 126 + (bl (x.fr * y.fr) : Int) - 1
    omega
   ·show x.sc + y.sc - 126 + (bl (x.fr * y.fr) : Int) - 1 < 4 * ((2 * n : Nat) : Int)
    omega
def okB (x : Nat) : Bool := x == 128 || ((decN 8 x).kd == 0) || (decide (-24 ≤ (decN 8 x).sc) && decide ((decN 8 x).sc ≤ 24) && decide ((decN 8 x).fr * 2 ^ ((decN 8 x).sc + 24).toNat % 2 ^ 63 = 0) && decide ((decN 8 x).fr * 2 ^ ((decN 8 x).sc + 24).toNat ≤ 2 ^ 111))
theorem okB_all : ∀ i : Fin 256, okB i.val = true := by decide +kernel
theorem val_8 {x : Nat} (hx : x < 2 ^ 8) (nx : x ≠ 2 ^ 7) : ∃ z : Int, (decN 8 x).ex.val (-24) = z * 2 ^ 127 ∧ z.natAbs ≤ 2 ^ 48 ∧ ((decN 8 x).ex.kd = 1 → -24 ≤ (decN 8 x).ex.sc) := by
 have h := okB_all ⟨x, hx⟩
 unfold okB at h
 have mid := decN_mid (n := 8) (by decide) (by decide) hx nx
 rcases mid with e | ⟨h1, h2, h3, -, -⟩
 ·refine ⟨0, ?_, by decide, ?_⟩
  ·rw [e]; exact val_zero _
  ·rw [e]; intro h; cases h
 ·simp only [Bool.or_eq_true, beq_iff_eq, Bool.and_eq_true, decide_eq_true_eq] at h
  have nx' : ¬ x = 128 := nx
  have h' := (h.resolve_left (by rw [h1]; rintro (h | h); exact nx' h; cases h))
  obtain ⟨⟨⟨k1, k2⟩, k3⟩, k4⟩ := h'
  generalize (decN 8 x) = y at *
  obtain ⟨u, hu⟩ := Nat.dvd_of_mod_eq_zero k3
  have hv : y.ex.V * 2 ^ (y.ex.sc - -24).toNat = u * 2 ^ 127 := by
   show y.fr * 18446744073709551616 * 2 ^ (y.sc - -24).toNat = _
   rw [show y.sc - -24 = y.sc + 24 by omega, Nat.mul_right_comm, hu, show (18446744073709551616 : Nat) = 2 ^ 64 by rw [p64], show (127 : Nat) = 63 + 64 from rfl, Nat.pow_add, Nat.mul_comm (2 ^ 63) u, Nat.mul_assoc]
  have hu4 : u ≤ 2 ^ 48 := by
   rw [hu, show (111 : Nat) = 63 + 48 from rfl, Nat.pow_add] at k4
   exact Nat.le_of_mul_le_mul_left k4 (two_pos 63)
  refine ⟨if y.ng then -(u : Int) else u, ?_, ?_, fun _ => k1⟩
  ·unfold EX.val
   rw [hv]
   show (if y.ng = true then _ else _) = _
   have e : ((u * 2 ^ 127 : Nat) : Int) = (u : Int) * 2 ^ 127 := by rw [Int.natCast_mul, pow_cast]
   cases y.ng
   ·simp only [Bool.false_eq_true, if_false]; exact e
   ·simp only [if_true]; rw [e, Int.neg_mul]
  ·cases y.ng
   ·simp only [Bool.false_eq_true, if_false, Int.natAbs_natCast]; exact hu4
   ·simp only [if_true, Int.natAbs_neg, Int.natAbs_natCast]; exact hu4
theorem sum_fits {a b : Nat} (ha : a < 2 ^ 8) (hb : b < 2 ^ 8) : (sumX (decN 8 a).ex (decN 8 b).ex).fits 64 := by
 by_cases na : a = 2 ^ 7
 ·refine .inr (.inl (sumX_nar (.inl ?_)))
  rw [na, show (2 : Nat) ^ 7 = 2 ^ (8 - 1) from rfl, decN_nar]; rfl
 by_cases nb : b = 2 ^ 7
 ·refine .inr (.inl (sumX_nar (.inr ?_)))
  rw [nb, show (2 : Nat) ^ 7 = 2 ^ (8 - 1) from rfl, decN_nar]; rfl
 obtain ⟨z, z1, z2, z3⟩ := val_8 ha na
 obtain ⟨w, w1, w2, w3⟩ := val_8 hb nb
 rw [sumX_at (decN_fin (by decide) (by decide) ha na) (decN_fin (by decide) (by decide) hb nb) z3 w3, z1, w1, ← Int.add_mul, intX_shift]
 rw [show (-24 : Int) - 127 + ((127 : Nat) : Int) = -24 by decide]
 have hle : (z + w).natAbs ≤ 2 ^ 49 := by rw [show (2 : Nat) ^ 49 = 2 ^ 48 + 2 ^ 48 by decide]; omega
 unfold intX
 generalize decide (z + w < 0) = g
 generalize (z + w).natAbs = m at *
 rcases Nat.eq_zero_or_pos m with h | h
 ·subst h; exact .inl (natX_zero _ _ _)
 ·have hb : bl m ≤ 50 := bl_le_of_lt (Nat.lt_of_le_of_lt hle (by decide))
  have hb0 := bl_pos h
  rw [natX_parts _ h]
  have hsc : heldI (-24 + (bl m : Int) - 1) = -24 + (bl m : Int) - 1 := by unfold heldI; rw [if_neg (by omega), if_neg (by omega)]
  have hR : mkR m false = false := by
   unfold mkR
   rw [show bl m - 128 = 0 by omega, Nat.pow_zero, Nat.mod_one]; rfl
  rw [hsc, hR]
  refine fits_of (c := 78) (q := 7) rfl (mkV_ge h) (mkV_lt h) rfl (by decide) ?_ ?_ ?_ (by decide)
  ·show 2 ^ 78 ∣ mkV m
   unfold mkV
   rw [if_pos (by omega)]
   exact Nat.dvd_mul_left_of_dvd (Nat.pow_dvd_pow 2 (by omega)) _
  ·show -(4 * ((7 : Nat) : Int)) ≤ -24 + (bl m : Int) - 1
   omega
  ·show -24 + (bl m : Int) - 1 < 4 * ((7 : Nat) : Int)
   omega
end Go.Proofs.Ythofoolgbngobaa.V
namespace Go.Proofs.Ythofoolgbngobaa.V
open Go Go.RowKit Go.Proofs.Ythofoolgbngobaa.Ab Go.Proofs.Ythofoolgbngobaa.Fn
set_option linter.unusedVariables false
set_option linter.unusedSimpArgs false
theorem c8 {x : Nat} (h : x < 2 ^ 8) : ((x : Int) % 256) = x := by have : (2 : Nat) ^ 8 = 256 := rfl; omega
theorem c16 {x : Nat} (h : x < 2 ^ 16) : IntKind.u16.wrap (x : Int) = x := by
 have e : (2 : Nat) ^ 16 = 65536 := rfl
 have : IntKind.u16.wrap (x : Int) = (x : Int) % 65536 := by unfold IntKind.wrap; simp [IntKind.bits, IntKind.signed]
 omega
theorem c32 {x : Nat} (h : x < 2 ^ 32) : ((x : Int) % 4294967296) = x := by have : (2 : Nat) ^ 32 = 4294967296 := rfl; omega
theorem c64 {x : Nat} (h : x < 2 ^ 64) : (x : Int) = x := rfl
theorem wu {x : Nat} (h : x < 18446744073709551616) : IntKind.u64.wrap (x : Int) = (x : Int) := u64_of (by omega) (by omega)
theorem isW8 : isW ((8 : Nat) : Int) = true := by decide
theorem isW16 : isW ((16 : Nat) : Int) = true := by decide
theorem isW32 : isW ((32 : Nat) : Int) = true := by decide
theorem isW64 : isW ((64 : Nat) : Int) = true := by decide
theorem lt8 {x : Nat} (h : x < 2 ^ 8) : x < 18446744073709551616 := Nat.lt_of_lt_of_le h (by decide)
theorem lt16 {x : Nat} (h : x < 2 ^ 16) : x < 18446744073709551616 := Nat.lt_of_lt_of_le h (by decide)
theorem lt32 {x : Nat} (h : x < 2 ^ 32) : x < 18446744073709551616 := Nat.lt_of_lt_of_le h (by decide)
theorem lt64 {x : Nat} (h : x < 2 ^ 64) : x < 18446744073709551616 := Nat.lt_of_lt_of_le h (by decide)
theorem gen_Width_P8_eq : gen_Width_P8.f = some 8 := rfl
theorem gen_Width_P16_eq : gen_Width_P16.f = some 16 := rfl
theorem gen_Width_P32_eq : gen_Width_P32.f = some 32 := rfl
theorem gen_Width_P64_eq : gen_Width_P64.f = some 64 := rfl
theorem gen_To_P8_P64_eq {a : Nat} (ha : a < 2 ^ 64) : Ev (fun k => gen_To_P8_P64.f k (a : Int)) ((convN 64 8 a : Nat) : Int) := by
 have c := gen_Convert_eq (n := 64) (m := 8) (p := a) isW64 isW8 (lt64 ha)
 rw [Nat.mod_eq_of_lt ha] at c
 have hl : convN 64 8 a < 2 ^ 8 := convN_lt (by decide) (by decide) (by decide) (by decide) ha
 unfold gen_To_P8_P64.f
 exact Ev.bind (evn gen_Width_P64_eq) (Ev.bind (evn gen_Width_P8_eq) (Ev.bind c (evn (congrArg some (c8 hl)))))
theorem gen_To_P16_P32_eq {a : Nat} (ha : a < 2 ^ 32) : Ev (fun k => gen_To_P16_P32.f k (a : Int)) ((convN 32 16 a : Nat) : Int) := by
 have c := gen_Convert_eq (n := 32) (m := 16) (p := a) isW32 isW16 (lt32 ha)
 rw [Nat.mod_eq_of_lt ha] at c
 have hl : convN 32 16 a < 2 ^ 16 := convN_lt (by decide) (by decide) (by decide) (by decide) ha
 unfold gen_To_P16_P32.f
 rw [wu (lt32 ha)]
 exact Ev.bind (evn gen_Width_P32_eq) (Ev.bind (evn gen_Width_P16_eq) (Ev.bind c (evn (congrArg some (c16 hl)))))
theorem gen_To_P16_P64_eq {a : Nat} (ha : a < 2 ^ 64) : Ev (fun k => gen_To_P16_P64.f k (a : Int)) ((convN 64 16 a : Nat) : Int) := by
 have c := gen_Convert_eq (n := 64) (m := 16) (p := a) isW64 isW16 (lt64 ha)
 rw [Nat.mod_eq_of_lt ha] at c
 have hl : convN 64 16 a < 2 ^ 16 := convN_lt (by decide) (by decide) (by decide) (by decide) ha
 unfold gen_To_P16_P64.f
 exact Ev.bind (evn gen_Width_P64_eq) (Ev.bind (evn gen_Width_P16_eq) (Ev.bind c (evn (congrArg some (c16 hl)))))
theorem gen_To_P32_P16_eq {a : Nat} (ha : a < 2 ^ 16) : Ev (fun k => gen_To_P32_P16.f k (a : Int)) ((convN 16 32 a : Nat) : Int) := by
 have c := gen_Convert_eq (n := 16) (m := 32) (p := a) isW16 isW32 (lt16 ha)
 rw [Nat.mod_eq_of_lt ha] at c
 have hl : convN 16 32 a < 2 ^ 32 := convN_lt (by decide) (by decide) (by decide) (by decide) ha
 unfold gen_To_P32_P16.f
 rw [wu (lt16 ha)]
 exact Ev.bind (evn gen_Width_P16_eq) (Ev.bind (evn gen_Width_P32_eq) (Ev.bind c (evn (congrArg some (c32 hl)))))
theorem gen_To_P64_P8_eq {a : Nat} (ha : a < 2 ^ 8) : Ev (fun k => gen_To_P64_P8.f k (a : Int)) ((convN 8 64 a : Nat) : Int) := by
 have c := gen_Convert_eq (n := 8) (m := 64) (p := a) isW8 isW64 (lt8 ha)
 rw [Nat.mod_eq_of_lt ha] at c
 have hl : convN 8 64 a < 2 ^ 64 := convN_lt (by decide) (by decide) (by decide) (by decide) ha
 unfold gen_To_P64_P8.f
 rw [wu (lt8 ha)]
 exact Ev.bind (evn gen_Width_P8_eq) (Ev.bind (evn gen_Width_P64_eq) (Ev.bind c (evn (congrArg some (c64 hl)))))
theorem gen_To_P64_P16_eq {a : Nat} (ha : a < 2 ^ 16) : Ev (fun k => gen_To_P64_P16.f k (a : Int)) ((convN 16 64 a : Nat) : Int) := by
 have c := gen_Convert_eq (n := 16) (m := 64) (p := a) isW16 isW64 (lt16 ha)
 rw [Nat.mod_eq_of_lt ha] at c
 have hl : convN 16 64 a < 2 ^ 64 := convN_lt (by decide) (by decide) (by decide) (by decide) ha
 unfold gen_To_P64_P16.f
 rw [wu (lt16 ha)]
 exact Ev.bind (evn gen_Width_P16_eq) (Ev.bind (evn gen_Width_P64_eq) (Ev.bind c (evn (congrArg some (c64 hl)))))
theorem gen_Add_P8_eq {a b : Nat} (ha : a < 2 ^ 8) (hb : b < 2 ^ 8) : Ev (fun k => gen_Add_P8.f k (a : Int) (b : Int)) ((addN 8 a b : Nat) : Int) := by
 have c := sum_Add_eq (n := 8) (a := a) (b := b) isW8 (lt8 ha) (lt8 hb)
 rw [Nat.mod_eq_of_lt ha, Nat.mod_eq_of_lt hb] at c
 have hl : addN 8 a b < 2 ^ 8 := addN_lt (by decide) (by decide) ha hb
 unfold gen_Add_P8.f gen_two_P8_sum_Add.f
 rw [wu (lt8 ha), wu (lt8 hb)]
 exact Ev.bind (Ev.bind (evn gen_Width_P8_eq) (Ev.bind c (evn (congrArg some (c8 hl))))) (Ev.now _)
theorem gen_Add_P64_eq {a b : Nat} (ha : a < 2 ^ 64) (hb : b < 2 ^ 64) : Ev (fun k => gen_Add_P64.f k (a : Int) (b : Int)) ((addN 64 a b : Nat) : Int) := by
 have c := sum_Add_eq (n := 64) (a := a) (b := b) isW64 (lt64 ha) (lt64 hb)
 rw [Nat.mod_eq_of_lt ha, Nat.mod_eq_of_lt hb] at c
 have hl : addN 64 a b < 2 ^ 64 := addN_lt (by decide) (by decide) ha hb
 unfold gen_Add_P64.f gen_two_P64_sum_Add.f
 exact Ev.bind (Ev.bind (evn gen_Width_P64_eq) (Ev.bind c (evn (congrArg some (c64 hl))))) (Ev.now _)
theorem gen_Sub_P8_eq {a b : Nat} (ha : a < 2 ^ 8) (hb : b < 2 ^ 8) : Ev (fun k => gen_Sub_P8.f k (a : Int) (b : Int)) ((addN 8 a (negP 8 b) : Nat) : Int) := by
 have c := sum_Sub_eq (n := 8) (a := a) (b := b) isW8 (lt8 ha) (lt8 hb)
 rw [Nat.mod_eq_of_lt ha, Nat.mod_eq_of_lt hb] at c
 have hl : addN 8 a (negP 8 b) < 2 ^ 8 := addN_lt (by decide) (by decide) ha (negP_lt hb)
 unfold gen_Sub_P8.f gen_two_P8_sum_Sub.f
 rw [wu (lt8 ha), wu (lt8 hb)]
 exact Ev.bind (Ev.bind (evn gen_Width_P8_eq) (Ev.bind c (evn (congrArg some (c8 hl))))) (Ev.now _)
theorem gen_Sub_P64_eq {a b : Nat} (ha : a < 2 ^ 64) (hb : b < 2 ^ 64) : Ev (fun k => gen_Sub_P64.f k (a : Int) (b : Int)) ((addN 64 a (negP 64 b) : Nat) : Int) := by
 have c := sum_Sub_eq (n := 64) (a := a) (b := b) isW64 (lt64 ha) (lt64 hb)
 rw [Nat.mod_eq_of_lt ha, Nat.mod_eq_of_lt hb] at c
 have hl : addN 64 a (negP 64 b) < 2 ^ 64 := addN_lt (by decide) (by decide) ha (negP_lt hb)
 unfold gen_Sub_P64.f gen_two_P64_sum_Sub.f
 exact Ev.bind (Ev.bind (evn gen_Width_P64_eq) (Ev.bind c (evn (congrArg some (c64 hl))))) (Ev.now _)
theorem gen_Mul_P8_eq {a b : Nat} (ha : a < 2 ^ 8) (hb : b < 2 ^ 8) : Ev (fun k => gen_Mul_P8.f k (a : Int) (b : Int)) ((mulN 8 a b : Nat) : Int) := by
 have c := prod_Mul_eq (n := 8) (a := a) (b := b) isW8 (lt8 ha) (lt8 hb)
 rw [Nat.mod_eq_of_lt ha, Nat.mod_eq_of_lt hb] at c
 have hl : mulN 8 a b < 2 ^ 8 := mulN_lt (by decide) (by decide)
 unfold gen_Mul_P8.f gen_two_P8_prod_Mul.f
 rw [wu (lt8 ha), wu (lt8 hb)]
 exact Ev.bind (Ev.bind (evn gen_Width_P8_eq) (Ev.bind c (evn (congrArg some (c8 hl))))) (Ev.now _)
theorem gen_Mul_P16_eq {a b : Nat} (ha : a < 2 ^ 16) (hb : b < 2 ^ 16) : Ev (fun k => gen_Mul_P16.f k (a : Int) (b : Int)) ((mulN 16 a b : Nat) : Int) := by
 have c := prod_Mul_eq (n := 16) (a := a) (b := b) isW16 (lt16 ha) (lt16 hb)
 rw [Nat.mod_eq_of_lt ha, Nat.mod_eq_of_lt hb] at c
 have hl : mulN 16 a b < 2 ^ 16 := mulN_lt (by decide) (by decide)
 unfold gen_Mul_P16.f gen_two_P16_prod_Mul.f
 rw [wu (lt16 ha), wu (lt16 hb)]
 exact Ev.bind (Ev.bind (evn gen_Width_P16_eq) (Ev.bind c (evn (congrArg some (c16 hl))))) (Ev.now _)
theorem gen_Mul_P64_eq {a b : Nat} (ha : a < 2 ^ 64) (hb : b < 2 ^ 64) : Ev (fun k => gen_Mul_P64.f k (a : Int) (b : Int)) ((mulN 64 a b : Nat) : Int) := by
 have c := prod_Mul_eq (n := 64) (a := a) (b := b) isW64 (lt64 ha) (lt64 hb)
 rw [Nat.mod_eq_of_lt ha, Nat.mod_eq_of_lt hb] at c
 have hl : mulN 64 a b < 2 ^ 64 := mulN_lt (by decide) (by decide)
 unfold gen_Mul_P64.f gen_two_P64_prod_Mul.f
 exact Ev.bind (Ev.bind (evn gen_Width_P64_eq) (Ev.bind c (evn (congrArg some (c64 hl))))) (Ev.now _)
end Go.Proofs.Ythofoolgbngobaa.V
namespace Go.Proofs.Ythofoolgbngobaa.Pure
open Go Go.RowKit Go.Proofs.Ythofoolgbngobaa.Ab Go.Proofs.Ythofoolgbngobaa.Fn Go.Proofs.Ythofoolgbngobaa.V
set_option linter.unusedSimpArgs false
theorem if_self {α β : Type} [DecidableEq α] (x : α) (a b : β) : (if x = x then a else b) = a := if_pos rfl
theorem wf_8 {a : Int} (h : (Lit.int .u8 a).wf = true) : ∃ x : Nat, a = x ∧ x < 2 ^ 8 := by
 have h := inK_wf h
 obtain ⟨h1, h2⟩ := h
 have e : (2 : Nat) ^ 8 = 256 := rfl
 simp only [kLo, kHi] at h1 h2
 exact ⟨a.toNat, by omega, by omega⟩
theorem wf_16 {a : Int} (h : (Lit.int .u16 a).wf = true) : ∃ x : Nat, a = x ∧ x < 2 ^ 16 := by
 have h := inK_wf h
 obtain ⟨h1, h2⟩ := h
 have e : (2 : Nat) ^ 16 = 65536 := rfl
 simp only [kLo, kHi] at h1 h2
 exact ⟨a.toNat, by omega, by omega⟩
theorem TopWide : verniertop_TopWide.Pure := by
 intro x y u v w0 w1 w2 w3
 obtain ⟨x, rfl, hx⟩ := wf_8 w0
 obtain ⟨y, rfl, hy⟩ := wf_8 w1
 obtain ⟨u, rfl, hu⟩ := wf_16 w2
 obtain ⟨v, rfl, hv⟩ := wf_16 w3
 refine Ev.rounds (g := fun k => verniertop_TopWide.f k (x : Int) (y : Int) (u : Int) (v : Int)) ?_
 have d8 : ∀ a, a < 2 ^ 8 → decN 64 (convN 8 64 a) = decN 8 a := fun a h => by rw [show (64 : Nat) = 8 + 56 from rfl, convN_up (by decide) (by decide) h, decN_longer (by decide) (by decide) h]
 have d16 : ∀ a, a < 2 ^ 16 → decN 64 (convN 16 64 a) = decN 16 a := fun a h => by rw [show (64 : Nat) = 16 + 48 from rfl, convN_up (by decide) (by decide) h, decN_longer (by decide) (by decide) h]
 have l8 : ∀ a, a < 2 ^ 8 → convN 8 64 a < 2 ^ 64 := fun a h => convN_lt (by decide) (by decide) (by decide) (by decide) h
 have l16 : ∀ a, a < 2 ^ 16 → convN 16 64 a < 2 ^ 64 := fun a h => convN_lt (by decide) (by decide) (by decide) (by decide) h
 have l32 : convN 16 32 u < 2 ^ 32 := convN_lt (by decide) (by decide) (by decide) (by decide) hu
 have hny := negP_lt hy
 have add : ∀ a b, a < 2 ^ 8 → b < 2 ^ 8 → convN 64 8 (((sumX (decN 8 a).ex (decN 8 b).ex)).rnd 64) = addN 8 a b := fun a b ha hb => by
  unfold convN
  rw [dec_fit (by decide) (by decide) (sum_fits ha hb)]
  rfl
 have A1 : addN 64 (convN 8 64 x) (convN 8 64 y) = (sumX (decN 8 x).ex (decN 8 y).ex).rnd 64 := by unfold addN; rw [d8 x hx, d8 y hy]
 have A2 : addN 64 (convN 8 64 x) (negP 64 (convN 8 64 y)) = (sumX (decN 8 x).ex (decN 8 (negP 8 y)).ex).rnd 64 := by
  unfold addN
  rw [decN_neg (by decide) (l8 y hy), decN_neg (by decide) hy, d8 x hx, d8 y hy]
 have A3 : mulN 64 (convN 8 64 x) (convN 8 64 y) = (prodX (decN 8 x) (decN 8 y)).rnd 64 := by unfold mulN; rw [d8 x hx, d8 y hy]
 have A4 : mulN 64 (convN 16 64 u) (convN 16 64 v) = (prodX (decN 16 u) (decN 16 v)).rnd 64 := by unfold mulN; rw [d16 u hu, d16 v hv]
 have B3 : convN 64 8 ((prodX (decN 8 x) (decN 8 y)).rnd 64) = mulN 8 x y := by
  unfold convN
  rw [dec_fit (by decide) (by decide) (prod_fits (by decide) (by decide) hx hy)]
  rfl
 have B4 : convN 64 16 ((prodX (decN 16 u) (decN 16 v)).rnd 64) = mulN 16 u v := by
  unfold convN
  rw [dec_fit (by decide) (by decide) (prod_fits (by decide) (by decide) hu hv)]
  rfl
 have T1 := gen_To_P64_P8_eq hx
 have T2 := gen_To_P64_P8_eq hy
 have la := addN_lt (n := 64) (by decide) (by decide) (l8 x hx) (l8 y hy)
 have ls := addN_lt (n := 64) (by decide) (by decide) (l8 x hx) (negP_lt (l8 y hy))
 have lm := mulN_lt (n := 64) (x := convN 8 64 x) (y := convN 8 64 y) (by decide) (by decide)
 have lq := mulN_lt (n := 64) (x := convN 16 64 u) (y := convN 16 64 v) (by decide) (by decide)
 unfold verniertop_TopWide.f
 have C1 := gen_To_P8_P64_eq la
 rw [A1, add x y hx hy] at C1
 have C2 := gen_To_P8_P64_eq ls
 rw [A2, add x _ hx hny] at C2
 have C3 := gen_To_P8_P64_eq lm
 rw [A3, B3] at C3
 have C4 := gen_To_P16_P64_eq lq
 rw [A4, B4] at C4
 have G1 := gen_Add_P64_eq (l8 x hx) (l8 y hy)
 have G2 := gen_Sub_P64_eq (l8 x hx) (l8 y hy)
 have G3 := gen_Mul_P64_eq (l8 x hx) (l8 y hy)
 have G4 := gen_Mul_P64_eq (l16 u hu) (l16 v hv)
 rw [A1] at G1
 rw [A2] at G2
 rw [A3] at G3
 rw [A4] at G4
 refine Ev.bind T1 (Ev.bind T2 (Ev.bind G1 (Ev.bind C1 (Ev.bind (gen_Add_P8_eq hx hy) (Ev.bind G2 (Ev.bind C2 (Ev.bind (gen_Sub_P8_eq hx hy) (Ev.bind G3 (Ev.bind C3 (Ev.bind (gen_Mul_P8_eq hx hy) (Ev.bind (gen_To_P64_P16_eq hu) (Ev.bind (gen_To_P64_P16_eq hv) (Ev.bind G4 (Ev.bind C4 (Ev.bind (gen_Mul_P16_eq hu hv) ?_)))))))))))))))
 simp only [if_self]
 have C5 := gen_To_P8_P64_eq (l8 x hx)
 have e5 : convN 64 8 (convN 8 64 x) = x := by
  rw [show convN 8 64 x = x * 2 ^ 56 from convN_up (n := 8) (d := 56) (by decide) (by decide) hx]
  exact convN_back (n := 8) (d := 56) (by decide) (by decide) hx
 have C6 := gen_To_P16_P32_eq l32
 have e6 : convN 32 16 (convN 16 32 u) = u := by
  rw [show convN 16 32 u = u * 2 ^ 16 from convN_up (n := 16) (d := 16) (by decide) (by decide) hu]
  exact convN_back (n := 16) (d := 16) (by decide) (by decide) hu
 rw [e5] at C5
 rw [e6] at C6
 simp only [if_true, gen_Width_P64_eq, Option.bind_some]
 refine Ev.bind C5 ?_
 simp only [if_true]
 exact Ev.bind (gen_To_P32_P16_eq hu) (Ev.bind C6 (evn (by rw [beq_self_eq_true])))
end Go.Proofs.Ythofoolgbngobaa.Pure
