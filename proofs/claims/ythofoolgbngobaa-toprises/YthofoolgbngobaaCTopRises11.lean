-- Written by a program of this session out of its own texts (wip/tools/link.py).
import Derived.Below
import Derived.ChangeKeysEq
import Derived.Deep.MidRow
import Derived.Deep.RegionHeld3
import Derived.Great.BuildSlice
import Derived.IntWalk
import Derived.KernelRfl
import Derived.LaidEql
import Derived.Laws.Bits64
import Derived.Laws.BitsLemmas
import Derived.Laws.BytesArg
import Derived.Laws.IdiomCopy
import Derived.Laws.OwnMore
import Derived.Laws.Rows
import Derived.Laws.Slices
import Derived.Laws.Strings
import Derived.Laws.StructEq
import Derived.Laws.Tables
import Derived.Lib.BitFns
import Derived.Lib.Mul64
import Derived.Lib.Slices
import Derived.Lib.Small
import Derived.Lib.Strings
import Derived.Lib.Walk
import Derived.Maps.AppendAt
import Derived.OrdersHeld
import Derived.RowKit
import Derived.Shelf.Spec.BitsCarry
import Derived.Test.YthofoolgbngobaaProg
import Derived.Test.YthofoolgbngobaaCTopRises7
import Derived.Test.YthofoolgbngobaaCTopRises8
import Derived.Test.YthofoolgbngobaaCTopRises9
import Derived.Test.YthofoolgbngobaaCTopRises10
namespace Go.Proofs.Ythofoolgbngobaa.V
open Go Go.RowKit Go.Proofs.Ythofoolgbngobaa.Ab Go.Proofs.Ythofoolgbngobaa.Fn
set_option linter.unusedVariables false
set_option linter.unusedSimpArgs false
theorem beq_dec (a b : Int) : (a == b) = decide (a = b) := by by_cases h : a = b <;> simp [h]
theorem mask32 (a : Nat) (ha : a < 18446744073709551616) : Go.bits .and .u64 (a : Int) 4294967295 = ((a % 4294967296 : Nat) : Int) := and_mask a 32 ha (by decide)
theorem div32 (a : Nat) : (a : Int) / 4294967296 = ((a / 4294967296 : Nat) : Int) := by omega
theorem mulC (a b : Nat) : (a : Int) * (b : Int) = ((a * b : Nat) : Int) := (Int.natCast_mul a b).symm
theorem addC (a b : Nat) : (a : Int) + (b : Int) = ((a + b : Nat) : Int) := (Int.natCast_add a b).symm
theorem wrapN (a : Nat) (ha : a < 18446744073709551616) : IntKind.u64.wrap (a : Int) = (a : Int) := u64_of (by omega) (by omega)
theorem bits_Mul64_eq {x y : Nat} (hx : x < 18446744073709551616) (hy : y < 18446744073709551616) : bits_Mul64.f (x : Int) (y : Int) = some (TH (x * y), TL (x * y)) := by
 obtain ⟨bd, bt, bw, hhi⟩ := Lib.mul64_hi x y hx hy
 have ba := Lib.half_mul_le (a := x / 4294967296) (b := y / 4294967296) (by omega) (by omega)
 have bb := Lib.half_mul_le (a := x / 4294967296) (b := y % 4294967296) (by omega) (by omega)
 have bc := Lib.half_mul_le (a := x % 4294967296) (b := y / 4294967296) (by omega) (by omega)
 have ba' : x / 4294967296 * (y / 4294967296) < 18446744073709551616 := by omega
 have bb' : x / 4294967296 * (y % 4294967296) < 18446744073709551616 := by omega
 have bc' : x % 4294967296 * (y / 4294967296) < 18446744073709551616 := by omega
 have bh1 : x / 4294967296 * (y / 4294967296) + (x / 4294967296 * (y % 4294967296) + x % 4294967296 * (y % 4294967296) / 4294967296) / 4294967296 < 18446744073709551616 := by omega
 have bh : x / 4294967296 * (y / 4294967296) + (x / 4294967296 * (y % 4294967296) + x % 4294967296 * (y % 4294967296) / 4294967296) / 4294967296 + ((x / 4294967296 * (y % 4294967296) + x % 4294967296 * (y % 4294967296) / 4294967296) % 4294967296 + x % 4294967296 * (y / 4294967296)) / 4294967296 < 18446744073709551616 := by omega
 unfold bits_Mul64.f
 simp only [mask32 x hx, mask32 y hy, div32, mulC, addC, wrapN _ bd, wrapN _ bb', wrapN _ bt, mask32 _ bt, wrapN _ bc', wrapN _ bw, wrapN _ ba', wrapN _ bh1, wrapN _ bh, u64_nat_wrap (x * y)]
 rw [hhi]
 rfl
theorem twin_Mul_eq {x y : Nat} (hx : x < 18446744073709551616) (hy : y < 18446744073709551616) : twin_Mul.f (x : Int) (y : Int) = some (TH (x * y), TL (x * y)) := by
 unfold twin_Mul.f
 rw [bits_Mul64_eq hx hy]; rfl
theorem mul_lt128 {x y : Nat} (hx : x < 18446744073709551616) (hy : y < 18446744073709551616) : x * y < 2 ^ 128 := by
 have := Nat.mul_le_mul (show x ≤ 18446744073709551615 by omega) (show y ≤ 18446744073709551615 by omega)
 rw [p128]
 omega
def prodE (kd : Int) (ng : Bool) (sc : Int) (fr : Nat) (kd' : Int) (ng' : Bool) (sc' : Int) (fr' : Nat) : Int × Bool × Int × Int × Int × Bool :=
 if kd = 2 ∨ kd' = 2 then (2, false, 0, 0, 0, false) else if kd = 0 ∨ kd' = 0 then (0, false, 0, 0, 0, false)
 else exactE (ng != ng') (fr * fr') (sc + sc' - 126) false
theorem soundN_cases {kd sc fr : Int} {ng : Bool} (h : soundN kd ng sc fr = true) : (kd = 0 ∧ ng = false ∧ sc = 0 ∧ fr = 0) ∨ (kd = 2 ∧ ng = false ∧ sc = 0 ∧ fr = 0) ∨ (kd = 1 ∧ 9223372036854775808 ≤ fr ∧ -1073741824 ≤ sc ∧ sc ≤ 1073741824) := by
 unfold soundN at h
 split at h
 ·rename_i hk
  have : ng = false ∧ sc = 0 ∧ fr = 0 := by simpa using h
  rcases hk with hk | hk
  ·exact .inl ⟨hk, this⟩
  ·exact .inr (.inl ⟨hk, this⟩)
 ·exact .inr (.inr (of_decide_eq_true h))
theorem makeV_exactE {ng R : Bool} {V : Nat} {e : Int} (hV : V < 2 ^ 128) (h0 : -4398046511104 ≤ e) (h1 : e ≤ 4398046511104) :
  makeV ng V e R = ((exactE ng V e R).1, (exactE ng V e R).2.1, (exactE ng V e R).2.2.1, (exactE ng V e R).2.2.2.1, (exactE ng V e R).2.2.2.2.1, (exactE ng V e R).2.2.2.2.2, none) := by
 unfold makeV exactE
 by_cases hz : V = 0
 ·rw [if_pos hz, if_pos hz]
 ·rw [if_neg hz, if_neg hz]
  have hb := bl_le_of_lt hV
  have hr : mkR V R = R := by unfold mkR; rw [show bl V - 128 = 0 by omega, Nat.pow_zero, Nat.mod_one]; simp
  have hf : farI e = e := by unfold farI; rw [if_neg (by omega), if_neg (by omega)]
  rw [hr, hf]
theorem prod_Exact_eq (kd : Int) (ng : Bool) (sc : Int) (fr : Nat) (kd' : Int) (ng' : Bool) (sc' : Int) (fr' : Nat) (hf : fr < 18446744073709551616) (hf' : fr' < 18446744073709551616) :
  Ev (fun k => prod_Exact.f k kd ng sc (fr : Int) kd' ng' sc' (fr' : Int)) (if soundN kd ng sc fr = true ∧ soundN kd' ng' sc' fr' = true then
   ((prodE kd ng sc fr kd' ng' sc' fr').1, (prodE kd ng sc fr kd' ng' sc' fr').2.1, (prodE kd ng sc fr kd' ng' sc' fr').2.2.1, (prodE kd ng sc fr kd' ng' sc' fr').2.2.2.1, (prodE kd ng sc fr kd' ng' sc' fr').2.2.2.2.1, (prodE kd ng sc fr kd' ng' sc' fr').2.2.2.2.2, none)
   else (0, false, 0, 0, 0, false, some 1)) := by
 unfold prod_Exact.f
 refine Ev.bind (round_Of_eq kd ng sc fr (by omega) (by omega)) ?_
 by_cases h1 : soundN kd ng sc fr = true
 ·simp only [h1, if_true, Option.isNone_none, true_and]
  refine Ev.bind (round_Of_eq kd' ng' sc' fr' (by omega) (by omega)) ?_
  by_cases h2 : soundN kd' ng' sc' fr' = true
  ·simp only [h2, if_true, Option.isNone_none]
   have c1 := soundN_cases h1
   have c2 := soundN_cases h2
   have j1 : Ev (fun k => prod_Exact.j0 k (decide (kd = 2 ∨ kd' = 2)) kd ng sc (fr : Int) kd' ng' sc' (fr' : Int)) ((prodE kd ng sc fr kd' ng' sc' fr').1, (prodE kd ng sc fr kd' ng' sc' fr').2.1, (prodE kd ng sc fr kd' ng' sc' fr').2.2.1, (prodE kd ng sc fr kd' ng' sc' fr').2.2.2.1, (prodE kd ng sc fr kd' ng' sc' fr').2.2.2.2.1, (prodE kd ng sc fr kd' ng' sc' fr').2.2.2.2.2, none) := by
    refine evs ?_
    simp only [prod_Exact.j0]
    unfold prodE
    by_cases hk : kd = 2 ∨ kd' = 2
    ·simp only [if_pos hk, decide_eq_true hk, if_true]
     exact Ev.now _
    ·simp only [if_neg hk, decide_eq_false hk, Bool.false_eq_true, if_false]
     have j2 : Ev (fun k => prod_Exact.j1 k (decide (kd = 0 ∨ kd' = 0)) ng sc (fr : Int) ng' sc' (fr' : Int)) (if kd = 0 ∨ kd' = 0 then (0, false, 0, 0, 0, false, none) else makeV (ng != ng') (fr * fr') (sc + sc' - 126) false) := by
      refine evs ?_
      simp only [prod_Exact.j1]
      by_cases h0 : kd = 0 ∨ kd' = 0
      ·simp only [if_pos h0, decide_eq_true h0, if_true]
       exact Ev.now _
      ·simp only [if_neg h0, decide_eq_false h0, Bool.false_eq_true, if_false]
       have ew : wrap64 (wrap64 (sc + sc') - 126) = sc + sc' - 126 := by
        rw [w64 (n := sc + sc') (by omega) (by omega), w64 (by omega) (by omega)]
       rw [ew, twin_Mul_eq hf hf']
       simp only [Option.bind_some]
       have := round_Make_eq (ng != ng') (fr * fr') (sc + sc' - 126) false (mul_lt128 hf hf')
       simp only [Bool.false_eq_true, false_and, if_false] at this
       refine Ev.bind this ?_
       exact Ev.now _
     have key : ((if kd = 0 ∨ kd' = 0 then (0, false, 0, 0, 0, false, none) else makeV (ng != ng') (fr * fr') (sc + sc' - 126) false) : Int × Bool × Int × Int × Int × Bool × Option Int) = ((if kd = 0 ∨ kd' = 0 then (0, false, 0, 0, 0, false) else exactE (ng != ng') (fr * fr') (sc + sc' - 126) false).1, (if kd = 0 ∨ kd' = 0 then (0, false, 0, 0, 0, false) else exactE (ng != ng') (fr * fr') (sc + sc' - 126) false).2.1, (if kd = 0 ∨ kd' = 0 then (0, false, 0, 0, 0, false) else exactE (ng != ng') (fr * fr') (sc + sc' - 126) false).2.2.1, (if kd = 0 ∨ kd' = 0 then (0, false, 0, 0, 0, false) else exactE (ng != ng') (fr * fr') (sc + sc' - 126) false).2.2.2.1, (if kd = 0 ∨ kd' = 0 then (0, false, 0, 0, 0, false) else exactE (ng != ng') (fr * fr') (sc + sc' - 126) false).2.2.2.2.1, (if kd = 0 ∨ kd' = 0 then (0, false, 0, 0, 0, false) else exactE (ng != ng') (fr * fr') (sc + sc' - 126) false).2.2.2.2.2, none) := by
      by_cases h0 : kd = 0 ∨ kd' = 0
      ·simp only [if_pos h0]
      ·simp only [if_neg h0]
       exact makeV_exactE (mul_lt128 hf hf') (by omega) (by omega)
     rw [← key]
     by_cases hk0 : kd = 0
     ·have hd : (kd == 0) = decide (kd = 0 ∨ kd' = 0) := by rw [decide_eq_true (.inl hk0)]; simp [hk0]
      simp only [if_pos hk0, hd]
      exact j2
     ·have hd : (kd' == 0) = decide (kd = 0 ∨ kd' = 0) := by rw [beq_dec]; simp [hk0]
      simp only [if_neg hk0, hd]
      exact j2
   by_cases hk2 : kd = 2
   ·have hd : (kd == 2) = decide (kd = 2 ∨ kd' = 2) := by simp [hk2]
    simp only [if_pos hk2, hd]
    exact j1
   ·have hd : (kd' == 2) = decide (kd = 2 ∨ kd' = 2) := by rw [beq_dec]; simp [hk2]
    simp only [if_neg hk2, hd]
    exact j1
  ·simp only [if_neg h2]
   exact Ev.now _
 ·simp only [if_neg h1, if_neg (show ¬ (soundN kd ng sc fr = true ∧ soundN kd' ng' sc' fr' = true) from fun h => h1 h.1)]
  exact Ev.now _
def prodX (a b : NM) : EX := if a.kd = 2 ∨ b.kd = 2 then EX.nar else if a.kd = 0 ∨ b.kd = 0 then EX.zero else natX (a.ng != b.ng) (a.fr * b.fr) (a.sc + b.sc - 126) false
theorem prodX_ok (a b : NM) : (prodX a b).ok := by
 unfold prodX
 split
 ·exact .inr (.inl rfl)
 ·split
  ·exact .inl rfl
  ·exact natX_ok _ _ _ _
theorem prodE_X (a b : NM) : prodE a.kd a.ng a.sc a.fr b.kd b.ng b.sc b.fr = ((prodX a b).kd, (prodX a b).ng, (prodX a b).sc, TH (prodX a b).V, TL (prodX a b).V, (prodX a b).R) := by
 unfold prodE prodX
 by_cases h2 : a.kd = 2 ∨ b.kd = 2
 ·rw [if_pos h2, if_pos h2]; rfl
 ·rw [if_neg h2, if_neg h2]
  by_cases h0 : a.kd = 0 ∨ b.kd = 0
  ·rw [if_pos h0, if_pos h0]; rfl
  ·rw [if_neg h0, if_neg h0, exactE_natX]
theorem prod_Exact_X {a b : NM} (ha : a.ok) (hb : b.ok) : Ev (fun k => prod_Exact.f k a.kd a.ng a.sc (a.fr : Int) b.kd b.ng b.sc (b.fr : Int)) ((prodX a b).kd, (prodX a b).ng, (prodX a b).sc, TH (prodX a b).V, TL (prodX a b).V, (prodX a b).R, none) := by
 have := prod_Exact_eq a.kd a.ng a.sc a.fr b.kd b.ng b.sc b.fr ha.2 hb.2
 rw [if_pos ⟨ha.1, hb.1⟩, prodE_X] at this
 exact this
end Go.Proofs.Ythofoolgbngobaa.V
namespace Go.Proofs.Ythofoolgbngobaa.V
open Go Go.RowKit Go.Proofs.Ythofoolgbngobaa.Ab Go.Proofs.Ythofoolgbngobaa.Fn
set_option linter.unusedVariables false
set_option linter.unusedSimpArgs false
theorem T_hi (r : Nat) : TH (r * 18446744073709551616) = (r : Int) ∧ TL (r * 18446744073709551616) = 0 := by
 unfold TH TL; omega
theorem Of_X {x : NM} (h : x.ok) : Ev (fun k => round_Of.f k x.kd x.ng x.sc (x.fr : Int)) (x.ex.kd, x.ex.ng, x.ex.sc, TH x.ex.V, TL x.ex.V, x.ex.R, none) := by
 have := round_Of_eq x.kd x.ng x.sc (x.fr : Int) (by have := h.2; omega) (by omega)
 rw [if_pos h.1] at this
 rw [(NM.ex_tup x h).1, (NM.ex_tup x h).2]
 exact this
end Go.Proofs.Ythofoolgbngobaa.V
namespace Go.Proofs.Ythofoolgbngobaa.V
open Go Go.RowKit Go.Proofs.Ythofoolgbngobaa.Ab Go.Proofs.Ythofoolgbngobaa.Fn
set_option linter.unusedVariables false
set_option linter.unusedSimpArgs false
theorem EX.ok_kd {x : EX} (hx : x.ok) : x.kd = 0 ∨ x.kd = 1 ∨ x.kd = 2 := by
 rcases hx with rfl | rfl | hx
 ·exact .inl rfl
 ·exact .inr (.inr rfl)
 ·exact .inr (.inl hx.1)
theorem sumX_nar {x y : EX} (h : x.kd = 2 ∨ y.kd = 2) : sumX x y = EX.nar := by unfold sumX; rw [if_pos h]
theorem sumX_z1 {x y : EX} (h : ¬ (x.kd = 2 ∨ y.kd = 2)) (h1 : x.kd = 0) : sumX x y = y := by unfold sumX; rw [if_neg h, if_pos h1]
theorem sumX_z2 {x y : EX} (h : ¬ (x.kd = 2 ∨ y.kd = 2)) (h1 : ¬ x.kd = 0) (h2 : y.kd = 0) : sumX x y = x := by unfold sumX; rw [if_neg h, if_neg h1, if_pos h2]
theorem broad_Sum_j0 {x y : EX} (hx : x.ok) (hy : y.ok) : Ev (fun k => broad_Sum.j0 k (decide (x.kd = 2 ∨ y.kd = 2)) x.kd x.ng x.sc (TH x.V) (TL x.V) x.R y.kd y.ng y.sc (TH y.V) (TL y.V) y.R) (sumX x y).tup := by
 refine evs ?_
 simp only [broad_Sum.j0]
 by_cases h : x.kd = 2 ∨ y.kd = 2
 ·simp only [if_pos (decide_eq_true h)]
  rw [sumX_nar h]
  exact Ev.now _
 ·simp only [if_neg (fun h' => h (of_decide_eq_true h') : ¬ decide (x.kd = 2 ∨ y.kd = 2) = true)]
  by_cases a : x.kd = 0
  ·simp only [if_pos a]
   rw [sumX_z1 h a]
   exact Ev.now _
  ·simp only [if_neg a]
   by_cases b : y.kd = 0
   ·simp only [if_pos b]
    rw [sumX_z2 h a b]
    exact Ev.now _
   ·simp only [if_neg b]
    have kx : x.kd = 1 := by have := EX.ok_kd hx; omega
    have ky : y.kd = 1 := by have := EX.ok_kd hy; omega
    by_cases c : x.sc < y.sc
    ·simp only [if_pos c]
     rw [sumX_comm hx hy]
     exact Sum_j1 hy hx ky kx (Int.le_of_lt c)
    ·simp only [if_neg c]
     exact Sum_j1 hx hy kx ky (Int.not_lt.1 c)
theorem broad_Sum_X {x y : EX} (hx : x.ok) (hy : y.ok) : Ev (fun k => broad_Sum.f k x.kd x.ng x.sc (TH x.V) (TL x.V) x.R y.kd y.ng y.sc (TH y.V) (TL y.V) y.R) (sumX x y).tup := by
 have h := broad_Sum_j0 hx hy
 unfold broad_Sum.f
 by_cases a : x.kd = 2
 ·simp only [if_pos a]
  rw [decide_eq_true (Or.inl a)] at h
  exact h
 ·simp only [if_neg a]
  rw [show decide (x.kd = 2 ∨ y.kd = 2) = (y.kd == 2) by rw [Bool.eq_iff_iff]; simp [a]] at h
  exact h
theorem sum_Exact_X {a b : NM} (ha : a.ok) (hb : b.ok) : Ev (fun k => sum_Exact.f k a.kd a.ng a.sc (a.fr : Int) b.kd b.ng b.sc (b.fr : Int)) ((sumX a.ex b.ex).kd, (sumX a.ex b.ex).ng, (sumX a.ex b.ex).sc, TH (sumX a.ex b.ex).V, TL (sumX a.ex b.ex).V, (sumX a.ex b.ex).R, none) := by
 unfold sum_Exact.f
 refine Ev.bind (Of_X ha) ?_
 simp only [Option.isNone_none, if_true]
 refine Ev.bind (Of_X hb) ?_
 simp only [Option.isNone_none, if_true]
 exact Ev.bind (broad_Sum_X (NM.ex_ok ha) (NM.ex_ok hb)) (Ev.now _)
def addN (n x y : Nat) : Nat := (sumX (decN n x).ex (decN n y).ex).rnd n
theorem addN_lt {n x y : Nat} (h8 : 8 ≤ n) (hn : n ≤ 64) (hx : x < 2 ^ n) (hy : y < 2 ^ n) : addN n x y < 2 ^ n := EX.rnd_lt h8 hn (sumX_ok (NM.ex_ok (decN_ok h8 hn hx)) (NM.ex_ok (decN_ok h8 hn hy)))
theorem sum_Add_eq {n a b : Nat} (h : isW (n : Int) = true) (ha : a < 18446744073709551616) (hb : b < 18446744073709551616) : Ev (fun k => sum_Add.f k (n : Int) (a : Int) (b : Int)) (((addN n (a % 2 ^ n) (b % 2 ^ n) : Nat) : Int), none) := by
 obtain ⟨b64, b8⟩ := pow64 h
 have oa := decN_ok b8 b64 (Nat.mod_lt a (two_pos n))
 have ob := decN_ok b8 b64 (Nat.mod_lt b (two_pos n))
 unfold sum_Add.f
 refine Ev.bind (Decode_N h ha) ?_
 simp only [Option.isNone_none, if_true]
 refine Ev.bind (Decode_N h hb) (Ev.bind (sum_Exact_X oa ob) ?_)
 simp only [Option.isNone_none, if_true]
 exact Ev.bind (Round_X h (sumX_ok (NM.ex_ok oa) (NM.ex_ok ob))) (Ev.now _)
theorem sum_Add_no {n : Int} (h : isW n = false) (a b : Int) : Ev (fun k => sum_Add.f k n a b) (0, some 2) := by
 unfold sum_Add.f
 exact Ev.bind (Decode_no h a) (Ev.now _)
end Go.Proofs.Ythofoolgbngobaa.V
namespace Go.Proofs.Ythofoolgbngobaa.V
open Go Go.RowKit Go.Proofs.Ythofoolgbngobaa.Ab
theorem prodX_comm (a b : NM) : prodX a b = prodX b a := by
 have e2 : (b.kd = 2 ∨ a.kd = 2) ↔ (a.kd = 2 ∨ b.kd = 2) := Or.comm
 have e0 : (b.kd = 0 ∨ a.kd = 0) ↔ (a.kd = 0 ∨ b.kd = 0) := Or.comm
 unfold prodX
 simp only [e2, e0, Nat.mul_comm b.fr, Int.add_comm b.sc, show (b.ng != a.ng) = (a.ng != b.ng) by cases a.ng <;> cases b.ng <;> rfl]
theorem prodX_neg {a : NM} (ha : a.ok) (b : NM) : prodX a.neg b = (prodX a b).neg := by
 rcases NM.cases ha with rfl | rfl | ⟨h, h2, h3, h4, h5⟩
 ·rw [show (⟨0, false, 0, 0⟩ : NM).neg = ⟨0, false, 0, 0⟩ from rfl]
  unfold prodX
  split
  ·rfl
  ·rw [if_pos (.inl rfl)]; rfl
 ·rw [show (⟨2, false, 0, 0⟩ : NM).neg = ⟨2, false, 0, 0⟩ from rfl]
  unfold prodX
  rw [if_pos (.inl rfl)]; rfl
 ·unfold NM.neg
  rw [if_pos h]
  unfold prodX
  simp only
  by_cases h2 : a.kd = 2 ∨ b.kd = 2
  ·rw [if_pos h2, if_pos h2]; rfl
  ·rw [if_neg h2, if_neg h2]
   by_cases h0 : a.kd = 0 ∨ b.kd = 0
   ·rw [if_pos h0, if_pos h0]; rfl
   ·rw [if_neg h0, if_neg h0, ← natX_neg]
    congr 1
    cases a.ng <;> cases b.ng <;> rfl
theorem decN_kd {n x : Nat} (h : x ≠ 2 ^ (n - 1)) : (decN n x).kd ≠ 2 := by
 unfold decN
 by_cases h0 : x = 0
 ·rw [if_pos h0]; show (0 : Int) ≠ 2; decide
 ·rw [if_neg h0, if_neg h]; show (1 : Int) ≠ 2; decide
end Go.Proofs.Ythofoolgbngobaa.V
namespace Go.Proofs.Ythofoolgbngobaa.V
open Go Go.RowKit Go.Proofs.Ythofoolgbngobaa.Ab Go.Proofs.Ythofoolgbngobaa.Fn
set_option linter.unusedVariables false
set_option linter.unusedSimpArgs false
theorem sum_Sub_eq {n a b : Nat} (h : isW (n : Int) = true) (ha : a < 18446744073709551616) (hb : b < 18446744073709551616) : Ev (fun k => sum_Sub.f k (n : Int) (a : Int) (b : Int)) (((addN n (a % 2 ^ n) (negP n (b % 2 ^ n)) : Nat) : Int), none) := by
 obtain ⟨b64, b8⟩ := pow64 h
 have g : (18446744073709551616 - b) % 18446744073709551616 % 2 ^ n = negP n (b % 2 ^ n) := negN_mod b64 hb
 have q := sum_Add_eq h ha (Nat.mod_lt (18446744073709551616 - b) (show 0 < 18446744073709551616 by decide))
 rw [g, ← neg_wrap hb] at q
 unfold sum_Sub.f
 exact Ev.bind q (Ev.now _)
theorem sum_Sub_no {n : Int} (h : isW n = false) (a b : Int) : Ev (fun k => sum_Sub.f k n a b) (0, some 2) := by
 unfold sum_Sub.f
 exact Ev.bind (sum_Add_no h _ _) (Ev.now _)
end Go.Proofs.Ythofoolgbngobaa.V
namespace Go.Proofs.Ythofoolgbngobaa.V
open Go Go.RowKit Go.Proofs.Ythofoolgbngobaa.Ab Go.Proofs.Ythofoolgbngobaa.Fn
set_option linter.unusedVariables false
set_option linter.unusedSimpArgs false
theorem EX.ok_zero {x : EX} (hx : x.ok) (h : x.kd = 0) : x = EX.zero := by
 rcases hx with rfl | rfl | hx
 ·rfl
 ·exact absurd h (by decide)
 ·omega
theorem sumX_zero_r {x : EX} (hx : x.ok) : sumX x EX.zero = x := by
 unfold sumX
 by_cases h : x.kd = 2 ∨ EX.zero.kd = 2
 ·rw [if_pos h]
  have h2 : x.kd = 2 := h.elim id (fun h => absurd h (by decide))
  rcases hx with rfl | rfl | hx
  ·exact absurd h2 (by decide)
  ·rfl
  ·omega
 ·rw [if_neg h]
  by_cases h0 : x.kd = 0
  ·rw [if_pos h0, EX.ok_zero hx h0]
  ·rw [if_neg h0, if_pos (show EX.zero.kd = 0 from rfl)]
theorem EX.neg_kd (x : EX) : x.neg.kd = x.kd := by unfold EX.neg; split <;> rfl
end Go.Proofs.Ythofoolgbngobaa.V
namespace Go.Proofs.Ythofoolgbngobaa.V
open Go Go.RowKit Go.Proofs.Ythofoolgbngobaa.Ab Go.Proofs.Ythofoolgbngobaa.Fn
set_option linter.unusedVariables false
set_option linter.unusedSimpArgs false
def prdX (n x y : Nat) : EX := prodX (decN n x) (decN n y)
theorem prdX_ok (n x y : Nat) : (prdX n x y).ok := prodX_ok _ _
def fmaN (n x y z : Nat) : Nat := (sumX (prdX n x y) (decN n z).ex).rnd n
theorem EX.neg_neg {x : EX} : x.neg.neg = x := by
 unfold EX.neg
 by_cases h : x.kd = 1
 ·rw [if_pos h]
  simp only [if_pos h, Bool.not_not]
 ·rw [if_neg h, if_neg h]
theorem prdX_comm (n x y : Nat) : prdX n x y = prdX n y x := prodX_comm _ _
theorem prdX_neg {n x y : Nat} (h8 : 8 ≤ n) (hn : n ≤ 64) (hx : x < 2 ^ n) : prdX n (negP n x) y = (prdX n x y).neg := by
 unfold prdX
 rw [decN_neg (by omega) hx, prodX_neg (decN_ok h8 hn hx)]
theorem fuse_product_eq {n a b : Nat} (h : isW (n : Int) = true) (ha : a < 18446744073709551616) (hb : b < 18446744073709551616) : Ev (fun k => fuse_product.f k (n : Int) (a : Int) (b : Int)) ((prdX n (a % 2 ^ n) (b % 2 ^ n)).kd, (prdX n (a % 2 ^ n) (b % 2 ^ n)).ng, (prdX n (a % 2 ^ n) (b % 2 ^ n)).sc, TH (prdX n (a % 2 ^ n) (b % 2 ^ n)).V, TL (prdX n (a % 2 ^ n) (b % 2 ^ n)).V, (prdX n (a % 2 ^ n) (b % 2 ^ n)).R, none) := by
 obtain ⟨b64, b8⟩ := pow64 h
 have oa := decN_ok b8 b64 (Nat.mod_lt a (two_pos n))
 have ob := decN_ok b8 b64 (Nat.mod_lt b (two_pos n))
 unfold fuse_product.f
 refine Ev.bind (Decode_N h ha) ?_
 simp only [Option.isNone_none, if_true]
 exact Ev.bind (Decode_N h hb) (Ev.bind (prod_Exact_X oa ob) (Ev.now _))
theorem fuse_product_no {n : Int} (h : isW n = false) (a b : Int) : Ev (fun k => fuse_product.f k n a b) (0, false, 0, 0, 0, false, some 2) := by
 unfold fuse_product.f
 exact Ev.bind (Decode_no h a) (Ev.now _)
theorem fuse_Fma_eq {n a b c : Nat} (h : isW (n : Int) = true) (ha : a < 18446744073709551616) (hb : b < 18446744073709551616) (hc : c < 18446744073709551616) : Ev (fun k => fuse_Fma.f k (n : Int) (a : Int) (b : Int) (c : Int)) (((fmaN n (a % 2 ^ n) (b % 2 ^ n) (c % 2 ^ n) : Nat) : Int), none) := by
 obtain ⟨b64, b8⟩ := pow64 h
 have oc := decN_ok b8 b64 (Nat.mod_lt c (two_pos n))
 have op := prdX_ok n (a % 2 ^ n) (b % 2 ^ n)
 unfold fuse_Fma.f
 refine Ev.bind (fuse_product_eq h ha hb) ?_
 simp only [Option.isNone_none, if_true]
 exact Ev.bind (Decode_N h hc) (Ev.bind (Of_X oc) (Ev.bind (broad_Sum_X op (NM.ex_ok oc)) (Ev.bind (Round_X h (sumX_ok op (NM.ex_ok oc))) (Ev.now _))))
theorem fuse_Fma_no {n : Int} (h : isW n = false) (a b c : Int) : Ev (fun k => fuse_Fma.f k n a b c) (0, some 2) := by
 unfold fuse_Fma.f
 exact Ev.bind (fuse_product_no h _ _) (Ev.now _)
end Go.Proofs.Ythofoolgbngobaa.V
namespace Go.Proofs.Ythofoolgbngobaa.V
open Go Go.RowKit Go.Proofs.Ythofoolgbngobaa.Ab Go.Proofs.Ythofoolgbngobaa.Fn
set_option linter.unusedVariables false
set_option linter.unusedSimpArgs false
theorem dig_test {y1 y0 u d g r : Nat} (hy1 : 2147483648 ≤ y1) (hy1' : y1 < 4294967296) (hy0 : y0 < 4294967296) (hu : u < y1 * 4294967296 + y0) (hd : d < 4294967296) (hg : u = g * y1 + r) (hr : r < 4294967296) :
  (¬ (4294967296 ≤ g ∨ 4294967296 * r + d < g * y0) → g ≤ (u * 4294967296 + d) / (y1 * 4294967296 + y0)) ∧ ((4294967296 ≤ g ∨ 4294967296 * r + d < g * y0) → (u * 4294967296 + d) / (y1 * 4294967296 + y0) < g) := by
 have hpos : 0 < y1 * 4294967296 + y0 := by omega
 have e : g * (y1 * 4294967296 + y0) = g * y1 * 4294967296 + g * y0 := by rw [Nat.mul_add, Nat.mul_assoc]
 have eu : u * 4294967296 = g * y1 * 4294967296 + r * 4294967296 := by rw [hg, Nat.add_mul]
 constructor
 ·intro h
  rw [Nat.le_div_iff_mul_le hpos, e]
  omega
 ·rintro (h | h)
  ·refine Nat.lt_of_lt_of_le ?_ h
   rw [Nat.div_lt_iff_lt_mul hpos]
   omega
  ·rw [Nat.div_lt_iff_lt_mul hpos, e]
   omega
theorem dig_break {y1 y0 u d g r : Nat} (hy1 : 2147483648 ≤ y1) (hy0 : y0 < 4294967296) (hg : u = g * y1 + r) (hr : 4294967296 ≤ r) (hb : g ≤ 4294967296) : g ≤ (u * 4294967296 + d) / (y1 * 4294967296 + y0) := by
 have hpos : 0 < y1 * 4294967296 + y0 := by omega
 have e : g * (y1 * 4294967296 + y0) = g * y1 * 4294967296 + g * y0 := by rw [Nat.mul_add, Nat.mul_assoc]
 have eu : u * 4294967296 = g * y1 * 4294967296 + r * 4294967296 := by rw [hg, Nat.add_mul]
 have h0 : g * y0 ≤ 4294967296 * 4294967295 := Nat.mul_le_mul hb (by omega)
 rw [Nat.le_div_iff_mul_le hpos, e]
 omega
theorem dig_down {y1 u g r : Nat} (hg : u = (g + 1) * y1 + r) : u = g * y1 + (r + y1) := by rw [hg, Nat.add_mul]; omega
theorem dig_first {y1 y0 u : Nat} (hy1 : 2147483648 ≤ y1) (hy0 : y0 < 4294967296) (hu : u < y1 * 4294967296 + y0) : u / y1 ≤ 4294967297 := by
 have : u / y1 < 4294967298 := by rw [Nat.div_lt_iff_lt_mul (by omega)]; omega
 omega
theorem dig_below {y1 y0 u d : Nat} (hy1 : 2147483648 ≤ y1) (hd : d < 4294967296) : (u * 4294967296 + d) / (y1 * 4294967296 + y0) ≤ u / y1 := by
 rw [Nat.le_div_iff_mul_le (by omega)]
 have h := Nat.div_mul_le_self (u * 4294967296 + d) (y1 * 4294967296 + y0)
 generalize (u * 4294967296 + d) / (y1 * 4294967296 + y0) = q at *
 have e : q * (y1 * 4294967296 + y0) = q * y1 * 4294967296 + q * y0 := by rw [Nat.mul_add, Nat.mul_assoc]
 omega
theorem wN {n : Nat} (h : n < 18446744073709551616) : IntKind.u64.wrap (n : Int) = (n : Int) := u64_of (by omega) (by omega)
theorem wMul {a b : Nat} (h : a * b < 18446744073709551616) : IntKind.u64.wrap ((a : Int) * (b : Int)) = ((a * b : Nat) : Int) := by rw [mulC, wN h]
theorem wAdd {a b : Nat} (h : a + b < 18446744073709551616) : IntKind.u64.wrap ((a : Int) + (b : Int)) = ((a + b : Nat) : Int) := by rw [addC, wN h]
theorem wPred {a : Nat} (h : a < 18446744073709551616) (h0 : 0 < a) : IntKind.u64.wrap ((a : Int) - 1) = ((a - 1 : Nat) : Int) := by rw [show (a : Int) - 1 = ((a - 1 : Nat) : Int) by omega, wN (by omega)]
theorem wRest {u d g y : Nat} (h : g * y ≤ u * 4294967296 + d) (hl : u * 4294967296 + d - g * y < 18446744073709551616) : IntKind.u64.wrap (IntKind.u64.wrap (IntKind.u64.wrap ((u : Int) * 4294967296) + (d : Int)) - IntKind.u64.wrap ((g : Int) * (y : Int))) = ((u * 4294967296 + d - g * y : Nat) : Int) := by
 rw [mulC g y]
 generalize g * y = z at *
 simp only [u64_wrap]
 omega
theorem div_test_mul {a b : Nat} (ha : a ≤ 4294967297) (hb : b < 4294967296) : a * b < 18446744073709551616 := by
 have := Nat.mul_le_mul ha (show b ≤ 4294967295 by omega)
 omega
structure Dig (y1 y0 u d q : Nat) : Prop where
 y1lo : 2147483648 ≤ y1
 y1hi : y1 < 4294967296
 y0hi : y0 < 4294967296
 dhi : d < 4294967296
 test : ∀ g r, u = g * y1 + r → r < 4294967296 → (¬ (4294967296 ≤ g ∨ 4294967296 * r + d < g * y0) → g ≤ q) ∧ ((4294967296 ≤ g ∨ 4294967296 * r + d < g * y0) → q < g)
 stop : ∀ g r, u = g * y1 + r → 4294967296 ≤ r → g ≤ 4294967296 → g ≤ q
theorem Dig.mk' {y1 y0 u d : Nat} (hy1 : 2147483648 ≤ y1) (hy1' : y1 < 4294967296) (hy0 : y0 < 4294967296) (hu : u < y1 * 4294967296 + y0) (hd : d < 4294967296) : Dig y1 y0 u d ((u * 4294967296 + d) / (y1 * 4294967296 + y0)) :=
 ⟨hy1, hy1', hy0, hd, fun g r h1 h2 => dig_test hy1 hy1' hy0 hu hd h1 h2, fun g r h1 h2 h3 => dig_break hy1 hy0 h1 h2 h3⟩
theorem wB {r : Nat} (h : r < 4294967296) : IntKind.u64.wrap (4294967296 * (r : Int)) = ((4294967296 * r : Nat) : Int) := by rw [show (4294967296 : Int) * (r : Int) = ((4294967296 * r : Nat) : Int) by omega, wN (by omega)]
theorem wB' {r : Nat} (h : r < 4294967296) : IntKind.u64.wrap ((r : Int) * 4294967296) = ((r * 4294967296 : Nat) : Int) := by rw [show (r : Int) * 4294967296 = ((r * 4294967296 : Nat) : Int) by omega, wN (by omega)]
theorem Div64_l0 {y s y1 y0 u d v q : Nat} {res : Int × Int} (D : Dig y1 y0 u d q)
  (H : Ev (fun k => bits_Div64.j2 k (y : Int) (s : Int) (y1 : Int) (y0 : Int) (u : Int) (d : Int) (v : Int) (q : Int)) res) :
  ∀ (m g r : Nat), g ≤ q + m → q ≤ g → u = g * y1 + r → r < 4294967296 → g ≤ 4294967297 →
   Ev (fun k => bits_Div64.l0 k (y : Int) (s : Int) (y1 : Int) (y0 : Int) (u : Int) (d : Int) (v : Int) (g : Int) (r : Int)) res := by
 have hd := D.dhi
 have hy1 := D.y1hi
 intro m
 induction m with
 | zero =>
  intro g r h1 h2 h3 h4 h5
  obtain ⟨t1, t2⟩ := D.test g r h3 h4
  have hno : ¬ (4294967296 ≤ g ∨ 4294967296 * r + d < g * y0) := fun h => by have := t2 h; omega
  have hm := div_test_mul h5 D.y0hi
  refine evs ?_
  simp only [bits_Div64.l0, if_neg (show ¬ (g : Int) ≥ 4294967296 by omega), wMul hm, wB h4, wAdd (show 4294967296 * r + d < 18446744073709551616 by omega), decide_eq_false (show ¬ ((g * y0 : Nat) : Int) > ((4294967296 * r + d : Nat) : Int) by omega)]
  refine evs ?_
  simp only [bits_Div64.j1, Bool.false_eq_true, if_false]
  rw [show g = q by omega]
  exact H
 | succ m ih =>
  intro g r h1 h2 h3 h4 h5
  obtain ⟨t1, t2⟩ := D.test g r h3 h4
  have hm := div_test_mul h5 D.y0hi
  have go : ∀ b : Bool, (b = true ↔ (4294967296 ≤ g ∨ 4294967296 * r + d < g * y0)) → Ev (fun k => bits_Div64.j1 k (y : Int) (s : Int) (y1 : Int) (y0 : Int) (u : Int) (d : Int) (v : Int) (g : Int) (r : Int) b) res := by
   intro b hb
   refine evs ?_
   simp only [bits_Div64.j1]
   by_cases c : b = true
   ·have c' := hb.mp c
    have hlt := t2 c'
    obtain ⟨g', rfl⟩ : ∃ g', g = g' + 1 := ⟨g - 1, by omega⟩
    have h3' := dig_down h3
    clear h3
    simp only [if_pos c, wPred (show g' + 1 < 18446744073709551616 by omega) (Nat.succ_pos _), Nat.add_sub_cancel, wAdd (show r + y1 < 18446744073709551616 by omega)]
    by_cases hbr : 4294967296 ≤ r + y1
    ·simp only [if_pos (show ((r + y1 : Nat) : Int) ≥ 4294967296 by omega)]
     have := D.stop g' (r + y1) h3' hbr (by omega)
     rw [show g' = q by omega]
     exact H
    ·simp only [if_neg (show ¬ ((r + y1 : Nat) : Int) ≥ 4294967296 by omega)]
     exact ih g' (r + y1) (by omega) (by omega) h3' (by omega) (by omega)
   ·have c' : ¬ (4294967296 ≤ g ∨ 4294967296 * r + d < g * y0) := fun h => c (hb.mpr h)
    have := t1 c'
    simp only [if_neg c]
    rw [show g = q by omega]
    exact H
  refine evs ?_
  by_cases c : 4294967296 ≤ g
  ·simp only [bits_Div64.l0, if_pos (show (g : Int) ≥ 4294967296 by omega)]
   exact go true (by simp [c])
  ·simp only [bits_Div64.l0, if_neg (show ¬ (g : Int) ≥ 4294967296 by omega), wMul hm, wB h4, wAdd (show 4294967296 * r + d < 18446744073709551616 by omega)]
   exact go _ (by simp only [decide_eq_true_eq]; omega)
theorem Div64_l1 {y y1 y0 q1 u d q : Nat} {res : Int × Int} (D : Dig y1 y0 u d q)
  (fin : (some (IntKind.u64.wrap (IntKind.u64.wrap ((q1 : Int) * 4294967296) + (q : Int)), shr .u64 (IntKind.u64.wrap (IntKind.u64.wrap (IntKind.u64.wrap ((u : Int) * 4294967296) + (d : Int)) - IntKind.u64.wrap ((q : Int) * (y : Int)))) 0) : Option (Int × Int)) = some res) :
  ∀ (m g r : Nat), g ≤ q + m → q ≤ g → u = g * y1 + r → r < 4294967296 → g ≤ 4294967297 →
   Ev (fun k => bits_Div64.l1 k (y : Int) 0 (y1 : Int) (y0 : Int) (d : Int) (q1 : Int) (r : Int) (u : Int) (g : Int)) res := by
 have hd := D.dhi
 have hy1 := D.y1hi
 intro m
 induction m with
 | zero =>
  intro g r h1 h2 h3 h4 h5
  obtain ⟨t1, t2⟩ := D.test g r h3 h4
  have hno : ¬ (4294967296 ≤ g ∨ 4294967296 * r + d < g * y0) := fun h => by have := t2 h; omega
  have hm := div_test_mul h5 D.y0hi
  refine evs ?_
  simp only [bits_Div64.l1, if_neg (show ¬ (g : Int) ≥ 4294967296 by omega), wMul hm, wB h4, wAdd (show 4294967296 * r + d < 18446744073709551616 by omega), decide_eq_false (show ¬ ((g * y0 : Nat) : Int) > ((4294967296 * r + d : Nat) : Int) by omega)]
  refine evs ?_
  simp only [bits_Div64.j4, Bool.false_eq_true, if_false, Int.le_refl, if_true]
  rw [show g = q by omega]
  exact evn fin
 | succ m ih =>
  intro g r h1 h2 h3 h4 h5
  obtain ⟨t1, t2⟩ := D.test g r h3 h4
  have hm := div_test_mul h5 D.y0hi
  have go : ∀ b : Bool, (b = true ↔ (4294967296 ≤ g ∨ 4294967296 * r + d < g * y0)) → Ev (fun k => bits_Div64.j4 k (y : Int) 0 (y1 : Int) (y0 : Int) (d : Int) (q1 : Int) (r : Int) (u : Int) (g : Int) b) res := by
   intro b hb
   refine evs ?_
   simp only [bits_Div64.j4, Int.le_refl, if_true]
   by_cases c : b = true
   ·have c' := hb.mp c
    have hlt := t2 c'
    obtain ⟨g', rfl⟩ : ∃ g', g = g' + 1 := ⟨g - 1, by omega⟩
    have h3' := dig_down h3
    clear h3
    simp only [if_pos c, wPred (show g' + 1 < 18446744073709551616 by omega) (Nat.succ_pos _), Nat.add_sub_cancel, wAdd (show r + y1 < 18446744073709551616 by omega)]
    by_cases hbr : 4294967296 ≤ r + y1
    ·simp only [if_pos (show ((r + y1 : Nat) : Int) ≥ 4294967296 by omega)]
     have := D.stop g' (r + y1) h3' hbr (by omega)
     rw [show g' = q by omega]
     exact evn fin
    ·simp only [if_neg (show ¬ ((r + y1 : Nat) : Int) ≥ 4294967296 by omega)]
     exact ih g' (r + y1) (by omega) (by omega) h3' (by omega) (by omega)
   ·have c' : ¬ (4294967296 ≤ g ∨ 4294967296 * r + d < g * y0) := fun h => c (hb.mpr h)
    have := t1 c'
    simp only [if_neg c]
    rw [show g = q by omega]
    exact evn fin
  refine evs ?_
  by_cases c : 4294967296 ≤ g
  ·simp only [bits_Div64.l1, if_pos (show (g : Int) ≥ 4294967296 by omega)]
   exact go true (by simp [c])
  ·simp only [bits_Div64.l1, if_neg (show ¬ (g : Int) ≥ 4294967296 by omega), wMul hm, wB h4, wAdd (show 4294967296 * r + d < 18446744073709551616 by omega)]
   exact go _ (by simp only [decide_eq_true_eq]; omega)
theorem Div64_fin {q1 u d q z y : Nat} (h1 : q1 * 4294967296 + q < 18446744073709551616) (h2 : q1 < 4294967296) (h3 : q * y ≤ u * 4294967296 + d) (h4 : u * 4294967296 + d - q * y = z) (h5 : z < 18446744073709551616) :
  (some (IntKind.u64.wrap (IntKind.u64.wrap ((q1 : Int) * 4294967296) + (q : Int)), shr .u64 (IntKind.u64.wrap (IntKind.u64.wrap (IntKind.u64.wrap ((u : Int) * 4294967296) + (d : Int)) - IntKind.u64.wrap ((q : Int) * (y : Int)))) 0) : Option (Int × Int)) = some (((q1 * 4294967296 + q : Nat) : Int), (z : Int)) := by
 rw [wRest h3 (by omega), h4]
 rw [wB' h2, wAdd h1]
 have := shr_nat z 0 (by decide)
 rw [Nat.pow_zero, Nat.div_one] at this
 rw [show (0 : Int) = ((0 : Nat) : Int) from rfl, this]
theorem div_of_eq {V y q z : Nat} (h : V = q * y + z) (hz : z < y) : V / y = q ∧ V % y = z := by
 subst h
 rw [Nat.add_comm, Nat.add_mul_div_right _ _ (by omega), Nat.div_eq_of_lt hz, Nat.add_mul_mod_self_right, Nat.mod_eq_of_lt hz]
 exact ⟨by omega, rfl⟩
theorem dig_ex {y y1 y0 u d : Nat} (hy : y = y1 * 4294967296 + y0) (hy1 : 2147483648 ≤ y1) (hy1' : y1 < 4294967296) (hy0 : y0 < 4294967296) (hu : u < y) (hd : d < 4294967296) :
  ∃ q z, Dig y1 y0 u d q ∧ q ≤ u / y1 ∧ u / y1 ≤ 4294967297 ∧ u * 4294967296 + d = q * y + z ∧ z < y ∧ q < 4294967296 := by
 subst hy
 have hpos : 0 < y1 * 4294967296 + y0 := by omega
 refine ⟨(u * 4294967296 + d) / (y1 * 4294967296 + y0), (u * 4294967296 + d) % (y1 * 4294967296 + y0), Dig.mk' hy1 hy1' hy0 hu hd, dig_below hy1 hd, dig_first hy1 hy0 hu, ?_, Nat.mod_lt _ hpos, ?_⟩
 ·rw [Nat.mul_comm ((u * 4294967296 + d) / (y1 * 4294967296 + y0))]; exact (Nat.div_add_mod _ _).symm
 ·rw [Nat.div_lt_iff_lt_mul hpos]; omega
theorem dig_both' {B h l l1 l0 a b u z V : Nat} (h1 : V = h * (B * B) + l) (h2 : l = l1 * B + l0) (h3 : h * B + l1 = a + u) (h4 : u * B + l0 = b + z) : V = a * B + b + z := by
 have e : (h * B + l1) * B = (a + u) * B := by rw [h3]
 rw [Nat.add_mul, Nat.add_mul, Nat.mul_assoc] at e
 omega
theorem dig_both {h l l1 l0 q1 q2 y u z V : Nat} (h1 : V = h * 18446744073709551616 + l) (h2 : l = l1 * 4294967296 + l0) (h3 : h * 4294967296 + l1 = q1 * y + u) (h4 : u * 4294967296 + l0 = q2 * y + z) : V = (q1 * 4294967296 + q2) * y + z := by
 have e5 : (q1 * 4294967296 + q2) * y = q1 * y * 4294967296 + q2 * y := by rw [Nat.add_mul, Nat.mul_assoc, Nat.mul_comm 4294967296, ← Nat.mul_assoc]
 rw [e5]
 have e6 : (18446744073709551616 : Nat) = 4294967296 * 4294967296 := by decide
 rw [e6] at h1
 exact dig_both' h1 h2 h3 h4
theorem dig_guess {u y1 : Nat} (h : 2147483648 ≤ y1) (hu : u < 18446744073709551616) : IntKind.u64.wrap (Int.tdiv (u : Int) (y1 : Int)) = ((u / y1 : Nat) : Int) ∧ IntKind.u64.wrap ((u : Int) - IntKind.u64.wrap (((u / y1 : Nat) : Int) * (y1 : Int))) = ((u % y1 : Nat) : Int) ∧ u = u / y1 * y1 + u % y1 ∧ u % y1 < y1 := by
 have hdm := Nat.div_add_mod u y1
 have hml := Nat.mod_lt u (show 0 < y1 by omega)
 have hq : u / y1 ≤ u := Nat.div_le_self _ _
 rw [Nat.mul_comm] at hdm
 rw [tdivN]
 generalize u / y1 = q at *
 generalize u % y1 = r at *
 refine ⟨wN (by omega), ?_, by omega, hml⟩
 rw [wMul (by omega), show (u : Int) - ((q * y1 : Nat) : Int) = (r : Int) by omega, wN (by omega)]
theorem Div64_eq {h l y V : Nat} (hy : 9223372036854775808 ≤ y) (hy' : y < 18446744073709551616) (hh : h < y) (hl : l < 18446744073709551616) (hV : V = h * 18446744073709551616 + l) :
  Ev (fun k => bits_Div64.f k (h : Int) (l : Int) (y : Int)) (((V / y : Nat) : Int), ((V % y : Nat) : Int)) := by
 unfold bits_Div64.f
 simp only [if_neg (show ¬ (y : Int) = 0 by omega), if_neg (show ¬ (y : Int) ≤ (h : Int) by omega)]
 by_cases h0 : h = 0
 ·have hVl : V = l := by omega
  subst h0 hVl
  have hq : V / y < 18446744073709551616 := Nat.lt_of_le_of_lt (Nat.div_le_self _ _) hl
  simp only [show (((0 : Nat) : Int) = 0) = True from by simp, if_true, tdivN, tmodN, wN hq]
  exact Ev.now _
 ·simp only [if_neg (show ¬ (h : Int) = 0 by omega)]
  have hlz : bits_LeadingZeros64.f (y : Int) = some 0 := by
   have := Lead0_eq (x := y) hy'
   rw [bl_unique (n := 64) (by decide) (by rw [show (2 : Nat) ^ (64 - 1) = 9223372036854775808 by decide]; exact hy) (by rw [p64]; exact hy')] at this
   exact this
  have w0 : IntKind.u64.wrap 0 = 0 := by decide
  have w64' : IntKind.u64.wrap (64 - 0) = 64 := by decide
  have s0 : ∀ a : Nat, a < 18446744073709551616 → shl .u64 (a : Int) 0 = (a : Int) := fun a ha => by
   have := shl_nat a 0 (by decide)
   rw [Nat.pow_zero, Nat.mul_one, Nat.mod_eq_of_lt ha] at this
   exact this
  have s1 : shr .u64 (l : Int) 64 = 0 := by
   have := shr_nat l 64 (by decide)
   rw [p64, Nat.div_eq_of_lt hl] at this
   exact this
  have o0 : Go.bits .or .u64 (h : Int) 0 = (h : Int) := by
   have := or_nat h 0 (by omega) (by decide)
   rw [Nat.or_zero] at this
   exact this
  refine Ev.bind (evn hlz) ?_
  have hlh : h < 18446744073709551616 := by omega
  have hy1 : 2147483648 ≤ y / 4294967296 := by omega
  have hy1' : y / 4294967296 < 4294967296 := by omega
  have hy0 : y % 4294967296 < 4294967296 := by omega
  have hye : y = y / 4294967296 * 4294967296 + y % 4294967296 := by omega
  have hyi : (y : Int) / 4294967296 = ((y / 4294967296 : Nat) : Int) := by omega
  have hli : (l : Int) / 4294967296 = ((l / 4294967296 : Nat) : Int) := by omega
  obtain ⟨g1, g2, g3, g4⟩ := dig_guess hy1 hlh
  simp only [w0, w64', Int.le_refl, if_true, if_pos (show (0 : Int) ≤ 64 by decide), s0 y hy', s0 h hlh, s0 l hl, s1, o0, hyi, hli, if_neg (show ¬ ((y / 4294967296 : Nat) : Int) = 0 by omega), mask32 y hy', mask32 l hl, g1, g2]
  obtain ⟨q1, u, D1, b1, b2, b3, b4, b5⟩ := dig_ex hye hy1 hy1' hy0 hh (show l / 4294967296 < 4294967296 by omega)
  refine Div64_l0 (v := l % 4294967296) D1 ?_ (h / (y / 4294967296)) (h / (y / 4294967296)) (h % (y / 4294967296)) (Nat.le_add_left _ _) b1 g3 (Nat.lt_trans g4 hy1') b2
  obtain ⟨e1, e2, e3, e4⟩ := dig_guess hy1 (show u < 18446744073709551616 by omega)
  obtain ⟨q2, z, D2, c1, c2, c3, c4, c5⟩ := dig_ex hye hy1 hy1' hy0 b4 (show l % 4294967296 < 4294967296 by omega)
  have hwr := wRest (u := h) (d := l / 4294967296) (g := q1) (y := y) (by omega) (by omega)
  rw [show h * 4294967296 + l / 4294967296 - q1 * y = u by omega] at hwr
  have hfin := Div64_fin (q1 := q1) (u := u) (d := l % 4294967296) (q := q2) (z := z) (y := y) (by omega) b5 (by omega) (by omega) (by omega)
  have hVe := dig_both hV (show l = l / 4294967296 * 4294967296 + l % 4294967296 by omega) b3 c3
  obtain ⟨v1, v2⟩ := div_of_eq hVe c4
  rw [v1, v2]
  refine evs ?_
  simp only [bits_Div64.j2, if_neg (show ¬ ((y / 4294967296 : Nat) : Int) = 0 by omega), hwr, e1, e2]
  exact Div64_l1 D2 hfin (u / (y / 4294967296)) (u / (y / 4294967296)) (u % (y / 4294967296)) (Nat.le_add_left _ _) c1 e3 (Nat.lt_trans e4 hy1') c2
theorem part_Div_eq {V y : Nat} (hy : 9223372036854775808 ≤ y) (hy' : y < 18446744073709551616) (hV : V / 18446744073709551616 < y) : Ev (fun k => part_Div.f k (TH V) (TL V) (y : Int)) (((V / y : Nat) : Int), ((V % y : Nat) : Int), none) := by
 unfold part_Div.f
 have h1 : TH V < (y : Int) := by unfold TH; omega
 simp only [if_neg (show ¬ (y : Int) = 0 by omega), if_neg (show ¬ TH V ≥ (y : Int) by omega)]
 have := Div64_eq (V := V) (h := V / 18446744073709551616) (l := V % 18446744073709551616) hy hy' hV (Nat.mod_lt _ (by decide)) (by omega)
 exact Ev.bind this (Ev.now _)
end Go.Proofs.Ythofoolgbngobaa.V
namespace Go.Proofs.Ythofoolgbngobaa.V
open Go Go.RowKit Go.Proofs.Ythofoolgbngobaa.Ab Go.Proofs.Ythofoolgbngobaa.Fn
set_option linter.unusedVariables false
set_option linter.unusedSimpArgs false
def qtJ (a b : NM) : Nat := if b.fr ≤ a.fr then 63 else 64
def quotX (a b : NM) : EX := if a.kd = 2 ∨ b.kd ≠ 1 then EX.nar else if a.kd = 0 then EX.zero else
 ⟨1, a.ng != b.ng, a.sc - b.sc + 63 - (qtJ a b : Int), a.fr * 2 ^ qtJ a b / b.fr * 18446744073709551616, decide (a.fr * 2 ^ qtJ a b % b.fr ≠ 0)⟩
theorem qt_range {x y j : Nat} (h1 : 2 ^ 63 ≤ x) (h2 : x < 2 ^ 64) (h3 : 2 ^ 63 ≤ y) (h4 : y < 2 ^ 64) (hj : j = if y ≤ x then 63 else 64) : 2 ^ 63 ≤ x * 2 ^ j / y ∧ x * 2 ^ j / y < 2 ^ 64 := by
 have hy : 0 < y := Nat.lt_of_lt_of_le (two_pos 63) h3
 rw [Nat.le_div_iff_mul_le hy, Nat.div_lt_iff_lt_mul hy]
 rw [p63] at *
 rw [p64] at *
 by_cases h : y ≤ x
 ·rw [if_pos h] at hj
  subst hj
  rw [p63]; omega
 ·rw [if_neg h] at hj
  subst hj
  rw [p64]; omega
theorem quotX_ok {a b : NM} (ha : a.ok) (hb : b.ok) : (quotX a b).ok := by
 unfold quotX
 by_cases h : a.kd = 2 ∨ b.kd ≠ 1
 ·rw [if_pos h]; exact .inr (.inl rfl)
 ·rw [if_neg h]
  by_cases h0 : a.kd = 0
  ·rw [if_pos h0]; exact .inl rfl
  ·rw [if_neg h0]
   rcases NM.cases ha with rfl | rfl | ⟨a1, a2, a3, a4, a5⟩
   ·exact absurd rfl h0
   ·exact absurd (.inl rfl) h
   ·rcases NM.cases hb with rfl | rfl | ⟨b1, b2, b3, b4, b5⟩
    ·exact absurd (.inr (by decide)) h
    ·exact absurd (.inr (by decide)) h
    ·obtain ⟨r1, r2⟩ := qt_range a2 a3 b2 b3 rfl
     have hj : (if b.fr ≤ a.fr then 63 else 64) = qtJ a b := rfl
     rw [hj] at r1 r2
     have hj2 : qtJ a b = 63 ∨ qtJ a b = 64 := by unfold qtJ; split <;> omega
     rw [p63] at r1
     rw [p64] at r2
     refine .inr (.inr ⟨rfl, ?_, ?_, ?_, ?_⟩)
     ·show 2 ^ 127 ≤ a.fr * 2 ^ qtJ a b / b.fr * 18446744073709551616
      rw [p127]; omega
     ·show a.fr * 2 ^ qtJ a b / b.fr * 18446744073709551616 < 2 ^ 128
      rw [p128]; omega
     ·show -1099511627776 ≤ a.sc - b.sc + 63 - (qtJ a b : Int)
      omega
     ·show a.sc - b.sc + 63 - (qtJ a b : Int) ≤ 1099511627776
      omega
end Go.Proofs.Ythofoolgbngobaa.V
namespace Go.Proofs.Ythofoolgbngobaa.V
open Go Go.RowKit Go.Proofs.Ythofoolgbngobaa.Ab Go.Proofs.Ythofoolgbngobaa.Fn
set_option linter.unusedVariables false
set_option linter.unusedSimpArgs false
theorem quotX_real {a b : NM} (h1 : a.kd = 1) (h2 : b.kd = 1) : quotX a b = ⟨1, a.ng != b.ng, a.sc - b.sc + 63 - (qtJ a b : Int), a.fr * 2 ^ qtJ a b / b.fr * 18446744073709551616, decide (a.fr * 2 ^ qtJ a b % b.fr ≠ 0)⟩ := by
 unfold quotX
 rw [if_neg (by omega), if_neg (by omega)]
theorem pos_ne (n : Nat) : decide ((n : Int) > 0) = decide (n ≠ 0) := by
 rw [decide_eq_decide]; omega
theorem quot_Exact_X {a b : NM} (ha : a.ok) (hb : b.ok) : Ev (fun k => quot_Exact.f k a.kd a.ng a.sc (a.fr : Int) b.kd b.ng b.sc (b.fr : Int)) ((quotX a b).kd, (quotX a b).ng, (quotX a b).sc, TH (quotX a b).V, TL (quotX a b).V, (quotX a b).R, none) := by
 unfold quot_Exact.f
 refine Ev.bind (Of_X ha) ?_
 simp only [Option.isNone_none, if_true]
 refine Ev.bind (Of_X hb) ?_
 simp only [Option.isNone_none, if_true]
 have j0 : Ev (fun k => quot_Exact.j0 k (decide (a.kd = 2 ∨ b.kd ≠ 1)) a.kd a.ng a.sc (a.fr : Int) b.ng b.sc (b.fr : Int)) ((quotX a b).kd, (quotX a b).ng, (quotX a b).sc, TH (quotX a b).V, TL (quotX a b).V, (quotX a b).R, none) := by
  refine evs ?_
  simp only [quot_Exact.j0]
  by_cases c1 : a.kd = 2 ∨ b.kd ≠ 1
  ·have e : quotX a b = EX.nar := by unfold quotX; rw [if_pos c1]
   simp only [decide_eq_true c1, if_true, e]
   exact Ev.now _
  ·simp only [decide_eq_false c1, Bool.false_eq_true, if_false]
   by_cases c0 : a.kd = 0
   ·have e : quotX a b = EX.zero := by unfold quotX; rw [if_neg c1, if_pos c0]
    simp only [if_pos c0, e]
    exact Ev.now _
   ·simp only [if_neg c0]
    have ca := (NM.cases ha).resolve_left (fun h => c0 (by rw [h]))
    have ca := ca.resolve_left (fun h => c1 (.inl (by rw [h])))
    have hb1 : b.kd = 1 := Decidable.byContradiction fun h => c1 (.inr h)
    have cb := (NM.cases hb).resolve_left (fun h => by rw [h] at hb1; cases hb1)
    have cb := cb.resolve_left (fun h => by rw [h] at hb1; cases hb1)
    obtain ⟨a1, a2, a3, a4, a5⟩ := ca
    obtain ⟨b1, b2, b3, b4, b5⟩ := cb
    rw [quotX_real a1 b1]
    rw [p63] at a2 b2
    rw [p64] at a3 b3
    simp only [(T_hi _).1, (T_hi _).2]
    by_cases hc : b.fr ≤ a.fr
    ·have hj : qtJ a b = 63 := by unfold qtJ; rw [if_pos hc]
     have h1 : TH (a.fr * 2 ^ 63) = (a.fr : Int) / 2 := by unfold TH; rw [p63]; omega
     have h2 : TL (a.fr * 2 ^ 63) = IntKind.u64.wrap ((a.fr : Int) * 9223372036854775808) := by unfold TL; rw [p63, u64_wrap]; omega
     have h3 : a.fr * 2 ^ 63 / 18446744073709551616 < b.fr := by rw [p63]; omega
     have hd := part_Div_eq b2 b3 h3
     rw [h1, h2] at hd
     have es : wrap64 (wrap64 (wrap64 (a.sc - b.sc) - 1) + 1) = a.sc - b.sc + 63 - ((63 : Nat) : Int) := by
      rw [w64 (n := a.sc - b.sc) (by omega) (by omega), w64 (n := a.sc - b.sc - 1) (by omega) (by omega), w64 (by omega) (by omega)]; omega
     simp only [if_pos (show (a.fr : Int) ≥ (b.fr : Int) by omega), hj, es]
     refine Ev.bind hd (evn ?_)
     rw [pos_ne]
     rfl
    ·have hj : qtJ a b = 64 := by unfold qtJ; rw [if_neg hc]
     have h1 : TH (a.fr * 2 ^ 64) = (a.fr : Int) := by unfold TH; rw [p64]; omega
     have h2 : TL (a.fr * 2 ^ 64) = 0 := by unfold TL; rw [p64]; omega
     have h3 : a.fr * 2 ^ 64 / 18446744073709551616 < b.fr := by rw [p64]; omega
     have hd := part_Div_eq b2 b3 h3
     rw [h1, h2] at hd
     have es : wrap64 (wrap64 (a.sc - b.sc) - 1) = a.sc - b.sc + 63 - ((64 : Nat) : Int) := by
      rw [w64 (n := a.sc - b.sc) (by omega) (by omega), w64 (by omega) (by omega)]; omega
     simp only [if_neg (show ¬ (a.fr : Int) ≥ (b.fr : Int) by omega), hj, es]
     refine Ev.bind hd (evn ?_)
     rw [pos_ne]
     rfl
 by_cases c : a.kd = 2
 ·have hd : (a.kd == 2) = decide (a.kd = 2 ∨ b.kd ≠ 1) := by simp [c]
  simp only [if_pos c, hd]
  exact j0
 ·have hd : (b.kd != 1) = decide (a.kd = 2 ∨ b.kd ≠ 1) := by
   rw [Bool.eq_iff_iff]; simp [c]
  simp only [if_neg c, hd]
  exact j0
def divN (n x y : Nat) : Nat := (quotX (decN n x) (decN n y)).rnd n
theorem divN_lt {n x y : Nat} (h8 : 8 ≤ n) (hn : n ≤ 64) (hx : x < 2 ^ n) (hy : y < 2 ^ n) : divN n x y < 2 ^ n := EX.rnd_lt h8 hn (quotX_ok (decN_ok h8 hn hx) (decN_ok h8 hn hy))
theorem quot_Div_eq {n a b : Nat} (h : isW (n : Int) = true) (ha : a < 18446744073709551616) (hb : b < 18446744073709551616) : Ev (fun k => quot_Div.f k (n : Int) (a : Int) (b : Int)) (((divN n (a % 2 ^ n) (b % 2 ^ n) : Nat) : Int), none) := by
 obtain ⟨b64, b8⟩ := pow64 h
 have oa := decN_ok b8 b64 (Nat.mod_lt a (two_pos n))
 have ob := decN_ok b8 b64 (Nat.mod_lt b (two_pos n))
 unfold quot_Div.f
 refine Ev.bind (Decode_N h ha) ?_
 simp only [Option.isNone_none, if_true]
 refine Ev.bind (Decode_N h hb) (Ev.bind (quot_Exact_X oa ob) ?_)
 simp only [Option.isNone_none, if_true]
 exact Ev.bind (Round_X h (quotX_ok oa ob)) (Ev.now _)
theorem quot_Div_no {n : Int} (h : isW n = false) (a b : Int) : Ev (fun k => quot_Div.f k n a b) (0, some 2) := by
 unfold quot_Div.f
 exact Ev.bind (Decode_no h a) (Ev.now _)
theorem quotX_neg_l {a : NM} (ha : a.ok) (b : NM) : quotX a.neg b = (quotX a b).neg := by
 rcases NM.cases ha with rfl | rfl | ⟨h, h2, h3, h4, h5⟩
 ·rw [show (⟨0, false, 0, 0⟩ : NM).neg = ⟨0, false, 0, 0⟩ from rfl]
  unfold quotX
  split
  ·rfl
  ·rfl
 ·rw [show (⟨2, false, 0, 0⟩ : NM).neg = ⟨2, false, 0, 0⟩ from rfl]
  unfold quotX
  rw [if_pos (.inl rfl)]; rfl
 ·have hn : a.neg = ⟨a.kd, !a.ng, a.sc, a.fr⟩ := by unfold NM.neg; rw [if_pos h]
  by_cases hb : b.kd = 1
  ·rw [hn, quotX_real h hb, quotX_real (a := ⟨a.kd, !a.ng, a.sc, a.fr⟩) h hb]
   unfold EX.neg
   rw [if_pos rfl]
   refine EX.ext' rfl ?_ rfl rfl rfl
   show ((!a.ng) != b.ng) = !(a.ng != b.ng)
   cases a.ng <;> cases b.ng <;> rfl
  ·rw [hn]
   unfold quotX
   rw [if_pos (.inr hb), if_pos (.inr hb)]; rfl
theorem NM.neg_kd (a : NM) : a.neg.kd = a.kd := by unfold NM.neg; split <;> rfl
theorem quotX_neg_r {a : NM} (ha : a.ok) (b : NM) : quotX a b.neg = (quotX a b).neg := by
 by_cases hb : b.kd = 1
 ·have hn : b.neg = ⟨b.kd, !b.ng, b.sc, b.fr⟩ := by unfold NM.neg; rw [if_pos hb]
  rcases NM.cases ha with rfl | rfl | ⟨h, h2, h3, h4, h5⟩
  ·have e : ∀ c : NM, c.kd = 1 → quotX ⟨0, false, 0, 0⟩ c = EX.zero := by
    intro c hc
    unfold quotX
    rw [if_neg (show ¬ ((0 : Int) = 2 ∨ c.kd ≠ 1) by omega), if_pos rfl]
   rw [e b hb, e b.neg (by rw [NM.neg_kd, hb])]
   rfl
  ·unfold quotX
   rw [if_pos (.inl rfl), if_pos (.inl rfl)]; rfl
  ·rw [hn, quotX_real h hb, quotX_real (b := ⟨b.kd, !b.ng, b.sc, b.fr⟩) h hb]
   unfold EX.neg
   rw [if_pos rfl]
   refine EX.ext' rfl ?_ rfl rfl rfl
   show (a.ng != !b.ng) = !(a.ng != b.ng)
   cases a.ng <;> cases b.ng <;> rfl
 ·unfold quotX
  rw [NM.neg_kd, if_pos (.inr hb), if_pos (.inr hb)]; rfl
end Go.Proofs.Ythofoolgbngobaa.V
namespace Go.Proofs.Ythofoolgbngobaa.V
open Go Go.RowKit Go.Proofs.Ythofoolgbngobaa.Ab Go.Proofs.Ythofoolgbngobaa.Fn
set_option linter.unusedVariables false
set_option linter.unusedSimpArgs false
def EX.fin (x : EX) : Prop := x = EX.zero ∨ (x.kd = 1 ∧ 2 ^ 127 ≤ x.V ∧ x.V < 2 ^ 128 ∧ -1073741824 ≤ x.sc ∧ x.sc ≤ 1073741824 ∧ x.R = false)
theorem EX.fin.num {x : EX} (h : x.fin) : x.num := h.elim .inl (fun h => .inr ⟨h.1, h.2.1, h.2.2.1, by omega, by omega⟩)
theorem decN_fin {n x : Nat} (h8 : 8 ≤ n) (hn : n ≤ 64) (hx : x < 2 ^ n) (h : x ≠ 2 ^ (n - 1)) : (decN n x).ex.fin := by
 have hk := decN_kd h
 have hnum := decN_num h8 hn hx h
 rcases NM.cases (decN_ok h8 hn hx) with e | e | ⟨h1, h2, h3, h4, h5⟩
 ·rcases hnum with h | h
  ·exact .inl h
  ·rw [e] at h; exact absurd h.1 (by decide)
 ·rw [e] at hk; exact absurd rfl hk
 ·rcases hnum with h | h
  ·exact .inl h
  ·exact .inr ⟨h.1, h.2.1, h.2.2.1, h4, h5, rfl⟩
theorem val_zero (e : Int) : EX.zero.val e = 0 := by
 unfold EX.val EX.zero
 simp
theorem val_step {x : EX} {m e : Int} (h1 : e ≤ m) (h2 : m ≤ x.sc) : x.val e = x.val m * 2 ^ (m - e).toNat := by
 unfold EX.val
 rw [show (x.sc - e).toNat = (x.sc - m).toNat + (m - e).toNat by omega, Nat.pow_add, ← Nat.mul_assoc, pow_cast]
 generalize x.V * 2 ^ (x.sc - m).toNat = a
 generalize 2 ^ (m - e).toNat = b
 cases x.ng
 ·simp
 ·simp [Int.neg_mul]
theorem fin_val {x : EX} (hx : x.fin) (kx : x.kd = 1) {e : Int} (h : e ≤ x.sc) : intX (x.val e) (e - 127) = x := by
 rcases hx with rfl | ⟨h1, h2, h3, h4, h5, h6⟩
 ·exact absurd kx (by decide)
 ·unfold EX.val
  rw [intX_nat, natX_shift]
  have hbl : bl x.V = 128 := bl_unique (by decide) h2 h3
  have hV : ¬ x.V = 0 := fun h0 => by rw [h0] at hbl; exact absurd hbl (by decide)
  have e1 : mkV x.V = x.V := by rw [mkV_ge128 (by omega), hbl, Nat.sub_self, Nat.pow_zero, Nat.div_one]
  have e2 : mkR x.V false = false := by unfold mkR; rw [hbl, Nat.sub_self, Nat.pow_zero, Nat.mod_one]; rfl
  unfold natX
  rw [if_neg hV, e1, e2, hbl, show e - 127 + ((x.sc - e).toNat : Int) + ((128 : Nat) : Int) - 1 = x.sc by omega, heldI_in (by omega) (by omega)]
  exact EX.ext' h1.symm rfl rfl rfl h6.symm
theorem sumX_at {x y : EX} (hx : x.fin) (hy : y.fin) {e : Int} (ex : x.kd = 1 → e ≤ x.sc) (ey : y.kd = 1 → e ≤ y.sc) : sumX x y = intX (x.val e + y.val e) (e - 127) := by
 have hx' := hx
 have hy' := hy
 rcases hx with h | ⟨h1, h2, h3, h4, h5, h6⟩
 ·subst h
  rw [val_zero, Int.zero_add]
  rcases hy with h | ⟨k1, k2, k3, k4, k5, k6⟩
  ·subst h
   rw [val_zero]
   rfl
  ·rw [fin_val hy' k1 (ey k1)]
   exact sumX_z1 (by rw [k1]; decide) rfl
 ·rcases hy with h | ⟨k1, k2, k3, k4, k5, k6⟩
  ·subst h
   rw [val_zero, Int.add_zero, fin_val hx' h1 (ex h1)]
   exact sumX_zero_r (hx'.num.ok)
  ·have ex := ex h1
   have ey := ey k1
   unfold sumX
   rw [if_neg (by omega), if_neg (by omega), if_neg (by omega)]
   have m0 : e ≤ min x.sc y.sc := by omega
   rw [val_step m0 (show min x.sc y.sc ≤ x.sc by omega), val_step m0 (show min x.sc y.sc ≤ y.sc by omega), ← Int.add_mul, intX_shift]
   congr 1
   omega
theorem intX_sg (z e : Int) : (intX z e).sg = if z < 0 then -1 else if z = 0 then 0 else 1 := by
 unfold intX natX EX.sg
 by_cases h : z = 0
 ·subst h; rfl
 ·rw [if_neg (show ¬ z.natAbs = 0 by omega)]
  simp only [if_true, decide_eq_true_eq, if_neg h]
theorem intX_mono {z w e : Int} (h : z ≤ w) (e0 : -1099511627776 ≤ e) (e1 : e + bl z.natAbs ≤ 1099511627776) (e2 : e + bl w.natAbs ≤ 1099511627776) : (intX z e).le (intX w e) := by
 have s1 := intX_sg z e
 have s2 := intX_sg w e
 have same : ∀ (g : Bool) (m : Nat), 0 < m → (natX g m e false).sc = (natX false m e false).sc ∧ (natX g m e false).V = (natX false m e false).V ∧ (natX g m e false).R = (natX false m e false).R := by
  intro g m hm
  unfold natX
  rw [if_neg (by omega), if_neg (by omega)]
  exact ⟨rfl, rfl, rfl⟩
 rcases Int.lt_trichotomy z 0 with a | a | a
 ·rw [if_pos a] at s1
  by_cases b : w < 0
  ·rw [if_pos b] at s2
   refine .inr ⟨by rw [s1, s2], fun h => by rw [s1] at h; exact absurd h (by decide), fun _ => ?_⟩
   have := natX_lm (a := w.natAbs) (b := z.natAbs) (e := e) (by omega) (by omega) e0 e1
   obtain ⟨c1, c2, c3⟩ := same (decide (z < 0)) z.natAbs (by omega)
   obtain ⟨d1, d2, d3⟩ := same (decide (w < 0)) w.natAbs (by omega)
   unfold intX
   rw [c1, c2, c3, d1, d2, d3]
   exact this
  ·rw [if_neg b] at s2
   refine .inl ?_
   rw [s1, s2]
   split <;> decide
 ·rw [if_neg (by omega), if_pos a] at s1
  by_cases b : w = 0
  ·rw [if_neg (by omega), if_pos b] at s2
   rw [a, b]
   exact EX.le_refl _
  ·rw [if_neg (by omega), if_neg b] at s2
   refine .inl ?_
   rw [s1, s2]
   decide
 ·rw [if_neg (by omega), if_neg (by omega)] at s1
  rw [if_neg (by omega), if_neg (by omega)] at s2
  refine .inr ⟨by rw [s1, s2], fun _ => ?_, fun h => by rw [s1] at h; exact absurd h (by decide)⟩
  have := natX_lm (a := z.natAbs) (b := w.natAbs) (e := e) (by omega) (by omega) e0 e2
  obtain ⟨c1, c2, c3⟩ := same (decide (z < 0)) z.natAbs (by omega)
  obtain ⟨d1, d2, d3⟩ := same (decide (w < 0)) w.natAbs (by omega)
  unfold intX
  rw [c1, c2, c3, d1, d2, d3]
  exact this
theorem mag_le {s t e : Int} {V U : Nat} {R Q : Bool} (h : lmE s V R t U Q) (hV : V < 2 ^ 128) (hU : 2 ^ 127 ≤ U) (es : e ≤ s) (et : e ≤ t) : V * 2 ^ (s - e).toNat ≤ U * 2 ^ (t - e).toNat := by
 rcases h with h | ⟨h, h2⟩
 ·obtain ⟨d, hd⟩ : ∃ d, (t - e).toNat = 1 + d + (s - e).toNat := ⟨(t - e).toNat - (s - e).toNat - 1, by omega⟩
  rw [hd, Nat.pow_add, ← Nat.mul_assoc]
  refine Nat.mul_le_mul_right _ ?_
  rw [Nat.pow_add, ← Nat.mul_assoc]
  refine Nat.le_trans (Nat.le_of_lt hV) (Nat.le_trans ?_ (Nat.le_mul_of_pos_right _ (two_pos d)))
  have : (2 : Nat) ^ 128 = 2 ^ 127 * 2 ^ 1 := by decide
  rw [this]
  exact Nat.mul_le_mul_right _ hU
 ·subst h
  refine Nat.mul_le_mul_right _ ?_
  rcases h2 with h2 | ⟨h2, -⟩
  ·exact Nat.le_of_lt h2
  ·exact Nat.le_of_eq h2
theorem val_le {x y : EX} (hx : x.fin) (hy : y.fin) {e : Int} (ex : x.kd = 1 → e ≤ x.sc) (ey : y.kd = 1 → e ≤ y.sc) (h : x.le y) : x.val e ≤ y.val e := by
 have fact : ∀ z : EX, z.fin → (z.sg = 0 → z.val e = 0) ∧ (z.sg = 1 → z.kd = 1 ∧ 2 ^ 127 ≤ z.V ∧ z.V < 2 ^ 128 ∧ z.val e = ((z.V * 2 ^ (z.sc - e).toNat : Nat) : Int)) ∧ (z.sg = -1 → z.kd = 1 ∧ 2 ^ 127 ≤ z.V ∧ z.V < 2 ^ 128 ∧ z.val e = -((z.V * 2 ^ (z.sc - e).toNat : Nat) : Int)) := by
  intro z hz
  rcases hz with rfl | ⟨h1, h2, h3, h4, h5, h6⟩
  ·exact ⟨fun _ => val_zero e, fun h => absurd h (by decide), fun h => absurd h (by decide)⟩
  ·unfold EX.sg EX.val
   rw [if_pos h1]
   cases z.ng
   ·exact ⟨fun h => absurd h (by decide), fun _ => ⟨h1, h2, h3, rfl⟩, fun h => absurd h (by decide)⟩
   ·exact ⟨fun h => absurd h (by decide), fun h => absurd h (by decide), fun _ => ⟨h1, h2, h3, rfl⟩⟩
 obtain ⟨x0, x1, x2⟩ := fact x hx
 obtain ⟨y0, y1, y2⟩ := fact y hy
 rcases EX.sg_cases x with a | a | a
 ·rw [x0 a]
  rcases EX.sg_cases y with b | b | b
  ·rw [y0 b]; exact Int.le_refl _
  ·rw [(y1 b).2.2.2]; exact Int.natCast_nonneg _
  ·rcases h with h | ⟨h, -⟩ <;> omega
 ·obtain ⟨p1, p2, p3, p4⟩ := x1 a
  rcases EX.sg_cases y with b | b | b
  ·rcases h with h | ⟨h, -⟩ <;> omega
  ·obtain ⟨q1, q2, q3, q4⟩ := y1 b
   rcases h with h | ⟨-, h, -⟩
   ·omega
   ·rw [p4, q4]
    exact Int.ofNat_le.2 (mag_le (h a) p3 q2 (ex p1) (ey q1))
  ·rcases h with h | ⟨h, -⟩ <;> omega
 ·obtain ⟨p1, p2, p3, p4⟩ := x2 a
  rcases EX.sg_cases y with b | b | b
  ·rw [p4, y0 b]
   have := Int.natCast_nonneg (x.V * 2 ^ (x.sc - e).toNat)
   omega
  ·rw [p4, (y1 b).2.2.2]
   have h1 := Int.natCast_nonneg (x.V * 2 ^ (x.sc - e).toNat)
   have h2 := Int.natCast_nonneg (y.V * 2 ^ (y.sc - e).toNat)
   omega
  ·obtain ⟨q1, q2, q3, q4⟩ := y2 b
   rcases h with h | ⟨-, -, h⟩
   ·omega
   ·rw [p4, q4]
    exact Int.neg_le_neg (Int.ofNat_le.2 (mag_le (h a) q3 p2 (ey q1) (ex p1)))
theorem val_abs {x : EX} (hx : x.fin) {e : Int} {N : Nat} (h : (x.sc - e).toNat ≤ N) : (x.val e).natAbs < 2 ^ (128 + N) := by
 rcases hx with rfl | ⟨h1, h2, h3, h4, h5, h6⟩
 ·rw [val_zero]; exact two_pos _
 ·have : (x.val e).natAbs = x.V * 2 ^ (x.sc - e).toNat := by
   unfold EX.val
   cases x.ng
   ·exact Int.natAbs_natCast _
   ·simp only [if_true]
    rw [Int.natAbs_neg, Int.natAbs_natCast]
  rw [this, Nat.pow_add]
  exact Nat.lt_of_lt_of_le (Nat.mul_lt_mul_of_pos_right h3 (two_pos _)) (Nat.mul_le_mul_left _ (pow_le h))
theorem sum_bl {z w : Int} {M : Nat} (h1 : z.natAbs < 2 ^ M) (h2 : w.natAbs < 2 ^ M) : bl (z + w).natAbs ≤ M + 1 := by
 refine bl_le_of_lt ?_
 rw [Nat.pow_succ]
 omega
theorem sumX_mono {x y z : EX} (hx : x.fin) (hy : y.fin) (hz : z.fin) (h : y.le z) : (sumX x y).le (sumX x z) := by
 obtain ⟨e, he⟩ : ∃ e : Int, e = -1073741824 := ⟨_, rfl⟩
 obtain ⟨N, hN⟩ : ∃ N : Nat, N = 2147483648 := ⟨_, rfl⟩
 have lo : ∀ w : EX, w.fin → (w.kd = 1 → e ≤ w.sc) ∧ (w.sc - e).toNat ≤ N := by
  intro w hw
  rcases hw with rfl | ⟨h1, h2, h3, h4, h5, h6⟩
  ·refine ⟨fun h => absurd h (by decide), ?_⟩
   show ((0 : Int) - e).toNat ≤ N
   omega
  ·exact ⟨fun _ => by omega, by omega⟩
 obtain ⟨x1, x2⟩ := lo x hx
 obtain ⟨y1, y2⟩ := lo y hy
 obtain ⟨z1, z2⟩ := lo z hz
 rw [sumX_at hx hy x1 y1, sumX_at hx hz x1 z1]
 have b1 := sum_bl (val_abs hx x2) (val_abs hy y2)
 have b2 := sum_bl (val_abs hx x2) (val_abs hz z2)
 have hv := val_le hy hz y1 z1 h
 exact intX_mono (Int.add_le_add_left hv _) (by omega) (by omega) (by omega)
theorem sumX_num {x y : EX} (hx : x.fin) (hy : y.fin) : (sumX x y).num := by
 refine EX.ok_num (sumX_ok hx.num.ok hy.num.ok) ?_
 have h : ¬ (x.kd = 2 ∨ y.kd = 2) := by
  rcases hx with rfl | hx <;> rcases hy with rfl | hy
  ·decide
  ·rw [hy.1]; decide
  ·rw [hx.1]; decide
  ·rw [hx.1, hy.1]; decide
 unfold sumX
 rw [if_neg h]
 split
 ·omega
 ·split
  ·omega
  ·unfold intX natX
   split
   ·decide
   ·show (1 : Int) ≠ 2; decide
theorem addN_mono {n x y z : Nat} (h8 : 8 ≤ n) (hn : n ≤ 64) (hx : x < 2 ^ n) (hy : y < 2 ^ n) (hz : z < 2 ^ n) (nx : x ≠ 2 ^ (n - 1)) (ny : y ≠ 2 ^ (n - 1)) (nz : z ≠ 2 ^ (n - 1)) (h : rkN n y ≤ rkN n z) : rkN n (addN n x y) ≤ rkN n (addN n x z) := by
 have fx := decN_fin h8 hn hx nx
 have fy := decN_fin h8 hn hy ny
 have fz := decN_fin h8 hn hz nz
 exact EX.rnd_mono h8 hn (sumX_num fx fy) (sumX_num fx fz) (sumX_mono fx fy fz (decN_le h8 hn hy hz ny nz h))
end Go.Proofs.Ythofoolgbngobaa.V
namespace Go.Proofs.Ythofoolgbngobaa.V
open Go Go.RowKit Go.Proofs.Ythofoolgbngobaa.Ab Go.Proofs.Ythofoolgbngobaa.Fn
set_option linter.unusedVariables false
set_option linter.unusedSimpArgs false
theorem decS_bounds {m w : Nat} (h : m ≤ 63) : -260 ≤ decS m w ∧ decS m w ≤ 260 := by
 have := decEx_lt (m := m) (w := w)
 have hr : runL m w ≤ m := by unfold runL; split <;> omega
 unfold decS decK
 split <;> omega
theorem decN_sc {n x : Nat} (hn : n ≤ 64) : -260 ≤ (decN n x).sc ∧ (decN n x).sc ≤ 260 := by
 unfold decN
 split
 ·exact ⟨by decide, by decide⟩
 ·split
  ·exact ⟨by decide, by decide⟩
  ·exact decS_bounds (by omega)
def NM.mid (a : NM) : Prop := a = ⟨0, false, 0, 0⟩ ∨ (a.kd = 1 ∧ 2 ^ 63 ≤ a.fr ∧ a.fr < 2 ^ 64 ∧ -260 ≤ a.sc ∧ a.sc ≤ 260)
theorem decN_mid {n x : Nat} (h8 : 8 ≤ n) (hn : n ≤ 64) (hx : x < 2 ^ n) (h : x ≠ 2 ^ (n - 1)) : (decN n x).mid := by
 have hs := decN_sc (n := n) (x := x) hn
 rcases NM.cases (decN_ok h8 hn hx) with e | e | ⟨h1, h2, h3, h4, h5⟩
 ·exact .inl e
 ·have := decN_kd h; rw [e] at this; exact absurd rfl this
 ·exact .inr ⟨h1, h2, h3, hs.1, hs.2⟩
theorem mul_fr {x y : Nat} (h1 : 2 ^ 63 ≤ x) (h2 : x < 2 ^ 64) (h3 : 2 ^ 63 ≤ y) (h4 : y < 2 ^ 64) : 2 ^ 126 ≤ x * y ∧ x * y < 2 ^ 128 := by
 refine ⟨?_, ?_⟩
 ·have := Nat.mul_le_mul h1 h3
  rw [← Nat.pow_add] at this
  exact this
 ·exact Nat.lt_of_lt_of_le (Nat.mul_lt_mul_of_lt_of_le h2 (Nat.le_of_lt h4) (two_pos 64)) (by rw [← Nat.pow_add]; exact Nat.le_refl _)
theorem prodX_real {a b : NM} (h1 : a.kd = 1) (h2 : b.kd = 1) : prodX a b = natX (a.ng != b.ng) (a.fr * b.fr) (a.sc + b.sc - 126) false := by
 unfold prodX
 rw [if_neg (by omega), if_neg (by omega)]
theorem natX_parts (g : Bool) {m : Nat} (hm : 0 < m) (e : Int) (R : Bool) : natX g m e R = ⟨1, g, heldI (e + (bl m : Int) - 1), mkV m, mkR m R⟩ := by unfold natX; rw [if_neg (by omega)]
theorem prodX_fin {a b : NM} (ha : a.mid) (hb : b.mid) : (prodX a b).fin := by
 rcases ha with rfl | ⟨a1, a2, a3, a4, a5⟩
 ·rcases hb with rfl | ⟨b1, b2, b3, b4, b5⟩
  ·exact .inl rfl
  ·refine .inl ?_
   unfold prodX
   rw [if_neg (by simp [b1]), if_pos (by simp)]
 ·rcases hb with rfl | ⟨b1, b2, b3, b4, b5⟩
  ·refine .inl ?_
   unfold prodX
   rw [if_neg (by simp [a1]), if_pos (by simp)]
  ·obtain ⟨m1, m2⟩ := mul_fr a2 a3 b2 b3
   have m0 : 0 < a.fr * b.fr := Nat.lt_of_lt_of_le (two_pos 126) m1
   rw [prodX_real a1 b1, natX_parts _ m0]
   have hb1 := le_bl_of_le m1
   have hb2 := bl_le_of_lt m2
   refine .inr ⟨rfl, mkV_ge m0, mkV_lt m0, ?_, ?_, ?_⟩
   ·show -1073741824 ≤ heldI _
    unfold heldI; rw [if_neg (by omega), if_neg (by omega)]; omega
   ·show heldI _ ≤ 1073741824
    unfold heldI; rw [if_neg (by omega), if_neg (by omega)]; omega
   ·show mkR _ false = false
    unfold mkR
    rw [show bl (a.fr * b.fr) - 128 = 0 by omega, Nat.pow_zero, Nat.mod_one]; rfl
def lmN (a d : NM) : Prop := a.sc < d.sc ∨ (a.sc = d.sc ∧ a.fr ≤ d.fr)
theorem lmE_lmN {a d : NM} (h : lmE a.ex.sc a.ex.V a.ex.R d.ex.sc d.ex.V d.ex.R) : lmN a d := by
 have h' : lmE a.sc (a.fr * 18446744073709551616) false d.sc (d.fr * 18446744073709551616) false := h
 unfold lmE at h'
 unfold lmN
 rcases h' with h' | ⟨h1, h2⟩
 ·exact .inl h'
 ·refine .inr ⟨h1, ?_⟩
  rcases h2 with h2 | ⟨h2, -⟩ <;> omega
theorem natX_sc (g : Bool) (m : Nat) (e : Int) (R : Bool) : (natX g m e R).sc = (natX false m e R).sc ∧ (natX g m e R).V = (natX false m e R).V ∧ (natX g m e R).R = (natX false m e R).R := by
 unfold natX; split <;> exact ⟨rfl, rfl, rfl⟩
theorem prod_lm {a d y : NM} (a1 : a.kd = 1) (ha : a.mid) (d1 : d.kd = 1) (hd : d.mid) (y1 : y.kd = 1) (hy : y.mid) (h : lmN a d) :
  lmE (prodX a y).sc (prodX a y).V (prodX a y).R (prodX d y).sc (prodX d y).V (prodX d y).R := by
 rcases ha with rfl | ⟨-, a2, a3, a4, a5⟩
 ·cases a1
 rcases hd with rfl | ⟨-, d2, d3, d4, d5⟩
 ·cases d1
 rcases hy with rfl | ⟨-, y2, y3, y4, y5⟩
 ·cases y1
 obtain ⟨m1, m2⟩ := mul_fr a2 a3 y2 y3
 obtain ⟨k1, k2⟩ := mul_fr d2 d3 y2 y3
 have m0 : 0 < a.fr * y.fr := Nat.lt_of_lt_of_le (two_pos 126) m1
 have k0 : 0 < d.fr * y.fr := Nat.lt_of_lt_of_le (two_pos 126) k1
 rw [prodX_real a1 y1, prodX_real d1 y1]
 obtain ⟨p1, p2, p3⟩ := natX_sc (a.ng != y.ng) (a.fr * y.fr) (a.sc + y.sc - 126) false
 obtain ⟨q1, q2, q3⟩ := natX_sc (d.ng != y.ng) (d.fr * y.fr) (d.sc + y.sc - 126) false
 rw [p1, p2, p3, q1, q2, q3]
 obtain ⟨t, ht⟩ : ∃ t : Nat, d.sc = a.sc + t := ⟨(d.sc - a.sc).toNat, by unfold lmN at h; omega⟩
 have hs : natX false (d.fr * y.fr) (d.sc + y.sc - 126) false = natX false (d.fr * y.fr * 2 ^ t) (a.sc + y.sc - 126) false := by
  rw [natX_shift]; congr 1; omega
 rw [hs]
 have hle : a.fr * y.fr ≤ d.fr * y.fr * 2 ^ t := by
  by_cases h0 : t = 0
  ·subst h0
   rw [Nat.pow_zero, Nat.mul_one]
   unfold lmN at h
   exact Nat.mul_le_mul_right _ (by omega)
  ·have e2 : 2 ^ 1 ≤ 2 ^ t := pow_le (by omega)
   have : a.fr ≤ d.fr * 2 := by rw [p64] at a3; rw [p63] at d2; omega
   calc a.fr * y.fr ≤ d.fr * 2 * y.fr := Nat.mul_le_mul_right _ this
    _ = d.fr * y.fr * 2 ^ 1 := by rw [Nat.pow_one, Nat.mul_right_comm]
    _ ≤ _ := Nat.mul_le_mul_left _ e2
 have hb : bl (d.fr * y.fr * 2 ^ t) ≤ 128 + t := by
  rw [bl_mul_pow _ k0]
  have := bl_le_of_lt k2
  omega
 exact natX_lm m0 hle (by omega) (by omega)
theorem le_lift {x y x' y' : EX} (h : x.le y) (hx : x'.sg = x.sg) (hy : y'.sg = y.sg) (hp : x.sg = 1 → y.sg = 1 → lmE x.sc x.V x.R y.sc y.V y.R → lmE x'.sc x'.V x'.R y'.sc y'.V y'.R)
  (hm : x.sg = -1 → y.sg = -1 → lmE y.sc y.V y.R x.sc x.V x.R → lmE y'.sc y'.V y'.R x'.sc x'.V x'.R) : x'.le y' := by
 unfold EX.le at *
 rw [hx, hy]
 rcases h with h | ⟨h1, h2, h3⟩
 ·exact .inl h
 ·exact .inr ⟨h1, fun e => hp e (by omega) (h2 e), fun e => hm e (by omega) (h3 e)⟩
theorem NM.sg_real {a : NM} (h : a.ex.sg ≠ 0) : a.kd = 1 := by
 unfold EX.sg at h
 by_cases hk : a.ex.kd = 1
 ·exact hk
 ·rw [if_neg hk] at h; exact absurd rfl h
theorem sg_of {x y : EX} (h1 : x.kd = y.kd) (h2 : x.kd = 1 → x.ng = y.ng) : x.sg = y.sg := by
 unfold EX.sg
 by_cases h : x.kd = 1
 ·rw [if_pos h, if_pos (h1.symm.trans h), h2 h]
 ·rw [if_neg h, if_neg (fun h' => h (h1.trans h'))]
theorem prod_sg {a y : NM} (ha : a.mid) (y1 : y.kd = 1) (hy : y.mid) (yp : y.ng = false) : (prodX a y).sg = a.ex.sg := by
 rcases ha with rfl | ⟨a1, a2, a3, a4, a5⟩
 ·unfold prodX
  rw [if_neg (by simp [y1]), if_pos (by simp)]
  rfl
 ·rcases hy with rfl | ⟨-, y2, y3, y4, y5⟩
  ·cases y1
  ·obtain ⟨m1, m2⟩ := mul_fr a2 a3 y2 y3
   have m0 : 0 < a.fr * y.fr := Nat.lt_of_lt_of_le (two_pos 126) m1
   rw [prodX_real a1 y1, natX_parts _ m0]
   refine sg_of a1.symm (fun _ => ?_)
   show (a.ng != y.ng) = a.ng
   rw [yp]; cases a.ng <;> rfl
theorem prodX_mono {a d y : NM} (ha : a.mid) (hd : d.mid) (hy : y.mid) (y1 : y.kd = 1) (yp : y.ng = false) (h : a.ex.le d.ex) : (prodX a y).le (prodX d y) :=
 le_lift h (prod_sg ha y1 hy yp) (prod_sg hd y1 hy yp) (fun e f g => prod_lm (NM.sg_real (by omega)) ha (NM.sg_real (by omega)) hd y1 hy (lmE_lmN g)) (fun e f g => prod_lm (NM.sg_real (by omega)) hd (NM.sg_real (by omega)) ha y1 hy (lmE_lmN g))
theorem div_lm {x y b : Nat} (hb : 0 < b) (h : x ≤ y) : x / b < y / b ∨ (x / b = y / b ∧ bR (decide (x % b ≠ 0)) ≤ bR (decide (y % b ≠ 0))) := by
 rcases Nat.lt_or_ge (x / b) (y / b) with k | k
 ·exact .inl k
 ·have e : x / b = y / b := Nat.le_antisymm (Nat.div_le_div_right h) k
  refine .inr ⟨e, ?_⟩
  have dx := Nat.div_add_mod x b
  have dy := Nat.div_add_mod y b
  rw [e] at dx
  by_cases z : y % b = 0
  ·have : x % b = 0 := by omega
   rw [z, this]; exact Nat.le_refl _
  ·rw [show decide (y % b ≠ 0) = true by simp [z]]
   unfold bR
   split <;> simp
theorem quot_lm {a d y : NM} (a1 : a.kd = 1) (ha : a.mid) (d1 : d.kd = 1) (hd : d.mid) (y1 : y.kd = 1) (hy : y.mid) (h : lmN a d) :
  lmE (quotX a y).sc (quotX a y).V (quotX a y).R (quotX d y).sc (quotX d y).V (quotX d y).R := by
 rcases ha with rfl | ⟨-, a2, a3, a4, a5⟩
 ·cases a1
 rcases hd with rfl | ⟨-, d2, d3, d4, d5⟩
 ·cases d1
 rcases hy with rfl | ⟨-, y2, y3, y4, y5⟩
 ·cases y1
 rw [quotX_real a1 y1, quotX_real d1 y1]
 show lmE (a.sc - y.sc + 63 - (qtJ a y : Int)) (a.fr * 2 ^ qtJ a y / y.fr * 18446744073709551616) (decide (a.fr * 2 ^ qtJ a y % y.fr ≠ 0)) (d.sc - y.sc + 63 - (qtJ d y : Int)) (d.fr * 2 ^ qtJ d y / y.fr * 18446744073709551616) (decide (d.fr * 2 ^ qtJ d y % y.fr ≠ 0))
 have hyp : 0 < y.fr := Nat.lt_of_lt_of_le (two_pos 63) y2
 have key : (a.sc - (qtJ a y : Int) < d.sc - (qtJ d y : Int)) ∨ (a.sc - (qtJ a y : Int) = d.sc - (qtJ d y : Int) ∧ a.fr * 2 ^ qtJ a y ≤ d.fr * 2 ^ qtJ d y) := by
  rw [p63] at a2 d2 y2
  rw [p64] at a3 d3 y3
  unfold lmN at h
  unfold qtJ
  by_cases c1 : y.fr ≤ a.fr
  ·rw [if_pos c1]
   by_cases c2 : y.fr ≤ d.fr
   ·rw [if_pos c2, p63]; omega
   ·rw [if_neg c2, p63, p64]; omega
  ·rw [if_neg c1]
   by_cases c2 : y.fr ≤ d.fr
   ·rw [if_pos c2, p63, p64]; omega
   ·rw [if_neg c2, p64]; omega
 rcases key with k | ⟨k1, k2⟩
 ·exact .inl (by omega)
 ·refine .inr ⟨by omega, ?_⟩
  rcases div_lm hyp k2 with e | ⟨e, f⟩
  ·exact .inl (Nat.mul_lt_mul_of_pos_right e (by decide))
  ·exact .inr ⟨by rw [e], f⟩
theorem quot_sg {a y : NM} (ha : a.mid) (y1 : y.kd = 1) (yp : y.ng = false) : (quotX a y).sg = a.ex.sg := by
 rcases ha with rfl | ⟨a1, a2, a3, a4, a5⟩
 ·unfold quotX
  rw [if_neg (by simp [y1]), if_pos rfl]
  rfl
 ·rw [quotX_real a1 y1]
  refine sg_of a1.symm (fun _ => ?_)
  show (a.ng != y.ng) = a.ng
  rw [yp]; cases a.ng <;> rfl
theorem quotX_mono {a d y : NM} (ha : a.mid) (hd : d.mid) (hy : y.mid) (y1 : y.kd = 1) (yp : y.ng = false) (h : a.ex.le d.ex) : (quotX a y).le (quotX d y) :=
 le_lift h (quot_sg ha y1 yp) (quot_sg hd y1 yp) (fun e f g => quot_lm (NM.sg_real (by omega)) ha (NM.sg_real (by omega)) hd y1 hy (lmE_lmN g)) (fun e f g => quot_lm (NM.sg_real (by omega)) hd (NM.sg_real (by omega)) ha y1 hy (lmE_lmN g))
theorem quotX_num {a y : NM} (ha : a.ok) (hy : y.ok) (ha2 : a.kd ≠ 2) (y1 : y.kd = 1) : (quotX a y).num := by
 refine EX.ok_num (quotX_ok ha hy) ?_
 unfold quotX
 rw [if_neg (by omega)]
 split
 ·decide
 ·show (1 : Int) ≠ 2; decide
theorem rkN_neg {n x : Nat} (h1 : 1 ≤ n) (hx : x < 2 ^ n) (h : x ≠ 2 ^ (n - 1)) : rkN n (negP n x) = -rkN n x := by
 have h2 := two_halves h1
 have := two_pos (n - 1)
 unfold negP
 by_cases h0 : x = 0
 ·subst h0; rw [if_pos rfl]; unfold rkN; rw [if_neg (by omega)]; rfl
 ·rw [if_neg h0]
  unfold rkN
  by_cases c : 2 ^ (n - 1) ≤ x
  ·rw [if_pos c, if_neg (by omega)]; omega
  ·rw [if_neg c, if_pos (by omega)]; omega
theorem negP_ne {n x : Nat} (h1 : 1 ≤ n) (hx : x < 2 ^ n) (h : x ≠ 2 ^ (n - 1)) : negP n x ≠ 2 ^ (n - 1) := by
 have h2 := two_halves h1
 have := two_pos (n - 1)
 unfold negP
 split <;> omega
theorem decN_pos {n x : Nat} (h1 : 1 ≤ n) (hx : x < 2 ^ n) (h : 0 < rkN n x) : (decN n x).kd = 1 ∧ (decN n x).ng = false := by
 have h2 := two_halves h1
 unfold rkN at h
 have hc : ¬ 2 ^ (n - 1) ≤ x := fun c => by rw [if_pos c] at h; omega
 rw [if_neg hc] at h
 unfold decN
 rw [if_neg (by omega), if_neg (by omega)]
 exact ⟨rfl, decide_eq_false (by omega)⟩
section
variable {n x z y c : Nat} (h8 : 8 ≤ n) (hn : n ≤ 64) (hx : x < 2 ^ n) (hz : z < 2 ^ n) (hy : y < 2 ^ n) (hc : c < 2 ^ n) (nx : x ≠ 2 ^ (n - 1)) (nz : z ≠ 2 ^ (n - 1)) (ny : y ≠ 2 ^ (n - 1)) (nc : c ≠ 2 ^ (n - 1))
include h8 hn hx hz hy hc nx nz ny nc
theorem fmaN_mono (hp : 0 < rkN n y) (h : rkN n x ≤ rkN n z) : rkN n (fmaN n x y c) ≤ rkN n (fmaN n z y c) := by
 have mx := decN_mid h8 hn hx nx
 have mz := decN_mid h8 hn hz nz
 have my := decN_mid h8 hn hy ny
 obtain ⟨k1, k2⟩ := decN_pos (by omega) hy hp
 have fc := decN_fin h8 hn hc nc
 have fx := prodX_fin mx my
 have fz := prodX_fin mz my
 unfold fmaN prdX
 rw [sumX_comm fx.num.ok fc.num.ok, sumX_comm fz.num.ok fc.num.ok]
 exact EX.rnd_mono h8 hn (sumX_num fc fx) (sumX_num fc fz) (sumX_mono fc fx fz (prodX_mono mx mz my k1 k2 (decN_le h8 hn hx hz nx nz h)))
omit hz hc nx nz ny nc in
theorem fmaN_flip : fmaN n x y c = fmaN n (negP n x) (negP n y) c := by
 unfold fmaN
 rw [prdX_neg h8 hn hx, prdX_comm n x (negP n y), prdX_neg h8 hn hy, prdX_comm n y x, EX.neg_neg]
theorem fmaN_anti (hp : rkN n y < 0) (h : rkN n x ≤ rkN n z) : rkN n (fmaN n z y c) ≤ rkN n (fmaN n x y c) := by
 rw [fmaN_flip h8 hn hx hy, fmaN_flip h8 hn hz hy]
 refine fmaN_mono h8 hn (negP_lt hz) (negP_lt hx) (negP_lt hy) hc (negP_ne (by omega) hz nz) (negP_ne (by omega) hx nx) (negP_ne (by omega) hy ny) nc ?_ ?_
 ·rw [rkN_neg (by omega) hy ny]; omega
 ·rw [rkN_neg (by omega) hx nx, rkN_neg (by omega) hz nz]; omega
omit hc nc in
theorem divN_mono (hp : 0 < rkN n y) (h : rkN n x ≤ rkN n z) : rkN n (divN n x y) ≤ rkN n (divN n z y) := by
 have mx := decN_mid h8 hn hx nx
 have mz := decN_mid h8 hn hz nz
 have my := decN_mid h8 hn hy ny
 obtain ⟨k1, k2⟩ := decN_pos (by omega) hy hp
 have ok := fun (u : Nat) (hu : u < 2 ^ n) => decN_ok h8 hn hu
 exact EX.rnd_mono h8 hn (quotX_num (ok _ hx) (ok _ hy) (decN_kd nx) k1) (quotX_num (ok _ hz) (ok _ hy) (decN_kd nz) k1) (quotX_mono mx mz my k1 k2 (decN_le h8 hn hx hz nx nz h))
omit hz hc nx nz ny nc in
theorem divN_flip : divN n x y = divN n (negP n x) (negP n y) := by
 unfold divN
 rw [decN_neg (by omega) hx, decN_neg (by omega) hy, quotX_neg_l (decN_ok h8 hn hx), quotX_neg_r (decN_ok h8 hn hx), EX.neg_neg]
omit hc nc in
theorem divN_anti (hp : rkN n y < 0) (h : rkN n x ≤ rkN n z) : rkN n (divN n z y) ≤ rkN n (divN n x y) := by
 rw [divN_flip h8 hn hx hy, divN_flip h8 hn hz hy]
 refine divN_mono h8 hn (negP_lt hz) (negP_lt hx) (negP_lt hy) (negP_ne (by omega) hz nz) (negP_ne (by omega) hx nx) (negP_ne (by omega) hy ny) ?_ ?_
 ·rw [rkN_neg (by omega) hy ny]; omega
 ·rw [rkN_neg (by omega) hx nx, rkN_neg (by omega) hz nz]; omega
omit hy ny in
theorem subN_anti (h : rkN n x ≤ rkN n z) : rkN n (addN n c (negP n z)) ≤ rkN n (addN n c (negP n x)) := by
 refine addN_mono h8 hn hc (negP_lt hz) (negP_lt hx) nc (negP_ne (by omega) hz nz) (negP_ne (by omega) hx nx) ?_
 rw [rkN_neg (by omega) hx nx, rkN_neg (by omega) hz nz]; omega
end
theorem prodX_zero_r {n x : Nat} (nx : x ≠ 2 ^ (n - 1)) : prdX n x 0 = EX.zero := by
 have := decN_kd nx
 have e : decN n 0 = ⟨0, false, 0, 0⟩ := rfl
 unfold prdX prodX
 rw [e, if_neg (by simp; omega), if_pos (by simp)]
theorem divN_zero_r (n x : Nat) : divN n x 0 = 2 ^ (n - 1) := by
 have e : decN n 0 = ⟨0, false, 0, 0⟩ := rfl
 unfold divN quotX
 rw [e, if_pos (.inr (by decide)), EX.rnd_nar]
end Go.Proofs.Ythofoolgbngobaa.V
namespace Go.Proofs.Ythofoolgbngobaa.Pure
open Go Go.RowKit Go.Proofs.Ythofoolgbngobaa.Ab Go.Proofs.Ythofoolgbngobaa.Fn Go.Proofs.Ythofoolgbngobaa.V
set_option linter.unusedSimpArgs false
theorem cmpI_three (x y : Int) : (x < y ∧ cmpI x y = -1) ∨ (x = y ∧ cmpI x y = 0) ∨ (y < x ∧ cmpI x y = 1) := by
 unfold cmpI; split <;> (try split) <;> omega
theorem rises_sub {ra rd u v : Int} (h1 : ra ≤ rd → v ≤ u) (h2 : rd ≤ ra → u ≤ v) : ¬ wrap64 (cmpI u v * cmpI ra rd) > 0 := by
 rcases cmpI_three u v with ⟨a, e⟩ | ⟨a, e⟩ | ⟨a, e⟩ <;> rcases cmpI_three ra rd with ⟨b, f⟩ | ⟨b, f⟩ | ⟨b, f⟩ <;> rw [e, f] <;> first | decide +kernel | (exfalso; have := h1 (by omega); omega) | (exfalso; have := h2 (by omega); omega)
theorem rises_way {ra rd rb p q : Int} (f1 : 0 < rb → ra ≤ rd → p ≤ q) (f2 : 0 < rb → rd ≤ ra → q ≤ p) (f3 : rb < 0 → ra ≤ rd → q ≤ p) (f4 : rb < 0 → rd ≤ ra → p ≤ q) : wrap64 (wrap64 (cmpI p q * cmpI ra rd) * cmpI rb 0) ≥ 0 := by
 rcases cmpI_three p q with ⟨a, e⟩ | ⟨a, e⟩ | ⟨a, e⟩ <;> rcases cmpI_three ra rd with ⟨b, f⟩ | ⟨b, f⟩ | ⟨b, f⟩ <;> rcases cmpI_three rb 0 with ⟨c, g⟩ | ⟨c, g⟩ | ⟨c, g⟩ <;> rw [e, f, g] <;>
  first | decide +kernel | (exfalso; have := f1 c (by omega); omega) | (exfalso; have := f2 c (by omega); omega) | (exfalso; have := f3 c (by omega); omega) | (exfalso; have := f4 c (by omega); omega)
theorem TopRises : verniertop_TopRises.Pure := by
 intro n a d b c w0 w1 w2 w3 w4
 obtain ⟨a, rfl, ha⟩ := u64_nat w1
 obtain ⟨d, rfl, hd⟩ := u64_nat w2
 obtain ⟨b, rfl, hb⟩ := u64_nat w3
 obtain ⟨c, rfl, hc⟩ := u64_nat w4
 refine Ev.rounds (g := fun k => verniertop_TopRises.f k n (a : Int) (d : Int) (b : Int) (c : Int)) ?_
 unfold verniertop_TopRises.f
 refine Ev.bind (evn (ref_Is_eq _)) ?_
 by_cases hn : isW n = true
 ·obtain ⟨n, rfl, _⟩ := isW_nat hn
  obtain ⟨b64, b8⟩ := pow64 hn
  have e1 : wrap64 ((n : Int) - 1) = ((n - 1 : Nat) : Int) := by rw [w64 (by omega) (by omega)]; omega
  have hx := Nat.mod_lt a (two_pos n)
  have hz := Nat.mod_lt d (two_pos n)
  have hy := Nat.mod_lt b (two_pos n)
  have hv := Nat.mod_lt c (two_pos n)
  have h2n : 2 ^ n ≤ 18446744073709551616 := by rw [← p64]; exact pow_le b64
  rw [hn]
  refine Ev.bind (fuse_Fma_eq hn ha hb hc) (Ev.bind (fuse_Fma_eq hn hd hb hc) (Ev.bind (quot_Div_eq hn ha hb) (Ev.bind (quot_Div_eq hn hd hb) (Ev.bind (sum_Sub_eq hn hc ha) (Ev.bind (sum_Sub_eq hn hc hd) ?_)))))
  simp only [Option.isNone_none, if_true]
  refine evs ?_
  simp only [verniertop_TopRises.j1, Bool.false_eq_true, if_false]
  rw [e1]
  refine Ev.bind (ref_Power_eq (by omega)) (Ev.bind (ref_Fold_eq hn ha) ?_)
  have stop : ∀ x y z u v w p, Ev (fun k => verniertop_TopRises.j2 k (n : Int) (a : Int) (d : Int) (b : Int) x y z u v w p true) true := by
   intro x y z u v w p
   refine evs ?_
   simp only [verniertop_TopRises.j2, if_true]
   exact Ev.now _
  by_cases c1 : a % 2 ^ n = 2 ^ (n - 1)
  ·simp only [if_pos (show ((a % 2 ^ n : Nat) : Int) = ((2 ^ (n - 1) : Nat) : Int) by rw [c1])]
   exact stop _ _ _ _ _ _ _
  ·simp only [if_neg (show ¬ ((a % 2 ^ n : Nat) : Int) = ((2 ^ (n - 1) : Nat) : Int) from fun h => c1 (Int.ofNat.inj h))]
   refine Ev.bind (ref_Fold_eq hn hb) ?_
   by_cases c2 : b % 2 ^ n = 2 ^ (n - 1)
   ·simp only [if_pos (show ((b % 2 ^ n : Nat) : Int) = ((2 ^ (n - 1) : Nat) : Int) by rw [c2])]
    exact stop _ _ _ _ _ _ _
   ·simp only [if_neg (show ¬ ((b % 2 ^ n : Nat) : Int) = ((2 ^ (n - 1) : Nat) : Int) from fun h => c2 (Int.ofNat.inj h))]
    refine Ev.bind (ref_Fold_eq hn hc) ?_
    by_cases c3 : c % 2 ^ n = 2 ^ (n - 1)
    ·simp only [if_pos (show ((c % 2 ^ n : Nat) : Int) = ((2 ^ (n - 1) : Nat) : Int) by rw [c3])]
     exact stop _ _ _ _ _ _ _
    ·simp only [if_neg (show ¬ ((c % 2 ^ n : Nat) : Int) = ((2 ^ (n - 1) : Nat) : Int) from fun h => c3 (Int.ofNat.inj h))]
     refine Ev.bind (ref_Fold_eq hn hd) ?_
     by_cases c4 : d % 2 ^ n = 2 ^ (n - 1)
     ·rw [show (((d % 2 ^ n : Nat) : Int) == ((2 ^ (n - 1) : Nat) : Int)) = true by rw [c4]; exact beq_self_eq_true _]
      exact stop _ _ _ _ _ _ _
     ·rw [show (((d % 2 ^ n : Nat) : Int) == ((2 ^ (n - 1) : Nat) : Int)) = false by rw [beq_eq_false_iff_ne]; exact fun h => c4 (Int.ofNat.inj h)]
      refine evs ?_
      simp only [verniertop_TopRises.j2, Bool.false_eq_true, if_false]
      have ok := fun (u : Nat) (hu : u < 2 ^ n) => decN_ok b8 b64 hu
      have lp : ∀ u, fmaN n u (b % 2 ^ n) (c % 2 ^ n) < 2 ^ n := fun u => EX.rnd_lt b8 b64 (sumX_ok (prdX_ok _ _ _) (NM.ex_ok (ok _ hv)))
      have lr : ∀ u, u < 2 ^ n → divN n u (b % 2 ^ n) < 2 ^ n := fun u hu => divN_lt b8 b64 hu hy
      have lt : ∀ u, u < 2 ^ n → addN n (c % 2 ^ n) (negP n u) < 2 ^ n := fun u hu => addN_lt b8 b64 hv (negP_lt hu)
      refine Ev.bind (ref08_Cmp_eq hn ha hd) (Ev.bind (ref08_Cmp_eq hn (b := 0) hb (by decide)) (Ev.bind (ref08_Cmp_eq hn (a := fmaN n (a % 2 ^ n) (b % 2 ^ n) (c % 2 ^ n)) (b := fmaN n (d % 2 ^ n) (b % 2 ^ n) (c % 2 ^ n)) ?_ ?_) (Ev.bind (ref08_Cmp_eq hn (a := divN n (a % 2 ^ n) (b % 2 ^ n)) (b := divN n (d % 2 ^ n) (b % 2 ^ n)) ?_ ?_)
       (Ev.bind (ref08_Cmp_eq hn (a := addN n (c % 2 ^ n) (negP n (a % 2 ^ n))) (b := addN n (c % 2 ^ n) (negP n (d % 2 ^ n))) ?_ ?_) ?_))))
      ·exact Nat.lt_of_lt_of_le (lp _) h2n
      ·exact Nat.lt_of_lt_of_le (lp _) h2n
      ·exact Nat.lt_of_lt_of_le (lr _ hx) h2n
      ·exact Nat.lt_of_lt_of_le (lr _ hz) h2n
      ·exact Nat.lt_of_lt_of_le (lt _ hx) h2n
      ·exact Nat.lt_of_lt_of_le (lt _ hz) h2n
      rw [Nat.mod_eq_of_lt (lp _), Nat.mod_eq_of_lt (lp _), Nat.mod_eq_of_lt (lr _ hx), Nat.mod_eq_of_lt (lr _ hz), Nat.mod_eq_of_lt (lt _ hx), Nat.mod_eq_of_lt (lt _ hz), Nat.zero_mod, show rkN n 0 = 0 by unfold rkN; rw [if_neg (by have := two_pos (n - 1); omega)]; rfl]
      have f1 := fmaN_mono b8 b64 hx hz hy hv c1 c4 c2 c3
      have f2 := fmaN_mono b8 b64 hz hx hy hv c4 c1 c2 c3
      have f3 := fmaN_anti b8 b64 hx hz hy hv c1 c4 c2 c3
      have f4 := fmaN_anti b8 b64 hz hx hy hv c4 c1 c2 c3
      have g1 := divN_mono b8 b64 hx hz hy c1 c4 c2
      have g2 := divN_mono b8 b64 hz hx hy c4 c1 c2
      have g3 := divN_anti b8 b64 hx hz hy c1 c4 c2
      have g4 := divN_anti b8 b64 hz hx hy c4 c1 c2
      have s1 := subN_anti b8 b64 hx hz hv c1 c4 c3
      have s2 := subN_anti b8 b64 hz hx hv c4 c1 c3
      have z1 : rkN n (b % 2 ^ n) = 0 → fmaN n (a % 2 ^ n) (b % 2 ^ n) (c % 2 ^ n) = fmaN n (d % 2 ^ n) (b % 2 ^ n) (c % 2 ^ n) ∧ divN n (a % 2 ^ n) (b % 2 ^ n) = 2 ^ (n - 1) ∧ divN n (d % 2 ^ n) (b % 2 ^ n) = 2 ^ (n - 1) := by
       intro h
       have h0 : b % 2 ^ n = 0 := by
        unfold rkN at h
        split at h <;> omega
       rw [h0]
       refine ⟨?_, divN_zero_r _ _, divN_zero_r _ _⟩
       unfold fmaN
       rw [prodX_zero_r c1, prodX_zero_r c4]
      refine evn ?_
      generalize fmaN n (a % 2 ^ n) (b % 2 ^ n) (c % 2 ^ n) = P at *
      generalize fmaN n (d % 2 ^ n) (b % 2 ^ n) (c % 2 ^ n) = Q at *
      generalize divN n (a % 2 ^ n) (b % 2 ^ n) = S at *
      generalize divN n (d % 2 ^ n) (b % 2 ^ n) = T at *
      generalize addN n (c % 2 ^ n) (negP n (a % 2 ^ n)) = U at *
      generalize addN n (c % 2 ^ n) (negP n (d % 2 ^ n)) = V at *
      generalize rkN n (a % 2 ^ n) = ra at *
      generalize rkN n (d % 2 ^ n) = rd at *
      generalize rkN n (b % 2 ^ n) = rb at *
      rw [if_neg (rises_sub s1 s2)]
      by_cases hb0 : cmpI rb 0 = 0
      ·have hr : rb = 0 := by rcases cmpI_three rb 0 with ⟨_, h⟩ | ⟨h, _⟩ | ⟨_, h⟩ <;> first | exact h | (rw [h] at hb0; exact absurd hb0 (by decide))
       obtain ⟨z2, z3, z4⟩ := z1 hr
       rw [if_pos hb0, z2, z3, z4, if_pos (show cmpI (rkN n Q) (rkN n Q) = 0 by unfold cmpI; rw [if_neg (Int.lt_irrefl _), if_neg (Int.lt_irrefl _)]), if_pos rfl, if_pos rfl]
      ·rw [if_neg hb0, if_pos (rises_way f1 f2 f3 f4), decide_eq_true (rises_way g1 g2 g3 g4)]
 ·have hn : isW n = false := by simpa using hn
  rw [hn]
  refine Ev.bind (fuse_Fma_no hn _ _ _) (Ev.bind (fuse_Fma_no hn _ _ _) (Ev.bind (quot_Div_no hn _ _) (Ev.bind (quot_Div_no hn _ _) (Ev.bind (sum_Sub_no hn _ _) (Ev.bind (sum_Sub_no hn _ _) ?_)))))
  simp only [Bool.false_eq_true, if_false, Option.isNone_some, Option.getD_some, if_true]
  refine evs ?_
  simp only [verniertop_TopRises.j0]
  exact Ev.now _
end Go.Proofs.Ythofoolgbngobaa.Pure
