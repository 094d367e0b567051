-- Written by a program of this session out of its own texts (wip/tools/link.py).
import Derived.Below
import Derived.ChangeKeysEq
import Derived.Deep.MidRow
import Derived.Deep.RegionHeld3
import Derived.Great.BuildSlice
import Derived.IntWalk
import Derived.KernelRfl
import Derived.LaidEql
import Derived.Laws.Bits64
import Derived.Laws.BitsLemmas
import Derived.Laws.BytesArg
import Derived.Laws.IdiomCopy
import Derived.Laws.OwnMore
import Derived.Laws.Rows
import Derived.Laws.Slices
import Derived.Laws.Strings
import Derived.Laws.StructEq
import Derived.Laws.Tables
import Derived.Lib.BitFns
import Derived.Lib.Mul64
import Derived.Lib.Slices
import Derived.Lib.Small
import Derived.Lib.Strings
import Derived.Lib.Walk
import Derived.Maps.AppendAt
import Derived.OrdersHeld
import Derived.RowKit
import Derived.Test.YtebhpipfkomhjaaProg
import Derived.Test.YtebhpipfkomhjaaCProdPowers8
import Derived.Test.YtebhpipfkomhjaaCProdPowers9
import Derived.Test.YtebhpipfkomhjaaCProdPowers10
namespace Go.Proofs.Ytebhpipfkomhjaa.V
open Go Go.RowKit Go.Proofs.Ytebhpipfkomhjaa.Ab Go.Proofs.Ytebhpipfkomhjaa.Fn
set_option linter.unusedVariables false
set_option linter.unusedSimpArgs false
theorem beq_dec (a b : Int) : (a == b) = decide (a = b) := by by_cases h : a = b <;> simp [h]
theorem mask32 (a : Nat) (ha : a < 18446744073709551616) : Go.bits .and .u64 (a : Int) 4294967295 = ((a % 4294967296 : Nat) : Int) := and_mask a 32 ha (by decide)
theorem div32 (a : Nat) : (a : Int) / 4294967296 = ((a / 4294967296 : Nat) : Int) := by omega
theorem mulC (a b : Nat) : (a : Int) * (b : Int) = ((a * b : Nat) : Int) := (Int.natCast_mul a b).symm
theorem addC (a b : Nat) : (a : Int) + (b : Int) = ((a + b : Nat) : Int) := (Int.natCast_add a b).symm
theorem wrapN (a : Nat) (ha : a < 18446744073709551616) : IntKind.u64.wrap (a : Int) = (a : Int) := u64_of (by omega) (by omega)
theorem bits_Mul64_eq {x y : Nat} (hx : x < 18446744073709551616) (hy : y < 18446744073709551616) : bits_Mul64.f (x : Int) (y : Int) = some (TH (x * y), TL (x * y)) := by
 obtain ⟨bd, bt, bw, hhi⟩ := Lib.mul64_hi x y hx hy
 have ba := Lib.half_mul_le (a := x / 4294967296) (b := y / 4294967296) (by omega) (by omega)
 have bb := Lib.half_mul_le (a := x / 4294967296) (b := y % 4294967296) (by omega) (by omega)
 have bc := Lib.half_mul_le (a := x % 4294967296) (b := y / 4294967296) (by omega) (by omega)
 have ba' : x / 4294967296 * (y / 4294967296) < 18446744073709551616 := by omega
 have bb' : x / 4294967296 * (y % 4294967296) < 18446744073709551616 := by omega
 have bc' : x % 4294967296 * (y / 4294967296) < 18446744073709551616 := by omega
 have bh1 : x / 4294967296 * (y / 4294967296) + (x / 4294967296 * (y % 4294967296) + x % 4294967296 * (y % 4294967296) / 4294967296) / 4294967296 < 18446744073709551616 := by omega
 have bh : x / 4294967296 * (y / 4294967296) + (x / 4294967296 * (y % 4294967296) + x % 4294967296 * (y % 4294967296) / 4294967296) / 4294967296 + ((x / 4294967296 * (y % 4294967296) + x % 4294967296 * (y % 4294967296) / 4294967296) % 4294967296 + x % 4294967296 * (y / 4294967296)) / 4294967296 < 18446744073709551616 := by omega
 unfold bits_Mul64.f
 simp only [mask32 x hx, mask32 y hy, div32, mulC, addC, wrapN _ bd, wrapN _ bb', wrapN _ bt, mask32 _ bt, wrapN _ bc', wrapN _ bw, wrapN _ ba', wrapN _ bh1, wrapN _ bh, u64_nat_wrap (x * y)]
 rw [hhi]
 rfl
theorem twin_Mul_eq {x y : Nat} (hx : x < 18446744073709551616) (hy : y < 18446744073709551616) : twin_Mul.f (x : Int) (y : Int) = some (TH (x * y), TL (x * y)) := by
 unfold twin_Mul.f
 rw [bits_Mul64_eq hx hy]; rfl
theorem mul_lt128 {x y : Nat} (hx : x < 18446744073709551616) (hy : y < 18446744073709551616) : x * y < 2 ^ 128 := by
 have := Nat.mul_le_mul (show x ≤ 18446744073709551615 by omega) (show y ≤ 18446744073709551615 by omega)
 rw [p128]
 omega
def prodE (kd : Int) (ng : Bool) (sc : Int) (fr : Nat) (kd' : Int) (ng' : Bool) (sc' : Int) (fr' : Nat) : Int × Bool × Int × Int × Int × Bool :=
 if kd = 2 ∨ kd' = 2 then (2, false, 0, 0, 0, false) else if kd = 0 ∨ kd' = 0 then (0, false, 0, 0, 0, false)
 else exactE (ng != ng') (fr * fr') (sc + sc' - 126) false
theorem soundN_cases {kd sc fr : Int} {ng : Bool} (h : soundN kd ng sc fr = true) : (kd = 0 ∧ ng = false ∧ sc = 0 ∧ fr = 0) ∨ (kd = 2 ∧ ng = false ∧ sc = 0 ∧ fr = 0) ∨ (kd = 1 ∧ 9223372036854775808 ≤ fr ∧ -1073741824 ≤ sc ∧ sc ≤ 1073741824) := by
 unfold soundN at h
 split at h
 ·rename_i hk
  have : ng = false ∧ sc = 0 ∧ fr = 0 := by simpa using h
  rcases hk with hk | hk
  ·exact .inl ⟨hk, this⟩
  ·exact .inr (.inl ⟨hk, this⟩)
 ·exact .inr (.inr (of_decide_eq_true h))
theorem makeV_exactE {ng R : Bool} {V : Nat} {e : Int} (hV : V < 2 ^ 128) (h0 : -4398046511104 ≤ e) (h1 : e ≤ 4398046511104) :
  makeV ng V e R = ((exactE ng V e R).1, (exactE ng V e R).2.1, (exactE ng V e R).2.2.1, (exactE ng V e R).2.2.2.1, (exactE ng V e R).2.2.2.2.1, (exactE ng V e R).2.2.2.2.2, none) := by
 unfold makeV exactE
 by_cases hz : V = 0
 ·rw [if_pos hz, if_pos hz]
 ·rw [if_neg hz, if_neg hz]
  have hb := bl_le_of_lt hV
  have hr : mkR V R = R := by unfold mkR; rw [show bl V - 128 = 0 by omega, Nat.pow_zero, Nat.mod_one]; simp
  have hf : farI e = e := by unfold farI; rw [if_neg (by omega), if_neg (by omega)]
  rw [hr, hf]
theorem prod_Exact_eq (kd : Int) (ng : Bool) (sc : Int) (fr : Nat) (kd' : Int) (ng' : Bool) (sc' : Int) (fr' : Nat) (hf : fr < 18446744073709551616) (hf' : fr' < 18446744073709551616) :
  Ev (fun k => prod_Exact.f k kd ng sc (fr : Int) kd' ng' sc' (fr' : Int)) (if soundN kd ng sc fr = true ∧ soundN kd' ng' sc' fr' = true then
   ((prodE kd ng sc fr kd' ng' sc' fr').1, (prodE kd ng sc fr kd' ng' sc' fr').2.1, (prodE kd ng sc fr kd' ng' sc' fr').2.2.1, (prodE kd ng sc fr kd' ng' sc' fr').2.2.2.1, (prodE kd ng sc fr kd' ng' sc' fr').2.2.2.2.1, (prodE kd ng sc fr kd' ng' sc' fr').2.2.2.2.2, none)
   else (0, false, 0, 0, 0, false, some 1)) := by
 unfold prod_Exact.f
 refine Ev.bind (round_Of_eq kd ng sc fr (by omega) (by omega)) ?_
 by_cases h1 : soundN kd ng sc fr = true
 ·simp only [h1, if_true, Option.isNone_none, true_and]
  refine Ev.bind (round_Of_eq kd' ng' sc' fr' (by omega) (by omega)) ?_
  by_cases h2 : soundN kd' ng' sc' fr' = true
  ·simp only [h2, if_true, Option.isNone_none]
   have c1 := soundN_cases h1
   have c2 := soundN_cases h2
   have j1 : Ev (fun k => prod_Exact.j0 k (decide (kd = 2 ∨ kd' = 2)) kd ng sc (fr : Int) kd' ng' sc' (fr' : Int)) ((prodE kd ng sc fr kd' ng' sc' fr').1, (prodE kd ng sc fr kd' ng' sc' fr').2.1, (prodE kd ng sc fr kd' ng' sc' fr').2.2.1, (prodE kd ng sc fr kd' ng' sc' fr').2.2.2.1, (prodE kd ng sc fr kd' ng' sc' fr').2.2.2.2.1, (prodE kd ng sc fr kd' ng' sc' fr').2.2.2.2.2, none) := by
    refine evs ?_
    simp only [prod_Exact.j0]
    unfold prodE
    by_cases hk : kd = 2 ∨ kd' = 2
    ·simp only [if_pos hk, decide_eq_true hk, if_true]
     exact Ev.now _
    ·simp only [if_neg hk, decide_eq_false hk, Bool.false_eq_true, if_false]
     have j2 : Ev (fun k => prod_Exact.j1 k (decide (kd = 0 ∨ kd' = 0)) ng sc (fr : Int) ng' sc' (fr' : Int)) (if kd = 0 ∨ kd' = 0 then (0, false, 0, 0, 0, false, none) else makeV (ng != ng') (fr * fr') (sc + sc' - 126) false) := by
      refine evs ?_
      simp only [prod_Exact.j1]
      by_cases h0 : kd = 0 ∨ kd' = 0
      ·simp only [if_pos h0, decide_eq_true h0, if_true]
       exact Ev.now _
      ·simp only [if_neg h0, decide_eq_false h0, Bool.false_eq_true, if_false]
       have ew : wrap64 (wrap64 (sc + sc') - 126) = sc + sc' - 126 := by
        rw [w64 (n := sc + sc') (by omega) (by omega), w64 (by omega) (by omega)]
       rw [ew, twin_Mul_eq hf hf']
       simp only [Option.bind_some]
       have := round_Make_eq (ng != ng') (fr * fr') (sc + sc' - 126) false (mul_lt128 hf hf')
       simp only [Bool.false_eq_true, false_and, if_false] at this
       refine Ev.bind this ?_
       exact Ev.now _
     have key : ((if kd = 0 ∨ kd' = 0 then (0, false, 0, 0, 0, false, none) else makeV (ng != ng') (fr * fr') (sc + sc' - 126) false) : Int × Bool × Int × Int × Int × Bool × Option Int) = ((if kd = 0 ∨ kd' = 0 then (0, false, 0, 0, 0, false) else exactE (ng != ng') (fr * fr') (sc + sc' - 126) false).1, (if kd = 0 ∨ kd' = 0 then (0, false, 0, 0, 0, false) else exactE (ng != ng') (fr * fr') (sc + sc' - 126) false).2.1, (if kd = 0 ∨ kd' = 0 then (0, false, 0, 0, 0, false) else exactE (ng != ng') (fr * fr') (sc + sc' - 126) false).2.2.1, (if kd = 0 ∨ kd' = 0 then (0, false, 0, 0, 0, false) else exactE (ng != ng') (fr * fr') (sc + sc' - 126) false).2.2.2.1, (if kd = 0 ∨ kd' = 0 then (0, false, 0, 0, 0, false) else exactE (ng != ng') (fr * fr') (sc + sc' - 126) false).2.2.2.2.1, (if kd = 0 ∨ kd' = 0 then (0, false, 0, 0, 0, false) else exactE (ng != ng') (fr * fr') (sc + sc' - 126) false).2.2.2.2.2, none) := by
      by_cases h0 : kd = 0 ∨ kd' = 0
      ·simp only [if_pos h0]
      ·simp only [if_neg h0]
       exact makeV_exactE (mul_lt128 hf hf') (by omega) (by omega)
     rw [← key]
     by_cases hk0 : kd = 0
     ·have hd : (kd == 0) = decide (kd = 0 ∨ kd' = 0) := by rw [decide_eq_true (.inl hk0)]; simp [hk0]
      simp only [if_pos hk0, hd]
      exact j2
     ·have hd : (kd' == 0) = decide (kd = 0 ∨ kd' = 0) := by rw [beq_dec]; simp [hk0]
      simp only [if_neg hk0, hd]
      exact j2
   by_cases hk2 : kd = 2
   ·have hd : (kd == 2) = decide (kd = 2 ∨ kd' = 2) := by simp [hk2]
    simp only [if_pos hk2, hd]
    exact j1
   ·have hd : (kd' == 2) = decide (kd = 2 ∨ kd' = 2) := by rw [beq_dec]; simp [hk2]
    simp only [if_neg hk2, hd]
    exact j1
  ·simp only [if_neg h2]
   exact Ev.now _
 ·simp only [if_neg h1, if_neg (show ¬ (soundN kd ng sc fr = true ∧ soundN kd' ng' sc' fr' = true) from fun h => h1 h.1)]
  exact Ev.now _
theorem ref_sound (kd : Int) (ng : Bool) (sc fr : Int) : vernierref06_Sound.f kd ng sc fr = some (soundN kd ng sc fr) := by
 unfold vernierref06_Sound.f soundN
 by_cases h0 : kd = 0
 ·simp [h0]
 ·by_cases h2 : kd = 2
  ·simp [h2]
  ·rw [if_neg h0, if_neg h2, if_neg (show ¬ (kd = 0 ∨ kd = 2) by omega)]
   by_cases h1 : kd = 1
   ·rw [if_pos h1]
    by_cases h3 : fr ≥ 9223372036854775808
    ·rw [if_pos h3]
     by_cases h4 : sc ≥ -1073741824
     ·rw [if_pos h4]
      congr 1
      rw [decide_eq_decide]
      omega
     ·rw [if_neg h4, decide_eq_false (by omega)]
    ·rw [if_neg h3, decide_eq_false (by omega)]
   ·rw [if_neg h1, decide_eq_false (by omega)]
theorem ref10_Exact_eq (kd : Int) (ng : Bool) (sc : Int) (fr : Nat) (kd' : Int) (ng' : Bool) (sc' : Int) (fr' : Nat) (hf : fr < 18446744073709551616) (hf' : fr' < 18446744073709551616) :
  Ev (fun k => vernierref10_Exact.f k kd ng sc (fr : Int) kd' ng' sc' (fr' : Int)) (if soundN kd ng sc fr = true ∧ soundN kd' ng' sc' fr' = true then
   ((prodE kd ng sc fr kd' ng' sc' fr').1, (prodE kd ng sc fr kd' ng' sc' fr').2.1, (prodE kd ng sc fr kd' ng' sc' fr').2.2.1, (prodE kd ng sc fr kd' ng' sc' fr').2.2.2.1, (prodE kd ng sc fr kd' ng' sc' fr').2.2.2.2.1, (prodE kd ng sc fr kd' ng' sc' fr').2.2.2.2.2, 0)
   else (0, false, 0, 0, 0, false, 1)) := by
 unfold vernierref10_Exact.f
 simp only [ref_sound, Option.bind_some]
 have j0 : Ev (fun k => vernierref10_Exact.j0 k (!decide (soundN kd ng sc fr = true ∧ soundN kd' ng' sc' fr' = true)) kd ng sc (fr : Int) kd' ng' sc' (fr' : Int)) (if soundN kd ng sc fr = true ∧ soundN kd' ng' sc' fr' = true then
   ((prodE kd ng sc fr kd' ng' sc' fr').1, (prodE kd ng sc fr kd' ng' sc' fr').2.1, (prodE kd ng sc fr kd' ng' sc' fr').2.2.1, (prodE kd ng sc fr kd' ng' sc' fr').2.2.2.1, (prodE kd ng sc fr kd' ng' sc' fr').2.2.2.2.1, (prodE kd ng sc fr kd' ng' sc' fr').2.2.2.2.2, 0)
   else (0, false, 0, 0, 0, false, 1)) := by
  refine evs ?_
  simp only [vernierref10_Exact.j0, nI_eq]
  by_cases hs : soundN kd ng sc fr = true ∧ soundN kd' ng' sc' fr' = true
  ·simp only [if_pos hs, decide_eq_true hs, Bool.not_true, Bool.false_eq_true, if_false]
   have c1 := soundN_cases hs.1
   have c2 := soundN_cases hs.2
   have j1 : Ev (fun k => vernierref10_Exact.j1 k (decide (kd = 2 ∨ kd' = 2)) kd ng sc (fr : Int) kd' ng' sc' (fr' : Int)) ((prodE kd ng sc fr kd' ng' sc' fr').1, (prodE kd ng sc fr kd' ng' sc' fr').2.1, (prodE kd ng sc fr kd' ng' sc' fr').2.2.1, (prodE kd ng sc fr kd' ng' sc' fr').2.2.2.1, (prodE kd ng sc fr kd' ng' sc' fr').2.2.2.2.1, (prodE kd ng sc fr kd' ng' sc' fr').2.2.2.2.2, 0) := by
    refine evs ?_
    simp only [vernierref10_Exact.j1, nI_eq]
    unfold prodE
    by_cases hk : kd = 2 ∨ kd' = 2
    ·simp only [if_pos hk, decide_eq_true hk, if_true]
     exact Ev.now _
    ·simp only [if_neg hk, decide_eq_false hk, Bool.false_eq_true, if_false]
     have j2 : Ev (fun k => vernierref10_Exact.j2 k (decide (kd = 0 ∨ kd' = 0)) ng sc (fr : Int) ng' sc' (fr' : Int)) ((if kd = 0 ∨ kd' = 0 then (0, false, 0, 0, 0, false) else exactE (ng != ng') (fr * fr') (sc + sc' - 126) false).1, (if kd = 0 ∨ kd' = 0 then (0, false, 0, 0, 0, false) else exactE (ng != ng') (fr * fr') (sc + sc' - 126) false).2.1, (if kd = 0 ∨ kd' = 0 then (0, false, 0, 0, 0, false) else exactE (ng != ng') (fr * fr') (sc + sc' - 126) false).2.2.1, (if kd = 0 ∨ kd' = 0 then (0, false, 0, 0, 0, false) else exactE (ng != ng') (fr * fr') (sc + sc' - 126) false).2.2.2.1, (if kd = 0 ∨ kd' = 0 then (0, false, 0, 0, 0, false) else exactE (ng != ng') (fr * fr') (sc + sc' - 126) false).2.2.2.2.1, (if kd = 0 ∨ kd' = 0 then (0, false, 0, 0, 0, false) else exactE (ng != ng') (fr * fr') (sc + sc' - 126) false).2.2.2.2.2, 0) := by
      refine evs ?_
      simp only [vernierref10_Exact.j2]
      by_cases h0 : kd = 0 ∨ kd' = 0
      ·simp only [if_pos h0, decide_eq_true h0, if_true]
       exact Ev.now _
      ·simp only [if_neg h0, decide_eq_false h0, Bool.false_eq_true, if_false]
       obtain ⟨a, a1, a2⟩ := r4_Of fr hf
       obtain ⟨b, b1, b2⟩ := r4_Of fr' hf'
       have la : a.length ≤ 3 := a2.len_le (Nat.lt_of_lt_of_le hf (by decide))
       have lb : b.length ≤ 3 := b2.len_le (Nat.lt_of_lt_of_le hf' (by decide))
       obtain ⟨m, m1, m2⟩ := r4_Mul a2 b2 (by omega)
       have lm : m.length ≤ 6 := m2.len_le (Nat.lt_of_lt_of_le (mul_lt128 hf hf') (by decide))
       have ew : wrap64 (wrap64 (sc + sc') - 126) = sc + sc' - 126 := by
        rw [w64 (n := sc + sc') (by omega) (by omega), w64 (by omega) (by omega)]
       rw [ew]
       refine Ev.bind a1 (Ev.bind b1 (Ev.bind m1 (Ev.bind (ref_Exactly_eq m2 (by omega) (by omega) (by omega)) ?_)))
       exact Ev.now _
     by_cases hk0 : kd = 0
     ·have hd : true = decide (kd = 0 ∨ kd' = 0) := by simp [hk0]
      simp only [if_pos hk0]
      rw [← hd] at j2
      exact j2
     ·have hd : (kd' == 0) = decide (kd = 0 ∨ kd' = 0) := by rw [beq_dec]; simp [hk0]
      simp only [if_neg hk0, hd]
      exact j2
   by_cases hk2 : kd = 2
   ·have hd : true = decide (kd = 2 ∨ kd' = 2) := by simp [hk2]
    simp only [if_pos hk2]
    rw [← hd] at j1
    exact j1
   ·have hd : (kd' == 2) = decide (kd = 2 ∨ kd' = 2) := by rw [beq_dec]; simp [hk2]
    simp only [if_neg hk2, hd]
    exact j1
  ·simp only [if_neg hs, decide_eq_false hs, Bool.not_false, if_true]
   exact Ev.now _
 by_cases h1 : soundN kd ng sc fr = true
 ·have hd : (!soundN kd' ng' sc' fr') = (!decide (soundN kd ng sc fr = true ∧ soundN kd' ng' sc' fr' = true)) := by simp [h1]
  simp only [if_pos h1]
  simp only [h1] at j0 hd ⊢
  rw [hd]
  exact j0
 ·have hd : true = (!decide (soundN kd ng sc fr = true ∧ soundN kd' ng' sc' fr' = true)) := by simp [h1]
  simp only [if_neg h1]
  rw [← hd] at j0
  exact j0
def prodX (a b : NM) : EX := if a.kd = 2 ∨ b.kd = 2 then EX.nar else if a.kd = 0 ∨ b.kd = 0 then EX.zero else natX (a.ng != b.ng) (a.fr * b.fr) (a.sc + b.sc - 126) false
theorem prodX_ok (a b : NM) : (prodX a b).ok := by
 unfold prodX
 split
 ·exact .inr (.inl rfl)
 ·split
  ·exact .inl rfl
  ·exact natX_ok _ _ _ _
theorem prodE_X (a b : NM) : prodE a.kd a.ng a.sc a.fr b.kd b.ng b.sc b.fr = ((prodX a b).kd, (prodX a b).ng, (prodX a b).sc, TH (prodX a b).V, TL (prodX a b).V, (prodX a b).R) := by
 unfold prodE prodX
 by_cases h2 : a.kd = 2 ∨ b.kd = 2
 ·rw [if_pos h2, if_pos h2]; rfl
 ·rw [if_neg h2, if_neg h2]
  by_cases h0 : a.kd = 0 ∨ b.kd = 0
  ·rw [if_pos h0, if_pos h0]; rfl
  ·rw [if_neg h0, if_neg h0, exactE_natX]
theorem prod_Exact_X {a b : NM} (ha : a.ok) (hb : b.ok) : Ev (fun k => prod_Exact.f k a.kd a.ng a.sc (a.fr : Int) b.kd b.ng b.sc (b.fr : Int)) ((prodX a b).kd, (prodX a b).ng, (prodX a b).sc, TH (prodX a b).V, TL (prodX a b).V, (prodX a b).R, none) := by
 have := prod_Exact_eq a.kd a.ng a.sc a.fr b.kd b.ng b.sc b.fr ha.2 hb.2
 rw [if_pos ⟨ha.1, hb.1⟩, prodE_X] at this
 exact this
theorem ref10_Exact_X {a b : NM} (ha : a.ok) (hb : b.ok) : Ev (fun k => vernierref10_Exact.f k a.kd a.ng a.sc (a.fr : Int) b.kd b.ng b.sc (b.fr : Int)) ((prodX a b).kd, (prodX a b).ng, (prodX a b).sc, TH (prodX a b).V, TL (prodX a b).V, (prodX a b).R, 0) := by
 have := ref10_Exact_eq a.kd a.ng a.sc a.fr b.kd b.ng b.sc b.fr ha.2 hb.2
 rw [if_pos ⟨ha.1, hb.1⟩, prodE_X] at this
 exact this
def mulN (n x y : Nat) : Nat := (prodX (decN n x) (decN n y)).rnd n
theorem mulN_lt {n x y : Nat} (h8 : 8 ≤ n) (hn : n ≤ 64) : mulN n x y < 2 ^ n := EX.rnd_lt h8 hn (prodX_ok _ _)
theorem prod_Mul_eq {n a b : Nat} (h : isW (n : Int) = true) (ha : a < 18446744073709551616) (hb : b < 18446744073709551616) : Ev (fun k => prod_Mul.f k (n : Int) (a : Int) (b : Int)) (((mulN n (a % 2 ^ n) (b % 2 ^ n) : Nat) : Int), none) := by
 obtain ⟨b64, b8⟩ := pow64 h
 unfold prod_Mul.f
 refine Ev.bind (Decode_N h ha) ?_
 simp only [Option.isNone_none, if_true]
 refine Ev.bind (Decode_N h hb) ?_
 refine Ev.bind (prod_Exact_X (decN_ok b8 b64 (Nat.mod_lt a (two_pos n))) (decN_ok b8 b64 (Nat.mod_lt b (two_pos n)))) ?_
 refine Ev.bind (Round_X h (prodX_ok _ _)) ?_
 exact Ev.now _
theorem up10 : Ev (fun k => vernierlaw10_up.f k) true := by
 unfold vernierlaw10_up.f
 have a := prod_Mul_eq (n := 8) (a := 72) (b := 72) (by decide) (by decide) (by decide)
 have b := prod_Mul_eq (n := 8) (a := 1) (b := 255) (by decide) (by decide) (by decide)
 rw [show mulN 8 (72 % 2 ^ 8) (72 % 2 ^ 8) = 80 by decide +kernel] at a
 rw [show mulN 8 (1 % 2 ^ 8) (255 % 2 ^ 8) = 255 by decide +kernel] at b
 refine Ev.bind a (Ev.bind b ?_)
 exact Ev.now _
end Go.Proofs.Ytebhpipfkomhjaa.V
namespace Go.Proofs.Ytebhpipfkomhjaa.V
open Go Go.RowKit Go.Proofs.Ytebhpipfkomhjaa.Ab Go.Proofs.Ytebhpipfkomhjaa.Fn
theorem ref10_Mul_eq {n a b : Nat} (h : isW (n : Int) = true) (ha : a < 18446744073709551616) (hb : b < 18446744073709551616) : Ev (fun k => vernierref10_Mul.f k (n : Int) (a : Int) (b : Int)) ((mulN n (a % 2 ^ n) (b % 2 ^ n) : Nat) : Int) := by
 obtain ⟨b64, b8⟩ := pow64 h
 unfold vernierref10_Mul.f
 refine Ev.bind (ref_Decode_N h ha) ?_
 refine Ev.bind (ref_Decode_N h hb) ?_
 refine Ev.bind (ref10_Exact_X (decN_ok b8 b64 (Nat.mod_lt a (two_pos n))) (decN_ok b8 b64 (Nat.mod_lt b (two_pos n)))) ?_
 refine Ev.bind (ref_Round_X h (prodX_ok _ _)) ?_
 exact Ev.now _
end Go.Proofs.Ytebhpipfkomhjaa.V
namespace Go.Proofs.Ytebhpipfkomhjaa.V
open Go Go.RowKit Go.Proofs.Ytebhpipfkomhjaa.Ab
theorem prodX_comm (a b : NM) : prodX a b = prodX b a := by
 have e2 : (b.kd = 2 ∨ a.kd = 2) ↔ (a.kd = 2 ∨ b.kd = 2) := Or.comm
 have e0 : (b.kd = 0 ∨ a.kd = 0) ↔ (a.kd = 0 ∨ b.kd = 0) := Or.comm
 unfold prodX
 simp only [e2, e0, Nat.mul_comm b.fr, Int.add_comm b.sc, show (b.ng != a.ng) = (a.ng != b.ng) by cases a.ng <;> cases b.ng <;> rfl]
theorem bl63 {f : Nat} (h : 2 ^ 63 ≤ f) (h2 : f < 2 ^ 64) : bl f = 64 := bl_unique (by decide) h h2
theorem prodX_one {a : NM} (ha : a.ok) : prodX a oneN = a.ex := by
 rcases NM.cases ha with rfl | rfl | ⟨h1, h2, h3, h4, h5⟩
 ·rfl
 ·rfl
 ·unfold prodX
  rw [if_neg (by unfold oneN; simp only; omega), if_neg (by unfold oneN; simp only; omega)]
  unfold oneN natX
  simp only
  have hp : a.fr * 9223372036854775808 ≠ 0 := by rw [p63] at h2; omega
  have hb : bl (a.fr * 9223372036854775808) = 127 := by
   rw [show (9223372036854775808 : Nat) = 2 ^ 63 from p63.symm, bl_mul_pow 63 (by rw [p63] at h2; omega), bl63 h2 h3]
  rw [if_neg hp, hb]
  unfold NM.ex
  refine EX.ext' h1.symm ?_ ?_ ?_ ?_
  ·simp
  ·simp only
   unfold heldI
   rw [if_neg (by omega), if_neg (by omega)]
   omega
  ·simp only
   unfold mkV
   rw [hb, if_pos (by decide), Nat.mul_assoc]
  ·simp only
   unfold mkR
   rw [hb, Nat.pow_zero, Nat.mod_one]; rfl
theorem mulN_comm (n x y : Nat) : mulN n x y = mulN n y x := by unfold mulN; rw [prodX_comm]
theorem mulN_one {n x : Nat} (h : isW (n : Int) = true) (h8 : 8 ≤ n) (hn : n ≤ 64) (hx : x < 2 ^ n) : mulN n x (2 ^ (n - 2)) = x := by
 unfold mulN
 rw [decN_one h, prodX_one (decN_ok h8 hn hx), dec_rnd h8 hn hx]
theorem decN_nar (n : Nat) : decN n (2 ^ (n - 1)) = ⟨2, false, 0, 0⟩ := by
 unfold decN
 rw [if_neg (Nat.ne_of_gt (two_pos (n - 1))), if_pos rfl]
theorem mulN_nar (n y : Nat) : mulN n (2 ^ (n - 1)) y = 2 ^ (n - 1) := by
 unfold mulN
 rw [decN_nar]
 unfold prodX
 rw [if_pos (.inl rfl), EX.rnd_nar]
theorem decN_kd {n x : Nat} (h : x ≠ 2 ^ (n - 1)) : (decN n x).kd ≠ 2 := by
 unfold decN
 by_cases h0 : x = 0
 ·rw [if_pos h0]; show (0 : Int) ≠ 2; decide
 ·rw [if_neg h0, if_neg h]; show (1 : Int) ≠ 2; decide
end Go.Proofs.Ytebhpipfkomhjaa.V
namespace Go.Proofs.Ytebhpipfkomhjaa.V
open Go Go.RowKit Go.Proofs.Ytebhpipfkomhjaa.Ab Go.Proofs.Ytebhpipfkomhjaa.Fn
set_option linter.unusedVariables false
set_option linter.unusedSimpArgs false
theorem enc8 (k : Nat) : codec_Encode.f (k + 20) 8 1 false 0 9223372036854775808 = some (64, none) := by kernel_rfl
theorem enc16 (k : Nat) : codec_Encode.f (k + 20) 16 1 false 0 9223372036854775808 = some (16384, none) := by kernel_rfl
theorem enc32 (k : Nat) : codec_Encode.f (k + 20) 32 1 false 0 9223372036854775808 = some (1073741824, none) := by kernel_rfl
theorem enc64 (k : Nat) : codec_Encode.f (k + 20) 64 1 false 0 9223372036854775808 = some (4611686018427387904, none) := by kernel_rfl
theorem Encode_one {n : Nat} (h : isW (n : Int) = true) : Ev (fun k => codec_Encode.f k (n : Int) 1 false 0 9223372036854775808) (((2 ^ (n - 2) : Nat) : Int), none) := by
 have key : ∀ (m : Int) (p : Int), (∀ k, codec_Encode.f (k + 20) m 1 false 0 9223372036854775808 = some (p, none)) → Ev (fun k => codec_Encode.f k m 1 false 0 9223372036854775808) (p, none) := fun m p hk =>
  ⟨20, fun k hl => Nat.sub_add_cancel hl ▸ hk (k - 20)⟩
 obtain ⟨m, e, h⟩ := isW_nat h
 have : n = m := by omega
 subst this
 rcases h with rfl | rfl | rfl | rfl
 ·exact key _ _ enc8
 ·exact key _ _ enc16
 ·exact key _ _ enc32
 ·exact key _ _ enc64
theorem Encode_no {n : Int} (h : isW n = false) (kd : Int) (ng : Bool) (sc fr : Int) : Ev (fun k => codec_Encode.f k n kd ng sc fr) (0, some 2) := by
 unfold codec_Encode.f
 exact Ev.bind (evn (shape_Of_no h)) (Ev.now _)
end Go.Proofs.Ytebhpipfkomhjaa.V
namespace Go.Proofs.Ytebhpipfkomhjaa.Pure
open Go Go.RowKit Go.Proofs.Ytebhpipfkomhjaa.Ab Go.Proofs.Ytebhpipfkomhjaa.Fn Go.Proofs.Ytebhpipfkomhjaa.V
set_option linter.unusedSimpArgs false
def powN (n x : Nat) : Nat → Nat → Nat
 | 0, p => p
 | d + 1, p => powN n x d (mulN n p x)
theorem pow_l0 {n a K : Nat} (h : isW (n : Int) = true) (ha : a < 18446744073709551616) (hK : K ≤ 1024) : ∀ (d i p : Nat) (e : Option Int), i + d = K → p < 2 ^ n → (d = 0 → e = none) →
  Ev (fun k => prod_Power.l0 k (n : Int) (a : Int) e (p : Int) (K : Int) (i : Int)) (((powN n (a % 2 ^ n) d p : Nat) : Int), none)
 | 0, i, p, e, hi, hp, he => by
  rw [he rfl]
  refine evs ?_
  simp only [prod_Power.l0, if_neg (show ¬ (i : Int) < (K : Int) by omega)]
  exact Ev.now _
 | d + 1, i, p, e, hi, hp, he => by
  obtain ⟨b64, b8⟩ := pow64 h
  have h2n : 2 ^ n ≤ 18446744073709551616 := by rw [← p64]; exact pow_le b64
  refine evs ?_
  have ew : wrap64 ((i : Int) + 1) = ((i + 1 : Nat) : Int) := by rw [w64 (by omega) (by omega)]; omega
  simp only [prod_Power.l0, if_pos (show (i : Int) < (K : Int) by omega), ew]
  have hm := prod_Mul_eq h (a := p) (b := a) (by omega) ha
  rw [Nat.mod_eq_of_lt hp] at hm
  refine Ev.bind hm ?_
  exact pow_l0 h ha hK d (i + 1) _ none (by omega) (mulN_lt b8 b64) (fun _ => rfl)
theorem ref_pow_l0 {n a K : Nat} (h : isW (n : Int) = true) (ha : a < 18446744073709551616) (hK : K ≤ 1024) : ∀ (d i p : Nat), i + d = K → p < 2 ^ n →
  Ev (fun k => vernierref10_Power.l0 k (n : Int) (a : Int) (K : Int) (p : Int) (i : Int)) (((powN n (a % 2 ^ n) d p : Nat) : Int), 0)
 | 0, i, p, hi, hp => by
  refine evs ?_
  simp only [vernierref10_Power.l0, if_neg (show ¬ (i : Int) < (K : Int) by omega)]
  exact Ev.now _
 | d + 1, i, p, hi, hp => by
  obtain ⟨b64, b8⟩ := pow64 h
  have h2n : 2 ^ n ≤ 18446744073709551616 := by rw [← p64]; exact pow_le b64
  refine evs ?_
  have ew : wrap64 ((i : Int) + 1) = ((i + 1 : Nat) : Int) := by rw [w64 (by omega) (by omega)]; omega
  simp only [vernierref10_Power.l0, if_pos (show (i : Int) < (K : Int) by omega), ew]
  have hm := ref10_Mul_eq h (a := p) (b := a) (by omega) ha
  rw [Nat.mod_eq_of_lt hp] at hm
  refine Ev.bind hm ?_
  exact ref_pow_l0 h ha hK d (i + 1) _ (by omega) (mulN_lt b8 b64)
theorem ProdPowers : vernierlaw10_ProdPowers.Pure := by
 intro n a K w0 w1 w2
 obtain ⟨a, rfl, ha⟩ := u64_nat w1
 refine Ev.rounds (g := fun k => vernierlaw10_ProdPowers.f k n (a : Int) K) ?_
 unfold vernierlaw10_ProdPowers.f
 refine Ev.bind up10 ?_
 by_cases hn : isW n = true
 ·obtain ⟨n, rfl, _⟩ := isW_nat hn
  obtain ⟨b64, b8⟩ := pow64 hn
  have hx := Nat.mod_lt a (two_pos n)
  have h2n : 2 ^ n ≤ 18446744073709551616 := by rw [← p64]; exact pow_le b64
  have hp2 : 2 ^ (n - 2) < 2 ^ n := pow_lt (by omega)
  have e2 : wrap64 ((n : Int) - 2) = ((n - 2 : Nat) : Int) := by rw [w64 (by omega) (by omega)]; omega
  have e1 : wrap64 ((n : Int) - 1) = ((n - 1 : Nat) : Int) := by rw [w64 (by omega) (by omega)]; omega
  have hk := ref_Kind_eq hn ha
  by_cases hK : K < 0 ∨ K > 1024
  ·refine Ev.bind (a := ((0 : Int), some (1 : Int))) ?_ (Ev.bind (a := ((0 : Int), (1 : Int))) ?_ (evn (by simp [code_1])))
   ·unfold prod_Power.f
    refine Ev.bind (Encode_one hn) ?_
    simp only [Option.isNone_none, if_true]
    have j : Ev (fun k => prod_Power.j0 k (n : Int) (a : Int) K ((2 ^ (n - 2) : Nat) : Int) true) (0, some 1) := by
     refine evs ?_
     simp only [prod_Power.j0, if_true]
     exact Ev.now _
    by_cases h0 : K < 0
    ·simp only [if_pos h0]; exact j
    ·simp only [if_neg h0, decide_eq_true (show K > 1024 by omega)]; exact j
   ·unfold vernierref10_Power.f
    refine Ev.bind hk ?_
    simp only [if_true]
    have j : ∀ kd : Int, Ev (fun k => vernierref10_Power.j0 k (n : Int) (a : Int) K kd true) (0, 1) := by
     intro kd
     refine evs ?_
     simp only [vernierref10_Power.j0, if_true]
     exact Ev.now _
    by_cases h0 : K < 0
    ·simp only [if_pos h0]; exact j _
    ·simp only [if_neg h0, decide_eq_true (show K > 1024 by omega)]; exact j _
  ·obtain ⟨K, rfl⟩ := Int.eq_ofNat_of_zero_le (show 0 ≤ K by omega)
   have hK' : K ≤ 1024 := by omega
   by_cases hnar : a % 2 ^ n = 2 ^ (n - 1)
   ·refine Ev.bind (a := (((2 ^ (n - 1) : Nat) : Int), (none : Option Int))) ?_ (Ev.bind (a := (((2 ^ (n - 1) : Nat) : Int), (0 : Int))) ?_ (evn (by simp [code_none])))
    ·unfold prod_Power.f
     refine Ev.bind (Encode_one hn) ?_
     simp only [Option.isNone_none, if_true, if_neg (show ¬ ((K : Nat) : Int) < 0 by omega), decide_eq_false (show ¬ ((K : Nat) : Int) > 1024 by omega)]
     refine evs ?_
     simp only [prod_Power.j0, Bool.false_eq_true, if_false]
     have hm := prod_Mul_eq hn (a := 2 ^ (n - 2)) (b := a) (by omega) ha
     rw [Nat.mod_eq_of_lt hp2, hnar, mulN_comm, mulN_nar] at hm
     have hd := Decode_N hn (p := 2 ^ (n - 1)) (by have := two_halves (n := n) (by omega); have := two_pos (n - 1); omega)
     rw [Nat.mod_eq_of_lt (pow_lt (by omega)), decN_nar] at hd
     refine Ev.bind hm (Ev.bind hd ?_)
     simp only [if_true]
     exact Ev.now _
    ·unfold vernierref10_Power.f
     refine Ev.bind hk ?_
     have h0 : ¬ a % 2 ^ n = 0 := by rw [hnar]; have := two_pos (n - 1); omega
     simp only [if_true, if_neg (show ¬ ((K : Nat) : Int) < 0 by omega), decide_eq_false (show ¬ ((K : Nat) : Int) > 1024 by omega), if_neg h0, if_pos hnar]
     refine evs ?_
     simp only [vernierref10_Power.j0, Bool.false_eq_true, if_false, if_true, e1]
     exact Ev.bind (ref_Power_eq (by omega)) (Ev.now _)
   ·refine Ev.bind (a := (((powN n (a % 2 ^ n) K (2 ^ (n - 2)) : Nat) : Int), (none : Option Int))) ?_ (Ev.bind (a := (((powN n (a % 2 ^ n) K (2 ^ (n - 2)) : Nat) : Int), (0 : Int))) ?_ (evn (by simp [code_none])))
    ·unfold prod_Power.f
     refine Ev.bind (Encode_one hn) ?_
     simp only [Option.isNone_none, if_true, if_neg (show ¬ ((K : Nat) : Int) < 0 by omega), decide_eq_false (show ¬ ((K : Nat) : Int) > 1024 by omega)]
     refine evs ?_
     simp only [prod_Power.j0, Bool.false_eq_true, if_false]
     have hm := prod_Mul_eq hn (a := 2 ^ (n - 2)) (b := a) (by omega) ha
     rw [Nat.mod_eq_of_lt hp2, mulN_comm, mulN_one hn b8 b64 hx] at hm
     have hd := Decode_N hn (p := a % 2 ^ n) (by omega)
     rw [Nat.mod_eq_of_lt hx] at hd
     refine Ev.bind hm (Ev.bind hd ?_)
     simp only [if_neg (decN_kd hnar)]
     exact pow_l0 hn ha hK' K 0 _ none (by omega) hp2 (fun _ => rfl)
    ·unfold vernierref10_Power.f
     refine Ev.bind hk ?_
     have hc : ¬ (if a % 2 ^ n = 0 then (0 : Int) else if a % 2 ^ n = 2 ^ (n - 1) then 2 else 1) = 2 := by
      by_cases h0 : a % 2 ^ n = 0
      ·rw [if_pos h0]; decide
      ·rw [if_neg h0, if_neg hnar]; decide
     simp only [if_true, if_neg (show ¬ ((K : Nat) : Int) < 0 by omega), decide_eq_false (show ¬ ((K : Nat) : Int) > 1024 by omega)]
     refine evs ?_
     simp only [vernierref10_Power.j0, Bool.false_eq_true, if_false, if_neg hc, e2]
     refine Ev.bind (ref_Power_eq (by omega)) ?_
     exact ref_pow_l0 hn ha hK' K 0 _ (by omega) hp2
 ·have hn : isW n = false := by simpa using hn
  refine Ev.bind (a := ((0 : Int), some (2 : Int))) ?_ (Ev.bind (a := ((0 : Int), (2 : Int))) ?_ (evn (by simp [code_2])))
  ·unfold prod_Power.f
   exact Ev.bind (Encode_no hn _ _ _ _) (Ev.now _)
  ·unfold vernierref10_Power.f
   exact Ev.bind (ref_Kind_no hn _) (Ev.now _)
end Go.Proofs.Ytebhpipfkomhjaa.Pure
