-- Written by a program of this session out of its own texts (wip/tools/link.py).
import Derived.Below
import Derived.ChangeKeysEq
import Derived.Deep.MidRow
import Derived.Deep.RegionHeld3
import Derived.Great.BuildSlice
import Derived.IntWalk
import Derived.KernelRfl
import Derived.LaidEql
import Derived.Laws.Bits64
import Derived.Laws.BitsLemmas
import Derived.Laws.BytesArg
import Derived.Laws.IdiomCopy
import Derived.Laws.OwnMore
import Derived.Laws.Rows
import Derived.Laws.Slices
import Derived.Laws.Strings
import Derived.Laws.StructEq
import Derived.Laws.Tables
import Derived.Lib.BitFns
import Derived.Lib.Mul64
import Derived.Lib.Slices
import Derived.Lib.Small
import Derived.Lib.Strings
import Derived.Lib.Walk
import Derived.Maps.AppendAt
import Derived.OrdersHeld
import Derived.RowKit
import Derived.Shelf.Spec.BitsCarry
import Derived.Test.YtfbbnpliaokmbaaGreatProg
import Derived.Test.YtfbbnpliaokmbaaGreatCFuseHypots9
import Derived.Test.YtfbbnpliaokmbaaGreatCFuseHypots10
import Derived.Test.YtfbbnpliaokmbaaGreatCFuseHypots11
namespace Go.Proofs.YtfbbnpliaokmbaaGreat.V
open Go Go.RowKit Go.Proofs.YtfbbnpliaokmbaaGreat.Ab Go.Proofs.YtfbbnpliaokmbaaGreat.Fn
set_option linter.unusedVariables false
set_option linter.unusedSimpArgs false
theorem beq_dec (a b : Int) : (a == b) = decide (a = b) := by by_cases h : a = b <;> simp [h]
theorem mask32 (a : Nat) (ha : a < 18446744073709551616) : Go.bits .and .u64 (a : Int) 4294967295 = ((a % 4294967296 : Nat) : Int) := and_mask a 32 ha (by decide)
theorem div32 (a : Nat) : (a : Int) / 4294967296 = ((a / 4294967296 : Nat) : Int) := by omega
theorem mulC (a b : Nat) : (a : Int) * (b : Int) = ((a * b : Nat) : Int) := (Int.natCast_mul a b).symm
theorem addC (a b : Nat) : (a : Int) + (b : Int) = ((a + b : Nat) : Int) := (Int.natCast_add a b).symm
theorem wrapN (a : Nat) (ha : a < 18446744073709551616) : IntKind.u64.wrap (a : Int) = (a : Int) := u64_of (by omega) (by omega)
theorem bits_Mul64_eq {x y : Nat} (hx : x < 18446744073709551616) (hy : y < 18446744073709551616) : bits_Mul64.f (x : Int) (y : Int) = some (TH (x * y), TL (x * y)) := by
 obtain ⟨bd, bt, bw, hhi⟩ := Lib.mul64_hi x y hx hy
 have ba := Lib.half_mul_le (a := x / 4294967296) (b := y / 4294967296) (by omega) (by omega)
 have bb := Lib.half_mul_le (a := x / 4294967296) (b := y % 4294967296) (by omega) (by omega)
 have bc := Lib.half_mul_le (a := x % 4294967296) (b := y / 4294967296) (by omega) (by omega)
 have ba' : x / 4294967296 * (y / 4294967296) < 18446744073709551616 := by omega
 have bb' : x / 4294967296 * (y % 4294967296) < 18446744073709551616 := by omega
 have bc' : x % 4294967296 * (y / 4294967296) < 18446744073709551616 := by omega
 have bh1 : x / 4294967296 * (y / 4294967296) + (x / 4294967296 * (y % 4294967296) + x % 4294967296 * (y % 4294967296) / 4294967296) / 4294967296 < 18446744073709551616 := by omega
 have bh : x / 4294967296 * (y / 4294967296) + (x / 4294967296 * (y % 4294967296) + x % 4294967296 * (y % 4294967296) / 4294967296) / 4294967296 + ((x / 4294967296 * (y % 4294967296) + x % 4294967296 * (y % 4294967296) / 4294967296) % 4294967296 + x % 4294967296 * (y / 4294967296)) / 4294967296 < 18446744073709551616 := by omega
 unfold bits_Mul64.f
 simp only [mask32 x hx, mask32 y hy, div32, mulC, addC, wrapN _ bd, wrapN _ bb', wrapN _ bt, mask32 _ bt, wrapN _ bc', wrapN _ bw, wrapN _ ba', wrapN _ bh1, wrapN _ bh, u64_nat_wrap (x * y)]
 rw [hhi]
 rfl
theorem twin_Mul_eq {x y : Nat} (hx : x < 18446744073709551616) (hy : y < 18446744073709551616) : twin_Mul.f (x : Int) (y : Int) = some (TH (x * y), TL (x * y)) := by
 unfold twin_Mul.f
 rw [bits_Mul64_eq hx hy]; rfl
theorem mul_lt128 {x y : Nat} (hx : x < 18446744073709551616) (hy : y < 18446744073709551616) : x * y < 2 ^ 128 := by
 have := Nat.mul_le_mul (show x ≤ 18446744073709551615 by omega) (show y ≤ 18446744073709551615 by omega)
 rw [p128]
 omega
def prodE (kd : Int) (ng : Bool) (sc : Int) (fr : Nat) (kd' : Int) (ng' : Bool) (sc' : Int) (fr' : Nat) : Int × Bool × Int × Int × Int × Bool :=
 if kd = 2 ∨ kd' = 2 then (2, false, 0, 0, 0, false) else if kd = 0 ∨ kd' = 0 then (0, false, 0, 0, 0, false)
 else exactE (ng != ng') (fr * fr') (sc + sc' - 126) false
theorem soundN_cases {kd sc fr : Int} {ng : Bool} (h : soundN kd ng sc fr = true) : (kd = 0 ∧ ng = false ∧ sc = 0 ∧ fr = 0) ∨ (kd = 2 ∧ ng = false ∧ sc = 0 ∧ fr = 0) ∨ (kd = 1 ∧ 9223372036854775808 ≤ fr ∧ -1073741824 ≤ sc ∧ sc ≤ 1073741824) := by
 unfold soundN at h
 split at h
 ·rename_i hk
  have : ng = false ∧ sc = 0 ∧ fr = 0 := by simpa using h
  rcases hk with hk | hk
  ·exact .inl ⟨hk, this⟩
  ·exact .inr (.inl ⟨hk, this⟩)
 ·exact .inr (.inr (of_decide_eq_true h))
theorem makeV_exactE {ng R : Bool} {V : Nat} {e : Int} (hV : V < 2 ^ 128) (h0 : -4398046511104 ≤ e) (h1 : e ≤ 4398046511104) :
  makeV ng V e R = ((exactE ng V e R).1, (exactE ng V e R).2.1, (exactE ng V e R).2.2.1, (exactE ng V e R).2.2.2.1, (exactE ng V e R).2.2.2.2.1, (exactE ng V e R).2.2.2.2.2, none) := by
 unfold makeV exactE
 by_cases hz : V = 0
 ·rw [if_pos hz, if_pos hz]
 ·rw [if_neg hz, if_neg hz]
  have hb := bl_le_of_lt hV
  have hr : mkR V R = R := by unfold mkR; rw [show bl V - 128 = 0 by omega, Nat.pow_zero, Nat.mod_one]; simp
  have hf : farI e = e := by unfold farI; rw [if_neg (by omega), if_neg (by omega)]
  rw [hr, hf]
theorem prod_Exact_eq (kd : Int) (ng : Bool) (sc : Int) (fr : Nat) (kd' : Int) (ng' : Bool) (sc' : Int) (fr' : Nat) (hf : fr < 18446744073709551616) (hf' : fr' < 18446744073709551616) :
  Ev (fun k => prod_Exact.f k kd ng sc (fr : Int) kd' ng' sc' (fr' : Int)) (if soundN kd ng sc fr = true ∧ soundN kd' ng' sc' fr' = true then
   ((prodE kd ng sc fr kd' ng' sc' fr').1, (prodE kd ng sc fr kd' ng' sc' fr').2.1, (prodE kd ng sc fr kd' ng' sc' fr').2.2.1, (prodE kd ng sc fr kd' ng' sc' fr').2.2.2.1, (prodE kd ng sc fr kd' ng' sc' fr').2.2.2.2.1, (prodE kd ng sc fr kd' ng' sc' fr').2.2.2.2.2, none)
   else (0, false, 0, 0, 0, false, some 1)) := by
 unfold prod_Exact.f
 refine Ev.bind (round_Of_eq kd ng sc fr (by omega) (by omega)) ?_
 by_cases h1 : soundN kd ng sc fr = true
 ·simp only [h1, if_true, Option.isNone_none, true_and]
  refine Ev.bind (round_Of_eq kd' ng' sc' fr' (by omega) (by omega)) ?_
  by_cases h2 : soundN kd' ng' sc' fr' = true
  ·simp only [h2, if_true, Option.isNone_none]
   have c1 := soundN_cases h1
   have c2 := soundN_cases h2
   have j1 : Ev (fun k => prod_Exact.j0 k (decide (kd = 2 ∨ kd' = 2)) kd ng sc (fr : Int) kd' ng' sc' (fr' : Int)) ((prodE kd ng sc fr kd' ng' sc' fr').1, (prodE kd ng sc fr kd' ng' sc' fr').2.1, (prodE kd ng sc fr kd' ng' sc' fr').2.2.1, (prodE kd ng sc fr kd' ng' sc' fr').2.2.2.1, (prodE kd ng sc fr kd' ng' sc' fr').2.2.2.2.1, (prodE kd ng sc fr kd' ng' sc' fr').2.2.2.2.2, none) := by
    refine evs ?_
    simp only [prod_Exact.j0]
    unfold prodE
    by_cases hk : kd = 2 ∨ kd' = 2
    ·simp only [if_pos hk, decide_eq_true hk, if_true]
     exact Ev.now _
    ·simp only [if_neg hk, decide_eq_false hk, Bool.false_eq_true, if_false]
     have j2 : Ev (fun k => prod_Exact.j1 k (decide (kd = 0 ∨ kd' = 0)) ng sc (fr : Int) ng' sc' (fr' : Int)) (if kd = 0 ∨ kd' = 0 then (0, false, 0, 0, 0, false, none) else makeV (ng != ng') (fr * fr') (sc + sc' - 126) false) := by
      refine evs ?_
      simp only [prod_Exact.j1]
      by_cases h0 : kd = 0 ∨ kd' = 0
      ·simp only [if_pos h0, decide_eq_true h0, if_true]
       exact Ev.now _
      ·simp only [if_neg h0, decide_eq_false h0, Bool.false_eq_true, if_false]
       have ew : wrap64 (wrap64 (sc + sc') - 126) = sc + sc' - 126 := by
        rw [w64 (n := sc + sc') (by omega) (by omega), w64 (by omega) (by omega)]
       rw [ew, twin_Mul_eq hf hf']
       simp only [Option.bind_some]
       have := round_Make_eq (ng != ng') (fr * fr') (sc + sc' - 126) false (mul_lt128 hf hf')
       simp only [Bool.false_eq_true, false_and, if_false] at this
       refine Ev.bind this ?_
       exact Ev.now _
     have key : ((if kd = 0 ∨ kd' = 0 then (0, false, 0, 0, 0, false, none) else makeV (ng != ng') (fr * fr') (sc + sc' - 126) false) : Int × Bool × Int × Int × Int × Bool × Option Int) = ((if kd = 0 ∨ kd' = 0 then (0, false, 0, 0, 0, false) else exactE (ng != ng') (fr * fr') (sc + sc' - 126) false).1, (if kd = 0 ∨ kd' = 0 then (0, false, 0, 0, 0, false) else exactE (ng != ng') (fr * fr') (sc + sc' - 126) false).2.1, (if kd = 0 ∨ kd' = 0 then (0, false, 0, 0, 0, false) else exactE (ng != ng') (fr * fr') (sc + sc' - 126) false).2.2.1, (if kd = 0 ∨ kd' = 0 then (0, false, 0, 0, 0, false) else exactE (ng != ng') (fr * fr') (sc + sc' - 126) false).2.2.2.1, (if kd = 0 ∨ kd' = 0 then (0, false, 0, 0, 0, false) else exactE (ng != ng') (fr * fr') (sc + sc' - 126) false).2.2.2.2.1, (if kd = 0 ∨ kd' = 0 then (0, false, 0, 0, 0, false) else exactE (ng != ng') (fr * fr') (sc + sc' - 126) false).2.2.2.2.2, none) := by
      by_cases h0 : kd = 0 ∨ kd' = 0
      ·simp only [if_pos h0]
      ·simp only [if_neg h0]
       exact makeV_exactE (mul_lt128 hf hf') (by omega) (by omega)
     rw [← key]
     by_cases hk0 : kd = 0
     ·have hd : (kd == 0) = decide (kd = 0 ∨ kd' = 0) := by rw [decide_eq_true (.inl hk0)]; simp [hk0]
      simp only [if_pos hk0, hd]
      exact j2
     ·have hd : (kd' == 0) = decide (kd = 0 ∨ kd' = 0) := by rw [beq_dec]; simp [hk0]
      simp only [if_neg hk0, hd]
      exact j2
   by_cases hk2 : kd = 2
   ·have hd : (kd == 2) = decide (kd = 2 ∨ kd' = 2) := by simp [hk2]
    simp only [if_pos hk2, hd]
    exact j1
   ·have hd : (kd' == 2) = decide (kd = 2 ∨ kd' = 2) := by rw [beq_dec]; simp [hk2]
    simp only [if_neg hk2, hd]
    exact j1
  ·simp only [if_neg h2]
   exact Ev.now _
 ·simp only [if_neg h1, if_neg (show ¬ (soundN kd ng sc fr = true ∧ soundN kd' ng' sc' fr' = true) from fun h => h1 h.1)]
  exact Ev.now _
theorem ref_sound (kd : Int) (ng : Bool) (sc fr : Int) : vernierref06_Sound.f kd ng sc fr = some (soundN kd ng sc fr) := by
 unfold vernierref06_Sound.f soundN
 by_cases h0 : kd = 0
 ·simp [h0]
 ·by_cases h2 : kd = 2
  ·simp [h2]
  ·rw [if_neg h0, if_neg h2, if_neg (show ¬ (kd = 0 ∨ kd = 2) by omega)]
   by_cases h1 : kd = 1
   ·rw [if_pos h1]
    by_cases h3 : fr ≥ 9223372036854775808
    ·rw [if_pos h3]
     by_cases h4 : sc ≥ -1073741824
     ·rw [if_pos h4]
      congr 1
      rw [decide_eq_decide]
      omega
     ·rw [if_neg h4, decide_eq_false (by omega)]
    ·rw [if_neg h3, decide_eq_false (by omega)]
   ·rw [if_neg h1, decide_eq_false (by omega)]
theorem ref10_Exact_eq (kd : Int) (ng : Bool) (sc : Int) (fr : Nat) (kd' : Int) (ng' : Bool) (sc' : Int) (fr' : Nat) (hf : fr < 18446744073709551616) (hf' : fr' < 18446744073709551616) :
  Ev (fun k => vernierref10_Exact.f k kd ng sc (fr : Int) kd' ng' sc' (fr' : Int)) (if soundN kd ng sc fr = true ∧ soundN kd' ng' sc' fr' = true then
   ((prodE kd ng sc fr kd' ng' sc' fr').1, (prodE kd ng sc fr kd' ng' sc' fr').2.1, (prodE kd ng sc fr kd' ng' sc' fr').2.2.1, (prodE kd ng sc fr kd' ng' sc' fr').2.2.2.1, (prodE kd ng sc fr kd' ng' sc' fr').2.2.2.2.1, (prodE kd ng sc fr kd' ng' sc' fr').2.2.2.2.2, 0)
   else (0, false, 0, 0, 0, false, 1)) := by
 unfold vernierref10_Exact.f
 simp only [ref_sound, Option.bind_some]
 have j0 : Ev (fun k => vernierref10_Exact.j0 k (!decide (soundN kd ng sc fr = true ∧ soundN kd' ng' sc' fr' = true)) kd ng sc (fr : Int) kd' ng' sc' (fr' : Int)) (if soundN kd ng sc fr = true ∧ soundN kd' ng' sc' fr' = true then
   ((prodE kd ng sc fr kd' ng' sc' fr').1, (prodE kd ng sc fr kd' ng' sc' fr').2.1, (prodE kd ng sc fr kd' ng' sc' fr').2.2.1, (prodE kd ng sc fr kd' ng' sc' fr').2.2.2.1, (prodE kd ng sc fr kd' ng' sc' fr').2.2.2.2.1, (prodE kd ng sc fr kd' ng' sc' fr').2.2.2.2.2, 0)
   else (0, false, 0, 0, 0, false, 1)) := by
  refine evs ?_
  simp only [vernierref10_Exact.j0, nI_eq]
  by_cases hs : soundN kd ng sc fr = true ∧ soundN kd' ng' sc' fr' = true
  ·simp only [if_pos hs, decide_eq_true hs, Bool.not_true, Bool.false_eq_true, if_false]
   have c1 := soundN_cases hs.1
   have c2 := soundN_cases hs.2
   have j1 : Ev (fun k => vernierref10_Exact.j1 k (decide (kd = 2 ∨ kd' = 2)) kd ng sc (fr : Int) kd' ng' sc' (fr' : Int)) ((prodE kd ng sc fr kd' ng' sc' fr').1, (prodE kd ng sc fr kd' ng' sc' fr').2.1, (prodE kd ng sc fr kd' ng' sc' fr').2.2.1, (prodE kd ng sc fr kd' ng' sc' fr').2.2.2.1, (prodE kd ng sc fr kd' ng' sc' fr').2.2.2.2.1, (prodE kd ng sc fr kd' ng' sc' fr').2.2.2.2.2, 0) := by
    refine evs ?_
    simp only [vernierref10_Exact.j1, nI_eq]
    unfold prodE
    by_cases hk : kd = 2 ∨ kd' = 2
    ·simp only [if_pos hk, decide_eq_true hk, if_true]
     exact Ev.now _
    ·simp only [if_neg hk, decide_eq_false hk, Bool.false_eq_true, if_false]
     have j2 : Ev (fun k => vernierref10_Exact.j2 k (decide (kd = 0 ∨ kd' = 0)) ng sc (fr : Int) ng' sc' (fr' : Int)) ((if kd = 0 ∨ kd' = 0 then (0, false, 0, 0, 0, false) else exactE (ng != ng') (fr * fr') (sc + sc' - 126) false).1, (if kd = 0 ∨ kd' = 0 then (0, false, 0, 0, 0, false) else exactE (ng != ng') (fr * fr') (sc + sc' - 126) false).2.1, (if kd = 0 ∨ kd' = 0 then (0, false, 0, 0, 0, false) else exactE (ng != ng') (fr * fr') (sc + sc' - 126) false).2.2.1, (if kd = 0 ∨ kd' = 0 then (0, false, 0, 0, 0, false) else exactE (ng != ng') (fr * fr') (sc + sc' - 126) false).2.2.2.1, (if kd = 0 ∨ kd' = 0 then (0, false, 0, 0, 0, false) else exactE (ng != ng') (fr * fr') (sc + sc' - 126) false).2.2.2.2.1, (if kd = 0 ∨ kd' = 0 then (0, false, 0, 0, 0, false) else exactE (ng != ng') (fr * fr') (sc + sc' - 126) false).2.2.2.2.2, 0) := by
      refine evs ?_
      simp only [vernierref10_Exact.j2]
      by_cases h0 : kd = 0 ∨ kd' = 0
      ·simp only [if_pos h0, decide_eq_true h0, if_true]
       exact Ev.now _
      ·simp only [if_neg h0, decide_eq_false h0, Bool.false_eq_true, if_false]
       obtain ⟨a, a1, a2⟩ := r4_Of fr hf
       obtain ⟨b, b1, b2⟩ := r4_Of fr' hf'
       have la : a.length ≤ 3 := a2.len_le (Nat.lt_of_lt_of_le hf (by decide))
       have lb : b.length ≤ 3 := b2.len_le (Nat.lt_of_lt_of_le hf' (by decide))
       obtain ⟨m, m1, m2⟩ := r4_Mul a2 b2 (by omega)
       have lm : m.length ≤ 6 := m2.len_le (Nat.lt_of_lt_of_le (mul_lt128 hf hf') (by decide))
       have ew : wrap64 (wrap64 (sc + sc') - 126) = sc + sc' - 126 := by
        rw [w64 (n := sc + sc') (by omega) (by omega), w64 (by omega) (by omega)]
       rw [ew]
       refine Ev.bind a1 (Ev.bind b1 (Ev.bind m1 (Ev.bind (ref_Exactly_eq m2 (by omega) (by omega) (by omega)) ?_)))
       exact Ev.now _
     by_cases hk0 : kd = 0
     ·have hd : true = decide (kd = 0 ∨ kd' = 0) := by simp [hk0]
      simp only [if_pos hk0]
      rw [← hd] at j2
      exact j2
     ·have hd : (kd' == 0) = decide (kd = 0 ∨ kd' = 0) := by rw [beq_dec]; simp [hk0]
      simp only [if_neg hk0, hd]
      exact j2
   by_cases hk2 : kd = 2
   ·have hd : true = decide (kd = 2 ∨ kd' = 2) := by simp [hk2]
    simp only [if_pos hk2]
    rw [← hd] at j1
    exact j1
   ·have hd : (kd' == 2) = decide (kd = 2 ∨ kd' = 2) := by rw [beq_dec]; simp [hk2]
    simp only [if_neg hk2, hd]
    exact j1
  ·simp only [if_neg hs, decide_eq_false hs, Bool.not_false, if_true]
   exact Ev.now _
 by_cases h1 : soundN kd ng sc fr = true
 ·have hd : (!soundN kd' ng' sc' fr') = (!decide (soundN kd ng sc fr = true ∧ soundN kd' ng' sc' fr' = true)) := by simp [h1]
  simp only [if_pos h1]
  simp only [h1] at j0 hd ⊢
  rw [hd]
  exact j0
 ·have hd : true = (!decide (soundN kd ng sc fr = true ∧ soundN kd' ng' sc' fr' = true)) := by simp [h1]
  simp only [if_neg h1]
  rw [← hd] at j0
  exact j0
def prodX (a b : NM) : EX := if a.kd = 2 ∨ b.kd = 2 then EX.nar else if a.kd = 0 ∨ b.kd = 0 then EX.zero else natX (a.ng != b.ng) (a.fr * b.fr) (a.sc + b.sc - 126) false
theorem prodX_ok (a b : NM) : (prodX a b).ok := by
 unfold prodX
 split
 ·exact .inr (.inl rfl)
 ·split
  ·exact .inl rfl
  ·exact natX_ok _ _ _ _
theorem prodE_X (a b : NM) : prodE a.kd a.ng a.sc a.fr b.kd b.ng b.sc b.fr = ((prodX a b).kd, (prodX a b).ng, (prodX a b).sc, TH (prodX a b).V, TL (prodX a b).V, (prodX a b).R) := by
 unfold prodE prodX
 by_cases h2 : a.kd = 2 ∨ b.kd = 2
 ·rw [if_pos h2, if_pos h2]; rfl
 ·rw [if_neg h2, if_neg h2]
  by_cases h0 : a.kd = 0 ∨ b.kd = 0
  ·rw [if_pos h0, if_pos h0]; rfl
  ·rw [if_neg h0, if_neg h0, exactE_natX]
theorem prod_Exact_X {a b : NM} (ha : a.ok) (hb : b.ok) : Ev (fun k => prod_Exact.f k a.kd a.ng a.sc (a.fr : Int) b.kd b.ng b.sc (b.fr : Int)) ((prodX a b).kd, (prodX a b).ng, (prodX a b).sc, TH (prodX a b).V, TL (prodX a b).V, (prodX a b).R, none) := by
 have := prod_Exact_eq a.kd a.ng a.sc a.fr b.kd b.ng b.sc b.fr ha.2 hb.2
 rw [if_pos ⟨ha.1, hb.1⟩, prodE_X] at this
 exact this
theorem ref10_Exact_X {a b : NM} (ha : a.ok) (hb : b.ok) : Ev (fun k => vernierref10_Exact.f k a.kd a.ng a.sc (a.fr : Int) b.kd b.ng b.sc (b.fr : Int)) ((prodX a b).kd, (prodX a b).ng, (prodX a b).sc, TH (prodX a b).V, TL (prodX a b).V, (prodX a b).R, 0) := by
 have := ref10_Exact_eq a.kd a.ng a.sc a.fr b.kd b.ng b.sc b.fr ha.2 hb.2
 rw [if_pos ⟨ha.1, hb.1⟩, prodE_X] at this
 exact this
end Go.Proofs.YtfbbnpliaokmbaaGreat.V
namespace Go.Proofs.YtfbbnpliaokmbaaGreat.V
open Go Go.RowKit Go.Proofs.YtfbbnpliaokmbaaGreat.Ab Go.Proofs.YtfbbnpliaokmbaaGreat.Fn
set_option linter.unusedVariables false
set_option linter.unusedSimpArgs false
def sumE (a b d : Nat) (g h : Bool) (e : Int) : EX := if g = h then natX g (a * 2 ^ d + b) e false else if b ≤ a * 2 ^ d then natX g (a * 2 ^ d - b) e false else natX h (b - a * 2 ^ d) e false
theorem EX.real {x : EX} (hx : x.ok) (kx : x.kd = 1) : 2 ^ 127 ≤ x.V ∧ x.V < 2 ^ 128 ∧ -1099511627776 ≤ x.sc ∧ x.sc ≤ 1099511627776 := by
 rcases hx with rfl | rfl | hx
 ·exact absurd kx (by decide)
 ·exact absurd kx (by decide)
 ·exact hx.2
theorem sumX_E {x y : EX} (hx : x.kd = 1) (hy : y.kd = 1) (h : y.sc ≤ x.sc) {d : Nat} (hd : (x.sc - y.sc).toNat = d) : sumX x y = sumE x.V y.V d x.ng y.ng (y.sc - 127) := by
 unfold sumE
 by_cases hs : x.ng = y.ng
 ·rw [if_pos hs, sumX_same hx hy h hd hs]
 ·rw [if_neg hs]
  by_cases hle : y.V ≤ x.V * 2 ^ d
  ·rw [if_pos hle, sumX_ge hx hy h hd hs hle]
  ·rw [if_neg hle, sumX_lt hx hy h hd hs (Nat.le_of_not_le hle)]
theorem far_add (g : Bool) {a b t : Nat} (e : Int) (ha : 2 ^ 127 ≤ a) (h0 : 0 < b) (h1 : b < 2 ^ t) : natX g (a * 2 ^ (200 + t) + b) e false = natX g (a * 2 ^ 200) (e + t) true := by
 have ea : a * 2 ^ (200 + t) + b = 2 ^ t * (a * 2 ^ 200) + b := by rw [Nat.pow_add]; grind
 have hT : (a * 2 ^ (200 + t) + b) / 2 ^ t = a * 2 ^ 200 := by rw [ea, Nat.mul_add_div (two_pos t), Nat.div_eq_of_lt h1, Nat.add_zero]
 have hm : (a * 2 ^ (200 + t) + b) % 2 ^ t = b := by rw [ea, Nat.mul_add_mod, Nat.mod_eq_of_lt h1]
 rw [natX_trunc g e false hT (Nat.le_trans ha (Nat.le_mul_of_pos_right a (two_pos 200))), hm, decide_eq_true (by omega), Bool.false_or]
theorem sub_form {P A b : Nat} (hA : 1 ≤ A) (hb : b < P) : P * A - b = P * (A - 1) + (P - b) := by
 obtain ⟨c, rfl⟩ : ∃ c, A = c + 1 := ⟨A - 1, by omega⟩
 rw [Nat.add_sub_cancel, Nat.mul_add, Nat.mul_one]
 omega
theorem far_sub (g : Bool) {a b t : Nat} (e : Int) (ha : 2 ^ 127 ≤ a) (h0 : 0 < b) (h1 : b < 2 ^ t) : natX g (a * 2 ^ (200 + t) - b) e false = natX g (a * 2 ^ 200 - 1) (e + t) true := by
 have p2 := two_pos 200
 have hA : 2 ^ 127 * 2 ^ 200 ≤ a * 2 ^ 200 := Nat.mul_le_mul_right _ ha
 have hA2 : 2 ^ 127 ≤ a * 2 ^ 200 - 1 := by
  have : (2 : Nat) ^ 127 + 1 ≤ 2 ^ 127 * 2 ^ 200 := by decide +kernel
  exact Nat.le_sub_of_add_le (Nat.le_trans this hA)
 have hA1 : 1 ≤ a * 2 ^ 200 := Nat.le_trans (two_pos 127) (Nat.le_trans hA2 (Nat.sub_le _ _))
 have ea : a * 2 ^ (200 + t) - b = 2 ^ t * (a * 2 ^ 200 - 1) + (2 ^ t - b) := by
  rw [Nat.pow_add, show a * (2 ^ 200 * 2 ^ t) = 2 ^ t * (a * 2 ^ 200) by grind]
  exact sub_form hA1 h1
 have hl : 2 ^ t - b < 2 ^ t := by omega
 have hT : (a * 2 ^ (200 + t) - b) / 2 ^ t = a * 2 ^ 200 - 1 := by rw [ea, Nat.mul_add_div (two_pos t), Nat.div_eq_of_lt hl, Nat.add_zero]
 have hm : (a * 2 ^ (200 + t) - b) % 2 ^ t = 2 ^ t - b := by rw [ea, Nat.mul_add_mod, Nat.mod_eq_of_lt hl]
 rw [natX_trunc g e false hT hA2, hm, decide_eq_true (by omega), Bool.false_or]
theorem sumE_far {a b d : Nat} {g h : Bool} {e : Int} (hd : 400 < d) (ha : 2 ^ 127 ≤ a) (h0 : 0 < b) (h1 : b < 2 ^ 128) : sumE a b d g h e = sumE a 1 400 g h (e + ((d : Int) - 400)) := by
 obtain ⟨t, rfl⟩ : ∃ t, d = 200 + t := ⟨d - 200, by omega⟩
 have hb : b < 2 ^ t := Nat.lt_trans h1 (pow_lt (by omega))
 obtain ⟨u, hu⟩ : ∃ u : Nat, u = 200 := ⟨_, rfl⟩
 have h2 : (1 : Nat) < 2 ^ u := pow_lt (a := 0) (by omega)
 have c1 : b ≤ a * 2 ^ (200 + t) := by
  have : 2 ^ t ≤ 2 ^ (200 + t) := pow_le (by omega)
  exact Nat.le_trans (Nat.le_of_lt hb) (Nat.le_trans this (Nat.le_mul_of_pos_left _ (Nat.lt_of_lt_of_le (two_pos 127) ha)))
 have c2 : 1 ≤ a * 2 ^ (200 + u) := Nat.le_trans (two_pos _) (Nat.le_mul_of_pos_left _ (Nat.lt_of_lt_of_le (two_pos 127) ha))
 have ee : e + (((200 + t : Nat) : Int) - 400) + (u : Int) = e + (t : Int) := by omega
 unfold sumE
 rw [if_pos c1]
 rw [show (400 : Nat) = 200 + u by omega, if_pos c2, far_add g e ha h0 hb, far_sub g e ha h0 hb, far_add g _ ha (by decide) h2, far_sub g _ ha (by decide) h2, ee]
theorem wide_W {x a b i : Nat} (h : x < 2 ^ a * 2 ^ b) (hi : a + b ≤ 24 * i) : x < W i := by
 rw [← Nat.pow_add] at h
 exact Nat.lt_of_lt_of_le h (pow_le hi)
theorem wide_add {x y a b : Nat} (h : x < 2 ^ a * 2 ^ b) (hy : y < 2 ^ a) : x + y < 2 ^ a * 2 ^ (b + 1) := by
 have h1 : 2 ^ a ≤ 2 ^ a * 2 ^ b := Nat.le_mul_of_pos_right _ (two_pos b)
 rw [Nat.pow_succ, ← Nat.mul_assoc]
 omega
theorem cmpN_ge {A B : Nat} : cmpN A B ≥ 0 ↔ B ≤ A := by
 unfold cmpN
 repeat' split
 all_goals omega
theorem ref_Exactly_tup {x : List Int} {m : Nat} {e : Int} {ng R : Bool} (hx : DL x m) (hn : x.length ≤ 800) (h0 : -2305843009213693952 ≤ e) (h1 : e ≤ 2305843009213693952) :
  Ev (fun k => vernierref07_Exactly.f k ng x e R) (natX ng m e R).tup := by
 have := ref_Exactly_eq (ng := ng) (R := R) hx hn h0 h1
 rw [exactE_natX] at this
 exact this
theorem ref09_Sum_0_j1 {a b : List Int} {A B d : Nat} (ha : DL a A) (hb : DL b B) (lA : A < 2 ^ 128) (lB : B < 2 ^ 128) (hd : d ≤ 400) {g h : Bool} {s : Int} (s0 : -1099511627776 ≤ s) (s1 : s ≤ 1099511627776) :
  Ev (fun k => vernierref09_Sum_0.j1 k a b (d : Int) g s h) (sumE A B d g h (s - 127 - d)).tup := by
 refine evs ?_
 simp only [vernierref09_Sum_0.j1]
 have la : a.length ≤ 6 := ha.len_le (Nat.lt_of_lt_of_le lA (by decide))
 have lb : b.length ≤ 6 := hb.len_le (Nat.lt_of_lt_of_le lB (by decide))
 obtain ⟨c, c1, c2⟩ := r4_Shl ha (k := d) (by omega) (by omega)
 obtain ⟨n, hn⟩ : ∃ n : Nat, n = 400 := ⟨_, rfl⟩
 have hAd : A * 2 ^ d < 2 ^ 128 * 2 ^ n := Nat.lt_of_lt_of_le (Nat.mul_lt_mul_of_pos_right lA (two_pos d)) (Nat.mul_le_mul_left _ (pow_le (by omega)))
 have lc : c.length ≤ 22 := c2.len_le (wide_W hAd (by omega))
 have he : wrap64 (wrap64 (s - 127) - (d : Int)) = s - 127 - d := by rw [w64 (n := s - 127) (by omega) (by omega), w64 (by omega) (by omega)]
 refine Ev.bind c1 ?_
 rw [he]
 unfold sumE
 by_cases hg : g = h
 ·simp only [if_pos (beq_iff_eq.2 hg), if_pos hg]
  obtain ⟨r, r1, r2⟩ := r4_Add c2 hb (by omega) (by omega)
  have hs : A * 2 ^ d + B < 2 ^ 128 * 2 ^ (n + 1) := wide_add hAd lB
  have lr : r.length ≤ 23 := r2.len_le (wide_W hs (by omega))
  refine Ev.bind r1 (Ev.bind (ref_Exactly_tup r2 (by omega) (by omega) (by omega)) (Ev.now _))
 ·simp only [if_neg (fun h => hg (beq_iff_eq.1 h) : ¬ (g == h) = true), if_neg hg]
  refine Ev.bind (r4_Cmp c2 hb (by omega) (by omega)) ?_
  have hc := @cmpN_ge (A * 2 ^ d) B
  by_cases hle : B ≤ A * 2 ^ d
  ·simp only [if_pos (hc.2 hle), if_pos hle]
   obtain ⟨r, r1, r2⟩ := r4_Sub c2 hb hle (by omega)
   have lr : r.length ≤ 22 := r2.len_le (wide_W (Nat.lt_of_le_of_lt (Nat.sub_le _ _) hAd) (by omega))
   refine Ev.bind r1 (Ev.bind (ref_Exactly_tup r2 (by omega) (by omega) (by omega)) (Ev.now _))
  ·simp only [if_neg (fun h => hle (hc.1 h)), if_neg hle]
   obtain ⟨r, r1, r2⟩ := r4_Sub hb c2 (Nat.le_of_not_le hle) (by omega)
   have lr : r.length ≤ 6 := r2.len_le (Nat.lt_of_le_of_lt (Nat.sub_le _ _) (Nat.lt_of_lt_of_le lB (by decide)))
   refine Ev.bind r1 (Ev.bind (ref_Exactly_tup r2 (by omega) (by omega) (by omega)) (Ev.now _))
theorem ref09_Sum_0_real {x y : EX} (hx : x.ok) (hy : y.ok) (kx : x.kd = 1) (ky : y.kd = 1) (h : y.sc ≤ x.sc) :
  Ev (fun k => vernierref09_Sum_0.j0 k false x.kd x.ng x.sc (TH x.V) (TL x.V) x.R y.kd y.ng y.sc (TH y.V) (TL y.V) y.R) (sumX x y).tup := by
 obtain ⟨vx, lx, s0, s1⟩ := EX.real hx kx
 obtain ⟨vy, ly, t0, t1⟩ := EX.real hy ky
 obtain ⟨d, hd⟩ : ∃ d, (x.sc - y.sc).toNat = d := ⟨_, rfl⟩
 have hd' : x.sc - y.sc = (d : Int) := by omega
 have hw : wrap64 (x.sc - y.sc) = (d : Int) := by rw [w64 (by omega) (by omega)]; exact hd'
 refine evs ?_
 simp only [vernierref09_Sum_0.j0]
 simp only [if_neg (show ¬ (false = true) by decide), if_neg (show ¬ x.kd = 0 by omega), if_neg (show ¬ y.kd = 0 by omega), if_neg (show ¬ x.sc < y.sc by omega), hw]
 obtain ⟨a, a1, a2⟩ := ref02_Of_eq lx
 obtain ⟨b, b1, b2⟩ := ref02_Of_eq ly
 refine Ev.bind a1 (Ev.bind b1 ?_)
 rw [sumX_E kx ky h hd]
 by_cases h4 : (d : Int) > 400
 ·simp only [if_pos h4]
  rw [sumE_far (by omega) vx (Nat.lt_of_lt_of_le (two_pos 127) vy) ly, show y.sc - 127 + ((d : Int) - 400) = x.sc - 127 - ((400 : Nat) : Int) by omega]
  exact ref09_Sum_0_j1 a2 one_DL lx (by decide) (by decide) s0 s1
 ·simp only [if_neg h4]
  rw [show y.sc - 127 = x.sc - 127 - (d : Int) by omega]
  exact ref09_Sum_0_j1 a2 b2 lx ly (by omega) s0 s1
theorem ref09_Sum_j1 {a b : List Int} {A B d : Nat} (ha : DL a A) (hb : DL b B) (lA : A < 2 ^ 128) (lB : B < 2 ^ 128) (hd : d ≤ 400) {g h : Bool} {s : Int} (s0 : -1099511627776 ≤ s) (s1 : s ≤ 1099511627776) :
  Ev (fun k => vernierref09_Sum.j1 k a b (d : Int) g s h) (sumE A B d g h (s - 127 - d)).tup := by
 refine evs ?_
 simp only [vernierref09_Sum.j1]
 have la : a.length ≤ 6 := ha.len_le (Nat.lt_of_lt_of_le lA (by decide))
 have lb : b.length ≤ 6 := hb.len_le (Nat.lt_of_lt_of_le lB (by decide))
 obtain ⟨c, c1, c2⟩ := r4_Shl ha (k := d) (by omega) (by omega)
 obtain ⟨n, hn⟩ : ∃ n : Nat, n = 400 := ⟨_, rfl⟩
 have hAd : A * 2 ^ d < 2 ^ 128 * 2 ^ n := Nat.lt_of_lt_of_le (Nat.mul_lt_mul_of_pos_right lA (two_pos d)) (Nat.mul_le_mul_left _ (pow_le (by omega)))
 have lc : c.length ≤ 22 := c2.len_le (wide_W hAd (by omega))
 have he : wrap64 (wrap64 (s - 127) - (d : Int)) = s - 127 - d := by rw [w64 (n := s - 127) (by omega) (by omega), w64 (by omega) (by omega)]
 refine Ev.bind c1 ?_
 rw [he]
 unfold sumE
 by_cases hg : g = h
 ·simp only [if_pos (beq_iff_eq.2 hg), if_pos hg]
  obtain ⟨r, r1, r2⟩ := r4_Add c2 hb (by omega) (by omega)
  have hs : A * 2 ^ d + B < 2 ^ 128 * 2 ^ (n + 1) := wide_add hAd lB
  have lr : r.length ≤ 23 := r2.len_le (wide_W hs (by omega))
  refine Ev.bind r1 (Ev.bind (ref_Exactly_tup r2 (by omega) (by omega) (by omega)) (Ev.now _))
 ·simp only [if_neg (fun h => hg (beq_iff_eq.1 h) : ¬ (g == h) = true), if_neg hg]
  refine Ev.bind (r4_Cmp c2 hb (by omega) (by omega)) ?_
  have hc := @cmpN_ge (A * 2 ^ d) B
  by_cases hle : B ≤ A * 2 ^ d
  ·simp only [if_pos (hc.2 hle), if_pos hle]
   obtain ⟨r, r1, r2⟩ := r4_Sub c2 hb hle (by omega)
   have lr : r.length ≤ 22 := r2.len_le (wide_W (Nat.lt_of_le_of_lt (Nat.sub_le _ _) hAd) (by omega))
   refine Ev.bind r1 (Ev.bind (ref_Exactly_tup r2 (by omega) (by omega) (by omega)) (Ev.now _))
  ·simp only [if_neg (fun h => hle (hc.1 h)), if_neg hle]
   obtain ⟨r, r1, r2⟩ := r4_Sub hb c2 (Nat.le_of_not_le hle) (by omega)
   have lr : r.length ≤ 6 := r2.len_le (Nat.lt_of_le_of_lt (Nat.sub_le _ _) (Nat.lt_of_lt_of_le lB (by decide)))
   refine Ev.bind r1 (Ev.bind (ref_Exactly_tup r2 (by omega) (by omega) (by omega)) (Ev.now _))
theorem ref09_Sum_real {x y : EX} (hx : x.ok) (hy : y.ok) (kx : x.kd = 1) (ky : y.kd = 1) (h : y.sc ≤ x.sc) :
  Ev (fun k => vernierref09_Sum.j0 k false x.kd x.ng x.sc (TH x.V) (TL x.V) x.R y.kd y.ng y.sc (TH y.V) (TL y.V) y.R) (sumX x y).tup := by
 obtain ⟨vx, lx, s0, s1⟩ := EX.real hx kx
 obtain ⟨vy, ly, t0, t1⟩ := EX.real hy ky
 obtain ⟨d, hd⟩ : ∃ d, (x.sc - y.sc).toNat = d := ⟨_, rfl⟩
 have hd' : x.sc - y.sc = (d : Int) := by omega
 have hw : wrap64 (x.sc - y.sc) = (d : Int) := by rw [w64 (by omega) (by omega)]; exact hd'
 refine evs ?_
 simp only [vernierref09_Sum.j0]
 simp only [if_neg (show ¬ (false = true) by decide), if_neg (show ¬ x.kd = 0 by omega), if_neg (show ¬ y.kd = 0 by omega), if_neg (show ¬ x.sc < y.sc by omega), hw]
 obtain ⟨a, a1, a2⟩ := ref02_Of_eq lx
 obtain ⟨b, b1, b2⟩ := ref02_Of_eq ly
 refine Ev.bind a1 (Ev.bind b1 ?_)
 rw [sumX_E kx ky h hd]
 by_cases h4 : (d : Int) > 400
 ·simp only [if_pos h4]
  rw [sumE_far (by omega) vx (Nat.lt_of_lt_of_le (two_pos 127) vy) ly, show y.sc - 127 + ((d : Int) - 400) = x.sc - 127 - ((400 : Nat) : Int) by omega]
  exact ref09_Sum_j1 a2 one_DL lx (by decide) (by decide) s0 s1
 ·simp only [if_neg h4]
  rw [show y.sc - 127 = x.sc - 127 - (d : Int) by omega]
  exact ref09_Sum_j1 a2 b2 lx ly (by omega) s0 s1
end Go.Proofs.YtfbbnpliaokmbaaGreat.V
namespace Go.Proofs.YtfbbnpliaokmbaaGreat.V
open Go Go.RowKit Go.Proofs.YtfbbnpliaokmbaaGreat.Ab Go.Proofs.YtfbbnpliaokmbaaGreat.Fn
set_option linter.unusedVariables false
set_option linter.unusedSimpArgs false
theorem T_hi (r : Nat) : TH (r * 18446744073709551616) = (r : Int) ∧ TL (r * 18446744073709551616) = 0 := by
 unfold TH TL; omega
theorem ref11_Cut_eq (kd : Int) (ng : Bool) (sc hi lo : Int) (R : Bool) : vernierref11_Cut.f kd ng sc hi lo R = some (kd, ng, sc, hi, 0, R || decide (lo ≠ 0)) := by
 unfold vernierref11_Cut.f
 cases R
 ·simp only [Bool.false_eq_true, if_false, Bool.false_or]
  congr 6
  by_cases h : lo = 0 <;> simp [h]
 ·simp
theorem Of_X {x : NM} (h : x.ok) : Ev (fun k => round_Of.f k x.kd x.ng x.sc (x.fr : Int)) (x.ex.kd, x.ex.ng, x.ex.sc, TH x.ex.V, TL x.ex.V, x.ex.R, none) := by
 have := round_Of_eq x.kd x.ng x.sc (x.fr : Int) (by have := h.2; omega) (by omega)
 rw [if_pos h.1] at this
 rw [(NM.ex_tup x h).1, (NM.ex_tup x h).2]
 exact this
end Go.Proofs.YtfbbnpliaokmbaaGreat.V
namespace Go.Proofs.YtfbbnpliaokmbaaGreat.V
open Go Go.RowKit Go.Proofs.YtfbbnpliaokmbaaGreat.Ab Go.Proofs.YtfbbnpliaokmbaaGreat.Fn
set_option linter.unusedVariables false
set_option linter.unusedSimpArgs false
theorem EX.ok_kd {x : EX} (hx : x.ok) : x.kd = 0 ∨ x.kd = 1 ∨ x.kd = 2 := by
 rcases hx with rfl | rfl | hx
 ·exact .inl rfl
 ·exact .inr (.inr rfl)
 ·exact .inr (.inl hx.1)
theorem sumX_nar {x y : EX} (h : x.kd = 2 ∨ y.kd = 2) : sumX x y = EX.nar := by unfold sumX; rw [if_pos h]
theorem sumX_z1 {x y : EX} (h : ¬ (x.kd = 2 ∨ y.kd = 2)) (h1 : x.kd = 0) : sumX x y = y := by unfold sumX; rw [if_neg h, if_pos h1]
theorem sumX_z2 {x y : EX} (h : ¬ (x.kd = 2 ∨ y.kd = 2)) (h1 : ¬ x.kd = 0) (h2 : y.kd = 0) : sumX x y = x := by unfold sumX; rw [if_neg h, if_neg h1, if_pos h2]
theorem broad_Sum_j0 {x y : EX} (hx : x.ok) (hy : y.ok) : Ev (fun k => broad_Sum.j0 k (decide (x.kd = 2 ∨ y.kd = 2)) x.kd x.ng x.sc (TH x.V) (TL x.V) x.R y.kd y.ng y.sc (TH y.V) (TL y.V) y.R) (sumX x y).tup := by
 refine evs ?_
 simp only [broad_Sum.j0]
 by_cases h : x.kd = 2 ∨ y.kd = 2
 ·simp only [if_pos (decide_eq_true h)]
  rw [sumX_nar h]
  exact Ev.now _
 ·simp only [if_neg (fun h' => h (of_decide_eq_true h') : ¬ decide (x.kd = 2 ∨ y.kd = 2) = true)]
  by_cases a : x.kd = 0
  ·simp only [if_pos a]
   rw [sumX_z1 h a]
   exact Ev.now _
  ·simp only [if_neg a]
   by_cases b : y.kd = 0
   ·simp only [if_pos b]
    rw [sumX_z2 h a b]
    exact Ev.now _
   ·simp only [if_neg b]
    have kx : x.kd = 1 := by have := EX.ok_kd hx; omega
    have ky : y.kd = 1 := by have := EX.ok_kd hy; omega
    by_cases c : x.sc < y.sc
    ·simp only [if_pos c]
     rw [sumX_comm hx hy]
     exact Sum_j1 hy hx ky kx (Int.le_of_lt c)
    ·simp only [if_neg c]
     exact Sum_j1 hx hy kx ky (Int.not_lt.1 c)
theorem broad_Sum_X {x y : EX} (hx : x.ok) (hy : y.ok) : Ev (fun k => broad_Sum.f k x.kd x.ng x.sc (TH x.V) (TL x.V) x.R y.kd y.ng y.sc (TH y.V) (TL y.V) y.R) (sumX x y).tup := by
 have h := broad_Sum_j0 hx hy
 unfold broad_Sum.f
 by_cases a : x.kd = 2
 ·simp only [if_pos a]
  rw [decide_eq_true (Or.inl a)] at h
  exact h
 ·simp only [if_neg a]
  rw [show decide (x.kd = 2 ∨ y.kd = 2) = (y.kd == 2) by rw [Bool.eq_iff_iff]; simp [a]] at h
  exact h
theorem ref09_Sum_0_X {x y : EX} (hx : x.ok) (hy : y.ok) (kx : x.kd = 1) (ky : y.kd = 1) (h : y.sc ≤ x.sc) : Ev (fun k => vernierref09_Sum_0.f k x.kd x.ng x.sc (TH x.V) (TL x.V) x.R y.kd y.ng y.sc (TH y.V) (TL y.V) y.R) (sumX x y).tup := by
 unfold vernierref09_Sum_0.f
 simp only [if_neg (show ¬ x.kd = 2 by omega)]
 rw [show (y.kd == 2) = false by rw [ky]; rfl]
 exact ref09_Sum_0_real hx hy kx ky h
theorem ref09_Sum_j0 {x y : EX} (hx : x.ok) (hy : y.ok) : Ev (fun k => vernierref09_Sum.j0 k (decide (x.kd = 2 ∨ y.kd = 2)) x.kd x.ng x.sc (TH x.V) (TL x.V) x.R y.kd y.ng y.sc (TH y.V) (TL y.V) y.R) (sumX x y).tup := by
 have main := ref09_Sum_real hx hy
 by_cases h : x.kd = 2 ∨ y.kd = 2
 ·refine evs ?_
  simp only [vernierref09_Sum.j0]
  simp only [if_pos (decide_eq_true h)]
  rw [sumX_nar h]
  exact Ev.now _
 ·have hf : decide (x.kd = 2 ∨ y.kd = 2) = false := decide_eq_false h
  by_cases a : x.kd = 0
  ·refine evs ?_
   simp only [vernierref09_Sum.j0]
   simp only [hf, if_neg (show ¬ (false = true) by decide), if_pos a]
   rw [sumX_z1 h a]
   exact Ev.now _
  ·by_cases b : y.kd = 0
   ·refine evs ?_
    simp only [vernierref09_Sum.j0]
    simp only [hf, if_neg (show ¬ (false = true) by decide), if_neg a, if_pos b]
    rw [sumX_z2 h a b]
    exact Ev.now _
   ·have kx : x.kd = 1 := by have := EX.ok_kd hx; omega
    have ky : y.kd = 1 := by have := EX.ok_kd hy; omega
    by_cases c : x.sc < y.sc
    ·refine evs ?_
     simp only [vernierref09_Sum.j0]
     simp only [hf, if_neg (show ¬ (false = true) by decide), if_neg a, if_neg b, if_pos c]
     rw [sumX_comm hx hy]
     exact Ev.bind (ref09_Sum_0_X hy hx ky kx (Int.le_of_lt c)) (Ev.now _)
    ·rw [hf]
     exact main kx ky (Int.not_lt.1 c)
theorem ref09_Sum_X {x y : EX} (hx : x.ok) (hy : y.ok) : Ev (fun k => vernierref09_Sum.f k x.kd x.ng x.sc (TH x.V) (TL x.V) x.R y.kd y.ng y.sc (TH y.V) (TL y.V) y.R) (sumX x y).tup := by
 have h := ref09_Sum_j0 hx hy
 unfold vernierref09_Sum.f
 by_cases a : x.kd = 2
 ·simp only [if_pos a]
  rw [decide_eq_true (Or.inl a)] at h
  exact h
 ·simp only [if_neg a]
  rw [show decide (x.kd = 2 ∨ y.kd = 2) = (y.kd == 2) by rw [Bool.eq_iff_iff]; simp [a]] at h
  exact h
end Go.Proofs.YtfbbnpliaokmbaaGreat.V
namespace Go.Proofs.YtfbbnpliaokmbaaGreat.V
open Go Go.RowKit Go.Proofs.YtfbbnpliaokmbaaGreat.Ab Go.Proofs.YtfbbnpliaokmbaaGreat.Fn
set_option linter.unusedVariables false
set_option linter.unusedSimpArgs false
def rtL (m : Nat) : Nat → Nat → Nat
 | 0, r => r
 | k + 1, r => rtL m k (if (r + 2 ^ k) * (r + 2 ^ k) ≤ m then r + 2 ^ k else r)
theorem rtL_spec (m : Nat) : ∀ (k r : Nat), r * r ≤ m → m < (r + 2 ^ k) * (r + 2 ^ k) → rtL m k r * rtL m k r ≤ m ∧ m < (rtL m k r + 1) * (rtL m k r + 1)
 | 0, r, h1, h2 => ⟨h1, h2⟩
 | k + 1, r, h1, h2 => by
  unfold rtL
  have e : r + 2 ^ (k + 1) = r + 2 ^ k + 2 ^ k := by rw [Nat.pow_succ]; omega
  rw [e] at h2
  by_cases h : (r + 2 ^ k) * (r + 2 ^ k) ≤ m
  ·rw [if_pos h]; exact rtL_spec m k _ h h2
  ·rw [if_neg h]; exact rtL_spec m k _ h1 (by omega)
theorem rt_uniq {m r s : Nat} (h1 : r * r ≤ m) (h2 : m < (r + 1) * (r + 1)) (h3 : s * s ≤ m) (h4 : m < (s + 1) * (s + 1)) : r = s := by
 rcases Nat.lt_trichotomy r s with h | h | h
 ·have := Nat.mul_le_mul (show r + 1 ≤ s from h) (show r + 1 ≤ s from h); omega
 ·exact h
 ·have := Nat.mul_le_mul (show s + 1 ≤ r from h) (show s + 1 ≤ r from h); omega
theorem rtL_le (m : Nat) : ∀ (k r : Nat), r ≤ rtL m k r ∧ rtL m k r < r + 2 ^ k
 | 0, r => ⟨Nat.le_refl _, by show r < r + 2 ^ 0; omega⟩
 | k + 1, r => by
  unfold rtL
  have e : r + 2 ^ (k + 1) = r + 2 ^ k + 2 ^ k := by rw [Nat.pow_succ]; omega
  have hp := two_pos k
  split
  ·have := rtL_le m k (r + 2 ^ k); omega
  ·have := rtL_le m k r; omega
theorem twin_Cmp_eq (A B : Nat) : twin_Cmp.f (TH A) (TL A) (TH B) (TL B) = some (cmpN A B) := by
 unfold twin_Cmp.f
 by_cases h : A = B
 ·subst h
  rw [if_pos (by simp)]
  unfold cmpN; simp
 ·have hne : ¬ ((TH A == TH B && (TL A == TL B)) = true) := by
   intro hc
   simp only [Bool.and_eq_true, beq_iff_eq] at hc
   exact h (T_eq hc.1 hc.2)
  rw [if_neg hne]
  unfold cmpN
  rw [if_neg h]
  by_cases hl : A < B
  ·rw [if_pos hl]
   by_cases h1 : TH A < TH B
   ·rw [if_pos h1]
   ·rw [if_neg h1]
    have h2 : TH A = TH B := by unfold TH at *; omega
    have h3 : TL A < TL B := by unfold TH TL at *; omega
    rw [if_pos h2, if_pos h3]
  ·rw [if_neg hl]
   have h1 : ¬ TH A < TH B := by unfold TH at *; omega
   rw [if_neg h1]
   by_cases h2 : TH A = TH B
   ·have h3 : ¬ TL A < TL B := by unfold TH TL at *; omega
    rw [if_pos h2, if_neg h3]
   ·rw [if_neg h2]
theorem bits_Sub64_eq {x y b : Int} (hx : 0 ≤ x) (hy0 : 0 ≤ y) (hy : y < 18446744073709551616) (h0 : 0 ≤ b) (hb : b ≤ 1) : bits_Sub64.f x y b = some ((x - y - b) % 18446744073709551616, if x < y + b then 1 else 0) := by
 unfold bits_Sub64.f
 rw [if_pos ⟨hx, hy0, hy, h0, hb⟩]
theorem th_lt {A : Nat} (h : A < 2 ^ 128) : A / 18446744073709551616 < 18446744073709551616 := by rw [p128] at h; omega
theorem TL_range (A : Nat) : 0 ≤ TL A ∧ TL A < 18446744073709551616 := by unfold TL; omega
theorem TH_range {A : Nat} (h : A / 18446744073709551616 < 18446744073709551616) : 0 ≤ TH A ∧ TH A < 18446744073709551616 := by unfold TH; omega
theorem sub_T {A B : Nat} (hA : A / 18446744073709551616 < 18446744073709551616) (h : B ≤ A) (hc : TL A < TL B + 0) : (TH A - TH B - 1) % 18446744073709551616 = TH (A - B) ∧ (TL A - TL B - 0) % 18446744073709551616 = TL (A - B) ∧ ¬ TH A < TH B + 1 := by
 unfold TH TL at *; omega
theorem sub_T' {A B : Nat} (hA : A / 18446744073709551616 < 18446744073709551616) (h : B ≤ A) (hc : ¬ TL A < TL B + 0) : (TH A - TH B - 0) % 18446744073709551616 = TH (A - B) ∧ (TL A - TL B - 0) % 18446744073709551616 = TL (A - B) ∧ ¬ TH A < TH B + 0 := by
 unfold TH TL at *; omega
theorem twin_Sub_eq' {A B : Nat} (hA : A / 18446744073709551616 < 18446744073709551616) (h : B ≤ A) : twin_Sub.f (TH A) (TL A) (TH B) (TL B) = some (TH (A - B), TL (A - B), false) := by
 have hB : B / 18446744073709551616 < 18446744073709551616 := Nat.lt_of_le_of_lt (Nat.div_le_div_right h) hA
 have a := bits_Sub64_eq (b := 0) (TL_range A).1 (TL_range B).1 (TL_range B).2 (Int.le_refl 0) (by decide)
 have b0 := bits_Sub64_eq (b := 0) (TH_range hA).1 (TH_range hB).1 (TH_range hB).2 (Int.le_refl 0) (by decide)
 have b1 := bits_Sub64_eq (b := 1) (TH_range hA).1 (TH_range hB).1 (TH_range hB).2 (by decide) (Int.le_refl 1)
 unfold twin_Sub.f
 rw [a]
 by_cases hc : TL A < TL B + 0
 ·obtain ⟨c1, c2, c3⟩ := sub_T hA h hc
  rw [if_pos hc, Option.bind_some]
  rw [b1, if_neg c3, Option.bind_some, c1, c2]
  rfl
 ·obtain ⟨c1, c2, c3⟩ := sub_T' hA h hc
  rw [if_neg hc, Option.bind_some]
  rw [b0, if_neg c3, Option.bind_some, c1, c2]
  rfl
theorem twin_Sub_eq {A B : Nat} (hA : A < 2 ^ 128) (h : B ≤ A) : twin_Sub.f (TH A) (TL A) (TH B) (TL B) = some (TH (A - B), TL (A - B), false) := twin_Sub_eq' (th_lt hA) h
theorem cmpN_le {A B : Nat} : cmpN A B ≤ 0 ↔ A ≤ B := by
 unfold cmpN; split
 ·omega
 ·split <;> omega
theorem part_Root_l0 {m : Nat} (hm : ∀ r, r * r ≤ m → twin_Sub.f (TH m) (TL m) (TH (r * r)) (TL (r * r)) = some (TH (m - r * r), TL (m - r * r), false)) : ∀ (k r : Nat), r % 2 ^ k = 0 → r + 2 ^ k ≤ 18446744073709551616 → k ≤ 64 → r * r ≤ m → Ev (fun n => part_Root.l0 n (r : Int) ((k : Int) - 1) (TH m) (TL m)) (((rtL m k r : Nat) : Int), TH (m - rtL m k r * rtL m k r), TL (m - rtL m k r * rtL m k r))
 | 0, r, h0, h1, hk, hr => by
  rw [Nat.pow_zero] at h1
  refine evs ?_
  simp only [part_Root.l0, nI_eq, if_neg (show ¬ ((0 : Nat) : Int) - 1 ≥ 0 by decide), if_false]
  exact Ev.bind (evn (twin_Mul_eq (show r < 18446744073709551616 by omega) (show r < 18446744073709551616 by omega))) (Ev.bind (evn (hm r hr)) (Ev.now _))
 | k + 1, r, h0, h1, hk, hr => by
  have hp := two_pos k
  have e2 : 2 ^ (k + 1) = 2 ^ k * 2 := Nat.pow_succ ..
  have hpl : 2 ^ k < 18446744073709551616 := by rw [← p64]; exact pow_lt (by omega)
  have eor : Go.bits .or .u64 (r : Int) (shl .u64 1 (k : Int)) = ((r + 2 ^ k : Nat) : Int) := by
   have := shl_nat 1 k (by omega)
   rw [Nat.one_mul, Nat.mod_eq_of_lt hpl] at this
   have e1 : shl .u64 1 (k : Int) = ((2 ^ k : Nat) : Int) := this
   rw [e1]
   exact or_add r (2 ^ k) (k + 1) (by omega) h0 (by omega) hpl
  have ew : wrap64 ((k : Int) - 1) = (k : Int) - 1 := w64 (by omega) (by omega)
  have hd : r % 2 ^ k = 0 := by
   have := mod_pow_le (a := r) (b := k) (c := k + 1) (by omega)
   rw [h0, Nat.zero_mod] at this
   exact this.symm
  refine evs ?_
  simp only [part_Root.l0, nI_eq, show ((k + 1 : Nat) : Int) - 1 = (k : Int) by omega, if_pos (show (k : Int) ≥ 0 by omega), if_pos (show (0 : Int) ≤ (k : Int) by omega), eor, ew]
  refine Ev.bind (evn (twin_Mul_eq (show r + 2 ^ k < 18446744073709551616 by omega) (show r + 2 ^ k < 18446744073709551616 by omega))) (Ev.bind (evn (twin_Cmp_eq _ _)) ?_)
  unfold rtL
  by_cases h : (r + 2 ^ k) * (r + 2 ^ k) ≤ m
  ·simp only [if_pos (cmpN_le.mpr h), if_pos h]
   exact part_Root_l0 hm k (r + 2 ^ k) (by rw [Nat.add_mod_right]; exact hd) (by omega) (by omega) h
  ·simp only [if_neg (fun hc => h (cmpN_le.mp hc)), if_neg h]
   exact part_Root_l0 hm k r hd (by omega) (by omega) hr
theorem part_Root_eq {m : Nat} (hm : m < 2 ^ 128) : Ev (fun n => part_Root.f n (TH m) (TL m)) (((rtL m 64 0 : Nat) : Int), TH (m - rtL m 64 0 * rtL m 64 0), TL (m - rtL m 64 0 * rtL m 64 0)) := by
 unfold part_Root.f
 exact part_Root_l0 (fun r hr => twin_Sub_eq hm hr) 64 0 (Nat.zero_mod _) (by rw [p64]; omega) (by decide) (Nat.zero_le _)
theorem and_i64_1 (s : Int) : Go.bits .and .i64 s 1 = s % 2 := by
 simp only [Go.bits]
 have h1 : (BitVec.ofInt IntKind.i64.bits s) &&& (BitVec.ofInt IntKind.i64.bits 1) = BitVec.ofNat 64 (s % 2).toNat := by
  show (BitVec.ofInt 64 s) &&& (BitVec.ofInt 64 1) = BitVec.ofNat 64 (s % 2).toNat
  apply BitVec.eq_of_toNat_eq
  rw [BitVec.toNat_and, BitVec.toNat_ofInt, BitVec.toNat_ofInt, BitVec.toNat_ofNat]
  rw [show ((1 : Int) % ((2 ^ 64 : Nat) : Int)).toNat = 2 ^ 1 - 1 by decide, Nat.and_two_pow_sub_one_eq_mod]
  omega
 have h3 : (BitVec.ofNat 64 (s % 2).toNat).toNat = (s % 2).toNat := by rw [BitVec.toNat_ofNat]; omega
 rw [h1]
 show IntKind.i64.wrap ((BitVec.ofNat 64 (s % 2).toNat).toNat : Int) = _
 rw [h3, IntKind.wrap_i64]
 omega
def rootW (x : EX) : Nat := if x.sc % 2 = 0 then x.V / 2 else x.V
def rootX (x : EX) : EX := if x.kd = 0 then EX.zero else if x.kd = 2 ∨ x.ng = true then EX.nar else
 ⟨1, false, x.sc / 2, rtL (rootW x) 64 0 * 18446744073709551616, x.R || (decide (x.sc % 2 = 0 ∧ x.V % 2 ≠ 0) || decide (rtL (rootW x) 64 0 * rtL (rootW x) 64 0 ≠ rootW x))⟩
theorem rt_facts {m : Nat} (h0 : 2 ^ 126 ≤ m) (h1 : m < 2 ^ 128) : rtL m 64 0 * rtL m 64 0 ≤ m ∧ m < (rtL m 64 0 + 1) * (rtL m 64 0 + 1) ∧ 9223372036854775808 ≤ rtL m 64 0 ∧ rtL m 64 0 < 18446744073709551616 := by
 obtain ⟨a, b⟩ := rtL_spec m 64 0 (Nat.zero_le _) (by rw [Nat.zero_add, ← Nat.pow_add]; exact h1)
 have c := (rtL_le m 64 0).2
 rw [p64] at c
 refine ⟨a, b, ?_, by omega⟩
 generalize rtL m 64 0 = r at *
 rcases Nat.lt_or_ge r 9223372036854775808 with h | h
 ·have := Nat.mul_le_mul (show r + 1 ≤ 9223372036854775808 by omega) (show r + 1 ≤ 9223372036854775808 by omega)
  have e : (9223372036854775808 : Nat) * 9223372036854775808 = 2 ^ 126 := by decide
  omega
 ·exact h
theorem rootW_bounds {x : EX} (h1 : 2 ^ 127 ≤ x.V) (h2 : x.V < 2 ^ 128) : 2 ^ 126 ≤ rootW x ∧ rootW x < 2 ^ 128 := by
 have e : (2 : Nat) ^ 127 = 2 * 2 ^ 126 := by decide
 unfold rootW
 generalize (2 : Nat) ^ 128 = z at *
 generalize (2 : Nat) ^ 126 = y at *
 split <;> omega
theorem rootX_ok {x : EX} (hx : x.ok) : (rootX x).ok := by
 unfold rootX
 split
 ·exact .inl rfl
 ·split
  ·exact .inr (.inl rfl)
  ·rename_i h0 h2
   rcases hx with rfl | rfl | ⟨k1, k2, k3, k4, k5⟩
   ·exact absurd rfl h0
   ·exact absurd (.inl rfl) h2
   ·obtain ⟨w1, w2⟩ := rootW_bounds k2 k3
    obtain ⟨_, _, r1, r2⟩ := rt_facts w1 w2
    refine .inr (.inr ⟨rfl, ?_, ?_, ?_, ?_⟩)
    ·show 2 ^ 127 ≤ rtL (rootW x) 64 0 * 18446744073709551616
     rw [p127]; omega
    ·show rtL (rootW x) 64 0 * 18446744073709551616 < 2 ^ 128
     rw [p128]; omega
    ·show -1099511627776 ≤ x.sc / 2
     omega
    ·show x.sc / 2 ≤ 1099511627776
     omega
theorem left_ne {m r : Nat} (h : r * r ≤ m) : (!((TH (m - r * r) == 0) && (TL (m - r * r) == 0))) = decide (r * r ≠ m) := by
 by_cases e : r * r = m
 ·rw [e, Nat.sub_self, decide_eq_false (by omega)]; rfl
 ·rw [decide_eq_true e]
  generalize hd : m - r * r = d
  have h0 : d ≠ 0 := by omega
  by_cases h1 : TH d = 0
  ·have h2 : TL d ≠ 0 := by unfold TH TL at *; omega
   simp [h2]
  ·simp [h1]
theorem root_Exact_X {x : EX} (hx : x.ok) : Ev (fun k => root_Exact.f k x.kd x.ng x.sc (TH x.V) (TL x.V) x.R) ((rootX x).kd, (rootX x).ng, (rootX x).sc, TH (rootX x).V, TL (rootX x).V, (rootX x).R, none) := by
 unfold root_Exact.f
 refine Ev.bind (Round_X (n := 8) (by decide) hx) ?_
 simp only [Option.isNone_none, if_true]
 rcases hx with rfl | rfl | ⟨k1, k2, k3, k4, k5⟩
 ·exact Ev.now _
 ·exact Ev.now _
 ·have hk0 : ¬ x.kd = 0 := by omega
  have hk2 : ¬ x.kd = 2 := by omega
  simp only [if_neg hk0, if_neg hk2]
  by_cases hn : x.ng = true
  ·have e : rootX x = EX.nar := by unfold rootX; rw [if_neg hk0, if_pos (.inr hn)]
   simp only [if_pos hn, e]
   exact Ev.now _
  ·obtain ⟨w1, w2⟩ := rootW_bounds k2 k3
   obtain ⟨r1, r2, r3, r4⟩ := rt_facts w1 w2
   have e : rootX x = ⟨1, false, x.sc / 2, rtL (rootW x) 64 0 * 18446744073709551616, x.R || (decide (x.sc % 2 = 0 ∧ x.V % 2 ≠ 0) || decide (rtL (rootW x) 64 0 * rtL (rootW x) 64 0 ≠ rootW x))⟩ := by
    unfold rootX; rw [if_neg hk0, if_neg (fun h => h.elim hk2 hn)]
   have hR := part_Root_eq w2
   simp only [if_neg hn]
   refine evs ?_
   simp only [root_Exact.j0, and_i64_1, e, (T_hi _).1, (T_hi _).2]
   by_cases hs : x.sc % 2 = 0
   ·have hw : rootW x = x.V / 2 ^ 1 := by unfold rootW; rw [if_pos hs]
    simp only [if_pos hs]
    have hsh := twin_Shr_eq x.V 1 k3 (by decide)
    have hsh' : twin_Shr.f (TH x.V) (TL x.V) 1 = _ := hsh
    simp only [hsh', Option.bind_some]
    rw [← hw]
    by_cases hr : x.R = true
    ·simp only [if_pos hr]
     refine Ev.bind hR (evn ?_)
     simp [hr]
    ·simp only [if_neg hr]
     refine Ev.bind hR ?_
     by_cases hl : x.V % 2 ^ 1 ≠ 0
     ·simp only [decide_eq_true hl, if_true]
      refine evn ?_
      have : x.V % 2 ≠ 0 := hl
      simp [hs, this]
     ·simp only [decide_eq_false hl, Bool.false_eq_true, if_false, left_ne r1]
      refine evn ?_
      have h0 : x.V % 2 = 0 := by simpa using hl
      simp [hr, h0]
   ·have hw : rootW x = x.V := by unfold rootW; rw [if_neg hs]
    simp only [if_neg hs]
    rw [hw] at hR r1 ⊢
    refine Ev.bind hR ?_
    by_cases hr : x.R = true
    ·simp only [if_pos hr]
     refine evn ?_
     simp [hr]
    ·simp only [if_neg hr, left_ne r1]
     refine evn ?_
     simp [hr, hs]
theorem ref_half_eq {s : Int} (h0 : -4398046511104 ≤ s) (h1 : s ≤ 4398046511104) : vernierref12_half.f s = some (s / 2) := by
 unfold vernierref12_half.f
 have q : (0 ≤ s ∧ Int.tdiv s 2 = s / 2) ∨ (s < 0 ∧ Int.tdiv s 2 = if s % 2 = 0 then s / 2 else s / 2 + 1) := by
  rcases (show s < 0 ∨ 0 ≤ s by omega) with h | h
  ·right
   refine ⟨h, ?_⟩
   rw [Int.tdiv_eq_ediv]
   by_cases hd : s % 2 = 0
   ·rw [if_pos hd, if_pos (Or.inr (by omega)), Int.add_zero]
   ·rw [if_neg hd, if_neg (by omega)]; rfl
  ·left; exact ⟨h, Int.tdiv_eq_ediv_of_nonneg h⟩
 have e : wrap64 (Int.tdiv s 2) = Int.tdiv s 2 := by
  rcases q with ⟨h, q⟩ | ⟨h, q⟩
  ·rw [q, w64 (by omega) (by omega)]
  ·rw [q]
   by_cases hd : s % 2 = 0
   ·rw [if_pos hd, w64 (by omega) (by omega)]
   ·rw [if_neg hd, w64 (by omega) (by omega)]
 rw [e]
 rcases q with ⟨h, q⟩ | ⟨h, q⟩
 ·rw [q, w64 (n := 2 * (s / 2)) (by omega) (by omega), if_neg (by omega)]
 ·by_cases hd : s % 2 = 0
  ·rw [if_pos hd] at q
   rw [q, w64 (n := 2 * (s / 2)) (by omega) (by omega), if_neg (by omega)]
  ·rw [if_neg hd] at q
   rw [q, w64 (n := 2 * (s / 2 + 1)) (by omega) (by omega), if_pos (by omega), w64 (by omega) (by omega), Int.add_sub_cancel]
end Go.Proofs.YtfbbnpliaokmbaaGreat.V
namespace Go.Proofs.YtfbbnpliaokmbaaGreat.V
open Go Go.RowKit Go.Proofs.YtfbbnpliaokmbaaGreat.Ab Go.Proofs.YtfbbnpliaokmbaaGreat.Fn
set_option linter.unusedVariables false
set_option linter.unusedSimpArgs false
theorem rt_div {M r b : Nat} (hb : 0 < b) (h1 : r * r ≤ M) (h2 : M < (r + 1) * (r + 1)) : (r / b) * (r / b) ≤ M / (b * b) ∧ M / (b * b) < (r / b + 1) * (r / b + 1) := by
 have hd := Nat.div_add_mod r b
 have hm := Nat.mod_lt r hb
 generalize r / b = q at *
 generalize r % b = c at *
 subst hd
 constructor
 ·rw [Nat.le_div_iff_mul_le (Nat.mul_pos hb hb)]
  refine Nat.le_trans ?_ h1
  have e : q * q * (b * b) = (b * q) * (b * q) := by grind
  rw [e]
  exact Nat.mul_le_mul (by omega) (by omega)
 ·rw [Nat.div_lt_iff_lt_mul (Nat.mul_pos hb hb)]
  refine Nat.lt_of_lt_of_le h2 ?_
  have e : (q + 1) * (q + 1) * (b * b) = (b * q + b) * (b * q + b) := by grind
  rw [e]
  exact Nat.mul_le_mul (by omega) (by omega)
theorem rt_eq {M r b : Nat} (hb : 0 < b) (h1 : r * r ≤ M) (h2 : M < (r + 1) * (r + 1)) : (r % b ≠ 0 ∨ r * r ≠ M) ↔ (M % (b * b) ≠ 0 ∨ (r / b) * (r / b) ≠ M / (b * b)) := by
 have hd := Nat.div_add_mod r b
 have hm := Nat.div_add_mod M (b * b)
 rw [← Decidable.not_iff_not]
 simp only [not_or, Decidable.not_not]
 constructor
 ·rintro ⟨ha, hc⟩
  rw [ha, Nat.add_zero] at hd
  have e : M = (b * b) * ((r / b) * (r / b)) := by
   rw [← hc]
   generalize r / b = q at *
   subst hd; grind
  rw [e, Nat.mul_mod_right, Nat.mul_div_cancel_left _ (Nat.mul_pos hb hb)]
  exact ⟨rfl, rfl⟩
 ·rintro ⟨ha, hc⟩
  rw [ha, Nat.add_zero, ← hc] at hm
  have e : b * (r / b) * (b * (r / b)) = M := by rw [← hm]; grind
  have hq : b * (r / b) = r := rt_uniq (m := M) (by omega) (by
   rw [← e]; exact Nat.mul_self_lt_mul_self (Nat.lt_succ_self _)) h1 h2
  rw [hq] at e
  refine ⟨?_, e⟩
  omega
theorem bl71 {r : Nat} (h1 : 2 ^ 70 ≤ r) (h2 : r < 2 ^ 71) : bl r = 71 := bl_unique (by decide) h1 h2
theorem ref12_l0 {M : Nat} {m : List Int} {s : Int} {R : Bool} {y : Int × Bool × Int × Int × Int × Bool × Int} (hm : DL m M) (lm : m.length ≤ 6) : ∀ (k r : Nat) (l : List Int), DL l r → r + 2 ^ k ≤ 2 ^ 71 → k ≤ 71 →
  (∀ l', DL l' (rtL M k r) → rtL M k r < 2 ^ 71 → Ev (fun n => vernierref12_Exact.l0 n s m l' (-1) R) y) → Ev (fun n => vernierref12_Exact.l0 n s m l ((k : Int) - 1) R) y
 | 0, r, l, hl, hr, hk, H => by
  have := H l hl (by unfold rtL; rw [Nat.pow_zero] at hr; omega)
  exact this
 | k + 1, r, l, hl, hr, hk, H => by
  have hp := two_pos k
  have e2 : 2 ^ (k + 1) = 2 ^ k * 2 := Nat.pow_succ ..
  refine evs ?_
  have ew : wrap64 ((k : Int) - 1) = (k : Int) - 1 := w64 (by omega) (by omega)
  simp only [vernierref12_Exact.l0, nI_eq, show ((k + 1 : Nat) : Int) - 1 = (k : Int) by omega, if_pos (show (k : Int) ≥ 0 by omega), ew]
  obtain ⟨a, a1, a2⟩ := r4_Shl (k := k) one_DL (by omega) (by decide)
  rw [Nat.one_mul] at a2
  have hW : (2 : Nat) ^ 71 ≤ W 3 := by decide
  have la : a.length ≤ 3 := a2.len_le (by omega)
  have ll : l.length ≤ 3 := hl.len_le (by omega)
  obtain ⟨b, b1, b2⟩ := r4_Add hl a2 (by omega) (by omega)
  have lb : b.length ≤ 3 := b2.len_le (by omega)
  obtain ⟨c, c1, c2⟩ := r4_Mul b2 b2 (by omega)
  have hsq : (r + 2 ^ k) * (r + 2 ^ k) < W 6 := by
   have := Nat.mul_le_mul (show r + 2 ^ k ≤ 2 ^ 71 by omega) (show r + 2 ^ k ≤ 2 ^ 71 by omega)
   have e : (2 : Nat) ^ 71 * 2 ^ 71 < W 6 := by decide
   omega
  have lc : c.length ≤ 6 := c2.len_le hsq
  refine Ev.bind a1 (Ev.bind b1 (Ev.bind c1 (Ev.bind (r4_Cmp c2 hm (by omega) (by omega)) ?_)))
  unfold rtL at H
  by_cases h : (r + 2 ^ k) * (r + 2 ^ k) ≤ M
  ·simp only [if_pos (cmpN_le.mpr h)]
   rw [if_pos h] at H
   exact ref12_l0 hm lm k (r + 2 ^ k) b b2 (by omega) (by omega) H
  ·simp only [if_neg (fun hc => h (cmpN_le.mp hc))]
   rw [if_neg h] at H
   exact ref12_l0 hm lm k r l hl (by omega) (by omega) H
theorem ref12_Exact_X {x : EX} (hx : x.ok) : Ev (fun k => vernierref12_Exact.f k x.kd x.ng x.sc (TH x.V) (TL x.V) x.R) ((rootX x).kd, (rootX x).ng, (rootX x).sc, TH (rootX x).V, TL (rootX x).V, (rootX x).R, 0) := by
 unfold vernierref12_Exact.f
 simp only [ref_Sound_eq, EX.ok_sound hx, Option.bind_some, if_true]
 rcases hx with rfl | rfl | ⟨k1, k2, k3, k4, k5⟩
 ·exact evs (Ev.now _)
 ·exact evs (Ev.now _)
 ·have hk0 : ¬ x.kd = 0 := by omega
  have hk2 : ¬ x.kd = 2 := by omega
  simp only [if_neg hk2]
  refine evs ?_
  simp only [vernierref12_Exact.j0]
  by_cases hn : x.ng = true
  ·have e : rootX x = EX.nar := by unfold rootX; rw [if_neg hk0, if_pos (.inr hn)]
   simp only [if_pos hn, e]
   exact Ev.now _
  ·simp only [if_neg hn, if_neg hk0]
   refine Ev.bind (evn (ref_half_eq (by omega) (by omega))) ?_
   obtain ⟨v, v1, v2⟩ := ref02_Of_eq k3
   have lv : v.length ≤ 6 := v2.len_le (Nat.lt_of_lt_of_le k3 (by decide))
   have et : wrap64 (wrap64 (13 + x.sc) - wrap64 (2 * (x.sc / 2))) = ((13 + (x.sc % 2).toNat : Nat) : Int) := by
    rw [w64 (n := 13 + x.sc) (by omega) (by omega), w64 (n := 2 * (x.sc / 2)) (by omega) (by omega), w64 (by omega) (by omega)]; omega
   rw [et]
   have ht : (x.sc % 2).toNat < 2 := by omega
   have hse : x.sc % 2 = 0 ↔ (x.sc % 2).toNat = 0 := by omega
   generalize hte : (x.sc % 2).toNat = t at *
   obtain ⟨m, m1, m2⟩ := r4_Shl (k := 13 + t) v2 (by omega) (by omega)
   -- the number under the root
   have hM : x.V * 2 ^ (13 + t) / 16384 = rootW x ∧ (x.V * 2 ^ (13 + t) % 16384 ≠ 0 ↔ x.sc % 2 = 0 ∧ x.V % 2 ≠ 0) := by
    unfold rootW
    rcases (show t = 0 ∨ t = 1 by omega) with h | h
    ·rw [if_pos (hse.mpr h), h, show (2 : Nat) ^ (13 + 0) = 8192 by decide]
     have := hse.mpr h
     omega
    ·rw [if_neg (by rw [hse]; omega), h, show (2 : Nat) ^ (13 + 1) = 16384 by decide]
     have : ¬ x.sc % 2 = 0 := by rw [hse]; omega
     omega
   obtain ⟨hM1, hM2⟩ := hM
   have hMb : 2 ^ 140 ≤ x.V * 2 ^ (13 + t) ∧ x.V * 2 ^ (13 + t) < 2 ^ 142 := by
    rcases (show t = 0 ∨ t = 1 by omega) with h | h
    ·rw [h, show (2 : Nat) ^ (13 + 0) = 8192 by decide, show (2 : Nat) ^ 140 = 8192 * 2 ^ 127 by decide, show (2 : Nat) ^ 142 = 16384 * 2 ^ 128 by decide]
     generalize (2 : Nat) ^ 127 = y at *
     generalize (2 : Nat) ^ 128 = z at *
     omega
    ·rw [h, show (2 : Nat) ^ (13 + 1) = 16384 by decide, show (2 : Nat) ^ 140 = 8192 * 2 ^ 127 by decide, show (2 : Nat) ^ 142 = 16384 * 2 ^ 128 by decide]
     generalize (2 : Nat) ^ 127 = y at *
     generalize (2 : Nat) ^ 128 = z at *
     omega
   generalize x.V * 2 ^ (13 + t) = M at *
   have lm : m.length ≤ 6 := m2.len_le (Nat.lt_of_lt_of_le hMb.2 (by decide))
   obtain ⟨r1, r2⟩ := rtL_spec M 71 0 (Nat.zero_le _) (by rw [Nat.zero_add, ← Nat.pow_add]; exact hMb.2)
   refine Ev.bind v1 (Ev.bind m1 (ref12_l0 m2 lm 71 0 [] DL.nil (by decide) (by decide) ?_))
   intro l hl hlt
   generalize rtL M 71 0 = r at *
   have hrl : 2 ^ 70 ≤ r := by
    rcases Nat.lt_or_ge r (2 ^ 70) with h | h
    ·have := Nat.mul_le_mul (show r + 1 ≤ 2 ^ 70 by omega) (show r + 1 ≤ 2 ^ 70 by omega)
     have e : (2 : Nat) ^ 70 * 2 ^ 70 = 2 ^ 140 := by decide
     omega
    ·exact h
   obtain ⟨w1, w2⟩ := rootW_bounds k2 k3
   obtain ⟨q1, q2⟩ := rtL_spec (rootW x) 64 0 (Nat.zero_le _) (by rw [Nat.zero_add, ← Nat.pow_add]; exact w2)
   obtain ⟨d1, d2⟩ := rt_div (b := 128) (by decide) r1 r2
   have de := rt_eq (b := 128) (by decide) r1 r2
   rw [show (128 * 128 : Nat) = 16384 from rfl, hM1] at d1 d2 de
   have hq : r / 128 = rtL (rootW x) 64 0 := rt_uniq d1 d2 q1 q2
   have ll : l.length ≤ 3 := hl.len_le (Nat.lt_of_lt_of_le hlt (by decide))
   obtain ⟨sq, sq1, sq2⟩ := r4_Mul hl hl (by omega)
   have lsq : sq.length ≤ 6 := sq2.len_le (Nat.lt_of_le_of_lt r1 (Nat.lt_of_lt_of_le hMb.2 (by decide)))
   have e70 : wrap64 (x.sc / 2 - 70) = x.sc / 2 - 70 := w64 (by omega) (by omega)
   refine evs ?_
   simp only [vernierref12_Exact.l0, nI_eq, if_neg (show ¬ (-1 : Int) ≥ 0 by decide), e70]
   refine Ev.bind sq1 (Ev.bind (r4_Cmp sq2 m2 (by omega) (by omega)) (Ev.bind (ref_Exactly_eq hl (by omega) (by omega) (by omega)) ?_))
   have hb := bl71 hrl hlt
   have hex : exactE false r (x.sc / 2 - 70) false = (1, false, x.sc / 2, ((r / 128 : Nat) : Int), ((r % 128 * 144115188075855872 : Nat) : Int), false) := by
    unfold exactE
    rw [if_neg (by have := two_pos 70; omega), hb]
    have hh : heldI (x.sc / 2 - 70 + ((71 : Nat) : Int) - 1) = x.sc / 2 := by unfold heldI; rw [if_neg (by omega), if_neg (by omega)]; omega
    rw [hh]
    have hv : mkV r = r * 144115188075855872 := by
     have e57 : (2 : Nat) ^ (128 - 71) = 144115188075855872 := by decide
     unfold mkV; rw [hb, if_pos (by decide), e57]
    have hr : mkR r false = false := by unfold mkR; rw [hb, show (71 - 128 : Nat) = 0 from rfl, Nat.pow_zero, Nat.mod_one]; rfl
    rw [hv, hr]
    have t1 : TH (r * 144115188075855872) = ((r / 128 : Nat) : Int) := by unfold TH; omega
    have t2 : TL (r * 144115188075855872) = ((r % 128 * 144115188075855872 : Nat) : Int) := by unfold TL; omega
    rw [t1, t2]
   rw [hex]
   refine Ev.bind (evn (ref11_Cut_eq _ _ _ _ _ _)) ?_
   rw [Bool.false_or]
   have e : rootX x = ⟨1, false, x.sc / 2, rtL (rootW x) 64 0 * 18446744073709551616, x.R || (decide (x.sc % 2 = 0 ∧ x.V % 2 ≠ 0) || decide (rtL (rootW x) 64 0 * rtL (rootW x) 64 0 ≠ rootW x))⟩ := by
    unfold rootX; rw [if_neg hk0, if_neg (fun h => h.elim hk2 hn)]
   rw [← hq] at e
   rw [e]
   simp only [(T_hi _).1, (T_hi _).2]
   have hz : ((r % 128 * 144115188075855872 : Nat) : Int) ≠ 0 ↔ r % 128 ≠ 0 := by omega
   have hc : cmpN (r * r) M = 0 ↔ r * r = M := by
    unfold cmpN
    by_cases h : r * r = M
    ·rw [if_pos h]; simp [h]
    ·rw [if_neg h]; simp only [h, iff_false]; split <;> decide
   rw [hM2] at de
   by_cases c1 : r % 128 ≠ 0
   ·simp only [decide_eq_true (hz.mpr c1), if_true]
    refine evn ?_
    have := de.mp (.inl c1)
    have hb : (decide (x.sc % 2 = 0 ∧ x.V % 2 ≠ 0) || decide (r / 128 * (r / 128) ≠ rootW x)) = true := by simpa using this
    rw [hb]; simp
   ·simp only [decide_eq_false (fun h => c1 (hz.mp h)), Bool.false_eq_true, if_false]
    by_cases c2 : r * r = M
    ·simp only [if_pos (hc.mpr c2)]
     have hb : (decide (x.sc % 2 = 0 ∧ x.V % 2 ≠ 0) || decide (r / 128 * (r / 128) ≠ rootW x)) = false := by
      rw [Bool.eq_false_iff]
      intro h
      have h' := de.mpr (by simpa using h)
      exact h'.elim c1 (fun h => h c2)
     rw [hb, Bool.or_false]
     exact Ev.now _
    ·simp only [if_neg (fun h => c2 (hc.mp h))]
     refine evn ?_
     have := de.mp (.inr c2)
     have hb : (decide (x.sc % 2 = 0 ∧ x.V % 2 ≠ 0) || decide (r / 128 * (r / 128) ≠ rootW x)) = true := by simpa using this
     rw [hb]; simp
end Go.Proofs.YtfbbnpliaokmbaaGreat.V
namespace Go.Proofs.YtfbbnpliaokmbaaGreat.V
open Go Go.RowKit Go.Proofs.YtfbbnpliaokmbaaGreat.Ab Go.Proofs.YtfbbnpliaokmbaaGreat.Fn
set_option linter.unusedVariables false
set_option linter.unusedSimpArgs false
def prdX (n x y : Nat) : EX := prodX (decN n x) (decN n y)
theorem prdX_ok (n x y : Nat) : (prdX n x y).ok := prodX_ok _ _
def fmaN (n x y z : Nat) : Nat := (sumX (prdX n x y) (decN n z).ex).rnd n
def hypN (n x y : Nat) : Nat := (rootX (sumX (prdX n x x) (prdX n y y))).rnd n
theorem fuse_product_eq {n a b : Nat} (h : isW (n : Int) = true) (ha : a < 18446744073709551616) (hb : b < 18446744073709551616) : Ev (fun k => fuse_product.f k (n : Int) (a : Int) (b : Int)) ((prdX n (a % 2 ^ n) (b % 2 ^ n)).kd, (prdX n (a % 2 ^ n) (b % 2 ^ n)).ng, (prdX n (a % 2 ^ n) (b % 2 ^ n)).sc, TH (prdX n (a % 2 ^ n) (b % 2 ^ n)).V, TL (prdX n (a % 2 ^ n) (b % 2 ^ n)).V, (prdX n (a % 2 ^ n) (b % 2 ^ n)).R, none) := by
 obtain ⟨b64, b8⟩ := pow64 h
 have oa := decN_ok b8 b64 (Nat.mod_lt a (two_pos n))
 have ob := decN_ok b8 b64 (Nat.mod_lt b (two_pos n))
 unfold fuse_product.f
 refine Ev.bind (Decode_N h ha) ?_
 simp only [Option.isNone_none, if_true]
 exact Ev.bind (Decode_N h hb) (Ev.bind (prod_Exact_X oa ob) (Ev.now _))
theorem fuse_product_no {n : Int} (h : isW n = false) (a b : Int) : Ev (fun k => fuse_product.f k n a b) (0, false, 0, 0, 0, false, some 2) := by
 unfold fuse_product.f
 exact Ev.bind (Decode_no h a) (Ev.now _)
theorem fuse_Fma_eq {n a b c : Nat} (h : isW (n : Int) = true) (ha : a < 18446744073709551616) (hb : b < 18446744073709551616) (hc : c < 18446744073709551616) : Ev (fun k => fuse_Fma.f k (n : Int) (a : Int) (b : Int) (c : Int)) (((fmaN n (a % 2 ^ n) (b % 2 ^ n) (c % 2 ^ n) : Nat) : Int), none) := by
 obtain ⟨b64, b8⟩ := pow64 h
 have oc := decN_ok b8 b64 (Nat.mod_lt c (two_pos n))
 have op := prdX_ok n (a % 2 ^ n) (b % 2 ^ n)
 unfold fuse_Fma.f
 refine Ev.bind (fuse_product_eq h ha hb) ?_
 simp only [Option.isNone_none, if_true]
 exact Ev.bind (Decode_N h hc) (Ev.bind (Of_X oc) (Ev.bind (broad_Sum_X op (NM.ex_ok oc)) (Ev.bind (Round_X h (sumX_ok op (NM.ex_ok oc))) (Ev.now _))))
theorem fuse_Hypot_eq {n a b : Nat} (h : isW (n : Int) = true) (ha : a < 18446744073709551616) (hb : b < 18446744073709551616) : Ev (fun k => fuse_Hypot.f k (n : Int) (a : Int) (b : Int)) (((hypN n (a % 2 ^ n) (b % 2 ^ n) : Nat) : Int), none) := by
 have op := prdX_ok n (a % 2 ^ n) (a % 2 ^ n)
 have oq := prdX_ok n (b % 2 ^ n) (b % 2 ^ n)
 have os := sumX_ok op oq
 unfold fuse_Hypot.f
 refine Ev.bind (fuse_product_eq h ha ha) ?_
 simp only [Option.isNone_none, if_true]
 exact Ev.bind (fuse_product_eq h hb hb) (Ev.bind (broad_Sum_X op oq) (Ev.bind (root_Exact_X os) (Ev.bind (Round_X h (rootX_ok os)) (Ev.now _))))
theorem fuse_Hypot_no {n : Int} (h : isW n = false) (a b : Int) : Ev (fun k => fuse_Hypot.f k n a b) (0, some 2) := by
 unfold fuse_Hypot.f
 exact Ev.bind (fuse_product_no h _ _) (Ev.now _)
theorem ref13_product_eq {n a b : Nat} (h : isW (n : Int) = true) (ha : a < 18446744073709551616) (hb : b < 18446744073709551616) : Ev (fun k => vernierref13_product.f k (n : Int) (a : Int) (b : Int)) (prdX n (a % 2 ^ n) (b % 2 ^ n)).tup := by
 obtain ⟨b64, b8⟩ := pow64 h
 have oa := decN_ok b8 b64 (Nat.mod_lt a (two_pos n))
 have ob := decN_ok b8 b64 (Nat.mod_lt b (two_pos n))
 unfold vernierref13_product.f
 exact Ev.bind (ref_Decode_N h ha) (Ev.bind (ref_Decode_N h hb) (Ev.bind (ref10_Exact_X oa ob) (Ev.now _)))
theorem up13 : Ev (fun k => vernierlaw13_up.f k) true := by
 unfold vernierlaw13_up.f
 have a := fuse_Fma_eq (n := 8) (a := 72) (b := 72) (c := 192) (by decide) (by decide) (by decide) (by decide)
 have b := fuse_Fma_eq (n := 8) (a := 127) (b := 1) (c := 192) (by decide) (by decide) (by decide) (by decide)
 rw [show fmaN 8 (72 % 2 ^ 8) (72 % 2 ^ 8) (192 % 2 ^ 8) = 76 by decide +kernel] at a
 rw [show fmaN 8 (127 % 2 ^ 8) (1 % 2 ^ 8) (192 % 2 ^ 8) = 0 by decide +kernel] at b
 exact Ev.bind a (Ev.bind b (Ev.now _))
end Go.Proofs.YtfbbnpliaokmbaaGreat.V
namespace Go.Proofs.YtfbbnpliaokmbaaGreat.V
open Go Go.RowKit Go.Proofs.YtfbbnpliaokmbaaGreat.Ab Go.Proofs.YtfbbnpliaokmbaaGreat.Fn
set_option linter.unusedVariables false
set_option linter.unusedSimpArgs false
theorem ref13_Hypot_eq {n a b : Nat} (h : isW (n : Int) = true) (ha : a < 18446744073709551616) (hb : b < 18446744073709551616) : Ev (fun k => vernierref13_Hypot.f k (n : Int) (a : Int) (b : Int)) (((hypN n (a % 2 ^ n) (b % 2 ^ n) : Nat) : Int), 0) := by
 have op := prdX_ok n (a % 2 ^ n) (a % 2 ^ n)
 have oq := prdX_ok n (b % 2 ^ n) (b % 2 ^ n)
 have os := sumX_ok op oq
 unfold vernierref13_Hypot.f
 rw [ref_Is_eq, h]
 simp only [Option.bind_some, if_true]
 exact Ev.bind (ref13_product_eq h ha ha) (Ev.bind (ref13_product_eq h hb hb) (Ev.bind (ref09_Sum_X op oq) (Ev.bind (ref12_Exact_X os) (Ev.bind (ref_Round_X h (rootX_ok os)) (Ev.now _)))))
theorem ref13_Hypot_no {n : Int} (h : isW n = false) (a b : Int) : Ev (fun k => vernierref13_Hypot.f k n a b) (0, 2) := by
 unfold vernierref13_Hypot.f
 rw [ref_Is_eq, h]
 exact Ev.now _
end Go.Proofs.YtfbbnpliaokmbaaGreat.V
namespace Go.Proofs.YtfbbnpliaokmbaaGreat.Pure
open Go Go.RowKit Go.Proofs.YtfbbnpliaokmbaaGreat.Ab Go.Proofs.YtfbbnpliaokmbaaGreat.Fn Go.Proofs.YtfbbnpliaokmbaaGreat.V
set_option linter.unusedSimpArgs false
theorem FuseHypots : vernierlaw13_FuseHypots.Pure := by
 intro n a b w0 w1 w2
 obtain ⟨a, rfl, ha⟩ := u64_nat w1
 obtain ⟨b, rfl, hb⟩ := u64_nat w2
 refine Ev.rounds (g := fun k => vernierlaw13_FuseHypots.f k n (a : Int) (b : Int)) ?_
 unfold vernierlaw13_FuseHypots.f
 refine Ev.bind up13 ?_
 by_cases hn : isW n = true
 ·obtain ⟨n, rfl, _⟩ := isW_nat hn
  exact Ev.bind (fuse_Hypot_eq hn ha hb) (Ev.bind (ref13_Hypot_eq hn ha hb) (evn (by simp [code_none])))
 ·have hn : isW n = false := by simpa using hn
  exact Ev.bind (fuse_Hypot_no hn _ _) (Ev.bind (ref13_Hypot_no hn _ _) (evn (by simp [code_2])))
end Go.Proofs.YtfbbnpliaokmbaaGreat.Pure
