-- Written by a program of this session out of its own texts (wip/tools/link.py).
import Derived.Below
import Derived.ChangeKeysEq
import Derived.Deep.MidRow
import Derived.Deep.RegionHeld3
import Derived.Great.BuildSlice
import Derived.IntWalk
import Derived.KernelRfl
import Derived.LaidEql
import Derived.Laws.Bits64
import Derived.Laws.BitsLemmas
import Derived.Laws.BytesArg
import Derived.Laws.IdiomCopy
import Derived.Laws.OwnMore
import Derived.Laws.Rows
import Derived.Laws.Slices
import Derived.Laws.Strings
import Derived.Laws.StructEq
import Derived.Laws.Tables
import Derived.Lib.BitFns
import Derived.Lib.Mul64
import Derived.Lib.Slices
import Derived.Lib.Small
import Derived.Lib.Strings
import Derived.Lib.Walk
import Derived.Maps.AppendAt
import Derived.OrdersHeld
import Derived.RowKit
import Derived.Shelf.Spec.BitsCarry
import Derived.Test.YtnjhblakghjdoaaGreatProg
import Derived.Test.YtnjhblakghjdoaaGreatCGenHorners7
import Derived.Test.YtnjhblakghjdoaaGreatCGenHorners8
import Derived.Test.YtnjhblakghjdoaaGreatCGenHorners10
import Derived.Test.YtnjhblakghjdoaaGreatCGenHorners11
import Derived.Test.YtnjhblakghjdoaaGreatCGenHorners12
namespace Go.Proofs.YtnjhblakghjdoaaGreat.V
open Go Go.RowKit Go.Proofs.YtnjhblakghjdoaaGreat.Ab Go.Proofs.YtnjhblakghjdoaaGreat.Fn
set_option linter.unusedVariables false
set_option linter.unusedSimpArgs false
theorem beq_dec (a b : Int) : (a == b) = decide (a = b) := by by_cases h : a = b <;> simp [h]
theorem mask32 (a : Nat) (ha : a < 18446744073709551616) : Go.bits .and .u64 (a : Int) 4294967295 = ((a % 4294967296 : Nat) : Int) := and_mask a 32 ha (by decide)
theorem div32 (a : Nat) : (a : Int) / 4294967296 = ((a / 4294967296 : Nat) : Int) := by omega
theorem mulC (a b : Nat) : (a : Int) * (b : Int) = ((a * b : Nat) : Int) := (Int.natCast_mul a b).symm
theorem addC (a b : Nat) : (a : Int) + (b : Int) = ((a + b : Nat) : Int) := (Int.natCast_add a b).symm
theorem wrapN (a : Nat) (ha : a < 18446744073709551616) : IntKind.u64.wrap (a : Int) = (a : Int) := u64_of (by omega) (by omega)
theorem bits_Mul64_eq {x y : Nat} (hx : x < 18446744073709551616) (hy : y < 18446744073709551616) : bits_Mul64.f (x : Int) (y : Int) = some (TH (x * y), TL (x * y)) := by
 obtain ⟨bd, bt, bw, hhi⟩ := Lib.mul64_hi x y hx hy
 have ba := Lib.half_mul_le (a := x / 4294967296) (b := y / 4294967296) (by omega) (by omega)
 have bb := Lib.half_mul_le (a := x / 4294967296) (b := y % 4294967296) (by omega) (by omega)
 have bc := Lib.half_mul_le (a := x % 4294967296) (b := y / 4294967296) (by omega) (by omega)
 have ba' : x / 4294967296 * (y / 4294967296) < 18446744073709551616 := by omega
 have bb' : x / 4294967296 * (y % 4294967296) < 18446744073709551616 := by omega
 have bc' : x % 4294967296 * (y / 4294967296) < 18446744073709551616 := by omega
 have bh1 : x / 4294967296 * (y / 4294967296) + (x / 4294967296 * (y % 4294967296) + x % 4294967296 * (y % 4294967296) / 4294967296) / 4294967296 < 18446744073709551616 := by omega
 have bh : x / 4294967296 * (y / 4294967296) + (x / 4294967296 * (y % 4294967296) + x % 4294967296 * (y % 4294967296) / 4294967296) / 4294967296 + ((x / 4294967296 * (y % 4294967296) + x % 4294967296 * (y % 4294967296) / 4294967296) % 4294967296 + x % 4294967296 * (y / 4294967296)) / 4294967296 < 18446744073709551616 := by omega
 unfold bits_Mul64.f
 simp only [mask32 x hx, mask32 y hy, div32, mulC, addC, wrapN _ bd, wrapN _ bb', wrapN _ bt, mask32 _ bt, wrapN _ bc', wrapN _ bw, wrapN _ ba', wrapN _ bh1, wrapN _ bh, u64_nat_wrap (x * y)]
 rw [hhi]
 rfl
theorem twin_Mul_eq {x y : Nat} (hx : x < 18446744073709551616) (hy : y < 18446744073709551616) : twin_Mul.f (x : Int) (y : Int) = some (TH (x * y), TL (x * y)) := by
 unfold twin_Mul.f
 rw [bits_Mul64_eq hx hy]; rfl
theorem mul_lt128 {x y : Nat} (hx : x < 18446744073709551616) (hy : y < 18446744073709551616) : x * y < 2 ^ 128 := by
 have := Nat.mul_le_mul (show x ≤ 18446744073709551615 by omega) (show y ≤ 18446744073709551615 by omega)
 rw [p128]
 omega
def prodE (kd : Int) (ng : Bool) (sc : Int) (fr : Nat) (kd' : Int) (ng' : Bool) (sc' : Int) (fr' : Nat) : Int × Bool × Int × Int × Int × Bool :=
 if kd = 2 ∨ kd' = 2 then (2, false, 0, 0, 0, false) else if kd = 0 ∨ kd' = 0 then (0, false, 0, 0, 0, false)
 else exactE (ng != ng') (fr * fr') (sc + sc' - 126) false
theorem soundN_cases {kd sc fr : Int} {ng : Bool} (h : soundN kd ng sc fr = true) : (kd = 0 ∧ ng = false ∧ sc = 0 ∧ fr = 0) ∨ (kd = 2 ∧ ng = false ∧ sc = 0 ∧ fr = 0) ∨ (kd = 1 ∧ 9223372036854775808 ≤ fr ∧ -1073741824 ≤ sc ∧ sc ≤ 1073741824) := by
 unfold soundN at h
 split at h
 ·rename_i hk
  have : ng = false ∧ sc = 0 ∧ fr = 0 := by simpa using h
  rcases hk with hk | hk
  ·exact .inl ⟨hk, this⟩
  ·exact .inr (.inl ⟨hk, this⟩)
 ·exact .inr (.inr (of_decide_eq_true h))
theorem makeV_exactE {ng R : Bool} {V : Nat} {e : Int} (hV : V < 2 ^ 128) (h0 : -4398046511104 ≤ e) (h1 : e ≤ 4398046511104) :
  makeV ng V e R = ((exactE ng V e R).1, (exactE ng V e R).2.1, (exactE ng V e R).2.2.1, (exactE ng V e R).2.2.2.1, (exactE ng V e R).2.2.2.2.1, (exactE ng V e R).2.2.2.2.2, none) := by
 unfold makeV exactE
 by_cases hz : V = 0
 ·rw [if_pos hz, if_pos hz]
 ·rw [if_neg hz, if_neg hz]
  have hb := bl_le_of_lt hV
  have hr : mkR V R = R := by unfold mkR; rw [show bl V - 128 = 0 by omega, Nat.pow_zero, Nat.mod_one]; simp
  have hf : farI e = e := by unfold farI; rw [if_neg (by omega), if_neg (by omega)]
  rw [hr, hf]
theorem prod_Exact_eq (kd : Int) (ng : Bool) (sc : Int) (fr : Nat) (kd' : Int) (ng' : Bool) (sc' : Int) (fr' : Nat) (hf : fr < 18446744073709551616) (hf' : fr' < 18446744073709551616) :
  Ev (fun k => prod_Exact.f k kd ng sc (fr : Int) kd' ng' sc' (fr' : Int)) (if soundN kd ng sc fr = true ∧ soundN kd' ng' sc' fr' = true then
   ((prodE kd ng sc fr kd' ng' sc' fr').1, (prodE kd ng sc fr kd' ng' sc' fr').2.1, (prodE kd ng sc fr kd' ng' sc' fr').2.2.1, (prodE kd ng sc fr kd' ng' sc' fr').2.2.2.1, (prodE kd ng sc fr kd' ng' sc' fr').2.2.2.2.1, (prodE kd ng sc fr kd' ng' sc' fr').2.2.2.2.2, none)
   else (0, false, 0, 0, 0, false, some 1)) := by
 unfold prod_Exact.f
 refine Ev.bind (round_Of_eq kd ng sc fr (by omega) (by omega)) ?_
 by_cases h1 : soundN kd ng sc fr = true
 ·simp only [h1, if_true, Option.isNone_none, true_and]
  refine Ev.bind (round_Of_eq kd' ng' sc' fr' (by omega) (by omega)) ?_
  by_cases h2 : soundN kd' ng' sc' fr' = true
  ·simp only [h2, if_true, Option.isNone_none]
   have c1 := soundN_cases h1
   have c2 := soundN_cases h2
   have j1 : Ev (fun k => prod_Exact.j0 k (decide (kd = 2 ∨ kd' = 2)) kd ng sc (fr : Int) kd' ng' sc' (fr' : Int)) ((prodE kd ng sc fr kd' ng' sc' fr').1, (prodE kd ng sc fr kd' ng' sc' fr').2.1, (prodE kd ng sc fr kd' ng' sc' fr').2.2.1, (prodE kd ng sc fr kd' ng' sc' fr').2.2.2.1, (prodE kd ng sc fr kd' ng' sc' fr').2.2.2.2.1, (prodE kd ng sc fr kd' ng' sc' fr').2.2.2.2.2, none) := by
    refine evs ?_
    simp only [prod_Exact.j0]
    unfold prodE
    by_cases hk : kd = 2 ∨ kd' = 2
    ·simp only [if_pos hk, decide_eq_true hk, if_true]
     exact Ev.now _
    ·simp only [if_neg hk, decide_eq_false hk, Bool.false_eq_true, if_false]
     have j2 : Ev (fun k => prod_Exact.j1 k (decide (kd = 0 ∨ kd' = 0)) ng sc (fr : Int) ng' sc' (fr' : Int)) (if kd = 0 ∨ kd' = 0 then (0, false, 0, 0, 0, false, none) else makeV (ng != ng') (fr * fr') (sc + sc' - 126) false) := by
      refine evs ?_
      simp only [prod_Exact.j1]
      by_cases h0 : kd = 0 ∨ kd' = 0
      ·simp only [if_pos h0, decide_eq_true h0, if_true]
       exact Ev.now _
      ·simp only [if_neg h0, decide_eq_false h0, Bool.false_eq_true, if_false]
       have ew : wrap64 (wrap64 (sc + sc') - 126) = sc + sc' - 126 := by
        rw [w64 (n := sc + sc') (by omega) (by omega), w64 (by omega) (by omega)]
       rw [ew, twin_Mul_eq hf hf']
       simp only [Option.bind_some]
       have := round_Make_eq (ng != ng') (fr * fr') (sc + sc' - 126) false (mul_lt128 hf hf')
       simp only [Bool.false_eq_true, false_and, if_false] at this
       refine Ev.bind this ?_
       exact Ev.now _
     have key : ((if kd = 0 ∨ kd' = 0 then (0, false, 0, 0, 0, false, none) else makeV (ng != ng') (fr * fr') (sc + sc' - 126) false) : Int × Bool × Int × Int × Int × Bool × Option Int) = ((if kd = 0 ∨ kd' = 0 then (0, false, 0, 0, 0, false) else exactE (ng != ng') (fr * fr') (sc + sc' - 126) false).1, (if kd = 0 ∨ kd' = 0 then (0, false, 0, 0, 0, false) else exactE (ng != ng') (fr * fr') (sc + sc' - 126) false).2.1, (if kd = 0 ∨ kd' = 0 then (0, false, 0, 0, 0, false) else exactE (ng != ng') (fr * fr') (sc + sc' - 126) false).2.2.1, (if kd = 0 ∨ kd' = 0 then (0, false, 0, 0, 0, false) else exactE (ng != ng') (fr * fr') (sc + sc' - 126) false).2.2.2.1, (if kd = 0 ∨ kd' = 0 then (0, false, 0, 0, 0, false) else exactE (ng != ng') (fr * fr') (sc + sc' - 126) false).2.2.2.2.1, (if kd = 0 ∨ kd' = 0 then (0, false, 0, 0, 0, false) else exactE (ng != ng') (fr * fr') (sc + sc' - 126) false).2.2.2.2.2, none) := by
      by_cases h0 : kd = 0 ∨ kd' = 0
      ·simp only [if_pos h0]
      ·simp only [if_neg h0]
       exact makeV_exactE (mul_lt128 hf hf') (by omega) (by omega)
     rw [← key]
     by_cases hk0 : kd = 0
     ·have hd : (kd == 0) = decide (kd = 0 ∨ kd' = 0) := by rw [decide_eq_true (.inl hk0)]; simp [hk0]
      simp only [if_pos hk0, hd]
      exact j2
     ·have hd : (kd' == 0) = decide (kd = 0 ∨ kd' = 0) := by rw [beq_dec]; simp [hk0]
      simp only [if_neg hk0, hd]
      exact j2
   by_cases hk2 : kd = 2
   ·have hd : (kd == 2) = decide (kd = 2 ∨ kd' = 2) := by simp [hk2]
    simp only [if_pos hk2, hd]
    exact j1
   ·have hd : (kd' == 2) = decide (kd = 2 ∨ kd' = 2) := by rw [beq_dec]; simp [hk2]
    simp only [if_neg hk2, hd]
    exact j1
  ·simp only [if_neg h2]
   exact Ev.now _
 ·simp only [if_neg h1, if_neg (show ¬ (soundN kd ng sc fr = true ∧ soundN kd' ng' sc' fr' = true) from fun h => h1 h.1)]
  exact Ev.now _
theorem ref_sound (kd : Int) (ng : Bool) (sc fr : Int) : vernierref06_Sound.f kd ng sc fr = some (soundN kd ng sc fr) := by
 unfold vernierref06_Sound.f soundN
 by_cases h0 : kd = 0
 ·simp [h0]
 ·by_cases h2 : kd = 2
  ·simp [h2]
  ·rw [if_neg h0, if_neg h2, if_neg (show ¬ (kd = 0 ∨ kd = 2) by omega)]
   by_cases h1 : kd = 1
   ·rw [if_pos h1]
    by_cases h3 : fr ≥ 9223372036854775808
    ·rw [if_pos h3]
     by_cases h4 : sc ≥ -1073741824
     ·rw [if_pos h4]
      congr 1
      rw [decide_eq_decide]
      omega
     ·rw [if_neg h4, decide_eq_false (by omega)]
    ·rw [if_neg h3, decide_eq_false (by omega)]
   ·rw [if_neg h1, decide_eq_false (by omega)]
theorem ref10_Exact_eq (kd : Int) (ng : Bool) (sc : Int) (fr : Nat) (kd' : Int) (ng' : Bool) (sc' : Int) (fr' : Nat) (hf : fr < 18446744073709551616) (hf' : fr' < 18446744073709551616) :
  Ev (fun k => vernierref10_Exact.f k kd ng sc (fr : Int) kd' ng' sc' (fr' : Int)) (if soundN kd ng sc fr = true ∧ soundN kd' ng' sc' fr' = true then
   ((prodE kd ng sc fr kd' ng' sc' fr').1, (prodE kd ng sc fr kd' ng' sc' fr').2.1, (prodE kd ng sc fr kd' ng' sc' fr').2.2.1, (prodE kd ng sc fr kd' ng' sc' fr').2.2.2.1, (prodE kd ng sc fr kd' ng' sc' fr').2.2.2.2.1, (prodE kd ng sc fr kd' ng' sc' fr').2.2.2.2.2, 0)
   else (0, false, 0, 0, 0, false, 1)) := by
 unfold vernierref10_Exact.f
 simp only [ref_sound, Option.bind_some]
 have j0 : Ev (fun k => vernierref10_Exact.j0 k (!decide (soundN kd ng sc fr = true ∧ soundN kd' ng' sc' fr' = true)) kd ng sc (fr : Int) kd' ng' sc' (fr' : Int)) (if soundN kd ng sc fr = true ∧ soundN kd' ng' sc' fr' = true then
   ((prodE kd ng sc fr kd' ng' sc' fr').1, (prodE kd ng sc fr kd' ng' sc' fr').2.1, (prodE kd ng sc fr kd' ng' sc' fr').2.2.1, (prodE kd ng sc fr kd' ng' sc' fr').2.2.2.1, (prodE kd ng sc fr kd' ng' sc' fr').2.2.2.2.1, (prodE kd ng sc fr kd' ng' sc' fr').2.2.2.2.2, 0)
   else (0, false, 0, 0, 0, false, 1)) := by
  refine evs ?_
  simp only [vernierref10_Exact.j0, nI_eq]
  by_cases hs : soundN kd ng sc fr = true ∧ soundN kd' ng' sc' fr' = true
  ·simp only [if_pos hs, decide_eq_true hs, Bool.not_true, Bool.false_eq_true, if_false]
   have c1 := soundN_cases hs.1
   have c2 := soundN_cases hs.2
   have j1 : Ev (fun k => vernierref10_Exact.j1 k (decide (kd = 2 ∨ kd' = 2)) kd ng sc (fr : Int) kd' ng' sc' (fr' : Int)) ((prodE kd ng sc fr kd' ng' sc' fr').1, (prodE kd ng sc fr kd' ng' sc' fr').2.1, (prodE kd ng sc fr kd' ng' sc' fr').2.2.1, (prodE kd ng sc fr kd' ng' sc' fr').2.2.2.1, (prodE kd ng sc fr kd' ng' sc' fr').2.2.2.2.1, (prodE kd ng sc fr kd' ng' sc' fr').2.2.2.2.2, 0) := by
    refine evs ?_
    simp only [vernierref10_Exact.j1, nI_eq]
    unfold prodE
    by_cases hk : kd = 2 ∨ kd' = 2
    ·simp only [if_pos hk, decide_eq_true hk, if_true]
     exact Ev.now _
    ·simp only [if_neg hk, decide_eq_false hk, Bool.false_eq_true, if_false]
     have j2 : Ev (fun k => vernierref10_Exact.j2 k (decide (kd = 0 ∨ kd' = 0)) ng sc (fr : Int) ng' sc' (fr' : Int)) ((if kd = 0 ∨ kd' = 0 then (0, false, 0, 0, 0, false) else exactE (ng != ng') (fr * fr') (sc + sc' - 126) false).1, (if kd = 0 ∨ kd' = 0 then (0, false, 0, 0, 0, false) else exactE (ng != ng') (fr * fr') (sc + sc' - 126) false).2.1, (if kd = 0 ∨ kd' = 0 then (0, false, 0, 0, 0, false) else exactE (ng != ng') (fr * fr') (sc + sc' - 126) false).2.2.1, (if kd = 0 ∨ kd' = 0 then (0, false, 0, 0, 0, false) else exactE (ng != ng') (fr * fr') (sc + sc' - 126) false).2.2.2.1, (if kd = 0 ∨ kd' = 0 then (0, false, 0, 0, 0, false) else exactE (ng != ng') (fr * fr') (sc + sc' - 126) false).2.2.2.2.1, (if kd = 0 ∨ kd' = 0 then (0, false, 0, 0, 0, false) else exactE (ng != ng') (fr * fr') (sc + sc' - 126) false).2.2.2.2.2, 0) := by
      refine evs ?_
      simp only [vernierref10_Exact.j2]
      by_cases h0 : kd = 0 ∨ kd' = 0
      ·simp only [if_pos h0, decide_eq_true h0, if_true]
       exact Ev.now _
      ·simp only [if_neg h0, decide_eq_false h0, Bool.false_eq_true, if_false]
       obtain ⟨a, a1, a2⟩ := r4_Of fr hf
       obtain ⟨b, b1, b2⟩ := r4_Of fr' hf'
       have la : a.length ≤ 3 := a2.len_le (Nat.lt_of_lt_of_le hf (by decide))
       have lb : b.length ≤ 3 := b2.len_le (Nat.lt_of_lt_of_le hf' (by decide))
       obtain ⟨m, m1, m2⟩ := r4_Mul a2 b2 (by omega)
       have lm : m.length ≤ 6 := m2.len_le (Nat.lt_of_lt_of_le (mul_lt128 hf hf') (by decide))
       have ew : wrap64 (wrap64 (sc + sc') - 126) = sc + sc' - 126 := by
        rw [w64 (n := sc + sc') (by omega) (by omega), w64 (by omega) (by omega)]
       rw [ew]
       refine Ev.bind a1 (Ev.bind b1 (Ev.bind m1 (Ev.bind (ref_Exactly_eq m2 (by omega) (by omega) (by omega)) ?_)))
       exact Ev.now _
     by_cases hk0 : kd = 0
     ·have hd : true = decide (kd = 0 ∨ kd' = 0) := by simp [hk0]
      simp only [if_pos hk0]
      rw [← hd] at j2
      exact j2
     ·have hd : (kd' == 0) = decide (kd = 0 ∨ kd' = 0) := by rw [beq_dec]; simp [hk0]
      simp only [if_neg hk0, hd]
      exact j2
   by_cases hk2 : kd = 2
   ·have hd : true = decide (kd = 2 ∨ kd' = 2) := by simp [hk2]
    simp only [if_pos hk2]
    rw [← hd] at j1
    exact j1
   ·have hd : (kd' == 2) = decide (kd = 2 ∨ kd' = 2) := by rw [beq_dec]; simp [hk2]
    simp only [if_neg hk2, hd]
    exact j1
  ·simp only [if_neg hs, decide_eq_false hs, Bool.not_false, if_true]
   exact Ev.now _
 by_cases h1 : soundN kd ng sc fr = true
 ·have hd : (!soundN kd' ng' sc' fr') = (!decide (soundN kd ng sc fr = true ∧ soundN kd' ng' sc' fr' = true)) := by simp [h1]
  simp only [if_pos h1]
  simp only [h1] at j0 hd ⊢
  rw [hd]
  exact j0
 ·have hd : true = (!decide (soundN kd ng sc fr = true ∧ soundN kd' ng' sc' fr' = true)) := by simp [h1]
  simp only [if_neg h1]
  rw [← hd] at j0
  exact j0
def prodX (a b : NM) : EX := if a.kd = 2 ∨ b.kd = 2 then EX.nar else if a.kd = 0 ∨ b.kd = 0 then EX.zero else natX (a.ng != b.ng) (a.fr * b.fr) (a.sc + b.sc - 126) false
theorem prodX_ok (a b : NM) : (prodX a b).ok := by
 unfold prodX
 split
 ·exact .inr (.inl rfl)
 ·split
  ·exact .inl rfl
  ·exact natX_ok _ _ _ _
theorem prodE_X (a b : NM) : prodE a.kd a.ng a.sc a.fr b.kd b.ng b.sc b.fr = ((prodX a b).kd, (prodX a b).ng, (prodX a b).sc, TH (prodX a b).V, TL (prodX a b).V, (prodX a b).R) := by
 unfold prodE prodX
 by_cases h2 : a.kd = 2 ∨ b.kd = 2
 ·rw [if_pos h2, if_pos h2]; rfl
 ·rw [if_neg h2, if_neg h2]
  by_cases h0 : a.kd = 0 ∨ b.kd = 0
  ·rw [if_pos h0, if_pos h0]; rfl
  ·rw [if_neg h0, if_neg h0, exactE_natX]
theorem prod_Exact_X {a b : NM} (ha : a.ok) (hb : b.ok) : Ev (fun k => prod_Exact.f k a.kd a.ng a.sc (a.fr : Int) b.kd b.ng b.sc (b.fr : Int)) ((prodX a b).kd, (prodX a b).ng, (prodX a b).sc, TH (prodX a b).V, TL (prodX a b).V, (prodX a b).R, none) := by
 have := prod_Exact_eq a.kd a.ng a.sc a.fr b.kd b.ng b.sc b.fr ha.2 hb.2
 rw [if_pos ⟨ha.1, hb.1⟩, prodE_X] at this
 exact this
theorem ref10_Exact_X {a b : NM} (ha : a.ok) (hb : b.ok) : Ev (fun k => vernierref10_Exact.f k a.kd a.ng a.sc (a.fr : Int) b.kd b.ng b.sc (b.fr : Int)) ((prodX a b).kd, (prodX a b).ng, (prodX a b).sc, TH (prodX a b).V, TL (prodX a b).V, (prodX a b).R, 0) := by
 have := ref10_Exact_eq a.kd a.ng a.sc a.fr b.kd b.ng b.sc b.fr ha.2 hb.2
 rw [if_pos ⟨ha.1, hb.1⟩, prodE_X] at this
 exact this
end Go.Proofs.YtnjhblakghjdoaaGreat.V
namespace Go.Proofs.YtnjhblakghjdoaaGreat.V
open Go Go.RowKit Go.Proofs.YtnjhblakghjdoaaGreat.Ab Go.Proofs.YtnjhblakghjdoaaGreat.Fn
set_option linter.unusedVariables false
set_option linter.unusedSimpArgs false
theorem Of_X {x : NM} (h : x.ok) : Ev (fun k => round_Of.f k x.kd x.ng x.sc (x.fr : Int)) (x.ex.kd, x.ex.ng, x.ex.sc, TH x.ex.V, TL x.ex.V, x.ex.R, none) := by
 have := round_Of_eq x.kd x.ng x.sc (x.fr : Int) (by have := h.2; omega) (by omega)
 rw [if_pos h.1] at this
 rw [(NM.ex_tup x h).1, (NM.ex_tup x h).2]
 exact this
theorem ref_Of_X {x : NM} (h : x.ok) : vernierref07_Of.f x.kd x.ng x.sc (x.fr : Int) = some (x.ex.kd, x.ex.ng, x.ex.sc, TH x.ex.V, TL x.ex.V, x.ex.R, 0) := by
 unfold vernierref07_Of.f
 rw [ref_sound, h.1, Option.bind_some, if_pos rfl, (NM.ex_tup x h).1, (NM.ex_tup x h).2]
 rfl
end Go.Proofs.YtnjhblakghjdoaaGreat.V
namespace Go.Proofs.YtnjhblakghjdoaaGreat.V
open Go Go.RowKit Go.Proofs.YtnjhblakghjdoaaGreat.Ab Go.Proofs.YtnjhblakghjdoaaGreat.Fn
set_option linter.unusedVariables false
set_option linter.unusedSimpArgs false
def convN (n m x : Nat) : Nat := (decN n x).ex.rnd m
theorem convN_lt {n m x : Nat} (h8 : 8 ≤ n) (hn : n ≤ 64) (g8 : 8 ≤ m) (hm : m ≤ 64) (hx : x < 2 ^ n) : convN n m x < 2 ^ m := EX.rnd_lt g8 hm (NM.ex_ok (decN_ok h8 hn hx))
theorem gen_Convert_eq {n m p : Nat} (hn : isW (n : Int) = true) (hm : isW (m : Int) = true) (hp : p < 18446744073709551616) : Ev (fun k => gen_Convert.f k (n : Int) (m : Int) (p : Int)) (((convN n m (p % 2 ^ n) : Nat) : Int), none) := by
 obtain ⟨b64, b8⟩ := pow64 hn
 have oa := decN_ok b8 b64 (Nat.mod_lt p (two_pos n))
 unfold gen_Convert.f
 refine Ev.bind (evn (shape_Of_eq hm)) ?_
 simp only [Option.isNone_none, if_true]
 refine Ev.bind (Decode_N hn hp) ?_
 simp only [Option.isNone_none, if_true]
 exact Ev.bind (Of_X oa) (Ev.bind (Round_X hm (NM.ex_ok oa)) (Ev.now _))
end Go.Proofs.YtnjhblakghjdoaaGreat.V
namespace Go.Proofs.YtnjhblakghjdoaaGreat.V
open Go Go.RowKit Go.Proofs.YtnjhblakghjdoaaGreat.Ab Go.Proofs.YtnjhblakghjdoaaGreat.Fn
set_option linter.unusedVariables false
set_option linter.unusedSimpArgs false
def sumE (a b d : Nat) (g h : Bool) (e : Int) : EX := if g = h then natX g (a * 2 ^ d + b) e false else if b ≤ a * 2 ^ d then natX g (a * 2 ^ d - b) e false else natX h (b - a * 2 ^ d) e false
theorem EX.real {x : EX} (hx : x.ok) (kx : x.kd = 1) : 2 ^ 127 ≤ x.V ∧ x.V < 2 ^ 128 ∧ -1099511627776 ≤ x.sc ∧ x.sc ≤ 1099511627776 := by
 rcases hx with rfl | rfl | hx
 ·exact absurd kx (by decide)
 ·exact absurd kx (by decide)
 ·exact hx.2
theorem sumX_E {x y : EX} (hx : x.kd = 1) (hy : y.kd = 1) (h : y.sc ≤ x.sc) {d : Nat} (hd : (x.sc - y.sc).toNat = d) : sumX x y = sumE x.V y.V d x.ng y.ng (y.sc - 127) := by
 unfold sumE
 by_cases hs : x.ng = y.ng
 ·rw [if_pos hs, sumX_same hx hy h hd hs]
 ·rw [if_neg hs]
  by_cases hle : y.V ≤ x.V * 2 ^ d
  ·rw [if_pos hle, sumX_ge hx hy h hd hs hle]
  ·rw [if_neg hle, sumX_lt hx hy h hd hs (Nat.le_of_not_le hle)]
theorem far_add (g : Bool) {a b t : Nat} (e : Int) (ha : 2 ^ 127 ≤ a) (h0 : 0 < b) (h1 : b < 2 ^ t) : natX g (a * 2 ^ (200 + t) + b) e false = natX g (a * 2 ^ 200) (e + t) true := by
 have ea : a * 2 ^ (200 + t) + b = 2 ^ t * (a * 2 ^ 200) + b := by rw [Nat.pow_add]; grind
 have hT : (a * 2 ^ (200 + t) + b) / 2 ^ t = a * 2 ^ 200 := by rw [ea, Nat.mul_add_div (two_pos t), Nat.div_eq_of_lt h1, Nat.add_zero]
 have hm : (a * 2 ^ (200 + t) + b) % 2 ^ t = b := by rw [ea, Nat.mul_add_mod, Nat.mod_eq_of_lt h1]
 rw [natX_trunc g e false hT (Nat.le_trans ha (Nat.le_mul_of_pos_right a (two_pos 200))), hm, decide_eq_true (by omega), Bool.false_or]
theorem sub_form {P A b : Nat} (hA : 1 ≤ A) (hb : b < P) : P * A - b = P * (A - 1) + (P - b) := by
 obtain ⟨c, rfl⟩ : ∃ c, A = c + 1 := ⟨A - 1, by omega⟩
 rw [Nat.add_sub_cancel, Nat.mul_add, Nat.mul_one]
 omega
theorem far_sub (g : Bool) {a b t : Nat} (e : Int) (ha : 2 ^ 127 ≤ a) (h0 : 0 < b) (h1 : b < 2 ^ t) : natX g (a * 2 ^ (200 + t) - b) e false = natX g (a * 2 ^ 200 - 1) (e + t) true := by
 have p2 := two_pos 200
 have hA : 2 ^ 127 * 2 ^ 200 ≤ a * 2 ^ 200 := Nat.mul_le_mul_right _ ha
 have hA2 : 2 ^ 127 ≤ a * 2 ^ 200 - 1 := by
  have : (2 : Nat) ^ 127 + 1 ≤ 2 ^ 127 * 2 ^ 200 := by decide +kernel
  exact Nat.le_sub_of_add_le (Nat.le_trans this hA)
 have hA1 : 1 ≤ a * 2 ^ 200 := Nat.le_trans (two_pos 127) (Nat.le_trans hA2 (Nat.sub_le _ _))
 have ea : a * 2 ^ (200 + t) - b = 2 ^ t * (a * 2 ^ 200 - 1) + (2 ^ t - b) := by
  rw [Nat.pow_add, show a * (2 ^ 200 * 2 ^ t) = 2 ^ t * (a * 2 ^ 200) by grind]
  exact sub_form hA1 h1
 have hl : 2 ^ t - b < 2 ^ t := by omega
 have hT : (a * 2 ^ (200 + t) - b) / 2 ^ t = a * 2 ^ 200 - 1 := by rw [ea, Nat.mul_add_div (two_pos t), Nat.div_eq_of_lt hl, Nat.add_zero]
 have hm : (a * 2 ^ (200 + t) - b) % 2 ^ t = 2 ^ t - b := by rw [ea, Nat.mul_add_mod, Nat.mod_eq_of_lt hl]
 rw [natX_trunc g e false hT hA2, hm, decide_eq_true (by omega), Bool.false_or]
theorem sumE_far {a b d : Nat} {g h : Bool} {e : Int} (hd : 400 < d) (ha : 2 ^ 127 ≤ a) (h0 : 0 < b) (h1 : b < 2 ^ 128) : sumE a b d g h e = sumE a 1 400 g h (e + ((d : Int) - 400)) := by
 obtain ⟨t, rfl⟩ : ∃ t, d = 200 + t := ⟨d - 200, by omega⟩
 have hb : b < 2 ^ t := Nat.lt_trans h1 (pow_lt (by omega))
 obtain ⟨u, hu⟩ : ∃ u : Nat, u = 200 := ⟨_, rfl⟩
 have h2 : (1 : Nat) < 2 ^ u := pow_lt (a := 0) (by omega)
 have c1 : b ≤ a * 2 ^ (200 + t) := by
  have : 2 ^ t ≤ 2 ^ (200 + t) := pow_le (by omega)
  exact Nat.le_trans (Nat.le_of_lt hb) (Nat.le_trans this (Nat.le_mul_of_pos_left _ (Nat.lt_of_lt_of_le (two_pos 127) ha)))
 have c2 : 1 ≤ a * 2 ^ (200 + u) := Nat.le_trans (two_pos _) (Nat.le_mul_of_pos_left _ (Nat.lt_of_lt_of_le (two_pos 127) ha))
 have ee : e + (((200 + t : Nat) : Int) - 400) + (u : Int) = e + (t : Int) := by omega
 unfold sumE
 rw [if_pos c1]
 rw [show (400 : Nat) = 200 + u by omega, if_pos c2, far_add g e ha h0 hb, far_sub g e ha h0 hb, far_add g _ ha (by decide) h2, far_sub g _ ha (by decide) h2, ee]
theorem wide_W {x a b i : Nat} (h : x < 2 ^ a * 2 ^ b) (hi : a + b ≤ 24 * i) : x < W i := by
 rw [← Nat.pow_add] at h
 exact Nat.lt_of_lt_of_le h (pow_le hi)
theorem wide_add {x y a b : Nat} (h : x < 2 ^ a * 2 ^ b) (hy : y < 2 ^ a) : x + y < 2 ^ a * 2 ^ (b + 1) := by
 have h1 : 2 ^ a ≤ 2 ^ a * 2 ^ b := Nat.le_mul_of_pos_right _ (two_pos b)
 rw [Nat.pow_succ, ← Nat.mul_assoc]
 omega
theorem cmpN_ge {A B : Nat} : cmpN A B ≥ 0 ↔ B ≤ A := by
 unfold cmpN
 repeat' split
 all_goals omega
theorem ref_Exactly_tup {x : List Int} {m : Nat} {e : Int} {ng R : Bool} (hx : DL x m) (hn : x.length ≤ 800) (h0 : -2305843009213693952 ≤ e) (h1 : e ≤ 2305843009213693952) :
  Ev (fun k => vernierref07_Exactly.f k ng x e R) (natX ng m e R).tup := by
 have := ref_Exactly_eq (ng := ng) (R := R) hx hn h0 h1
 rw [exactE_natX] at this
 exact this
theorem ref09_Sum_0_j1 {a b : List Int} {A B d : Nat} (ha : DL a A) (hb : DL b B) (lA : A < 2 ^ 128) (lB : B < 2 ^ 128) (hd : d ≤ 400) {g h : Bool} {s : Int} (s0 : -1099511627776 ≤ s) (s1 : s ≤ 1099511627776) :
  Ev (fun k => vernierref09_Sum_0.j1 k a b (d : Int) g s h) (sumE A B d g h (s - 127 - d)).tup := by
 refine evs ?_
 simp only [vernierref09_Sum_0.j1]
 have la : a.length ≤ 6 := ha.len_le (Nat.lt_of_lt_of_le lA (by decide))
 have lb : b.length ≤ 6 := hb.len_le (Nat.lt_of_lt_of_le lB (by decide))
 obtain ⟨c, c1, c2⟩ := r4_Shl ha (k := d) (by omega) (by omega)
 obtain ⟨n, hn⟩ : ∃ n : Nat, n = 400 := ⟨_, rfl⟩
 have hAd : A * 2 ^ d < 2 ^ 128 * 2 ^ n := Nat.lt_of_lt_of_le (Nat.mul_lt_mul_of_pos_right lA (two_pos d)) (Nat.mul_le_mul_left _ (pow_le (by omega)))
 have lc : c.length ≤ 22 := c2.len_le (wide_W hAd (by omega))
 have he : wrap64 (wrap64 (s - 127) - (d : Int)) = s - 127 - d := by rw [w64 (n := s - 127) (by omega) (by omega), w64 (by omega) (by omega)]
 refine Ev.bind c1 ?_
 rw [he]
 unfold sumE
 by_cases hg : g = h
 ·simp only [if_pos (beq_iff_eq.2 hg), if_pos hg]
  obtain ⟨r, r1, r2⟩ := r4_Add c2 hb (by omega) (by omega)
  have hs : A * 2 ^ d + B < 2 ^ 128 * 2 ^ (n + 1) := wide_add hAd lB
  have lr : r.length ≤ 23 := r2.len_le (wide_W hs (by omega))
  refine Ev.bind r1 (Ev.bind (ref_Exactly_tup r2 (by omega) (by omega) (by omega)) (Ev.now _))
 ·simp only [if_neg (fun h => hg (beq_iff_eq.1 h) : ¬ (g == h) = true), if_neg hg]
  refine Ev.bind (r4_Cmp c2 hb (by omega) (by omega)) ?_
  have hc := @cmpN_ge (A * 2 ^ d) B
  by_cases hle : B ≤ A * 2 ^ d
  ·simp only [if_pos (hc.2 hle), if_pos hle]
   obtain ⟨r, r1, r2⟩ := r4_Sub c2 hb hle (by omega)
   have lr : r.length ≤ 22 := r2.len_le (wide_W (Nat.lt_of_le_of_lt (Nat.sub_le _ _) hAd) (by omega))
   refine Ev.bind r1 (Ev.bind (ref_Exactly_tup r2 (by omega) (by omega) (by omega)) (Ev.now _))
  ·simp only [if_neg (fun h => hle (hc.1 h)), if_neg hle]
   obtain ⟨r, r1, r2⟩ := r4_Sub hb c2 (Nat.le_of_not_le hle) (by omega)
   have lr : r.length ≤ 6 := r2.len_le (Nat.lt_of_le_of_lt (Nat.sub_le _ _) (Nat.lt_of_lt_of_le lB (by decide)))
   refine Ev.bind r1 (Ev.bind (ref_Exactly_tup r2 (by omega) (by omega) (by omega)) (Ev.now _))
theorem ref09_Sum_0_real {x y : EX} (hx : x.ok) (hy : y.ok) (kx : x.kd = 1) (ky : y.kd = 1) (h : y.sc ≤ x.sc) :
  Ev (fun k => vernierref09_Sum_0.j0 k false x.kd x.ng x.sc (TH x.V) (TL x.V) x.R y.kd y.ng y.sc (TH y.V) (TL y.V) y.R) (sumX x y).tup := by
 obtain ⟨vx, lx, s0, s1⟩ := EX.real hx kx
 obtain ⟨vy, ly, t0, t1⟩ := EX.real hy ky
 obtain ⟨d, hd⟩ : ∃ d, (x.sc - y.sc).toNat = d := ⟨_, rfl⟩
 have hd' : x.sc - y.sc = (d : Int) := by omega
 have hw : wrap64 (x.sc - y.sc) = (d : Int) := by rw [w64 (by omega) (by omega)]; exact hd'
 refine evs ?_
 simp only [vernierref09_Sum_0.j0]
 simp only [if_neg (show ¬ (false = true) by decide), if_neg (show ¬ x.kd = 0 by omega), if_neg (show ¬ y.kd = 0 by omega), if_neg (show ¬ x.sc < y.sc by omega), hw]
 obtain ⟨a, a1, a2⟩ := ref02_Of_eq lx
 obtain ⟨b, b1, b2⟩ := ref02_Of_eq ly
 refine Ev.bind a1 (Ev.bind b1 ?_)
 rw [sumX_E kx ky h hd]
 by_cases h4 : (d : Int) > 400
 ·simp only [if_pos h4]
  rw [sumE_far (by omega) vx (Nat.lt_of_lt_of_le (two_pos 127) vy) ly, show y.sc - 127 + ((d : Int) - 400) = x.sc - 127 - ((400 : Nat) : Int) by omega]
  exact ref09_Sum_0_j1 a2 one_DL lx (by decide) (by decide) s0 s1
 ·simp only [if_neg h4]
  rw [show y.sc - 127 = x.sc - 127 - (d : Int) by omega]
  exact ref09_Sum_0_j1 a2 b2 lx ly (by omega) s0 s1
theorem ref09_Sum_j1 {a b : List Int} {A B d : Nat} (ha : DL a A) (hb : DL b B) (lA : A < 2 ^ 128) (lB : B < 2 ^ 128) (hd : d ≤ 400) {g h : Bool} {s : Int} (s0 : -1099511627776 ≤ s) (s1 : s ≤ 1099511627776) :
  Ev (fun k => vernierref09_Sum.j1 k a b (d : Int) g s h) (sumE A B d g h (s - 127 - d)).tup := by
 refine evs ?_
 simp only [vernierref09_Sum.j1]
 have la : a.length ≤ 6 := ha.len_le (Nat.lt_of_lt_of_le lA (by decide))
 have lb : b.length ≤ 6 := hb.len_le (Nat.lt_of_lt_of_le lB (by decide))
 obtain ⟨c, c1, c2⟩ := r4_Shl ha (k := d) (by omega) (by omega)
 obtain ⟨n, hn⟩ : ∃ n : Nat, n = 400 := ⟨_, rfl⟩
 have hAd : A * 2 ^ d < 2 ^ 128 * 2 ^ n := Nat.lt_of_lt_of_le (Nat.mul_lt_mul_of_pos_right lA (two_pos d)) (Nat.mul_le_mul_left _ (pow_le (by omega)))
 have lc : c.length ≤ 22 := c2.len_le (wide_W hAd (by omega))
 have he : wrap64 (wrap64 (s - 127) - (d : Int)) = s - 127 - d := by rw [w64 (n := s - 127) (by omega) (by omega), w64 (by omega) (by omega)]
 refine Ev.bind c1 ?_
 rw [he]
 unfold sumE
 by_cases hg : g = h
 ·simp only [if_pos (beq_iff_eq.2 hg), if_pos hg]
  obtain ⟨r, r1, r2⟩ := r4_Add c2 hb (by omega) (by omega)
  have hs : A * 2 ^ d + B < 2 ^ 128 * 2 ^ (n + 1) := wide_add hAd lB
  have lr : r.length ≤ 23 := r2.len_le (wide_W hs (by omega))
  refine Ev.bind r1 (Ev.bind (ref_Exactly_tup r2 (by omega) (by omega) (by omega)) (Ev.now _))
 ·simp only [if_neg (fun h => hg (beq_iff_eq.1 h) : ¬ (g == h) = true), if_neg hg]
  refine Ev.bind (r4_Cmp c2 hb (by omega) (by omega)) ?_
  have hc := @cmpN_ge (A * 2 ^ d) B
  by_cases hle : B ≤ A * 2 ^ d
  ·simp only [if_pos (hc.2 hle), if_pos hle]
   obtain ⟨r, r1, r2⟩ := r4_Sub c2 hb hle (by omega)
   have lr : r.length ≤ 22 := r2.len_le (wide_W (Nat.lt_of_le_of_lt (Nat.sub_le _ _) hAd) (by omega))
   refine Ev.bind r1 (Ev.bind (ref_Exactly_tup r2 (by omega) (by omega) (by omega)) (Ev.now _))
  ·simp only [if_neg (fun h => hle (hc.1 h)), if_neg hle]
   obtain ⟨r, r1, r2⟩ := r4_Sub hb c2 (Nat.le_of_not_le hle) (by omega)
   have lr : r.length ≤ 6 := r2.len_le (Nat.lt_of_le_of_lt (Nat.sub_le _ _) (Nat.lt_of_lt_of_le lB (by decide)))
   refine Ev.bind r1 (Ev.bind (ref_Exactly_tup r2 (by omega) (by omega) (by omega)) (Ev.now _))
theorem ref09_Sum_real {x y : EX} (hx : x.ok) (hy : y.ok) (kx : x.kd = 1) (ky : y.kd = 1) (h : y.sc ≤ x.sc) :
  Ev (fun k => vernierref09_Sum.j0 k false x.kd x.ng x.sc (TH x.V) (TL x.V) x.R y.kd y.ng y.sc (TH y.V) (TL y.V) y.R) (sumX x y).tup := by
 obtain ⟨vx, lx, s0, s1⟩ := EX.real hx kx
 obtain ⟨vy, ly, t0, t1⟩ := EX.real hy ky
 obtain ⟨d, hd⟩ : ∃ d, (x.sc - y.sc).toNat = d := ⟨_, rfl⟩
 have hd' : x.sc - y.sc = (d : Int) := by omega
 have hw : wrap64 (x.sc - y.sc) = (d : Int) := by rw [w64 (by omega) (by omega)]; exact hd'
 refine evs ?_
 simp only [vernierref09_Sum.j0]
 simp only [if_neg (show ¬ (false = true) by decide), if_neg (show ¬ x.kd = 0 by omega), if_neg (show ¬ y.kd = 0 by omega), if_neg (show ¬ x.sc < y.sc by omega), hw]
 obtain ⟨a, a1, a2⟩ := ref02_Of_eq lx
 obtain ⟨b, b1, b2⟩ := ref02_Of_eq ly
 refine Ev.bind a1 (Ev.bind b1 ?_)
 rw [sumX_E kx ky h hd]
 by_cases h4 : (d : Int) > 400
 ·simp only [if_pos h4]
  rw [sumE_far (by omega) vx (Nat.lt_of_lt_of_le (two_pos 127) vy) ly, show y.sc - 127 + ((d : Int) - 400) = x.sc - 127 - ((400 : Nat) : Int) by omega]
  exact ref09_Sum_j1 a2 one_DL lx (by decide) (by decide) s0 s1
 ·simp only [if_neg h4]
  rw [show y.sc - 127 = x.sc - 127 - (d : Int) by omega]
  exact ref09_Sum_j1 a2 b2 lx ly (by omega) s0 s1
end Go.Proofs.YtnjhblakghjdoaaGreat.V
namespace Go.Proofs.YtnjhblakghjdoaaGreat.V
open Go Go.RowKit Go.Proofs.YtnjhblakghjdoaaGreat.Ab Go.Proofs.YtnjhblakghjdoaaGreat.Fn
set_option linter.unusedVariables false
set_option linter.unusedSimpArgs false
theorem EX.ok_kd {x : EX} (hx : x.ok) : x.kd = 0 ∨ x.kd = 1 ∨ x.kd = 2 := by
 rcases hx with rfl | rfl | hx
 ·exact .inl rfl
 ·exact .inr (.inr rfl)
 ·exact .inr (.inl hx.1)
theorem sumX_nar {x y : EX} (h : x.kd = 2 ∨ y.kd = 2) : sumX x y = EX.nar := by unfold sumX; rw [if_pos h]
theorem sumX_z1 {x y : EX} (h : ¬ (x.kd = 2 ∨ y.kd = 2)) (h1 : x.kd = 0) : sumX x y = y := by unfold sumX; rw [if_neg h, if_pos h1]
theorem sumX_z2 {x y : EX} (h : ¬ (x.kd = 2 ∨ y.kd = 2)) (h1 : ¬ x.kd = 0) (h2 : y.kd = 0) : sumX x y = x := by unfold sumX; rw [if_neg h, if_neg h1, if_pos h2]
theorem broad_Sum_j0 {x y : EX} (hx : x.ok) (hy : y.ok) : Ev (fun k => broad_Sum.j0 k (decide (x.kd = 2 ∨ y.kd = 2)) x.kd x.ng x.sc (TH x.V) (TL x.V) x.R y.kd y.ng y.sc (TH y.V) (TL y.V) y.R) (sumX x y).tup := by
 refine evs ?_
 simp only [broad_Sum.j0]
 by_cases h : x.kd = 2 ∨ y.kd = 2
 ·simp only [if_pos (decide_eq_true h)]
  rw [sumX_nar h]
  exact Ev.now _
 ·simp only [if_neg (fun h' => h (of_decide_eq_true h') : ¬ decide (x.kd = 2 ∨ y.kd = 2) = true)]
  by_cases a : x.kd = 0
  ·simp only [if_pos a]
   rw [sumX_z1 h a]
   exact Ev.now _
  ·simp only [if_neg a]
   by_cases b : y.kd = 0
   ·simp only [if_pos b]
    rw [sumX_z2 h a b]
    exact Ev.now _
   ·simp only [if_neg b]
    have kx : x.kd = 1 := by have := EX.ok_kd hx; omega
    have ky : y.kd = 1 := by have := EX.ok_kd hy; omega
    by_cases c : x.sc < y.sc
    ·simp only [if_pos c]
     rw [sumX_comm hx hy]
     exact Sum_j1 hy hx ky kx (Int.le_of_lt c)
    ·simp only [if_neg c]
     exact Sum_j1 hx hy kx ky (Int.not_lt.1 c)
theorem broad_Sum_X {x y : EX} (hx : x.ok) (hy : y.ok) : Ev (fun k => broad_Sum.f k x.kd x.ng x.sc (TH x.V) (TL x.V) x.R y.kd y.ng y.sc (TH y.V) (TL y.V) y.R) (sumX x y).tup := by
 have h := broad_Sum_j0 hx hy
 unfold broad_Sum.f
 by_cases a : x.kd = 2
 ·simp only [if_pos a]
  rw [decide_eq_true (Or.inl a)] at h
  exact h
 ·simp only [if_neg a]
  rw [show decide (x.kd = 2 ∨ y.kd = 2) = (y.kd == 2) by rw [Bool.eq_iff_iff]; simp [a]] at h
  exact h
theorem sum_Exact_X {a b : NM} (ha : a.ok) (hb : b.ok) : Ev (fun k => sum_Exact.f k a.kd a.ng a.sc (a.fr : Int) b.kd b.ng b.sc (b.fr : Int)) ((sumX a.ex b.ex).kd, (sumX a.ex b.ex).ng, (sumX a.ex b.ex).sc, TH (sumX a.ex b.ex).V, TL (sumX a.ex b.ex).V, (sumX a.ex b.ex).R, none) := by
 unfold sum_Exact.f
 refine Ev.bind (Of_X ha) ?_
 simp only [Option.isNone_none, if_true]
 refine Ev.bind (Of_X hb) ?_
 simp only [Option.isNone_none, if_true]
 exact Ev.bind (broad_Sum_X (NM.ex_ok ha) (NM.ex_ok hb)) (Ev.now _)
theorem ref09_Sum_0_X {x y : EX} (hx : x.ok) (hy : y.ok) (kx : x.kd = 1) (ky : y.kd = 1) (h : y.sc ≤ x.sc) : Ev (fun k => vernierref09_Sum_0.f k x.kd x.ng x.sc (TH x.V) (TL x.V) x.R y.kd y.ng y.sc (TH y.V) (TL y.V) y.R) (sumX x y).tup := by
 unfold vernierref09_Sum_0.f
 simp only [if_neg (show ¬ x.kd = 2 by omega)]
 rw [show (y.kd == 2) = false by rw [ky]; rfl]
 exact ref09_Sum_0_real hx hy kx ky h
theorem ref09_Sum_j0 {x y : EX} (hx : x.ok) (hy : y.ok) : Ev (fun k => vernierref09_Sum.j0 k (decide (x.kd = 2 ∨ y.kd = 2)) x.kd x.ng x.sc (TH x.V) (TL x.V) x.R y.kd y.ng y.sc (TH y.V) (TL y.V) y.R) (sumX x y).tup := by
 have main := ref09_Sum_real hx hy
 by_cases h : x.kd = 2 ∨ y.kd = 2
 ·refine evs ?_
  simp only [vernierref09_Sum.j0]
  simp only [if_pos (decide_eq_true h)]
  rw [sumX_nar h]
  exact Ev.now _
 ·have hf : decide (x.kd = 2 ∨ y.kd = 2) = false := decide_eq_false h
  by_cases a : x.kd = 0
  ·refine evs ?_
   simp only [vernierref09_Sum.j0]
   simp only [hf, if_neg (show ¬ (false = true) by decide), if_pos a]
   rw [sumX_z1 h a]
   exact Ev.now _
  ·by_cases b : y.kd = 0
   ·refine evs ?_
    simp only [vernierref09_Sum.j0]
    simp only [hf, if_neg (show ¬ (false = true) by decide), if_neg a, if_pos b]
    rw [sumX_z2 h a b]
    exact Ev.now _
   ·have kx : x.kd = 1 := by have := EX.ok_kd hx; omega
    have ky : y.kd = 1 := by have := EX.ok_kd hy; omega
    by_cases c : x.sc < y.sc
    ·refine evs ?_
     simp only [vernierref09_Sum.j0]
     simp only [hf, if_neg (show ¬ (false = true) by decide), if_neg a, if_neg b, if_pos c]
     rw [sumX_comm hx hy]
     exact Ev.bind (ref09_Sum_0_X hy hx ky kx (Int.le_of_lt c)) (Ev.now _)
    ·rw [hf]
     exact main kx ky (Int.not_lt.1 c)
theorem ref09_Sum_X {x y : EX} (hx : x.ok) (hy : y.ok) : Ev (fun k => vernierref09_Sum.f k x.kd x.ng x.sc (TH x.V) (TL x.V) x.R y.kd y.ng y.sc (TH y.V) (TL y.V) y.R) (sumX x y).tup := by
 have h := ref09_Sum_j0 hx hy
 unfold vernierref09_Sum.f
 by_cases a : x.kd = 2
 ·simp only [if_pos a]
  rw [decide_eq_true (Or.inl a)] at h
  exact h
 ·simp only [if_neg a]
  rw [show decide (x.kd = 2 ∨ y.kd = 2) = (y.kd == 2) by rw [Bool.eq_iff_iff]; simp [a]] at h
  exact h
def addN (n x y : Nat) : Nat := (sumX (decN n x).ex (decN n y).ex).rnd n
theorem addN_lt {n x y : Nat} (h8 : 8 ≤ n) (hn : n ≤ 64) (hx : x < 2 ^ n) (hy : y < 2 ^ n) : addN n x y < 2 ^ n := EX.rnd_lt h8 hn (sumX_ok (NM.ex_ok (decN_ok h8 hn hx)) (NM.ex_ok (decN_ok h8 hn hy)))
theorem sum_Add_eq {n a b : Nat} (h : isW (n : Int) = true) (ha : a < 18446744073709551616) (hb : b < 18446744073709551616) : Ev (fun k => sum_Add.f k (n : Int) (a : Int) (b : Int)) (((addN n (a % 2 ^ n) (b % 2 ^ n) : Nat) : Int), none) := by
 obtain ⟨b64, b8⟩ := pow64 h
 have oa := decN_ok b8 b64 (Nat.mod_lt a (two_pos n))
 have ob := decN_ok b8 b64 (Nat.mod_lt b (two_pos n))
 unfold sum_Add.f
 refine Ev.bind (Decode_N h ha) ?_
 simp only [Option.isNone_none, if_true]
 refine Ev.bind (Decode_N h hb) (Ev.bind (sum_Exact_X oa ob) ?_)
 simp only [Option.isNone_none, if_true]
 exact Ev.bind (Round_X h (sumX_ok (NM.ex_ok oa) (NM.ex_ok ob))) (Ev.now _)
end Go.Proofs.YtnjhblakghjdoaaGreat.V
namespace Go.Proofs.YtnjhblakghjdoaaGreat.V
open Go Go.RowKit Go.Proofs.YtnjhblakghjdoaaGreat.Ab Go.Proofs.YtnjhblakghjdoaaGreat.Fn
set_option linter.unusedVariables false
set_option linter.unusedSimpArgs false
def prdX (n x y : Nat) : EX := prodX (decN n x) (decN n y)
theorem prdX_ok (n x y : Nat) : (prdX n x y).ok := prodX_ok _ _
def fmaN (n x y z : Nat) : Nat := (sumX (prdX n x y) (decN n z).ex).rnd n
theorem fuse_product_eq {n a b : Nat} (h : isW (n : Int) = true) (ha : a < 18446744073709551616) (hb : b < 18446744073709551616) : Ev (fun k => fuse_product.f k (n : Int) (a : Int) (b : Int)) ((prdX n (a % 2 ^ n) (b % 2 ^ n)).kd, (prdX n (a % 2 ^ n) (b % 2 ^ n)).ng, (prdX n (a % 2 ^ n) (b % 2 ^ n)).sc, TH (prdX n (a % 2 ^ n) (b % 2 ^ n)).V, TL (prdX n (a % 2 ^ n) (b % 2 ^ n)).V, (prdX n (a % 2 ^ n) (b % 2 ^ n)).R, none) := by
 obtain ⟨b64, b8⟩ := pow64 h
 have oa := decN_ok b8 b64 (Nat.mod_lt a (two_pos n))
 have ob := decN_ok b8 b64 (Nat.mod_lt b (two_pos n))
 unfold fuse_product.f
 refine Ev.bind (Decode_N h ha) ?_
 simp only [Option.isNone_none, if_true]
 exact Ev.bind (Decode_N h hb) (Ev.bind (prod_Exact_X oa ob) (Ev.now _))
theorem fuse_Fma_eq {n a b c : Nat} (h : isW (n : Int) = true) (ha : a < 18446744073709551616) (hb : b < 18446744073709551616) (hc : c < 18446744073709551616) : Ev (fun k => fuse_Fma.f k (n : Int) (a : Int) (b : Int) (c : Int)) (((fmaN n (a % 2 ^ n) (b % 2 ^ n) (c % 2 ^ n) : Nat) : Int), none) := by
 obtain ⟨b64, b8⟩ := pow64 h
 have oc := decN_ok b8 b64 (Nat.mod_lt c (two_pos n))
 have op := prdX_ok n (a % 2 ^ n) (b % 2 ^ n)
 unfold fuse_Fma.f
 refine Ev.bind (fuse_product_eq h ha hb) ?_
 simp only [Option.isNone_none, if_true]
 exact Ev.bind (Decode_N h hc) (Ev.bind (Of_X oc) (Ev.bind (broad_Sum_X op (NM.ex_ok oc)) (Ev.bind (Round_X h (sumX_ok op (NM.ex_ok oc))) (Ev.now _))))
theorem ref13_product_eq {n a b : Nat} (h : isW (n : Int) = true) (ha : a < 18446744073709551616) (hb : b < 18446744073709551616) : Ev (fun k => vernierref13_product.f k (n : Int) (a : Int) (b : Int)) (prdX n (a % 2 ^ n) (b % 2 ^ n)).tup := by
 obtain ⟨b64, b8⟩ := pow64 h
 have oa := decN_ok b8 b64 (Nat.mod_lt a (two_pos n))
 have ob := decN_ok b8 b64 (Nat.mod_lt b (two_pos n))
 unfold vernierref13_product.f
 exact Ev.bind (ref_Decode_N h ha) (Ev.bind (ref_Decode_N h hb) (Ev.bind (ref10_Exact_X oa ob) (Ev.now _)))
theorem ref13_Fma_eq {n a b c : Nat} (h : isW (n : Int) = true) (ha : a < 18446744073709551616) (hb : b < 18446744073709551616) (hc : c < 18446744073709551616) : Ev (fun k => vernierref13_Fma.f k (n : Int) (a : Int) (b : Int) (c : Int)) ((fmaN n (a % 2 ^ n) (b % 2 ^ n) (c % 2 ^ n) : Nat) : Int) := by
 obtain ⟨b64, b8⟩ := pow64 h
 have oc := decN_ok b8 b64 (Nat.mod_lt c (two_pos n))
 have op := prdX_ok n (a % 2 ^ n) (b % 2 ^ n)
 unfold vernierref13_Fma.f
 exact Ev.bind (ref_Decode_N h hc) (Ev.bind (evn (ref_Of_X oc)) (Ev.bind (ref13_product_eq h ha hb) (Ev.bind (ref09_Sum_X op (NM.ex_ok oc)) (Ev.bind (ref_Round_X h (sumX_ok op (NM.ex_ok oc))) (Ev.now _)))))
end Go.Proofs.YtnjhblakghjdoaaGreat.V
namespace Go.Proofs.YtnjhblakghjdoaaGreat.V
open Go Go.RowKit Go.Proofs.YtnjhblakghjdoaaGreat.Ab Go.Proofs.YtnjhblakghjdoaaGreat.Fn
set_option linter.unusedVariables false
set_option linter.unusedSimpArgs false
theorem dig_test {y1 y0 u d g r : Nat} (hy1 : 2147483648 ≤ y1) (hy1' : y1 < 4294967296) (hy0 : y0 < 4294967296) (hu : u < y1 * 4294967296 + y0) (hd : d < 4294967296) (hg : u = g * y1 + r) (hr : r < 4294967296) :
  (¬ (4294967296 ≤ g ∨ 4294967296 * r + d < g * y0) → g ≤ (u * 4294967296 + d) / (y1 * 4294967296 + y0)) ∧ ((4294967296 ≤ g ∨ 4294967296 * r + d < g * y0) → (u * 4294967296 + d) / (y1 * 4294967296 + y0) < g) := by
 have hpos : 0 < y1 * 4294967296 + y0 := by omega
 have e : g * (y1 * 4294967296 + y0) = g * y1 * 4294967296 + g * y0 := by rw [Nat.mul_add, Nat.mul_assoc]
 have eu : u * 4294967296 = g * y1 * 4294967296 + r * 4294967296 := by rw [hg, Nat.add_mul]
 constructor
 ·intro h
  rw [Nat.le_div_iff_mul_le hpos, e]
  omega
 ·rintro (h | h)
  ·refine Nat.lt_of_lt_of_le ?_ h
   rw [Nat.div_lt_iff_lt_mul hpos]
   omega
  ·rw [Nat.div_lt_iff_lt_mul hpos, e]
   omega
theorem dig_break {y1 y0 u d g r : Nat} (hy1 : 2147483648 ≤ y1) (hy0 : y0 < 4294967296) (hg : u = g * y1 + r) (hr : 4294967296 ≤ r) (hb : g ≤ 4294967296) : g ≤ (u * 4294967296 + d) / (y1 * 4294967296 + y0) := by
 have hpos : 0 < y1 * 4294967296 + y0 := by omega
 have e : g * (y1 * 4294967296 + y0) = g * y1 * 4294967296 + g * y0 := by rw [Nat.mul_add, Nat.mul_assoc]
 have eu : u * 4294967296 = g * y1 * 4294967296 + r * 4294967296 := by rw [hg, Nat.add_mul]
 have h0 : g * y0 ≤ 4294967296 * 4294967295 := Nat.mul_le_mul hb (by omega)
 rw [Nat.le_div_iff_mul_le hpos, e]
 omega
structure Dig (y1 y0 u d q : Nat) : Prop where
 y1lo : 2147483648 ≤ y1
 y1hi : y1 < 4294967296
 y0hi : y0 < 4294967296
 dhi : d < 4294967296
 test : ∀ g r, u = g * y1 + r → r < 4294967296 → (¬ (4294967296 ≤ g ∨ 4294967296 * r + d < g * y0) → g ≤ q) ∧ ((4294967296 ≤ g ∨ 4294967296 * r + d < g * y0) → q < g)
 stop : ∀ g r, u = g * y1 + r → 4294967296 ≤ r → g ≤ 4294967296 → g ≤ q
theorem Dig.mk' {y1 y0 u d : Nat} (hy1 : 2147483648 ≤ y1) (hy1' : y1 < 4294967296) (hy0 : y0 < 4294967296) (hu : u < y1 * 4294967296 + y0) (hd : d < 4294967296) : Dig y1 y0 u d ((u * 4294967296 + d) / (y1 * 4294967296 + y0)) :=
 ⟨hy1, hy1', hy0, hd, fun g r h1 h2 => dig_test hy1 hy1' hy0 hu hd h1 h2, fun g r h1 h2 h3 => dig_break hy1 hy0 h1 h2 h3⟩
end Go.Proofs.YtnjhblakghjdoaaGreat.V
namespace Go.Proofs.YtnjhblakghjdoaaGreat.V
open Go Go.RowKit Go.Proofs.YtnjhblakghjdoaaGreat.Ab Go.Proofs.YtnjhblakghjdoaaGreat.Fn
set_option linter.unusedVariables false
set_option linter.unusedSimpArgs false
theorem fmaN_lt {n a b c : Nat} (h8 : 8 ≤ n) (hn : n ≤ 64) (hc : c < 2 ^ n) : fmaN n a b c < 2 ^ n := EX.rnd_lt h8 hn (sumX_ok (prdX_ok _ _ _) (NM.ex_ok (decN_ok h8 hn hc)))
theorem c8 {x : Nat} (h : x < 2 ^ 8) : ((x : Int) % 256) = x := by have : (2 : Nat) ^ 8 = 256 := rfl; omega
theorem c16 {x : Nat} (h : x < 2 ^ 16) : IntKind.u16.wrap (x : Int) = x := by
 have e : (2 : Nat) ^ 16 = 65536 := rfl
 have : IntKind.u16.wrap (x : Int) = (x : Int) % 65536 := by unfold IntKind.wrap; simp [IntKind.bits, IntKind.signed]
 omega
theorem c64 {x : Nat} (h : x < 2 ^ 64) : (x : Int) = x := rfl
theorem wu {x : Nat} (h : x < 18446744073709551616) : IntKind.u64.wrap (x : Int) = (x : Int) := u64_of (by omega) (by omega)
theorem isW8 : isW ((8 : Nat) : Int) = true := by decide
theorem isW16 : isW ((16 : Nat) : Int) = true := by decide
theorem isW64 : isW ((64 : Nat) : Int) = true := by decide
theorem lt8 {x : Nat} (h : x < 2 ^ 8) : x < 18446744073709551616 := Nat.lt_of_lt_of_le h (by decide)
theorem lt16 {x : Nat} (h : x < 2 ^ 16) : x < 18446744073709551616 := Nat.lt_of_lt_of_le h (by decide)
theorem lt64 {x : Nat} (h : x < 2 ^ 64) : x < 18446744073709551616 := Nat.lt_of_lt_of_le h (by decide)
theorem gen_Width_P8_eq : gen_Width_P8.f = some 8 := rfl
theorem gen_Width_P16_eq : gen_Width_P16.f = some 16 := rfl
theorem gen_Width_P64_eq : gen_Width_P64.f = some 64 := rfl
theorem gen_To_P16_P8_eq {a : Nat} (ha : a < 2 ^ 8) : Ev (fun k => gen_To_P16_P8.f k (a : Int)) ((convN 8 16 a : Nat) : Int) := by
 have c := gen_Convert_eq (n := 8) (m := 16) (p := a) isW8 isW16 (lt8 ha)
 rw [Nat.mod_eq_of_lt ha] at c
 have hl : convN 8 16 a < 2 ^ 16 := convN_lt (by decide) (by decide) (by decide) (by decide) ha
 unfold gen_To_P16_P8.f
 rw [wu (lt8 ha)]
 exact Ev.bind (evn gen_Width_P8_eq) (Ev.bind (evn gen_Width_P16_eq) (Ev.bind c (evn (congrArg some (c16 hl)))))
theorem gen_Add_P8_eq {a b : Nat} (ha : a < 2 ^ 8) (hb : b < 2 ^ 8) : Ev (fun k => gen_Add_P8.f k (a : Int) (b : Int)) ((addN 8 a b : Nat) : Int) := by
 have c := sum_Add_eq (n := 8) (a := a) (b := b) isW8 (lt8 ha) (lt8 hb)
 rw [Nat.mod_eq_of_lt ha, Nat.mod_eq_of_lt hb] at c
 have hl : addN 8 a b < 2 ^ 8 := addN_lt (by decide) (by decide) ha hb
 unfold gen_Add_P8.f gen_two_P8_sum_Add.f
 rw [wu (lt8 ha), wu (lt8 hb)]
 exact Ev.bind (Ev.bind (evn gen_Width_P8_eq) (Ev.bind c (evn (congrArg some (c8 hl))))) (Ev.now _)
theorem gen_Fma_P16_eq {a b c : Nat} (ha : a < 2 ^ 16) (hb : b < 2 ^ 16) (hc : c < 2 ^ 16) : Ev (fun k => gen_Fma_P16.f k (a : Int) (b : Int) (c : Int)) ((fmaN 16 a b c : Nat) : Int) := by
 have q := fuse_Fma_eq (n := 16) (a := a) (b := b) (c := c) isW16 (lt16 ha) (lt16 hb) (lt16 hc)
 rw [Nat.mod_eq_of_lt ha, Nat.mod_eq_of_lt hb, Nat.mod_eq_of_lt hc] at q
 have hl : fmaN 16 a b c < 2 ^ 16 := fmaN_lt (by decide) (by decide) hc
 unfold gen_Fma_P16.f
 rw [wu (lt16 ha), wu (lt16 hb), wu (lt16 hc)]
 exact Ev.bind (evn gen_Width_P16_eq) (Ev.bind q (evn (congrArg some (c16 hl))))
theorem gen_Fma_P64_eq {a b c : Nat} (ha : a < 2 ^ 64) (hb : b < 2 ^ 64) (hc : c < 2 ^ 64) : Ev (fun k => gen_Fma_P64.f k (a : Int) (b : Int) (c : Int)) ((fmaN 64 a b c : Nat) : Int) := by
 have q := fuse_Fma_eq (n := 64) (a := a) (b := b) (c := c) isW64 (lt64 ha) (lt64 hb) (lt64 hc)
 rw [Nat.mod_eq_of_lt ha, Nat.mod_eq_of_lt hb, Nat.mod_eq_of_lt hc] at q
 have hl : fmaN 64 a b c < 2 ^ 64 := fmaN_lt (by decide) (by decide) hc
 unfold gen_Fma_P64.f
 exact Ev.bind (evn gen_Width_P64_eq) (Ev.bind q (evn (congrArg some (c64 hl))))
theorem up14 : Ev (fun k => vernierlaw14_up.f k) true := by
 unfold vernierlaw14_up.f
 have a := gen_Add_P8_eq (a := 64) (b := 64) (by decide) (by decide)
 have b := gen_To_P16_P8_eq (a := 68) (by decide)
 rw [show addN 8 64 64 = 72 by decide +kernel] at a
 rw [show convN 8 16 68 = 17408 by decide +kernel] at b
 show Ev (fun k => (gen_Add_P8.f k ((64 : Nat) : Int) ((64 : Nat) : Int)).bind fun t107 => if t107 = 72 then (gen_To_P16_P8.f k ((68 : Nat) : Int)).bind fun t108 => some (t108 == 17408) else some false) true
 exact Ev.bind a (Ev.bind b (Ev.now _))
end Go.Proofs.YtnjhblakghjdoaaGreat.V
namespace Go.Proofs.YtnjhblakghjdoaaGreat.V
open Go Go.RowKit Go.Proofs.YtnjhblakghjdoaaGreat.Ab Go.Proofs.YtnjhblakghjdoaaGreat.Fn
set_option linter.unusedVariables false
set_option linter.unusedSimpArgs false
def ints (L : List Nat) : List Int := L.map (fun c : Nat => Int.ofNat c)
theorem ints_len (L : List Nat) : (ints L).length = L.length := List.length_map _
theorem ints_rd {L : List Nat} {i : Nat} (h : i < L.length) : rd (ints L) (i : Int) = ((L[i] : Nat) : Int) := by
  unfold rd ints
  rw [Int.toNat_natCast, List.getD_eq_getElem?_getD, List.getElem?_map, List.getElem?_eq_getElem h]
  rfl
theorem ints_of {l : List Int} (h : inL .u64 l) : ∃ L : List Nat, l = ints L ∧ ∀ c ∈ L, c < 18446744073709551616 := by
  refine ⟨l.map Int.toNat, ?_, ?_⟩
  · unfold ints
    rw [List.map_map]
    refine (List.map_id _).symm.trans (List.map_congr_left fun n hn => ?_)
    have := (h.2 n hn).1
    simp only [kLo] at this
    show n = ((n.toNat : Nat) : Int)
    omega
  · intro c hc
    obtain ⟨n, hn, rfl⟩ := List.mem_map.1 hc
    have := h.2 n hn
    simp only [inK, kLo, kHi] at this
    omega
def horN (n x : Nat) (L : List Nat) (r : Nat) : Nat := L.foldr (fun c r => fmaN n r x (c % 2 ^ n)) r
theorem horN_take {n x r i : Nat} {L : List Nat} (h : i < L.length) : horN n x (L.take (i + 1)) r = horN n x (L.take i) (fmaN n r x (L[i] % 2 ^ n)) := by
  unfold horN
  rw [List.take_succ_eq_append_getElem h, List.foldr_append]
  rfl
theorem horN_lt {n x : Nat} (h8 : 8 ≤ n) (hn : n ≤ 64) : ∀ (L : List Nat) {r : Nat}, r < 2 ^ n → horN n x L r < 2 ^ n
  | [], _, h => h
  | c :: L, _, h => fmaN_lt h8 hn (Nat.mod_lt _ (two_pos n))
theorem idx_pred (i : Nat) (h : i < 4611686018427387904) : wrap64 ((i : Int) - 1) = (i : Int) - 1 := w64 (by omega) (by omega)
theorem ref14_Horner_l {n x : Nat} (hn : isW (n : Int) = true) (hx : x < 18446744073709551616) {L : List Nat} (hL : ∀ c ∈ L, c < 18446744073709551616) (hlen : L.length < 4611686018427387904) : ∀ (i r : Nat), i ≤ L.length → r < 2 ^ n →
    Ev (fun k => vernierref14_Horner.l0 k (n : Int) (ints L) (x : Int) (r : Int) ((i : Int) - 1)) ((horN n (x % 2 ^ n) (L.take i) r : Nat) : Int) := by
  obtain ⟨b64, b8⟩ := pow64 hn
  have h2 : 2 ^ n ≤ 18446744073709551616 := by rw [← p64]; exact pow_le b64
  intro i
  induction i with
  | zero =>
    intro r _ hr
    refine evs ?_
    simp only [vernierref14_Horner.l0, if_neg (show ¬ ((0 : Nat) : Int) - 1 ≥ 0 by omega)]
    exact Ev.now _
  | succ i ih =>
    intro r hi hr
    have hi' : i < L.length := hi
    have e1 : ((i + 1 : Nat) : Int) - 1 = (i : Int) := by omega
    refine evs ?_
    simp only [vernierref14_Horner.l0, nI_eq, ints_len, e1, if_pos (show (i : Int) ≥ 0 by omega), if_pos (show (0 : Int) ≤ (i : Int) by omega), if_pos (show (i : Int) < (L.length : Int) by omega), ints_rd hi', idx_pred i (by omega)]
    have hc := hL _ (List.getElem_mem hi')
    have q := ref13_Fma_eq hn (a := r) (b := x) (c := L[i]) (by omega) hx hc
    rw [Nat.mod_eq_of_lt hr] at q
    refine Ev.bind q ?_
    rw [horN_take hi']
    exact ih _ (by omega) (fmaN_lt b8 b64 (Nat.mod_lt _ (two_pos n)))
theorem ref14_Horner_eq {n x : Nat} (hn : isW (n : Int) = true) (hx : x < 18446744073709551616) {L : List Nat} (hL : ∀ c ∈ L, c < 18446744073709551616) (hlen : L.length < 4611686018427387904) :
    Ev (fun k => vernierref14_Horner.f k (n : Int) (ints L) (x : Int)) ((horN n (x % 2 ^ n) L 0 : Nat) : Int) := by
  unfold vernierref14_Horner.f
  rw [nI_eq, ints_len, idx_pred _ hlen]
  have := ref14_Horner_l hn hx hL hlen L.length 0 (Nat.le_refl _) (two_pos n)
  rw [List.take_length] at this
  exact this
theorem gen_Horner_P16_l {x : Nat} (hx : x < 2 ^ 16) {L : List Nat} (hL : ∀ c ∈ L, c < 2 ^ 16) (hlen : L.length < 4611686018427387904) : ∀ (i r : Nat), i ≤ L.length → r < 2 ^ 16 →
    Ev (fun k => gen_Horner_P16.l0 k (ints L) (x : Int) (r : Int) ((i : Int) - 1)) ((horN 16 x (L.take i) r : Nat) : Int) := by
  intro i
  induction i with
  | zero =>
    intro r _ hr
    refine evs ?_
    simp only [gen_Horner_P16.l0, if_neg (show ¬ ((0 : Nat) : Int) - 1 ≥ 0 by omega)]
    exact Ev.now _
  | succ i ih =>
    intro r hi hr
    have hi' : i < L.length := hi
    have e1 : ((i + 1 : Nat) : Int) - 1 = (i : Int) := by omega
    refine evs ?_
    simp only [gen_Horner_P16.l0, nI_eq, ints_len, e1, if_pos (show (i : Int) ≥ 0 by omega), if_pos (show (0 : Int) ≤ (i : Int) by omega), if_pos (show (i : Int) < (L.length : Int) by omega), ints_rd hi', idx_pred i (by omega)]
    have hc := hL _ (List.getElem_mem hi')
    refine Ev.bind (gen_Fma_P16_eq hr hx hc) ?_
    rw [horN_take hi', Nat.mod_eq_of_lt hc]
    exact ih _ (by omega) (fmaN_lt (by decide) (by decide) hc)
theorem gen_Horner_P16_eq {x : Nat} (hx : x < 2 ^ 16) {L : List Nat} (hL : ∀ c ∈ L, c < 2 ^ 16) (hlen : L.length < 4611686018427387904) :
    Ev (fun k => gen_Horner_P16.f k (ints L) (x : Int)) ((horN 16 x L 0 : Nat) : Int) := by
  unfold gen_Horner_P16.f
  rw [nI_eq, ints_len, idx_pred _ hlen]
  have := gen_Horner_P16_l hx hL hlen L.length 0 (Nat.le_refl _) (two_pos 16)
  rw [List.take_length] at this
  exact this
theorem gen_Horner_P64_l {x : Nat} (hx : x < 2 ^ 64) {L : List Nat} (hL : ∀ c ∈ L, c < 2 ^ 64) (hlen : L.length < 4611686018427387904) : ∀ (i r : Nat), i ≤ L.length → r < 2 ^ 64 →
    Ev (fun k => gen_Horner_P64.l0 k (ints L) (x : Int) (r : Int) ((i : Int) - 1)) ((horN 64 x (L.take i) r : Nat) : Int) := by
  intro i
  induction i with
  | zero =>
    intro r _ hr
    refine evs ?_
    simp only [gen_Horner_P64.l0, if_neg (show ¬ ((0 : Nat) : Int) - 1 ≥ 0 by omega)]
    exact Ev.now _
  | succ i ih =>
    intro r hi hr
    have hi' : i < L.length := hi
    have e1 : ((i + 1 : Nat) : Int) - 1 = (i : Int) := by omega
    refine evs ?_
    simp only [gen_Horner_P64.l0, nI_eq, ints_len, e1, if_pos (show (i : Int) ≥ 0 by omega), if_pos (show (0 : Int) ≤ (i : Int) by omega), if_pos (show (i : Int) < (L.length : Int) by omega), ints_rd hi', idx_pred i (by omega)]
    have hc := hL _ (List.getElem_mem hi')
    refine Ev.bind (gen_Fma_P64_eq hr hx hc) ?_
    rw [horN_take hi', Nat.mod_eq_of_lt hc]
    exact ih _ (by omega) (fmaN_lt (by decide) (by decide) hc)
theorem gen_Horner_P64_eq {x : Nat} (hx : x < 2 ^ 64) {L : List Nat} (hL : ∀ c ∈ L, c < 2 ^ 64) (hlen : L.length < 4611686018427387904) :
    Ev (fun k => gen_Horner_P64.f k (ints L) (x : Int)) ((horN 64 x L 0 : Nat) : Int) := by
  unfold gen_Horner_P64.f
  rw [nI_eq, ints_len, idx_pred _ hlen]
  have := gen_Horner_P64_l hx hL hlen L.length 0 (Nat.le_refl _) (two_pos 64)
  rw [List.take_length] at this
  exact this
theorem horN_mod (n x : Nat) : ∀ (L : List Nat) (r : Nat), horN n x (L.map (· % 2 ^ n)) r = horN n x L r
  | [], _ => rfl
  | c :: L, r => by
    have := horN_mod n x L r
    unfold horN at *
    simp only [List.map_cons, List.foldr_cons, Nat.mod_mod]
    rw [this]
end Go.Proofs.YtnjhblakghjdoaaGreat.V
namespace Go.Proofs.YtnjhblakghjdoaaGreat.Pure
open Go Go.RowKit Go.Proofs.YtnjhblakghjdoaaGreat.Ab Go.Proofs.YtnjhblakghjdoaaGreat.Fn Go.Proofs.YtnjhblakghjdoaaGreat.V
set_option linter.unusedSimpArgs false
set_option linter.unusedVariables false
theorem u16n (x : Nat) : IntKind.u16.wrap (x : Int) = ((x % 2 ^ 16 : Nat) : Int) := by
  have : IntKind.u16.wrap (x : Int) = (x : Int) % 65536 := by unfold IntKind.wrap; simp [IntKind.bits, IntKind.signed]
  have e : (2 : Nat) ^ 16 = 65536 := rfl
  rw [e]; omega
theorem ints_snoc (L : List Nat) (c : Nat) : ints L ++ ([((c : Nat) : Int)] : List Int) = ints (L ++ [c]) := by unfold ints; rw [List.map_append]; rfl
section
variable {L : List Nat} (hL : ∀ c ∈ L, c < 18446744073709551616) (hlen : L.length * 8 ≤ 140737488351232) {x : Nat} (hx : x < 18446744073709551616)
include hL hlen hx
theorem loop1 {p q : Nat} (hp : p = horN 16 (x % 2 ^ 16) L 0) (hq : q = horN 64 x L 0) : ∀ (d i : Nat), i + d = L.length →
    Ev (fun k => vernierlaw14_GenHorners.l1 k (ints L) (x : Int) true (ints (L.map (· % 2 ^ 16) ++ [7])) (ints (L ++ [7])) (p : Int) (q : Int) (i : Int)) true := by
  intro d
  have s6 : ((ints (L.map (· % 2 ^ 16) ++ [7])).length) = L.length + 1 := by rw [ints_len]; simp
  have s7 : ((ints (L ++ [7])).length) = L.length + 1 := by rw [ints_len]; simp
  have e6 : rd (ints (L.map (· % 2 ^ 16) ++ [7])) ((L.length : Nat) : Int) = 7 := by
    rw [ints_rd (by simp)]; simp
  have e7 : rd (ints (L ++ [7])) ((L.length : Nat) : Int) = 7 := by
    rw [ints_rd (by simp)]; simp
  have hpl : p < 2 ^ 16 := by rw [hp]; exact horN_lt (by decide) (by decide) _ (two_pos 16)
  induction d with
  | zero =>
    intro i hi
    have : i = L.length := by omega
    subst this
    refine evs ?_
    simp only [vernierlaw14_GenHorners.l1, nI_eq, ints_len, if_neg (show ¬ ((L.length : Nat) : Int) < ((L.length : Nat) : Int) by omega), if_true, if_pos (show (0 : Int) ≤ ((L.length : Nat) : Int) by omega), e6, e7]
    simp only [if_pos (show ((L.length : Nat) : Int) < (((L.map (· % 2 ^ 16) ++ [7]).length : Nat) : Int) by simp; omega), if_pos (show ((L.length : Nat) : Int) < (((L ++ [7]).length : Nat) : Int) by simp; omega)]
    have r1 := ref14_Horner_eq (n := 16) (x := x) isW16 hx hL (by omega)
    have r2 := ref14_Horner_eq (n := 64) (x := x) isW64 hx hL (by omega)
    rw [Nat.mod_eq_of_lt (show x < 2 ^ 64 by rw [p64]; exact hx)] at r2
    refine Ev.bind r1 ?_
    rw [wu (lt16 hpl), hp]
    simp only [if_true]
    exact Ev.bind r2 (evn (by rw [hq, beq_self_eq_true]))
  | succ d ih =>
    intro i hi
    have hi' : i < L.length := by omega
    refine evs ?_
    have a6 : rd (ints (L.map (· % 2 ^ 16) ++ [7])) (i : Int) = ((L[i] % 2 ^ 16 : Nat) : Int) := by
      rw [ints_rd (by simp; omega)]
      rw [List.getElem_append_left (by simpa using hi')]
      simp
    have a7 : rd (ints (L ++ [7])) (i : Int) = ((L[i] : Nat) : Int) := by
      rw [ints_rd (by simp; omega), List.getElem_append_left hi']
    simp only [vernierlaw14_GenHorners.l1, nI_eq, ints_len, if_pos (show (i : Int) < ((L.length : Nat) : Int) by omega), if_pos (show (0 : Int) ≤ (i : Int) by omega), a6, a7, ints_rd hi', u16n, if_true]
    simp only [if_pos (show ((i : Nat) : Int) < (((L.map (· % 2 ^ 16) ++ [7]).length : Nat) : Int) by simp; omega), if_pos (show ((i : Nat) : Int) < (((L ++ [7]).length : Nat) : Int) by simp; omega)]
    rw [show wrap64 ((i : Int) + 1) = ((i + 1 : Nat) : Int) from w_succ (by omega)]
    exact ih (i + 1) (by omega)
theorem loop0 : ∀ (d i : Nat), i + d = L.length → Ev (fun k => vernierlaw14_GenHorners.l0 k (ints L) (x : Int) true (ints ((L.take i).map (· % 2 ^ 16))) (ints (L.take i)) (i : Int)) true := by
  intro d
  induction d with
  | zero =>
    intro i hi
    have : i = L.length := by omega
    subst this
    refine evs ?_
    simp only [vernierlaw14_GenHorners.l0, nI_eq, ints_len, List.take_length, if_neg (show ¬ ((L.length : Nat) : Int) < ((L.length : Nat) : Int) by omega), List.length_map, if_pos (show L.length < 70368744177664 by omega), if_pos (show L.length < 17592186044416 by omega), Int.toNat_natCast]
    have t7 : ([7] : List Int) = [((7 : Nat) : Int)] := rfl
    rw [t7, ints_snoc, ints_snoc]
    have s6 : (ints (L.map (· % 2 ^ 16) ++ [7])).take L.length = ints (L.map (· % 2 ^ 16)) := by
      unfold ints; rw [← List.map_take, List.take_append_of_le_length (by simp)]; congr 1; exact List.take_of_length_le (by simp)
    have s7 : (ints (L ++ [7])).take L.length = ints L := by
      unfold ints; rw [← List.map_take, List.take_append_of_le_length (Nat.le_refl _), List.take_length]
    rw [s6, s7, u16n]
    have g1 := gen_Horner_P16_eq (x := x % 2 ^ 16) (Nat.mod_lt _ (two_pos 16)) (L := L.map (· % 2 ^ 16)) (fun c hc => by obtain ⟨b, _, rfl⟩ := List.mem_map.1 hc; exact Nat.mod_lt _ (two_pos 16)) (by simp; omega)
    have g2 := gen_Horner_P64_eq (x := x) (by rw [p64]; exact hx) (L := L) (fun c hc => by rw [p64]; exact hL c hc) (by omega)
    rw [horN_mod] at g1
    simp only [ints_len, if_pos (show ((L.length : Nat) : Int) ≤ (((L.map (· % 2 ^ 16) ++ [7]).length : Nat) : Int) by simp; omega), if_pos (show ((L.length : Nat) : Int) ≤ (((L ++ [7]).length : Nat) : Int) by simp; omega)]
    refine Ev.bind g1 (Ev.bind g2 ?_)
    exact loop1 hL hlen hx rfl rfl L.length 0 (by omega)
  | succ d ih =>
    intro i hi
    have hi' : i < L.length := by omega
    have hl : (L.take i).length = i := by rw [List.length_take]; omega
    refine evs ?_
    simp only [vernierlaw14_GenHorners.l0, nI_eq, ints_len, List.length_map, hl, if_pos (show (i : Int) < ((L.length : Nat) : Int) by omega), if_pos (show (0 : Int) ≤ (i : Int) by omega), if_pos (show i < 70368744177664 by omega), if_pos (show i < 17592186044416 by omega), ints_rd hi', u16n]
    rw [ints_snoc, ints_snoc, show wrap64 ((i : Int) + 1) = ((i + 1 : Nat) : Int) from w_succ (by omega)]
    have e1 : L.take i ++ [L[i]] = L.take (i + 1) := (List.take_succ_eq_append_getElem hi').symm
    have e2 : (L.take i).map (· % 2 ^ 16) ++ [L[i] % 2 ^ 16] = (L.take (i + 1)).map (· % 2 ^ 16) := by rw [← e1, List.map_append]; rfl
    rw [e1, e2]
    exact ih (i + 1) (by omega)
end
theorem GenHorners : vernierlaw14_GenHorners.Pure := by
  intro l x w0 y0 w1
  obtain ⟨L, rfl, hL⟩ := ints_of w0
  obtain ⟨x, rfl, hx⟩ := u64_nat w1
  rw [ints_len] at y0
  refine Ev.rounds (g := fun k => vernierlaw14_GenHorners.f k (ints L) (x : Int)) ?_
  unfold vernierlaw14_GenHorners.f
  exact Ev.bind up14 (loop0 hL y0 hx L.length 0 (by omega))
end Go.Proofs.YtnjhblakghjdoaaGreat.Pure
