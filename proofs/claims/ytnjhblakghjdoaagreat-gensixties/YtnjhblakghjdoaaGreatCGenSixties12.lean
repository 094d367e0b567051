-- Written by a program of this session out of its own texts (wip/tools/link.py).
import Derived.Below
import Derived.ChangeKeysEq
import Derived.Deep.MidRow
import Derived.Deep.RegionHeld3
import Derived.Great.BuildSlice
import Derived.IntWalk
import Derived.KernelRfl
import Derived.LaidEql
import Derived.Laws.Bits64
import Derived.Laws.BitsLemmas
import Derived.Laws.BytesArg
import Derived.Laws.IdiomCopy
import Derived.Laws.OwnMore
import Derived.Laws.Rows
import Derived.Laws.Slices
import Derived.Laws.Strings
import Derived.Laws.StructEq
import Derived.Laws.Tables
import Derived.Lib.BitFns
import Derived.Lib.Mul64
import Derived.Lib.Slices
import Derived.Lib.Small
import Derived.Lib.Strings
import Derived.Lib.Walk
import Derived.Maps.AppendAt
import Derived.OrdersHeld
import Derived.RowKit
import Derived.Shelf.Spec.BitsCarry
import Derived.Test.YtnjhblakghjdoaaGreatProg
import Derived.Test.YtnjhblakghjdoaaGreatCGenSixties9
import Derived.Test.YtnjhblakghjdoaaGreatCGenSixties10
import Derived.Test.YtnjhblakghjdoaaGreatCGenSixties11
namespace Go.Proofs.YtnjhblakghjdoaaGreat.V
open Go Go.RowKit Go.Proofs.YtnjhblakghjdoaaGreat.Ab Go.Proofs.YtnjhblakghjdoaaGreat.Fn
set_option linter.unusedVariables false
set_option linter.unusedSimpArgs false
theorem beq_dec (a b : Int) : (a == b) = decide (a = b) := by by_cases h : a = b <;> simp [h]
theorem mask32 (a : Nat) (ha : a < 18446744073709551616) : Go.bits .and .u64 (a : Int) 4294967295 = ((a % 4294967296 : Nat) : Int) := and_mask a 32 ha (by decide)
theorem div32 (a : Nat) : (a : Int) / 4294967296 = ((a / 4294967296 : Nat) : Int) := by omega
theorem mulC (a b : Nat) : (a : Int) * (b : Int) = ((a * b : Nat) : Int) := (Int.natCast_mul a b).symm
theorem addC (a b : Nat) : (a : Int) + (b : Int) = ((a + b : Nat) : Int) := (Int.natCast_add a b).symm
theorem wrapN (a : Nat) (ha : a < 18446744073709551616) : IntKind.u64.wrap (a : Int) = (a : Int) := u64_of (by omega) (by omega)
theorem bits_Mul64_eq {x y : Nat} (hx : x < 18446744073709551616) (hy : y < 18446744073709551616) : bits_Mul64.f (x : Int) (y : Int) = some (TH (x * y), TL (x * y)) := by
 obtain ⟨bd, bt, bw, hhi⟩ := Lib.mul64_hi x y hx hy
 have ba := Lib.half_mul_le (a := x / 4294967296) (b := y / 4294967296) (by omega) (by omega)
 have bb := Lib.half_mul_le (a := x / 4294967296) (b := y % 4294967296) (by omega) (by omega)
 have bc := Lib.half_mul_le (a := x % 4294967296) (b := y / 4294967296) (by omega) (by omega)
 have ba' : x / 4294967296 * (y / 4294967296) < 18446744073709551616 := by omega
 have bb' : x / 4294967296 * (y % 4294967296) < 18446744073709551616 := by omega
 have bc' : x % 4294967296 * (y / 4294967296) < 18446744073709551616 := by omega
 have bh1 : x / 4294967296 * (y / 4294967296) + (x / 4294967296 * (y % 4294967296) + x % 4294967296 * (y % 4294967296) / 4294967296) / 4294967296 < 18446744073709551616 := by omega
 have bh : x / 4294967296 * (y / 4294967296) + (x / 4294967296 * (y % 4294967296) + x % 4294967296 * (y % 4294967296) / 4294967296) / 4294967296 + ((x / 4294967296 * (y % 4294967296) + x % 4294967296 * (y % 4294967296) / 4294967296) % 4294967296 + x % 4294967296 * (y / 4294967296)) / 4294967296 < 18446744073709551616 := by omega
 unfold bits_Mul64.f
 simp only [mask32 x hx, mask32 y hy, div32, mulC, addC, wrapN _ bd, wrapN _ bb', wrapN _ bt, mask32 _ bt, wrapN _ bc', wrapN _ bw, wrapN _ ba', wrapN _ bh1, wrapN _ bh, u64_nat_wrap (x * y)]
 rw [hhi]
 rfl
theorem twin_Mul_eq {x y : Nat} (hx : x < 18446744073709551616) (hy : y < 18446744073709551616) : twin_Mul.f (x : Int) (y : Int) = some (TH (x * y), TL (x * y)) := by
 unfold twin_Mul.f
 rw [bits_Mul64_eq hx hy]; rfl
theorem mul_lt128 {x y : Nat} (hx : x < 18446744073709551616) (hy : y < 18446744073709551616) : x * y < 2 ^ 128 := by
 have := Nat.mul_le_mul (show x ≤ 18446744073709551615 by omega) (show y ≤ 18446744073709551615 by omega)
 rw [p128]
 omega
def prodE (kd : Int) (ng : Bool) (sc : Int) (fr : Nat) (kd' : Int) (ng' : Bool) (sc' : Int) (fr' : Nat) : Int × Bool × Int × Int × Int × Bool :=
 if kd = 2 ∨ kd' = 2 then (2, false, 0, 0, 0, false) else if kd = 0 ∨ kd' = 0 then (0, false, 0, 0, 0, false)
 else exactE (ng != ng') (fr * fr') (sc + sc' - 126) false
theorem soundN_cases {kd sc fr : Int} {ng : Bool} (h : soundN kd ng sc fr = true) : (kd = 0 ∧ ng = false ∧ sc = 0 ∧ fr = 0) ∨ (kd = 2 ∧ ng = false ∧ sc = 0 ∧ fr = 0) ∨ (kd = 1 ∧ 9223372036854775808 ≤ fr ∧ -1073741824 ≤ sc ∧ sc ≤ 1073741824) := by
 unfold soundN at h
 split at h
 ·rename_i hk
  have : ng = false ∧ sc = 0 ∧ fr = 0 := by simpa using h
  rcases hk with hk | hk
  ·exact .inl ⟨hk, this⟩
  ·exact .inr (.inl ⟨hk, this⟩)
 ·exact .inr (.inr (of_decide_eq_true h))
theorem makeV_exactE {ng R : Bool} {V : Nat} {e : Int} (hV : V < 2 ^ 128) (h0 : -4398046511104 ≤ e) (h1 : e ≤ 4398046511104) :
  makeV ng V e R = ((exactE ng V e R).1, (exactE ng V e R).2.1, (exactE ng V e R).2.2.1, (exactE ng V e R).2.2.2.1, (exactE ng V e R).2.2.2.2.1, (exactE ng V e R).2.2.2.2.2, none) := by
 unfold makeV exactE
 by_cases hz : V = 0
 ·rw [if_pos hz, if_pos hz]
 ·rw [if_neg hz, if_neg hz]
  have hb := bl_le_of_lt hV
  have hr : mkR V R = R := by unfold mkR; rw [show bl V - 128 = 0 by omega, Nat.pow_zero, Nat.mod_one]; simp
  have hf : farI e = e := by unfold farI; rw [if_neg (by omega), if_neg (by omega)]
  rw [hr, hf]
theorem prod_Exact_eq (kd : Int) (ng : Bool) (sc : Int) (fr : Nat) (kd' : Int) (ng' : Bool) (sc' : Int) (fr' : Nat) (hf : fr < 18446744073709551616) (hf' : fr' < 18446744073709551616) :
  Ev (fun k => prod_Exact.f k kd ng sc (fr : Int) kd' ng' sc' (fr' : Int)) (if soundN kd ng sc fr = true ∧ soundN kd' ng' sc' fr' = true then
   ((prodE kd ng sc fr kd' ng' sc' fr').1, (prodE kd ng sc fr kd' ng' sc' fr').2.1, (prodE kd ng sc fr kd' ng' sc' fr').2.2.1, (prodE kd ng sc fr kd' ng' sc' fr').2.2.2.1, (prodE kd ng sc fr kd' ng' sc' fr').2.2.2.2.1, (prodE kd ng sc fr kd' ng' sc' fr').2.2.2.2.2, none)
   else (0, false, 0, 0, 0, false, some 1)) := by
 unfold prod_Exact.f
 refine Ev.bind (round_Of_eq kd ng sc fr (by omega) (by omega)) ?_
 by_cases h1 : soundN kd ng sc fr = true
 ·simp only [h1, if_true, Option.isNone_none, true_and]
  refine Ev.bind (round_Of_eq kd' ng' sc' fr' (by omega) (by omega)) ?_
  by_cases h2 : soundN kd' ng' sc' fr' = true
  ·simp only [h2, if_true, Option.isNone_none]
   have c1 := soundN_cases h1
   have c2 := soundN_cases h2
   have j1 : Ev (fun k => prod_Exact.j0 k (decide (kd = 2 ∨ kd' = 2)) kd ng sc (fr : Int) kd' ng' sc' (fr' : Int)) ((prodE kd ng sc fr kd' ng' sc' fr').1, (prodE kd ng sc fr kd' ng' sc' fr').2.1, (prodE kd ng sc fr kd' ng' sc' fr').2.2.1, (prodE kd ng sc fr kd' ng' sc' fr').2.2.2.1, (prodE kd ng sc fr kd' ng' sc' fr').2.2.2.2.1, (prodE kd ng sc fr kd' ng' sc' fr').2.2.2.2.2, none) := by
    refine evs ?_
    simp only [prod_Exact.j0]
    unfold prodE
    by_cases hk : kd = 2 ∨ kd' = 2
    ·simp only [if_pos hk, decide_eq_true hk, if_true]
     exact Ev.now _
    ·simp only [if_neg hk, decide_eq_false hk, Bool.false_eq_true, if_false]
     have j2 : Ev (fun k => prod_Exact.j1 k (decide (kd = 0 ∨ kd' = 0)) ng sc (fr : Int) ng' sc' (fr' : Int)) (if kd = 0 ∨ kd' = 0 then (0, false, 0, 0, 0, false, none) else makeV (ng != ng') (fr * fr') (sc + sc' - 126) false) := by
      refine evs ?_
      simp only [prod_Exact.j1]
      by_cases h0 : kd = 0 ∨ kd' = 0
      ·simp only [if_pos h0, decide_eq_true h0, if_true]
       exact Ev.now _
      ·simp only [if_neg h0, decide_eq_false h0, Bool.false_eq_true, if_false]
       have ew : wrap64 (wrap64 (sc + sc') - 126) = sc + sc' - 126 := by
        rw [w64 (n := sc + sc') (by omega) (by omega), w64 (by omega) (by omega)]
       rw [ew, twin_Mul_eq hf hf']
       simp only [Option.bind_some]
       have := round_Make_eq (ng != ng') (fr * fr') (sc + sc' - 126) false (mul_lt128 hf hf')
       simp only [Bool.false_eq_true, false_and, if_false] at this
       refine Ev.bind this ?_
       exact Ev.now _
     have key : ((if kd = 0 ∨ kd' = 0 then (0, false, 0, 0, 0, false, none) else makeV (ng != ng') (fr * fr') (sc + sc' - 126) false) : Int × Bool × Int × Int × Int × Bool × Option Int) = ((if kd = 0 ∨ kd' = 0 then (0, false, 0, 0, 0, false) else exactE (ng != ng') (fr * fr') (sc + sc' - 126) false).1, (if kd = 0 ∨ kd' = 0 then (0, false, 0, 0, 0, false) else exactE (ng != ng') (fr * fr') (sc + sc' - 126) false).2.1, (if kd = 0 ∨ kd' = 0 then (0, false, 0, 0, 0, false) else exactE (ng != ng') (fr * fr') (sc + sc' - 126) false).2.2.1, (if kd = 0 ∨ kd' = 0 then (0, false, 0, 0, 0, false) else exactE (ng != ng') (fr * fr') (sc + sc' - 126) false).2.2.2.1, (if kd = 0 ∨ kd' = 0 then (0, false, 0, 0, 0, false) else exactE (ng != ng') (fr * fr') (sc + sc' - 126) false).2.2.2.2.1, (if kd = 0 ∨ kd' = 0 then (0, false, 0, 0, 0, false) else exactE (ng != ng') (fr * fr') (sc + sc' - 126) false).2.2.2.2.2, none) := by
      by_cases h0 : kd = 0 ∨ kd' = 0
      ·simp only [if_pos h0]
      ·simp only [if_neg h0]
       exact makeV_exactE (mul_lt128 hf hf') (by omega) (by omega)
     rw [← key]
     by_cases hk0 : kd = 0
     ·have hd : (kd == 0) = decide (kd = 0 ∨ kd' = 0) := by rw [decide_eq_true (.inl hk0)]; simp [hk0]
      simp only [if_pos hk0, hd]
      exact j2
     ·have hd : (kd' == 0) = decide (kd = 0 ∨ kd' = 0) := by rw [beq_dec]; simp [hk0]
      simp only [if_neg hk0, hd]
      exact j2
   by_cases hk2 : kd = 2
   ·have hd : (kd == 2) = decide (kd = 2 ∨ kd' = 2) := by simp [hk2]
    simp only [if_pos hk2, hd]
    exact j1
   ·have hd : (kd' == 2) = decide (kd = 2 ∨ kd' = 2) := by rw [beq_dec]; simp [hk2]
    simp only [if_neg hk2, hd]
    exact j1
  ·simp only [if_neg h2]
   exact Ev.now _
 ·simp only [if_neg h1, if_neg (show ¬ (soundN kd ng sc fr = true ∧ soundN kd' ng' sc' fr' = true) from fun h => h1 h.1)]
  exact Ev.now _
theorem ref_sound (kd : Int) (ng : Bool) (sc fr : Int) : vernierref06_Sound.f kd ng sc fr = some (soundN kd ng sc fr) := by
 unfold vernierref06_Sound.f soundN
 by_cases h0 : kd = 0
 ·simp [h0]
 ·by_cases h2 : kd = 2
  ·simp [h2]
  ·rw [if_neg h0, if_neg h2, if_neg (show ¬ (kd = 0 ∨ kd = 2) by omega)]
   by_cases h1 : kd = 1
   ·rw [if_pos h1]
    by_cases h3 : fr ≥ 9223372036854775808
    ·rw [if_pos h3]
     by_cases h4 : sc ≥ -1073741824
     ·rw [if_pos h4]
      congr 1
      rw [decide_eq_decide]
      omega
     ·rw [if_neg h4, decide_eq_false (by omega)]
    ·rw [if_neg h3, decide_eq_false (by omega)]
   ·rw [if_neg h1, decide_eq_false (by omega)]
theorem ref10_Exact_eq (kd : Int) (ng : Bool) (sc : Int) (fr : Nat) (kd' : Int) (ng' : Bool) (sc' : Int) (fr' : Nat) (hf : fr < 18446744073709551616) (hf' : fr' < 18446744073709551616) :
  Ev (fun k => vernierref10_Exact.f k kd ng sc (fr : Int) kd' ng' sc' (fr' : Int)) (if soundN kd ng sc fr = true ∧ soundN kd' ng' sc' fr' = true then
   ((prodE kd ng sc fr kd' ng' sc' fr').1, (prodE kd ng sc fr kd' ng' sc' fr').2.1, (prodE kd ng sc fr kd' ng' sc' fr').2.2.1, (prodE kd ng sc fr kd' ng' sc' fr').2.2.2.1, (prodE kd ng sc fr kd' ng' sc' fr').2.2.2.2.1, (prodE kd ng sc fr kd' ng' sc' fr').2.2.2.2.2, 0)
   else (0, false, 0, 0, 0, false, 1)) := by
 unfold vernierref10_Exact.f
 simp only [ref_sound, Option.bind_some]
 have j0 : Ev (fun k => vernierref10_Exact.j0 k (!decide (soundN kd ng sc fr = true ∧ soundN kd' ng' sc' fr' = true)) kd ng sc (fr : Int) kd' ng' sc' (fr' : Int)) (if soundN kd ng sc fr = true ∧ soundN kd' ng' sc' fr' = true then
   ((prodE kd ng sc fr kd' ng' sc' fr').1, (prodE kd ng sc fr kd' ng' sc' fr').2.1, (prodE kd ng sc fr kd' ng' sc' fr').2.2.1, (prodE kd ng sc fr kd' ng' sc' fr').2.2.2.1, (prodE kd ng sc fr kd' ng' sc' fr').2.2.2.2.1, (prodE kd ng sc fr kd' ng' sc' fr').2.2.2.2.2, 0)
   else (0, false, 0, 0, 0, false, 1)) := by
  refine evs ?_
  simp only [vernierref10_Exact.j0, nI_eq]
  by_cases hs : soundN kd ng sc fr = true ∧ soundN kd' ng' sc' fr' = true
  ·simp only [if_pos hs, decide_eq_true hs, Bool.not_true, Bool.false_eq_true, if_false]
   have c1 := soundN_cases hs.1
   have c2 := soundN_cases hs.2
   have j1 : Ev (fun k => vernierref10_Exact.j1 k (decide (kd = 2 ∨ kd' = 2)) kd ng sc (fr : Int) kd' ng' sc' (fr' : Int)) ((prodE kd ng sc fr kd' ng' sc' fr').1, (prodE kd ng sc fr kd' ng' sc' fr').2.1, (prodE kd ng sc fr kd' ng' sc' fr').2.2.1, (prodE kd ng sc fr kd' ng' sc' fr').2.2.2.1, (prodE kd ng sc fr kd' ng' sc' fr').2.2.2.2.1, (prodE kd ng sc fr kd' ng' sc' fr').2.2.2.2.2, 0) := by
    refine evs ?_
    simp only [vernierref10_Exact.j1, nI_eq]
    unfold prodE
    by_cases hk : kd = 2 ∨ kd' = 2
    ·simp only [if_pos hk, decide_eq_true hk, if_true]
     exact Ev.now _
    ·simp only [if_neg hk, decide_eq_false hk, Bool.false_eq_true, if_false]
     have j2 : Ev (fun k => vernierref10_Exact.j2 k (decide (kd = 0 ∨ kd' = 0)) ng sc (fr : Int) ng' sc' (fr' : Int)) ((if kd = 0 ∨ kd' = 0 then (0, false, 0, 0, 0, false) else exactE (ng != ng') (fr * fr') (sc + sc' - 126) false).1, (if kd = 0 ∨ kd' = 0 then (0, false, 0, 0, 0, false) else exactE (ng != ng') (fr * fr') (sc + sc' - 126) false).2.1, (if kd = 0 ∨ kd' = 0 then (0, false, 0, 0, 0, false) else exactE (ng != ng') (fr * fr') (sc + sc' - 126) false).2.2.1, (if kd = 0 ∨ kd' = 0 then (0, false, 0, 0, 0, false) else exactE (ng != ng') (fr * fr') (sc + sc' - 126) false).2.2.2.1, (if kd = 0 ∨ kd' = 0 then (0, false, 0, 0, 0, false) else exactE (ng != ng') (fr * fr') (sc + sc' - 126) false).2.2.2.2.1, (if kd = 0 ∨ kd' = 0 then (0, false, 0, 0, 0, false) else exactE (ng != ng') (fr * fr') (sc + sc' - 126) false).2.2.2.2.2, 0) := by
      refine evs ?_
      simp only [vernierref10_Exact.j2]
      by_cases h0 : kd = 0 ∨ kd' = 0
      ·simp only [if_pos h0, decide_eq_true h0, if_true]
       exact Ev.now _
      ·simp only [if_neg h0, decide_eq_false h0, Bool.false_eq_true, if_false]
       obtain ⟨a, a1, a2⟩ := r4_Of fr hf
       obtain ⟨b, b1, b2⟩ := r4_Of fr' hf'
       have la : a.length ≤ 3 := a2.len_le (Nat.lt_of_lt_of_le hf (by decide))
       have lb : b.length ≤ 3 := b2.len_le (Nat.lt_of_lt_of_le hf' (by decide))
       obtain ⟨m, m1, m2⟩ := r4_Mul a2 b2 (by omega)
       have lm : m.length ≤ 6 := m2.len_le (Nat.lt_of_lt_of_le (mul_lt128 hf hf') (by decide))
       have ew : wrap64 (wrap64 (sc + sc') - 126) = sc + sc' - 126 := by
        rw [w64 (n := sc + sc') (by omega) (by omega), w64 (by omega) (by omega)]
       rw [ew]
       refine Ev.bind a1 (Ev.bind b1 (Ev.bind m1 (Ev.bind (ref_Exactly_eq m2 (by omega) (by omega) (by omega)) ?_)))
       exact Ev.now _
     by_cases hk0 : kd = 0
     ·have hd : true = decide (kd = 0 ∨ kd' = 0) := by simp [hk0]
      simp only [if_pos hk0]
      rw [← hd] at j2
      exact j2
     ·have hd : (kd' == 0) = decide (kd = 0 ∨ kd' = 0) := by rw [beq_dec]; simp [hk0]
      simp only [if_neg hk0, hd]
      exact j2
   by_cases hk2 : kd = 2
   ·have hd : true = decide (kd = 2 ∨ kd' = 2) := by simp [hk2]
    simp only [if_pos hk2]
    rw [← hd] at j1
    exact j1
   ·have hd : (kd' == 2) = decide (kd = 2 ∨ kd' = 2) := by rw [beq_dec]; simp [hk2]
    simp only [if_neg hk2, hd]
    exact j1
  ·simp only [if_neg hs, decide_eq_false hs, Bool.not_false, if_true]
   exact Ev.now _
 by_cases h1 : soundN kd ng sc fr = true
 ·have hd : (!soundN kd' ng' sc' fr') = (!decide (soundN kd ng sc fr = true ∧ soundN kd' ng' sc' fr' = true)) := by simp [h1]
  simp only [if_pos h1]
  simp only [h1] at j0 hd ⊢
  rw [hd]
  exact j0
 ·have hd : true = (!decide (soundN kd ng sc fr = true ∧ soundN kd' ng' sc' fr' = true)) := by simp [h1]
  simp only [if_neg h1]
  rw [← hd] at j0
  exact j0
def prodX (a b : NM) : EX := if a.kd = 2 ∨ b.kd = 2 then EX.nar else if a.kd = 0 ∨ b.kd = 0 then EX.zero else natX (a.ng != b.ng) (a.fr * b.fr) (a.sc + b.sc - 126) false
theorem prodX_ok (a b : NM) : (prodX a b).ok := by
 unfold prodX
 split
 ·exact .inr (.inl rfl)
 ·split
  ·exact .inl rfl
  ·exact natX_ok _ _ _ _
theorem prodE_X (a b : NM) : prodE a.kd a.ng a.sc a.fr b.kd b.ng b.sc b.fr = ((prodX a b).kd, (prodX a b).ng, (prodX a b).sc, TH (prodX a b).V, TL (prodX a b).V, (prodX a b).R) := by
 unfold prodE prodX
 by_cases h2 : a.kd = 2 ∨ b.kd = 2
 ·rw [if_pos h2, if_pos h2]; rfl
 ·rw [if_neg h2, if_neg h2]
  by_cases h0 : a.kd = 0 ∨ b.kd = 0
  ·rw [if_pos h0, if_pos h0]; rfl
  ·rw [if_neg h0, if_neg h0, exactE_natX]
theorem prod_Exact_X {a b : NM} (ha : a.ok) (hb : b.ok) : Ev (fun k => prod_Exact.f k a.kd a.ng a.sc (a.fr : Int) b.kd b.ng b.sc (b.fr : Int)) ((prodX a b).kd, (prodX a b).ng, (prodX a b).sc, TH (prodX a b).V, TL (prodX a b).V, (prodX a b).R, none) := by
 have := prod_Exact_eq a.kd a.ng a.sc a.fr b.kd b.ng b.sc b.fr ha.2 hb.2
 rw [if_pos ⟨ha.1, hb.1⟩, prodE_X] at this
 exact this
theorem ref10_Exact_X {a b : NM} (ha : a.ok) (hb : b.ok) : Ev (fun k => vernierref10_Exact.f k a.kd a.ng a.sc (a.fr : Int) b.kd b.ng b.sc (b.fr : Int)) ((prodX a b).kd, (prodX a b).ng, (prodX a b).sc, TH (prodX a b).V, TL (prodX a b).V, (prodX a b).R, 0) := by
 have := ref10_Exact_eq a.kd a.ng a.sc a.fr b.kd b.ng b.sc b.fr ha.2 hb.2
 rw [if_pos ⟨ha.1, hb.1⟩, prodE_X] at this
 exact this
def mulN (n x y : Nat) : Nat := (prodX (decN n x) (decN n y)).rnd n
theorem mulN_lt {n x y : Nat} (h8 : 8 ≤ n) (hn : n ≤ 64) : mulN n x y < 2 ^ n := EX.rnd_lt h8 hn (prodX_ok _ _)
theorem prod_Mul_eq {n a b : Nat} (h : isW (n : Int) = true) (ha : a < 18446744073709551616) (hb : b < 18446744073709551616) : Ev (fun k => prod_Mul.f k (n : Int) (a : Int) (b : Int)) (((mulN n (a % 2 ^ n) (b % 2 ^ n) : Nat) : Int), none) := by
 obtain ⟨b64, b8⟩ := pow64 h
 unfold prod_Mul.f
 refine Ev.bind (Decode_N h ha) ?_
 simp only [Option.isNone_none, if_true]
 refine Ev.bind (Decode_N h hb) ?_
 refine Ev.bind (prod_Exact_X (decN_ok b8 b64 (Nat.mod_lt a (two_pos n))) (decN_ok b8 b64 (Nat.mod_lt b (two_pos n)))) ?_
 refine Ev.bind (Round_X h (prodX_ok _ _)) ?_
 exact Ev.now _
end Go.Proofs.YtnjhblakghjdoaaGreat.V
namespace Go.Proofs.YtnjhblakghjdoaaGreat.V
open Go Go.RowKit Go.Proofs.YtnjhblakghjdoaaGreat.Ab Go.Proofs.YtnjhblakghjdoaaGreat.Fn
set_option linter.unusedVariables false
set_option linter.unusedSimpArgs false
theorem T_hi (r : Nat) : TH (r * 18446744073709551616) = (r : Int) ∧ TL (r * 18446744073709551616) = 0 := by
 unfold TH TL; omega
theorem ref11_Cut_eq (kd : Int) (ng : Bool) (sc hi lo : Int) (R : Bool) : vernierref11_Cut.f kd ng sc hi lo R = some (kd, ng, sc, hi, 0, R || decide (lo ≠ 0)) := by
 unfold vernierref11_Cut.f
 cases R
 ·simp only [Bool.false_eq_true, if_false, Bool.false_or]
  congr 6
  by_cases h : lo = 0 <;> simp [h]
 ·simp
theorem Of_X {x : NM} (h : x.ok) : Ev (fun k => round_Of.f k x.kd x.ng x.sc (x.fr : Int)) (x.ex.kd, x.ex.ng, x.ex.sc, TH x.ex.V, TL x.ex.V, x.ex.R, none) := by
 have := round_Of_eq x.kd x.ng x.sc (x.fr : Int) (by have := h.2; omega) (by omega)
 rw [if_pos h.1] at this
 rw [(NM.ex_tup x h).1, (NM.ex_tup x h).2]
 exact this
theorem ref_Of_X {x : NM} (h : x.ok) : vernierref07_Of.f x.kd x.ng x.sc (x.fr : Int) = some (x.ex.kd, x.ex.ng, x.ex.sc, TH x.ex.V, TL x.ex.V, x.ex.R, 0) := by
 unfold vernierref07_Of.f
 rw [ref_sound, h.1, Option.bind_some, if_pos rfl, (NM.ex_tup x h).1, (NM.ex_tup x h).2]
 rfl
end Go.Proofs.YtnjhblakghjdoaaGreat.V
namespace Go.Proofs.YtnjhblakghjdoaaGreat.V
open Go Go.RowKit Go.Proofs.YtnjhblakghjdoaaGreat.Ab Go.Proofs.YtnjhblakghjdoaaGreat.Fn
set_option linter.unusedVariables false
set_option linter.unusedSimpArgs false
def convN (n m x : Nat) : Nat := (decN n x).ex.rnd m
theorem convN_lt {n m x : Nat} (h8 : 8 ≤ n) (hn : n ≤ 64) (g8 : 8 ≤ m) (hm : m ≤ 64) (hx : x < 2 ^ n) : convN n m x < 2 ^ m := EX.rnd_lt g8 hm (NM.ex_ok (decN_ok h8 hn hx))
theorem gen_Convert_eq {n m p : Nat} (hn : isW (n : Int) = true) (hm : isW (m : Int) = true) (hp : p < 18446744073709551616) : Ev (fun k => gen_Convert.f k (n : Int) (m : Int) (p : Int)) (((convN n m (p % 2 ^ n) : Nat) : Int), none) := by
 obtain ⟨b64, b8⟩ := pow64 hn
 have oa := decN_ok b8 b64 (Nat.mod_lt p (two_pos n))
 unfold gen_Convert.f
 refine Ev.bind (evn (shape_Of_eq hm)) ?_
 simp only [Option.isNone_none, if_true]
 refine Ev.bind (Decode_N hn hp) ?_
 simp only [Option.isNone_none, if_true]
 exact Ev.bind (Of_X oa) (Ev.bind (Round_X hm (NM.ex_ok oa)) (Ev.now _))
end Go.Proofs.YtnjhblakghjdoaaGreat.V
namespace Go.Proofs.YtnjhblakghjdoaaGreat.V
open Go Go.RowKit Go.Proofs.YtnjhblakghjdoaaGreat.Ab Go.Proofs.YtnjhblakghjdoaaGreat.Fn
set_option linter.unusedVariables false
set_option linter.unusedSimpArgs false
def sumE (a b d : Nat) (g h : Bool) (e : Int) : EX := if g = h then natX g (a * 2 ^ d + b) e false else if b ≤ a * 2 ^ d then natX g (a * 2 ^ d - b) e false else natX h (b - a * 2 ^ d) e false
theorem EX.real {x : EX} (hx : x.ok) (kx : x.kd = 1) : 2 ^ 127 ≤ x.V ∧ x.V < 2 ^ 128 ∧ -1099511627776 ≤ x.sc ∧ x.sc ≤ 1099511627776 := by
 rcases hx with rfl | rfl | hx
 ·exact absurd kx (by decide)
 ·exact absurd kx (by decide)
 ·exact hx.2
theorem sumX_E {x y : EX} (hx : x.kd = 1) (hy : y.kd = 1) (h : y.sc ≤ x.sc) {d : Nat} (hd : (x.sc - y.sc).toNat = d) : sumX x y = sumE x.V y.V d x.ng y.ng (y.sc - 127) := by
 unfold sumE
 by_cases hs : x.ng = y.ng
 ·rw [if_pos hs, sumX_same hx hy h hd hs]
 ·rw [if_neg hs]
  by_cases hle : y.V ≤ x.V * 2 ^ d
  ·rw [if_pos hle, sumX_ge hx hy h hd hs hle]
  ·rw [if_neg hle, sumX_lt hx hy h hd hs (Nat.le_of_not_le hle)]
theorem far_add (g : Bool) {a b t : Nat} (e : Int) (ha : 2 ^ 127 ≤ a) (h0 : 0 < b) (h1 : b < 2 ^ t) : natX g (a * 2 ^ (200 + t) + b) e false = natX g (a * 2 ^ 200) (e + t) true := by
 have ea : a * 2 ^ (200 + t) + b = 2 ^ t * (a * 2 ^ 200) + b := by rw [Nat.pow_add]; grind
 have hT : (a * 2 ^ (200 + t) + b) / 2 ^ t = a * 2 ^ 200 := by rw [ea, Nat.mul_add_div (two_pos t), Nat.div_eq_of_lt h1, Nat.add_zero]
 have hm : (a * 2 ^ (200 + t) + b) % 2 ^ t = b := by rw [ea, Nat.mul_add_mod, Nat.mod_eq_of_lt h1]
 rw [natX_trunc g e false hT (Nat.le_trans ha (Nat.le_mul_of_pos_right a (two_pos 200))), hm, decide_eq_true (by omega), Bool.false_or]
theorem sub_form {P A b : Nat} (hA : 1 ≤ A) (hb : b < P) : P * A - b = P * (A - 1) + (P - b) := by
 obtain ⟨c, rfl⟩ : ∃ c, A = c + 1 := ⟨A - 1, by omega⟩
 rw [Nat.add_sub_cancel, Nat.mul_add, Nat.mul_one]
 omega
theorem far_sub (g : Bool) {a b t : Nat} (e : Int) (ha : 2 ^ 127 ≤ a) (h0 : 0 < b) (h1 : b < 2 ^ t) : natX g (a * 2 ^ (200 + t) - b) e false = natX g (a * 2 ^ 200 - 1) (e + t) true := by
 have p2 := two_pos 200
 have hA : 2 ^ 127 * 2 ^ 200 ≤ a * 2 ^ 200 := Nat.mul_le_mul_right _ ha
 have hA2 : 2 ^ 127 ≤ a * 2 ^ 200 - 1 := by
  have : (2 : Nat) ^ 127 + 1 ≤ 2 ^ 127 * 2 ^ 200 := by decide +kernel
  exact Nat.le_sub_of_add_le (Nat.le_trans this hA)
 have hA1 : 1 ≤ a * 2 ^ 200 := Nat.le_trans (two_pos 127) (Nat.le_trans hA2 (Nat.sub_le _ _))
 have ea : a * 2 ^ (200 + t) - b = 2 ^ t * (a * 2 ^ 200 - 1) + (2 ^ t - b) := by
  rw [Nat.pow_add, show a * (2 ^ 200 * 2 ^ t) = 2 ^ t * (a * 2 ^ 200) by grind]
  exact sub_form hA1 h1
 have hl : 2 ^ t - b < 2 ^ t := by omega
 have hT : (a * 2 ^ (200 + t) - b) / 2 ^ t = a * 2 ^ 200 - 1 := by rw [ea, Nat.mul_add_div (two_pos t), Nat.div_eq_of_lt hl, Nat.add_zero]
 have hm : (a * 2 ^ (200 + t) - b) % 2 ^ t = 2 ^ t - b := by rw [ea, Nat.mul_add_mod, Nat.mod_eq_of_lt hl]
 rw [natX_trunc g e false hT hA2, hm, decide_eq_true (by omega), Bool.false_or]
theorem sumE_far {a b d : Nat} {g h : Bool} {e : Int} (hd : 400 < d) (ha : 2 ^ 127 ≤ a) (h0 : 0 < b) (h1 : b < 2 ^ 128) : sumE a b d g h e = sumE a 1 400 g h (e + ((d : Int) - 400)) := by
 obtain ⟨t, rfl⟩ : ∃ t, d = 200 + t := ⟨d - 200, by omega⟩
 have hb : b < 2 ^ t := Nat.lt_trans h1 (pow_lt (by omega))
 obtain ⟨u, hu⟩ : ∃ u : Nat, u = 200 := ⟨_, rfl⟩
 have h2 : (1 : Nat) < 2 ^ u := pow_lt (a := 0) (by omega)
 have c1 : b ≤ a * 2 ^ (200 + t) := by
  have : 2 ^ t ≤ 2 ^ (200 + t) := pow_le (by omega)
  exact Nat.le_trans (Nat.le_of_lt hb) (Nat.le_trans this (Nat.le_mul_of_pos_left _ (Nat.lt_of_lt_of_le (two_pos 127) ha)))
 have c2 : 1 ≤ a * 2 ^ (200 + u) := Nat.le_trans (two_pos _) (Nat.le_mul_of_pos_left _ (Nat.lt_of_lt_of_le (two_pos 127) ha))
 have ee : e + (((200 + t : Nat) : Int) - 400) + (u : Int) = e + (t : Int) := by omega
 unfold sumE
 rw [if_pos c1]
 rw [show (400 : Nat) = 200 + u by omega, if_pos c2, far_add g e ha h0 hb, far_sub g e ha h0 hb, far_add g _ ha (by decide) h2, far_sub g _ ha (by decide) h2, ee]
theorem wide_W {x a b i : Nat} (h : x < 2 ^ a * 2 ^ b) (hi : a + b ≤ 24 * i) : x < W i := by
 rw [← Nat.pow_add] at h
 exact Nat.lt_of_lt_of_le h (pow_le hi)
theorem wide_add {x y a b : Nat} (h : x < 2 ^ a * 2 ^ b) (hy : y < 2 ^ a) : x + y < 2 ^ a * 2 ^ (b + 1) := by
 have h1 : 2 ^ a ≤ 2 ^ a * 2 ^ b := Nat.le_mul_of_pos_right _ (two_pos b)
 rw [Nat.pow_succ, ← Nat.mul_assoc]
 omega
theorem cmpN_ge {A B : Nat} : cmpN A B ≥ 0 ↔ B ≤ A := by
 unfold cmpN
 repeat' split
 all_goals omega
theorem ref_Exactly_tup {x : List Int} {m : Nat} {e : Int} {ng R : Bool} (hx : DL x m) (hn : x.length ≤ 800) (h0 : -2305843009213693952 ≤ e) (h1 : e ≤ 2305843009213693952) :
  Ev (fun k => vernierref07_Exactly.f k ng x e R) (natX ng m e R).tup := by
 have := ref_Exactly_eq (ng := ng) (R := R) hx hn h0 h1
 rw [exactE_natX] at this
 exact this
theorem ref09_Sum_0_j1 {a b : List Int} {A B d : Nat} (ha : DL a A) (hb : DL b B) (lA : A < 2 ^ 128) (lB : B < 2 ^ 128) (hd : d ≤ 400) {g h : Bool} {s : Int} (s0 : -1099511627776 ≤ s) (s1 : s ≤ 1099511627776) :
  Ev (fun k => vernierref09_Sum_0.j1 k a b (d : Int) g s h) (sumE A B d g h (s - 127 - d)).tup := by
 refine evs ?_
 simp only [vernierref09_Sum_0.j1]
 have la : a.length ≤ 6 := ha.len_le (Nat.lt_of_lt_of_le lA (by decide))
 have lb : b.length ≤ 6 := hb.len_le (Nat.lt_of_lt_of_le lB (by decide))
 obtain ⟨c, c1, c2⟩ := r4_Shl ha (k := d) (by omega) (by omega)
 obtain ⟨n, hn⟩ : ∃ n : Nat, n = 400 := ⟨_, rfl⟩
 have hAd : A * 2 ^ d < 2 ^ 128 * 2 ^ n := Nat.lt_of_lt_of_le (Nat.mul_lt_mul_of_pos_right lA (two_pos d)) (Nat.mul_le_mul_left _ (pow_le (by omega)))
 have lc : c.length ≤ 22 := c2.len_le (wide_W hAd (by omega))
 have he : wrap64 (wrap64 (s - 127) - (d : Int)) = s - 127 - d := by rw [w64 (n := s - 127) (by omega) (by omega), w64 (by omega) (by omega)]
 refine Ev.bind c1 ?_
 rw [he]
 unfold sumE
 by_cases hg : g = h
 ·simp only [if_pos (beq_iff_eq.2 hg), if_pos hg]
  obtain ⟨r, r1, r2⟩ := r4_Add c2 hb (by omega) (by omega)
  have hs : A * 2 ^ d + B < 2 ^ 128 * 2 ^ (n + 1) := wide_add hAd lB
  have lr : r.length ≤ 23 := r2.len_le (wide_W hs (by omega))
  refine Ev.bind r1 (Ev.bind (ref_Exactly_tup r2 (by omega) (by omega) (by omega)) (Ev.now _))
 ·simp only [if_neg (fun h => hg (beq_iff_eq.1 h) : ¬ (g == h) = true), if_neg hg]
  refine Ev.bind (r4_Cmp c2 hb (by omega) (by omega)) ?_
  have hc := @cmpN_ge (A * 2 ^ d) B
  by_cases hle : B ≤ A * 2 ^ d
  ·simp only [if_pos (hc.2 hle), if_pos hle]
   obtain ⟨r, r1, r2⟩ := r4_Sub c2 hb hle (by omega)
   have lr : r.length ≤ 22 := r2.len_le (wide_W (Nat.lt_of_le_of_lt (Nat.sub_le _ _) hAd) (by omega))
   refine Ev.bind r1 (Ev.bind (ref_Exactly_tup r2 (by omega) (by omega) (by omega)) (Ev.now _))
  ·simp only [if_neg (fun h => hle (hc.1 h)), if_neg hle]
   obtain ⟨r, r1, r2⟩ := r4_Sub hb c2 (Nat.le_of_not_le hle) (by omega)
   have lr : r.length ≤ 6 := r2.len_le (Nat.lt_of_le_of_lt (Nat.sub_le _ _) (Nat.lt_of_lt_of_le lB (by decide)))
   refine Ev.bind r1 (Ev.bind (ref_Exactly_tup r2 (by omega) (by omega) (by omega)) (Ev.now _))
theorem ref09_Sum_0_real {x y : EX} (hx : x.ok) (hy : y.ok) (kx : x.kd = 1) (ky : y.kd = 1) (h : y.sc ≤ x.sc) :
  Ev (fun k => vernierref09_Sum_0.j0 k false x.kd x.ng x.sc (TH x.V) (TL x.V) x.R y.kd y.ng y.sc (TH y.V) (TL y.V) y.R) (sumX x y).tup := by
 obtain ⟨vx, lx, s0, s1⟩ := EX.real hx kx
 obtain ⟨vy, ly, t0, t1⟩ := EX.real hy ky
 obtain ⟨d, hd⟩ : ∃ d, (x.sc - y.sc).toNat = d := ⟨_, rfl⟩
 have hd' : x.sc - y.sc = (d : Int) := by omega
 have hw : wrap64 (x.sc - y.sc) = (d : Int) := by rw [w64 (by omega) (by omega)]; exact hd'
 refine evs ?_
 simp only [vernierref09_Sum_0.j0]
 simp only [if_neg (show ¬ (false = true) by decide), if_neg (show ¬ x.kd = 0 by omega), if_neg (show ¬ y.kd = 0 by omega), if_neg (show ¬ x.sc < y.sc by omega), hw]
 obtain ⟨a, a1, a2⟩ := ref02_Of_eq lx
 obtain ⟨b, b1, b2⟩ := ref02_Of_eq ly
 refine Ev.bind a1 (Ev.bind b1 ?_)
 rw [sumX_E kx ky h hd]
 by_cases h4 : (d : Int) > 400
 ·simp only [if_pos h4]
  rw [sumE_far (by omega) vx (Nat.lt_of_lt_of_le (two_pos 127) vy) ly, show y.sc - 127 + ((d : Int) - 400) = x.sc - 127 - ((400 : Nat) : Int) by omega]
  exact ref09_Sum_0_j1 a2 one_DL lx (by decide) (by decide) s0 s1
 ·simp only [if_neg h4]
  rw [show y.sc - 127 = x.sc - 127 - (d : Int) by omega]
  exact ref09_Sum_0_j1 a2 b2 lx ly (by omega) s0 s1
theorem ref09_Sum_j1 {a b : List Int} {A B d : Nat} (ha : DL a A) (hb : DL b B) (lA : A < 2 ^ 128) (lB : B < 2 ^ 128) (hd : d ≤ 400) {g h : Bool} {s : Int} (s0 : -1099511627776 ≤ s) (s1 : s ≤ 1099511627776) :
  Ev (fun k => vernierref09_Sum.j1 k a b (d : Int) g s h) (sumE A B d g h (s - 127 - d)).tup := by
 refine evs ?_
 simp only [vernierref09_Sum.j1]
 have la : a.length ≤ 6 := ha.len_le (Nat.lt_of_lt_of_le lA (by decide))
 have lb : b.length ≤ 6 := hb.len_le (Nat.lt_of_lt_of_le lB (by decide))
 obtain ⟨c, c1, c2⟩ := r4_Shl ha (k := d) (by omega) (by omega)
 obtain ⟨n, hn⟩ : ∃ n : Nat, n = 400 := ⟨_, rfl⟩
 have hAd : A * 2 ^ d < 2 ^ 128 * 2 ^ n := Nat.lt_of_lt_of_le (Nat.mul_lt_mul_of_pos_right lA (two_pos d)) (Nat.mul_le_mul_left _ (pow_le (by omega)))
 have lc : c.length ≤ 22 := c2.len_le (wide_W hAd (by omega))
 have he : wrap64 (wrap64 (s - 127) - (d : Int)) = s - 127 - d := by rw [w64 (n := s - 127) (by omega) (by omega), w64 (by omega) (by omega)]
 refine Ev.bind c1 ?_
 rw [he]
 unfold sumE
 by_cases hg : g = h
 ·simp only [if_pos (beq_iff_eq.2 hg), if_pos hg]
  obtain ⟨r, r1, r2⟩ := r4_Add c2 hb (by omega) (by omega)
  have hs : A * 2 ^ d + B < 2 ^ 128 * 2 ^ (n + 1) := wide_add hAd lB
  have lr : r.length ≤ 23 := r2.len_le (wide_W hs (by omega))
  refine Ev.bind r1 (Ev.bind (ref_Exactly_tup r2 (by omega) (by omega) (by omega)) (Ev.now _))
 ·simp only [if_neg (fun h => hg (beq_iff_eq.1 h) : ¬ (g == h) = true), if_neg hg]
  refine Ev.bind (r4_Cmp c2 hb (by omega) (by omega)) ?_
  have hc := @cmpN_ge (A * 2 ^ d) B
  by_cases hle : B ≤ A * 2 ^ d
  ·simp only [if_pos (hc.2 hle), if_pos hle]
   obtain ⟨r, r1, r2⟩ := r4_Sub c2 hb hle (by omega)
   have lr : r.length ≤ 22 := r2.len_le (wide_W (Nat.lt_of_le_of_lt (Nat.sub_le _ _) hAd) (by omega))
   refine Ev.bind r1 (Ev.bind (ref_Exactly_tup r2 (by omega) (by omega) (by omega)) (Ev.now _))
  ·simp only [if_neg (fun h => hle (hc.1 h)), if_neg hle]
   obtain ⟨r, r1, r2⟩ := r4_Sub hb c2 (Nat.le_of_not_le hle) (by omega)
   have lr : r.length ≤ 6 := r2.len_le (Nat.lt_of_le_of_lt (Nat.sub_le _ _) (Nat.lt_of_lt_of_le lB (by decide)))
   refine Ev.bind r1 (Ev.bind (ref_Exactly_tup r2 (by omega) (by omega) (by omega)) (Ev.now _))
theorem ref09_Sum_real {x y : EX} (hx : x.ok) (hy : y.ok) (kx : x.kd = 1) (ky : y.kd = 1) (h : y.sc ≤ x.sc) :
  Ev (fun k => vernierref09_Sum.j0 k false x.kd x.ng x.sc (TH x.V) (TL x.V) x.R y.kd y.ng y.sc (TH y.V) (TL y.V) y.R) (sumX x y).tup := by
 obtain ⟨vx, lx, s0, s1⟩ := EX.real hx kx
 obtain ⟨vy, ly, t0, t1⟩ := EX.real hy ky
 obtain ⟨d, hd⟩ : ∃ d, (x.sc - y.sc).toNat = d := ⟨_, rfl⟩
 have hd' : x.sc - y.sc = (d : Int) := by omega
 have hw : wrap64 (x.sc - y.sc) = (d : Int) := by rw [w64 (by omega) (by omega)]; exact hd'
 refine evs ?_
 simp only [vernierref09_Sum.j0]
 simp only [if_neg (show ¬ (false = true) by decide), if_neg (show ¬ x.kd = 0 by omega), if_neg (show ¬ y.kd = 0 by omega), if_neg (show ¬ x.sc < y.sc by omega), hw]
 obtain ⟨a, a1, a2⟩ := ref02_Of_eq lx
 obtain ⟨b, b1, b2⟩ := ref02_Of_eq ly
 refine Ev.bind a1 (Ev.bind b1 ?_)
 rw [sumX_E kx ky h hd]
 by_cases h4 : (d : Int) > 400
 ·simp only [if_pos h4]
  rw [sumE_far (by omega) vx (Nat.lt_of_lt_of_le (two_pos 127) vy) ly, show y.sc - 127 + ((d : Int) - 400) = x.sc - 127 - ((400 : Nat) : Int) by omega]
  exact ref09_Sum_j1 a2 one_DL lx (by decide) (by decide) s0 s1
 ·simp only [if_neg h4]
  rw [show y.sc - 127 = x.sc - 127 - (d : Int) by omega]
  exact ref09_Sum_j1 a2 b2 lx ly (by omega) s0 s1
end Go.Proofs.YtnjhblakghjdoaaGreat.V
namespace Go.Proofs.YtnjhblakghjdoaaGreat.V
open Go Go.RowKit Go.Proofs.YtnjhblakghjdoaaGreat.Ab Go.Proofs.YtnjhblakghjdoaaGreat.Fn
set_option linter.unusedVariables false
set_option linter.unusedSimpArgs false
theorem EX.ok_kd {x : EX} (hx : x.ok) : x.kd = 0 ∨ x.kd = 1 ∨ x.kd = 2 := by
 rcases hx with rfl | rfl | hx
 ·exact .inl rfl
 ·exact .inr (.inr rfl)
 ·exact .inr (.inl hx.1)
theorem sumX_nar {x y : EX} (h : x.kd = 2 ∨ y.kd = 2) : sumX x y = EX.nar := by unfold sumX; rw [if_pos h]
theorem sumX_z1 {x y : EX} (h : ¬ (x.kd = 2 ∨ y.kd = 2)) (h1 : x.kd = 0) : sumX x y = y := by unfold sumX; rw [if_neg h, if_pos h1]
theorem sumX_z2 {x y : EX} (h : ¬ (x.kd = 2 ∨ y.kd = 2)) (h1 : ¬ x.kd = 0) (h2 : y.kd = 0) : sumX x y = x := by unfold sumX; rw [if_neg h, if_neg h1, if_pos h2]
theorem broad_Sum_j0 {x y : EX} (hx : x.ok) (hy : y.ok) : Ev (fun k => broad_Sum.j0 k (decide (x.kd = 2 ∨ y.kd = 2)) x.kd x.ng x.sc (TH x.V) (TL x.V) x.R y.kd y.ng y.sc (TH y.V) (TL y.V) y.R) (sumX x y).tup := by
 refine evs ?_
 simp only [broad_Sum.j0]
 by_cases h : x.kd = 2 ∨ y.kd = 2
 ·simp only [if_pos (decide_eq_true h)]
  rw [sumX_nar h]
  exact Ev.now _
 ·simp only [if_neg (fun h' => h (of_decide_eq_true h') : ¬ decide (x.kd = 2 ∨ y.kd = 2) = true)]
  by_cases a : x.kd = 0
  ·simp only [if_pos a]
   rw [sumX_z1 h a]
   exact Ev.now _
  ·simp only [if_neg a]
   by_cases b : y.kd = 0
   ·simp only [if_pos b]
    rw [sumX_z2 h a b]
    exact Ev.now _
   ·simp only [if_neg b]
    have kx : x.kd = 1 := by have := EX.ok_kd hx; omega
    have ky : y.kd = 1 := by have := EX.ok_kd hy; omega
    by_cases c : x.sc < y.sc
    ·simp only [if_pos c]
     rw [sumX_comm hx hy]
     exact Sum_j1 hy hx ky kx (Int.le_of_lt c)
    ·simp only [if_neg c]
     exact Sum_j1 hx hy kx ky (Int.not_lt.1 c)
theorem broad_Sum_X {x y : EX} (hx : x.ok) (hy : y.ok) : Ev (fun k => broad_Sum.f k x.kd x.ng x.sc (TH x.V) (TL x.V) x.R y.kd y.ng y.sc (TH y.V) (TL y.V) y.R) (sumX x y).tup := by
 have h := broad_Sum_j0 hx hy
 unfold broad_Sum.f
 by_cases a : x.kd = 2
 ·simp only [if_pos a]
  rw [decide_eq_true (Or.inl a)] at h
  exact h
 ·simp only [if_neg a]
  rw [show decide (x.kd = 2 ∨ y.kd = 2) = (y.kd == 2) by rw [Bool.eq_iff_iff]; simp [a]] at h
  exact h
theorem sum_Exact_X {a b : NM} (ha : a.ok) (hb : b.ok) : Ev (fun k => sum_Exact.f k a.kd a.ng a.sc (a.fr : Int) b.kd b.ng b.sc (b.fr : Int)) ((sumX a.ex b.ex).kd, (sumX a.ex b.ex).ng, (sumX a.ex b.ex).sc, TH (sumX a.ex b.ex).V, TL (sumX a.ex b.ex).V, (sumX a.ex b.ex).R, none) := by
 unfold sum_Exact.f
 refine Ev.bind (Of_X ha) ?_
 simp only [Option.isNone_none, if_true]
 refine Ev.bind (Of_X hb) ?_
 simp only [Option.isNone_none, if_true]
 exact Ev.bind (broad_Sum_X (NM.ex_ok ha) (NM.ex_ok hb)) (Ev.now _)
theorem ref09_Sum_0_X {x y : EX} (hx : x.ok) (hy : y.ok) (kx : x.kd = 1) (ky : y.kd = 1) (h : y.sc ≤ x.sc) : Ev (fun k => vernierref09_Sum_0.f k x.kd x.ng x.sc (TH x.V) (TL x.V) x.R y.kd y.ng y.sc (TH y.V) (TL y.V) y.R) (sumX x y).tup := by
 unfold vernierref09_Sum_0.f
 simp only [if_neg (show ¬ x.kd = 2 by omega)]
 rw [show (y.kd == 2) = false by rw [ky]; rfl]
 exact ref09_Sum_0_real hx hy kx ky h
theorem ref09_Sum_j0 {x y : EX} (hx : x.ok) (hy : y.ok) : Ev (fun k => vernierref09_Sum.j0 k (decide (x.kd = 2 ∨ y.kd = 2)) x.kd x.ng x.sc (TH x.V) (TL x.V) x.R y.kd y.ng y.sc (TH y.V) (TL y.V) y.R) (sumX x y).tup := by
 have main := ref09_Sum_real hx hy
 by_cases h : x.kd = 2 ∨ y.kd = 2
 ·refine evs ?_
  simp only [vernierref09_Sum.j0]
  simp only [if_pos (decide_eq_true h)]
  rw [sumX_nar h]
  exact Ev.now _
 ·have hf : decide (x.kd = 2 ∨ y.kd = 2) = false := decide_eq_false h
  by_cases a : x.kd = 0
  ·refine evs ?_
   simp only [vernierref09_Sum.j0]
   simp only [hf, if_neg (show ¬ (false = true) by decide), if_pos a]
   rw [sumX_z1 h a]
   exact Ev.now _
  ·by_cases b : y.kd = 0
   ·refine evs ?_
    simp only [vernierref09_Sum.j0]
    simp only [hf, if_neg (show ¬ (false = true) by decide), if_neg a, if_pos b]
    rw [sumX_z2 h a b]
    exact Ev.now _
   ·have kx : x.kd = 1 := by have := EX.ok_kd hx; omega
    have ky : y.kd = 1 := by have := EX.ok_kd hy; omega
    by_cases c : x.sc < y.sc
    ·refine evs ?_
     simp only [vernierref09_Sum.j0]
     simp only [hf, if_neg (show ¬ (false = true) by decide), if_neg a, if_neg b, if_pos c]
     rw [sumX_comm hx hy]
     exact Ev.bind (ref09_Sum_0_X hy hx ky kx (Int.le_of_lt c)) (Ev.now _)
    ·rw [hf]
     exact main kx ky (Int.not_lt.1 c)
theorem ref09_Sum_X {x y : EX} (hx : x.ok) (hy : y.ok) : Ev (fun k => vernierref09_Sum.f k x.kd x.ng x.sc (TH x.V) (TL x.V) x.R y.kd y.ng y.sc (TH y.V) (TL y.V) y.R) (sumX x y).tup := by
 have h := ref09_Sum_j0 hx hy
 unfold vernierref09_Sum.f
 by_cases a : x.kd = 2
 ·simp only [if_pos a]
  rw [decide_eq_true (Or.inl a)] at h
  exact h
 ·simp only [if_neg a]
  rw [show decide (x.kd = 2 ∨ y.kd = 2) = (y.kd == 2) by rw [Bool.eq_iff_iff]; simp [a]] at h
  exact h
theorem ref09_Exact_X {a b : NM} (ha : a.ok) (hb : b.ok) : Ev (fun k => vernierref09_Exact.f k a.kd a.ng a.sc (a.fr : Int) b.kd b.ng b.sc (b.fr : Int)) ((sumX a.ex b.ex).kd, (sumX a.ex b.ex).ng, (sumX a.ex b.ex).sc, TH (sumX a.ex b.ex).V, TL (sumX a.ex b.ex).V, (sumX a.ex b.ex).R, 0) := by
 unfold vernierref09_Exact.f
 refine Ev.bind (evn (ref_Of_X ha)) (Ev.bind (evn (ref_Of_X hb)) ?_)
 simp only [if_true]
 exact Ev.bind (ref09_Sum_X (NM.ex_ok ha) (NM.ex_ok hb)) (Ev.now _)
def addN (n x y : Nat) : Nat := (sumX (decN n x).ex (decN n y).ex).rnd n
theorem addN_lt {n x y : Nat} (h8 : 8 ≤ n) (hn : n ≤ 64) (hx : x < 2 ^ n) (hy : y < 2 ^ n) : addN n x y < 2 ^ n := EX.rnd_lt h8 hn (sumX_ok (NM.ex_ok (decN_ok h8 hn hx)) (NM.ex_ok (decN_ok h8 hn hy)))
theorem sum_Add_eq {n a b : Nat} (h : isW (n : Int) = true) (ha : a < 18446744073709551616) (hb : b < 18446744073709551616) : Ev (fun k => sum_Add.f k (n : Int) (a : Int) (b : Int)) (((addN n (a % 2 ^ n) (b % 2 ^ n) : Nat) : Int), none) := by
 obtain ⟨b64, b8⟩ := pow64 h
 have oa := decN_ok b8 b64 (Nat.mod_lt a (two_pos n))
 have ob := decN_ok b8 b64 (Nat.mod_lt b (two_pos n))
 unfold sum_Add.f
 refine Ev.bind (Decode_N h ha) ?_
 simp only [Option.isNone_none, if_true]
 refine Ev.bind (Decode_N h hb) (Ev.bind (sum_Exact_X oa ob) ?_)
 simp only [Option.isNone_none, if_true]
 exact Ev.bind (Round_X h (sumX_ok (NM.ex_ok oa) (NM.ex_ok ob))) (Ev.now _)
theorem ref09_Add_eq {n a b : Nat} (h : isW (n : Int) = true) (ha : a < 18446744073709551616) (hb : b < 18446744073709551616) : Ev (fun k => vernierref09_Add.f k (n : Int) (a : Int) (b : Int)) ((addN n (a % 2 ^ n) (b % 2 ^ n) : Nat) : Int) := by
 obtain ⟨b64, b8⟩ := pow64 h
 have oa := decN_ok b8 b64 (Nat.mod_lt a (two_pos n))
 have ob := decN_ok b8 b64 (Nat.mod_lt b (two_pos n))
 unfold vernierref09_Add.f
 exact Ev.bind (ref_Decode_N h ha) (Ev.bind (ref_Decode_N h hb) (Ev.bind (ref09_Exact_X oa ob) (Ev.bind (ref_Round_X h (sumX_ok (NM.ex_ok oa) (NM.ex_ok ob))) (Ev.now _))))
end Go.Proofs.YtnjhblakghjdoaaGreat.V
namespace Go.Proofs.YtnjhblakghjdoaaGreat.V
open Go Go.RowKit Go.Proofs.YtnjhblakghjdoaaGreat.Ab Go.Proofs.YtnjhblakghjdoaaGreat.Fn
set_option linter.unusedVariables false
set_option linter.unusedSimpArgs false
theorem sum_Sub_eq {n a b : Nat} (h : isW (n : Int) = true) (ha : a < 18446744073709551616) (hb : b < 18446744073709551616) : Ev (fun k => sum_Sub.f k (n : Int) (a : Int) (b : Int)) (((addN n (a % 2 ^ n) (negP n (b % 2 ^ n)) : Nat) : Int), none) := by
 obtain ⟨b64, b8⟩ := pow64 h
 have g : (18446744073709551616 - b) % 18446744073709551616 % 2 ^ n = negP n (b % 2 ^ n) := negN_mod b64 hb
 have q := sum_Add_eq h ha (Nat.mod_lt (18446744073709551616 - b) (show 0 < 18446744073709551616 by decide))
 rw [g, ← neg_wrap hb] at q
 unfold sum_Sub.f
 exact Ev.bind q (Ev.now _)
theorem ref09_Sub_eq {n a b : Nat} (h : isW (n : Int) = true) (ha : a < 18446744073709551616) (hb : b < 18446744073709551616) : Ev (fun k => vernierref09_Sub.f k (n : Int) (a : Int) (b : Int)) ((addN n (a % 2 ^ n) (negP n (b % 2 ^ n)) : Nat) : Int) := by
 obtain ⟨b64, b8⟩ := pow64 h
 have hl := negP_lt (n := n) (Nat.mod_lt b (two_pos n))
 have h2 : 2 ^ n ≤ 18446744073709551616 := by rw [← p64]; exact pow_le b64
 have hN := ref_Neg_eq h hb
 rw [negN_mod b64 hb] at hN
 have hA := ref09_Add_eq h ha (b := negP n (b % 2 ^ n)) (Nat.lt_of_lt_of_le hl h2)
 rw [Nat.mod_eq_of_lt hl] at hA
 unfold vernierref09_Sub.f
 exact Ev.bind hN (Ev.bind hA (Ev.now _))
end Go.Proofs.YtnjhblakghjdoaaGreat.V
namespace Go.Proofs.YtnjhblakghjdoaaGreat.V
open Go Go.RowKit Go.Proofs.YtnjhblakghjdoaaGreat.Ab Go.Proofs.YtnjhblakghjdoaaGreat.Fn
set_option linter.unusedVariables false
set_option linter.unusedSimpArgs false
def rtL (m : Nat) : Nat → Nat → Nat
 | 0, r => r
 | k + 1, r => rtL m k (if (r + 2 ^ k) * (r + 2 ^ k) ≤ m then r + 2 ^ k else r)
theorem rtL_spec (m : Nat) : ∀ (k r : Nat), r * r ≤ m → m < (r + 2 ^ k) * (r + 2 ^ k) → rtL m k r * rtL m k r ≤ m ∧ m < (rtL m k r + 1) * (rtL m k r + 1)
 | 0, r, h1, h2 => ⟨h1, h2⟩
 | k + 1, r, h1, h2 => by
  unfold rtL
  have e : r + 2 ^ (k + 1) = r + 2 ^ k + 2 ^ k := by rw [Nat.pow_succ]; omega
  rw [e] at h2
  by_cases h : (r + 2 ^ k) * (r + 2 ^ k) ≤ m
  ·rw [if_pos h]; exact rtL_spec m k _ h h2
  ·rw [if_neg h]; exact rtL_spec m k _ h1 (by omega)
theorem rt_uniq {m r s : Nat} (h1 : r * r ≤ m) (h2 : m < (r + 1) * (r + 1)) (h3 : s * s ≤ m) (h4 : m < (s + 1) * (s + 1)) : r = s := by
 rcases Nat.lt_trichotomy r s with h | h | h
 ·have := Nat.mul_le_mul (show r + 1 ≤ s from h) (show r + 1 ≤ s from h); omega
 ·exact h
 ·have := Nat.mul_le_mul (show s + 1 ≤ r from h) (show s + 1 ≤ r from h); omega
theorem rtL_le (m : Nat) : ∀ (k r : Nat), r ≤ rtL m k r ∧ rtL m k r < r + 2 ^ k
 | 0, r => ⟨Nat.le_refl _, by show r < r + 2 ^ 0; omega⟩
 | k + 1, r => by
  unfold rtL
  have e : r + 2 ^ (k + 1) = r + 2 ^ k + 2 ^ k := by rw [Nat.pow_succ]; omega
  have hp := two_pos k
  split
  ·have := rtL_le m k (r + 2 ^ k); omega
  ·have := rtL_le m k r; omega
theorem twin_Cmp_eq (A B : Nat) : twin_Cmp.f (TH A) (TL A) (TH B) (TL B) = some (cmpN A B) := by
 unfold twin_Cmp.f
 by_cases h : A = B
 ·subst h
  rw [if_pos (by simp)]
  unfold cmpN; simp
 ·have hne : ¬ ((TH A == TH B && (TL A == TL B)) = true) := by
   intro hc
   simp only [Bool.and_eq_true, beq_iff_eq] at hc
   exact h (T_eq hc.1 hc.2)
  rw [if_neg hne]
  unfold cmpN
  rw [if_neg h]
  by_cases hl : A < B
  ·rw [if_pos hl]
   by_cases h1 : TH A < TH B
   ·rw [if_pos h1]
   ·rw [if_neg h1]
    have h2 : TH A = TH B := by unfold TH at *; omega
    have h3 : TL A < TL B := by unfold TH TL at *; omega
    rw [if_pos h2, if_pos h3]
  ·rw [if_neg hl]
   have h1 : ¬ TH A < TH B := by unfold TH at *; omega
   rw [if_neg h1]
   by_cases h2 : TH A = TH B
   ·have h3 : ¬ TL A < TL B := by unfold TH TL at *; omega
    rw [if_pos h2, if_neg h3]
   ·rw [if_neg h2]
theorem bits_Sub64_eq {x y b : Int} (hx : 0 ≤ x) (hy0 : 0 ≤ y) (hy : y < 18446744073709551616) (h0 : 0 ≤ b) (hb : b ≤ 1) : bits_Sub64.f x y b = some ((x - y - b) % 18446744073709551616, if x < y + b then 1 else 0) := by
 unfold bits_Sub64.f
 rw [if_pos ⟨hx, hy0, hy, h0, hb⟩]
theorem th_lt {A : Nat} (h : A < 2 ^ 128) : A / 18446744073709551616 < 18446744073709551616 := by rw [p128] at h; omega
theorem TL_range (A : Nat) : 0 ≤ TL A ∧ TL A < 18446744073709551616 := by unfold TL; omega
theorem TH_range {A : Nat} (h : A / 18446744073709551616 < 18446744073709551616) : 0 ≤ TH A ∧ TH A < 18446744073709551616 := by unfold TH; omega
theorem sub_T {A B : Nat} (hA : A / 18446744073709551616 < 18446744073709551616) (h : B ≤ A) (hc : TL A < TL B + 0) : (TH A - TH B - 1) % 18446744073709551616 = TH (A - B) ∧ (TL A - TL B - 0) % 18446744073709551616 = TL (A - B) ∧ ¬ TH A < TH B + 1 := by
 unfold TH TL at *; omega
theorem sub_T' {A B : Nat} (hA : A / 18446744073709551616 < 18446744073709551616) (h : B ≤ A) (hc : ¬ TL A < TL B + 0) : (TH A - TH B - 0) % 18446744073709551616 = TH (A - B) ∧ (TL A - TL B - 0) % 18446744073709551616 = TL (A - B) ∧ ¬ TH A < TH B + 0 := by
 unfold TH TL at *; omega
theorem twin_Sub_eq' {A B : Nat} (hA : A / 18446744073709551616 < 18446744073709551616) (h : B ≤ A) : twin_Sub.f (TH A) (TL A) (TH B) (TL B) = some (TH (A - B), TL (A - B), false) := by
 have hB : B / 18446744073709551616 < 18446744073709551616 := Nat.lt_of_le_of_lt (Nat.div_le_div_right h) hA
 have a := bits_Sub64_eq (b := 0) (TL_range A).1 (TL_range B).1 (TL_range B).2 (Int.le_refl 0) (by decide)
 have b0 := bits_Sub64_eq (b := 0) (TH_range hA).1 (TH_range hB).1 (TH_range hB).2 (Int.le_refl 0) (by decide)
 have b1 := bits_Sub64_eq (b := 1) (TH_range hA).1 (TH_range hB).1 (TH_range hB).2 (by decide) (Int.le_refl 1)
 unfold twin_Sub.f
 rw [a]
 by_cases hc : TL A < TL B + 0
 ·obtain ⟨c1, c2, c3⟩ := sub_T hA h hc
  rw [if_pos hc, Option.bind_some]
  rw [b1, if_neg c3, Option.bind_some, c1, c2]
  rfl
 ·obtain ⟨c1, c2, c3⟩ := sub_T' hA h hc
  rw [if_neg hc, Option.bind_some]
  rw [b0, if_neg c3, Option.bind_some, c1, c2]
  rfl
theorem twin_Sub_eq {A B : Nat} (hA : A < 2 ^ 128) (h : B ≤ A) : twin_Sub.f (TH A) (TL A) (TH B) (TL B) = some (TH (A - B), TL (A - B), false) := twin_Sub_eq' (th_lt hA) h
theorem cmpN_le {A B : Nat} : cmpN A B ≤ 0 ↔ A ≤ B := by
 unfold cmpN; split
 ·omega
 ·split <;> omega
theorem part_Root_l0 {m : Nat} (hm : ∀ r, r * r ≤ m → twin_Sub.f (TH m) (TL m) (TH (r * r)) (TL (r * r)) = some (TH (m - r * r), TL (m - r * r), false)) : ∀ (k r : Nat), r % 2 ^ k = 0 → r + 2 ^ k ≤ 18446744073709551616 → k ≤ 64 → r * r ≤ m → Ev (fun n => part_Root.l0 n (r : Int) ((k : Int) - 1) (TH m) (TL m)) (((rtL m k r : Nat) : Int), TH (m - rtL m k r * rtL m k r), TL (m - rtL m k r * rtL m k r))
 | 0, r, h0, h1, hk, hr => by
  rw [Nat.pow_zero] at h1
  refine evs ?_
  simp only [part_Root.l0, nI_eq, if_neg (show ¬ ((0 : Nat) : Int) - 1 ≥ 0 by decide), if_false]
  exact Ev.bind (evn (twin_Mul_eq (show r < 18446744073709551616 by omega) (show r < 18446744073709551616 by omega))) (Ev.bind (evn (hm r hr)) (Ev.now _))
 | k + 1, r, h0, h1, hk, hr => by
  have hp := two_pos k
  have e2 : 2 ^ (k + 1) = 2 ^ k * 2 := Nat.pow_succ ..
  have hpl : 2 ^ k < 18446744073709551616 := by rw [← p64]; exact pow_lt (by omega)
  have eor : Go.bits .or .u64 (r : Int) (shl .u64 1 (k : Int)) = ((r + 2 ^ k : Nat) : Int) := by
   have := shl_nat 1 k (by omega)
   rw [Nat.one_mul, Nat.mod_eq_of_lt hpl] at this
   have e1 : shl .u64 1 (k : Int) = ((2 ^ k : Nat) : Int) := this
   rw [e1]
   exact or_add r (2 ^ k) (k + 1) (by omega) h0 (by omega) hpl
  have ew : wrap64 ((k : Int) - 1) = (k : Int) - 1 := w64 (by omega) (by omega)
  have hd : r % 2 ^ k = 0 := by
   have := mod_pow_le (a := r) (b := k) (c := k + 1) (by omega)
   rw [h0, Nat.zero_mod] at this
   exact this.symm
  refine evs ?_
  simp only [part_Root.l0, nI_eq, show ((k + 1 : Nat) : Int) - 1 = (k : Int) by omega, if_pos (show (k : Int) ≥ 0 by omega), if_pos (show (0 : Int) ≤ (k : Int) by omega), eor, ew]
  refine Ev.bind (evn (twin_Mul_eq (show r + 2 ^ k < 18446744073709551616 by omega) (show r + 2 ^ k < 18446744073709551616 by omega))) (Ev.bind (evn (twin_Cmp_eq _ _)) ?_)
  unfold rtL
  by_cases h : (r + 2 ^ k) * (r + 2 ^ k) ≤ m
  ·simp only [if_pos (cmpN_le.mpr h), if_pos h]
   exact part_Root_l0 hm k (r + 2 ^ k) (by rw [Nat.add_mod_right]; exact hd) (by omega) (by omega) h
  ·simp only [if_neg (fun hc => h (cmpN_le.mp hc)), if_neg h]
   exact part_Root_l0 hm k r hd (by omega) (by omega) hr
theorem part_Root_eq {m : Nat} (hm : m < 2 ^ 128) : Ev (fun n => part_Root.f n (TH m) (TL m)) (((rtL m 64 0 : Nat) : Int), TH (m - rtL m 64 0 * rtL m 64 0), TL (m - rtL m 64 0 * rtL m 64 0)) := by
 unfold part_Root.f
 exact part_Root_l0 (fun r hr => twin_Sub_eq hm hr) 64 0 (Nat.zero_mod _) (by rw [p64]; omega) (by decide) (Nat.zero_le _)
theorem and_i64_1 (s : Int) : Go.bits .and .i64 s 1 = s % 2 := by
 simp only [Go.bits]
 have h1 : (BitVec.ofInt IntKind.i64.bits s) &&& (BitVec.ofInt IntKind.i64.bits 1) = BitVec.ofNat 64 (s % 2).toNat := by
  show (BitVec.ofInt 64 s) &&& (BitVec.ofInt 64 1) = BitVec.ofNat 64 (s % 2).toNat
  apply BitVec.eq_of_toNat_eq
  rw [BitVec.toNat_and, BitVec.toNat_ofInt, BitVec.toNat_ofInt, BitVec.toNat_ofNat]
  rw [show ((1 : Int) % ((2 ^ 64 : Nat) : Int)).toNat = 2 ^ 1 - 1 by decide, Nat.and_two_pow_sub_one_eq_mod]
  omega
 have h3 : (BitVec.ofNat 64 (s % 2).toNat).toNat = (s % 2).toNat := by rw [BitVec.toNat_ofNat]; omega
 rw [h1]
 show IntKind.i64.wrap ((BitVec.ofNat 64 (s % 2).toNat).toNat : Int) = _
 rw [h3, IntKind.wrap_i64]
 omega
def rootW (x : EX) : Nat := if x.sc % 2 = 0 then x.V / 2 else x.V
def rootX (x : EX) : EX := if x.kd = 0 then EX.zero else if x.kd = 2 ∨ x.ng = true then EX.nar else
 ⟨1, false, x.sc / 2, rtL (rootW x) 64 0 * 18446744073709551616, x.R || (decide (x.sc % 2 = 0 ∧ x.V % 2 ≠ 0) || decide (rtL (rootW x) 64 0 * rtL (rootW x) 64 0 ≠ rootW x))⟩
theorem rt_facts {m : Nat} (h0 : 2 ^ 126 ≤ m) (h1 : m < 2 ^ 128) : rtL m 64 0 * rtL m 64 0 ≤ m ∧ m < (rtL m 64 0 + 1) * (rtL m 64 0 + 1) ∧ 9223372036854775808 ≤ rtL m 64 0 ∧ rtL m 64 0 < 18446744073709551616 := by
 obtain ⟨a, b⟩ := rtL_spec m 64 0 (Nat.zero_le _) (by rw [Nat.zero_add, ← Nat.pow_add]; exact h1)
 have c := (rtL_le m 64 0).2
 rw [p64] at c
 refine ⟨a, b, ?_, by omega⟩
 generalize rtL m 64 0 = r at *
 rcases Nat.lt_or_ge r 9223372036854775808 with h | h
 ·have := Nat.mul_le_mul (show r + 1 ≤ 9223372036854775808 by omega) (show r + 1 ≤ 9223372036854775808 by omega)
  have e : (9223372036854775808 : Nat) * 9223372036854775808 = 2 ^ 126 := by decide
  omega
 ·exact h
theorem rootW_bounds {x : EX} (h1 : 2 ^ 127 ≤ x.V) (h2 : x.V < 2 ^ 128) : 2 ^ 126 ≤ rootW x ∧ rootW x < 2 ^ 128 := by
 have e : (2 : Nat) ^ 127 = 2 * 2 ^ 126 := by decide
 unfold rootW
 generalize (2 : Nat) ^ 128 = z at *
 generalize (2 : Nat) ^ 126 = y at *
 split <;> omega
theorem rootX_ok {x : EX} (hx : x.ok) : (rootX x).ok := by
 unfold rootX
 split
 ·exact .inl rfl
 ·split
  ·exact .inr (.inl rfl)
  ·rename_i h0 h2
   rcases hx with rfl | rfl | ⟨k1, k2, k3, k4, k5⟩
   ·exact absurd rfl h0
   ·exact absurd (.inl rfl) h2
   ·obtain ⟨w1, w2⟩ := rootW_bounds k2 k3
    obtain ⟨_, _, r1, r2⟩ := rt_facts w1 w2
    refine .inr (.inr ⟨rfl, ?_, ?_, ?_, ?_⟩)
    ·show 2 ^ 127 ≤ rtL (rootW x) 64 0 * 18446744073709551616
     rw [p127]; omega
    ·show rtL (rootW x) 64 0 * 18446744073709551616 < 2 ^ 128
     rw [p128]; omega
    ·show -1099511627776 ≤ x.sc / 2
     omega
    ·show x.sc / 2 ≤ 1099511627776
     omega
theorem left_ne {m r : Nat} (h : r * r ≤ m) : (!((TH (m - r * r) == 0) && (TL (m - r * r) == 0))) = decide (r * r ≠ m) := by
 by_cases e : r * r = m
 ·rw [e, Nat.sub_self, decide_eq_false (by omega)]; rfl
 ·rw [decide_eq_true e]
  generalize hd : m - r * r = d
  have h0 : d ≠ 0 := by omega
  by_cases h1 : TH d = 0
  ·have h2 : TL d ≠ 0 := by unfold TH TL at *; omega
   simp [h2]
  ·simp [h1]
theorem root_Exact_X {x : EX} (hx : x.ok) : Ev (fun k => root_Exact.f k x.kd x.ng x.sc (TH x.V) (TL x.V) x.R) ((rootX x).kd, (rootX x).ng, (rootX x).sc, TH (rootX x).V, TL (rootX x).V, (rootX x).R, none) := by
 unfold root_Exact.f
 refine Ev.bind (Round_X (n := 8) (by decide) hx) ?_
 simp only [Option.isNone_none, if_true]
 rcases hx with rfl | rfl | ⟨k1, k2, k3, k4, k5⟩
 ·exact Ev.now _
 ·exact Ev.now _
 ·have hk0 : ¬ x.kd = 0 := by omega
  have hk2 : ¬ x.kd = 2 := by omega
  simp only [if_neg hk0, if_neg hk2]
  by_cases hn : x.ng = true
  ·have e : rootX x = EX.nar := by unfold rootX; rw [if_neg hk0, if_pos (.inr hn)]
   simp only [if_pos hn, e]
   exact Ev.now _
  ·obtain ⟨w1, w2⟩ := rootW_bounds k2 k3
   obtain ⟨r1, r2, r3, r4⟩ := rt_facts w1 w2
   have e : rootX x = ⟨1, false, x.sc / 2, rtL (rootW x) 64 0 * 18446744073709551616, x.R || (decide (x.sc % 2 = 0 ∧ x.V % 2 ≠ 0) || decide (rtL (rootW x) 64 0 * rtL (rootW x) 64 0 ≠ rootW x))⟩ := by
    unfold rootX; rw [if_neg hk0, if_neg (fun h => h.elim hk2 hn)]
   have hR := part_Root_eq w2
   simp only [if_neg hn]
   refine evs ?_
   simp only [root_Exact.j0, and_i64_1, e, (T_hi _).1, (T_hi _).2]
   by_cases hs : x.sc % 2 = 0
   ·have hw : rootW x = x.V / 2 ^ 1 := by unfold rootW; rw [if_pos hs]
    simp only [if_pos hs]
    have hsh := twin_Shr_eq x.V 1 k3 (by decide)
    have hsh' : twin_Shr.f (TH x.V) (TL x.V) 1 = _ := hsh
    simp only [hsh', Option.bind_some]
    rw [← hw]
    by_cases hr : x.R = true
    ·simp only [if_pos hr]
     refine Ev.bind hR (evn ?_)
     simp [hr]
    ·simp only [if_neg hr]
     refine Ev.bind hR ?_
     by_cases hl : x.V % 2 ^ 1 ≠ 0
     ·simp only [decide_eq_true hl, if_true]
      refine evn ?_
      have : x.V % 2 ≠ 0 := hl
      simp [hs, this]
     ·simp only [decide_eq_false hl, Bool.false_eq_true, if_false, left_ne r1]
      refine evn ?_
      have h0 : x.V % 2 = 0 := by simpa using hl
      simp [hr, h0]
   ·have hw : rootW x = x.V := by unfold rootW; rw [if_neg hs]
    simp only [if_neg hs]
    rw [hw] at hR r1 ⊢
    refine Ev.bind hR ?_
    by_cases hr : x.R = true
    ·simp only [if_pos hr]
     refine evn ?_
     simp [hr]
    ·simp only [if_neg hr, left_ne r1]
     refine evn ?_
     simp [hr, hs]
theorem ref_half_eq {s : Int} (h0 : -4398046511104 ≤ s) (h1 : s ≤ 4398046511104) : vernierref12_half.f s = some (s / 2) := by
 unfold vernierref12_half.f
 have q : (0 ≤ s ∧ Int.tdiv s 2 = s / 2) ∨ (s < 0 ∧ Int.tdiv s 2 = if s % 2 = 0 then s / 2 else s / 2 + 1) := by
  rcases (show s < 0 ∨ 0 ≤ s by omega) with h | h
  ·right
   refine ⟨h, ?_⟩
   rw [Int.tdiv_eq_ediv]
   by_cases hd : s % 2 = 0
   ·rw [if_pos hd, if_pos (Or.inr (by omega)), Int.add_zero]
   ·rw [if_neg hd, if_neg (by omega)]; rfl
  ·left; exact ⟨h, Int.tdiv_eq_ediv_of_nonneg h⟩
 have e : wrap64 (Int.tdiv s 2) = Int.tdiv s 2 := by
  rcases q with ⟨h, q⟩ | ⟨h, q⟩
  ·rw [q, w64 (by omega) (by omega)]
  ·rw [q]
   by_cases hd : s % 2 = 0
   ·rw [if_pos hd, w64 (by omega) (by omega)]
   ·rw [if_neg hd, w64 (by omega) (by omega)]
 rw [e]
 rcases q with ⟨h, q⟩ | ⟨h, q⟩
 ·rw [q, w64 (n := 2 * (s / 2)) (by omega) (by omega), if_neg (by omega)]
 ·by_cases hd : s % 2 = 0
  ·rw [if_pos hd] at q
   rw [q, w64 (n := 2 * (s / 2)) (by omega) (by omega), if_neg (by omega)]
  ·rw [if_neg hd] at q
   rw [q, w64 (n := 2 * (s / 2 + 1)) (by omega) (by omega), if_pos (by omega), w64 (by omega) (by omega), Int.add_sub_cancel]
end Go.Proofs.YtnjhblakghjdoaaGreat.V
namespace Go.Proofs.YtnjhblakghjdoaaGreat.V
open Go Go.RowKit Go.Proofs.YtnjhblakghjdoaaGreat.Ab Go.Proofs.YtnjhblakghjdoaaGreat.Fn
set_option linter.unusedVariables false
set_option linter.unusedSimpArgs false
theorem rt_div {M r b : Nat} (hb : 0 < b) (h1 : r * r ≤ M) (h2 : M < (r + 1) * (r + 1)) : (r / b) * (r / b) ≤ M / (b * b) ∧ M / (b * b) < (r / b + 1) * (r / b + 1) := by
 have hd := Nat.div_add_mod r b
 have hm := Nat.mod_lt r hb
 generalize r / b = q at *
 generalize r % b = c at *
 subst hd
 constructor
 ·rw [Nat.le_div_iff_mul_le (Nat.mul_pos hb hb)]
  refine Nat.le_trans ?_ h1
  have e : q * q * (b * b) = (b * q) * (b * q) := by grind
  rw [e]
  exact Nat.mul_le_mul (by omega) (by omega)
 ·rw [Nat.div_lt_iff_lt_mul (Nat.mul_pos hb hb)]
  refine Nat.lt_of_lt_of_le h2 ?_
  have e : (q + 1) * (q + 1) * (b * b) = (b * q + b) * (b * q + b) := by grind
  rw [e]
  exact Nat.mul_le_mul (by omega) (by omega)
theorem rt_eq {M r b : Nat} (hb : 0 < b) (h1 : r * r ≤ M) (h2 : M < (r + 1) * (r + 1)) : (r % b ≠ 0 ∨ r * r ≠ M) ↔ (M % (b * b) ≠ 0 ∨ (r / b) * (r / b) ≠ M / (b * b)) := by
 have hd := Nat.div_add_mod r b
 have hm := Nat.div_add_mod M (b * b)
 rw [← Decidable.not_iff_not]
 simp only [not_or, Decidable.not_not]
 constructor
 ·rintro ⟨ha, hc⟩
  rw [ha, Nat.add_zero] at hd
  have e : M = (b * b) * ((r / b) * (r / b)) := by
   rw [← hc]
   generalize r / b = q at *
   subst hd; grind
  rw [e, Nat.mul_mod_right, Nat.mul_div_cancel_left _ (Nat.mul_pos hb hb)]
  exact ⟨rfl, rfl⟩
 ·rintro ⟨ha, hc⟩
  rw [ha, Nat.add_zero, ← hc] at hm
  have e : b * (r / b) * (b * (r / b)) = M := by rw [← hm]; grind
  have hq : b * (r / b) = r := rt_uniq (m := M) (by omega) (by
   rw [← e]; exact Nat.mul_self_lt_mul_self (Nat.lt_succ_self _)) h1 h2
  rw [hq] at e
  refine ⟨?_, e⟩
  omega
theorem bl71 {r : Nat} (h1 : 2 ^ 70 ≤ r) (h2 : r < 2 ^ 71) : bl r = 71 := bl_unique (by decide) h1 h2
theorem ref12_l0 {M : Nat} {m : List Int} {s : Int} {R : Bool} {y : Int × Bool × Int × Int × Int × Bool × Int} (hm : DL m M) (lm : m.length ≤ 6) : ∀ (k r : Nat) (l : List Int), DL l r → r + 2 ^ k ≤ 2 ^ 71 → k ≤ 71 →
  (∀ l', DL l' (rtL M k r) → rtL M k r < 2 ^ 71 → Ev (fun n => vernierref12_Exact.l0 n s m l' (-1) R) y) → Ev (fun n => vernierref12_Exact.l0 n s m l ((k : Int) - 1) R) y
 | 0, r, l, hl, hr, hk, H => by
  have := H l hl (by unfold rtL; rw [Nat.pow_zero] at hr; omega)
  exact this
 | k + 1, r, l, hl, hr, hk, H => by
  have hp := two_pos k
  have e2 : 2 ^ (k + 1) = 2 ^ k * 2 := Nat.pow_succ ..
  refine evs ?_
  have ew : wrap64 ((k : Int) - 1) = (k : Int) - 1 := w64 (by omega) (by omega)
  simp only [vernierref12_Exact.l0, nI_eq, show ((k + 1 : Nat) : Int) - 1 = (k : Int) by omega, if_pos (show (k : Int) ≥ 0 by omega), ew]
  obtain ⟨a, a1, a2⟩ := r4_Shl (k := k) one_DL (by omega) (by decide)
  rw [Nat.one_mul] at a2
  have hW : (2 : Nat) ^ 71 ≤ W 3 := by decide
  have la : a.length ≤ 3 := a2.len_le (by omega)
  have ll : l.length ≤ 3 := hl.len_le (by omega)
  obtain ⟨b, b1, b2⟩ := r4_Add hl a2 (by omega) (by omega)
  have lb : b.length ≤ 3 := b2.len_le (by omega)
  obtain ⟨c, c1, c2⟩ := r4_Mul b2 b2 (by omega)
  have hsq : (r + 2 ^ k) * (r + 2 ^ k) < W 6 := by
   have := Nat.mul_le_mul (show r + 2 ^ k ≤ 2 ^ 71 by omega) (show r + 2 ^ k ≤ 2 ^ 71 by omega)
   have e : (2 : Nat) ^ 71 * 2 ^ 71 < W 6 := by decide
   omega
  have lc : c.length ≤ 6 := c2.len_le hsq
  refine Ev.bind a1 (Ev.bind b1 (Ev.bind c1 (Ev.bind (r4_Cmp c2 hm (by omega) (by omega)) ?_)))
  unfold rtL at H
  by_cases h : (r + 2 ^ k) * (r + 2 ^ k) ≤ M
  ·simp only [if_pos (cmpN_le.mpr h)]
   rw [if_pos h] at H
   exact ref12_l0 hm lm k (r + 2 ^ k) b b2 (by omega) (by omega) H
  ·simp only [if_neg (fun hc => h (cmpN_le.mp hc))]
   rw [if_neg h] at H
   exact ref12_l0 hm lm k r l hl (by omega) (by omega) H
theorem ref12_Exact_X {x : EX} (hx : x.ok) : Ev (fun k => vernierref12_Exact.f k x.kd x.ng x.sc (TH x.V) (TL x.V) x.R) ((rootX x).kd, (rootX x).ng, (rootX x).sc, TH (rootX x).V, TL (rootX x).V, (rootX x).R, 0) := by
 unfold vernierref12_Exact.f
 simp only [ref_Sound_eq, EX.ok_sound hx, Option.bind_some, if_true]
 rcases hx with rfl | rfl | ⟨k1, k2, k3, k4, k5⟩
 ·exact evs (Ev.now _)
 ·exact evs (Ev.now _)
 ·have hk0 : ¬ x.kd = 0 := by omega
  have hk2 : ¬ x.kd = 2 := by omega
  simp only [if_neg hk2]
  refine evs ?_
  simp only [vernierref12_Exact.j0]
  by_cases hn : x.ng = true
  ·have e : rootX x = EX.nar := by unfold rootX; rw [if_neg hk0, if_pos (.inr hn)]
   simp only [if_pos hn, e]
   exact Ev.now _
  ·simp only [if_neg hn, if_neg hk0]
   refine Ev.bind (evn (ref_half_eq (by omega) (by omega))) ?_
   obtain ⟨v, v1, v2⟩ := ref02_Of_eq k3
   have lv : v.length ≤ 6 := v2.len_le (Nat.lt_of_lt_of_le k3 (by decide))
   have et : wrap64 (wrap64 (13 + x.sc) - wrap64 (2 * (x.sc / 2))) = ((13 + (x.sc % 2).toNat : Nat) : Int) := by
    rw [w64 (n := 13 + x.sc) (by omega) (by omega), w64 (n := 2 * (x.sc / 2)) (by omega) (by omega), w64 (by omega) (by omega)]; omega
   rw [et]
   have ht : (x.sc % 2).toNat < 2 := by omega
   have hse : x.sc % 2 = 0 ↔ (x.sc % 2).toNat = 0 := by omega
   generalize hte : (x.sc % 2).toNat = t at *
   obtain ⟨m, m1, m2⟩ := r4_Shl (k := 13 + t) v2 (by omega) (by omega)
   -- the number under the root
   have hM : x.V * 2 ^ (13 + t) / 16384 = rootW x ∧ (x.V * 2 ^ (13 + t) % 16384 ≠ 0 ↔ x.sc % 2 = 0 ∧ x.V % 2 ≠ 0) := by
    unfold rootW
    rcases (show t = 0 ∨ t = 1 by omega) with h | h
    ·rw [if_pos (hse.mpr h), h, show (2 : Nat) ^ (13 + 0) = 8192 by decide]
     have := hse.mpr h
     omega
    ·rw [if_neg (by rw [hse]; omega), h, show (2 : Nat) ^ (13 + 1) = 16384 by decide]
     have : ¬ x.sc % 2 = 0 := by rw [hse]; omega
     omega
   obtain ⟨hM1, hM2⟩ := hM
   have hMb : 2 ^ 140 ≤ x.V * 2 ^ (13 + t) ∧ x.V * 2 ^ (13 + t) < 2 ^ 142 := by
    rcases (show t = 0 ∨ t = 1 by omega) with h | h
    ·rw [h, show (2 : Nat) ^ (13 + 0) = 8192 by decide, show (2 : Nat) ^ 140 = 8192 * 2 ^ 127 by decide, show (2 : Nat) ^ 142 = 16384 * 2 ^ 128 by decide]
     generalize (2 : Nat) ^ 127 = y at *
     generalize (2 : Nat) ^ 128 = z at *
     omega
    ·rw [h, show (2 : Nat) ^ (13 + 1) = 16384 by decide, show (2 : Nat) ^ 140 = 8192 * 2 ^ 127 by decide, show (2 : Nat) ^ 142 = 16384 * 2 ^ 128 by decide]
     generalize (2 : Nat) ^ 127 = y at *
     generalize (2 : Nat) ^ 128 = z at *
     omega
   generalize x.V * 2 ^ (13 + t) = M at *
   have lm : m.length ≤ 6 := m2.len_le (Nat.lt_of_lt_of_le hMb.2 (by decide))
   obtain ⟨r1, r2⟩ := rtL_spec M 71 0 (Nat.zero_le _) (by rw [Nat.zero_add, ← Nat.pow_add]; exact hMb.2)
   refine Ev.bind v1 (Ev.bind m1 (ref12_l0 m2 lm 71 0 [] DL.nil (by decide) (by decide) ?_))
   intro l hl hlt
   generalize rtL M 71 0 = r at *
   have hrl : 2 ^ 70 ≤ r := by
    rcases Nat.lt_or_ge r (2 ^ 70) with h | h
    ·have := Nat.mul_le_mul (show r + 1 ≤ 2 ^ 70 by omega) (show r + 1 ≤ 2 ^ 70 by omega)
     have e : (2 : Nat) ^ 70 * 2 ^ 70 = 2 ^ 140 := by decide
     omega
    ·exact h
   obtain ⟨w1, w2⟩ := rootW_bounds k2 k3
   obtain ⟨q1, q2⟩ := rtL_spec (rootW x) 64 0 (Nat.zero_le _) (by rw [Nat.zero_add, ← Nat.pow_add]; exact w2)
   obtain ⟨d1, d2⟩ := rt_div (b := 128) (by decide) r1 r2
   have de := rt_eq (b := 128) (by decide) r1 r2
   rw [show (128 * 128 : Nat) = 16384 from rfl, hM1] at d1 d2 de
   have hq : r / 128 = rtL (rootW x) 64 0 := rt_uniq d1 d2 q1 q2
   have ll : l.length ≤ 3 := hl.len_le (Nat.lt_of_lt_of_le hlt (by decide))
   obtain ⟨sq, sq1, sq2⟩ := r4_Mul hl hl (by omega)
   have lsq : sq.length ≤ 6 := sq2.len_le (Nat.lt_of_le_of_lt r1 (Nat.lt_of_lt_of_le hMb.2 (by decide)))
   have e70 : wrap64 (x.sc / 2 - 70) = x.sc / 2 - 70 := w64 (by omega) (by omega)
   refine evs ?_
   simp only [vernierref12_Exact.l0, nI_eq, if_neg (show ¬ (-1 : Int) ≥ 0 by decide), e70]
   refine Ev.bind sq1 (Ev.bind (r4_Cmp sq2 m2 (by omega) (by omega)) (Ev.bind (ref_Exactly_eq hl (by omega) (by omega) (by omega)) ?_))
   have hb := bl71 hrl hlt
   have hex : exactE false r (x.sc / 2 - 70) false = (1, false, x.sc / 2, ((r / 128 : Nat) : Int), ((r % 128 * 144115188075855872 : Nat) : Int), false) := by
    unfold exactE
    rw [if_neg (by have := two_pos 70; omega), hb]
    have hh : heldI (x.sc / 2 - 70 + ((71 : Nat) : Int) - 1) = x.sc / 2 := by unfold heldI; rw [if_neg (by omega), if_neg (by omega)]; omega
    rw [hh]
    have hv : mkV r = r * 144115188075855872 := by
     have e57 : (2 : Nat) ^ (128 - 71) = 144115188075855872 := by decide
     unfold mkV; rw [hb, if_pos (by decide), e57]
    have hr : mkR r false = false := by unfold mkR; rw [hb, show (71 - 128 : Nat) = 0 from rfl, Nat.pow_zero, Nat.mod_one]; rfl
    rw [hv, hr]
    have t1 : TH (r * 144115188075855872) = ((r / 128 : Nat) : Int) := by unfold TH; omega
    have t2 : TL (r * 144115188075855872) = ((r % 128 * 144115188075855872 : Nat) : Int) := by unfold TL; omega
    rw [t1, t2]
   rw [hex]
   refine Ev.bind (evn (ref11_Cut_eq _ _ _ _ _ _)) ?_
   rw [Bool.false_or]
   have e : rootX x = ⟨1, false, x.sc / 2, rtL (rootW x) 64 0 * 18446744073709551616, x.R || (decide (x.sc % 2 = 0 ∧ x.V % 2 ≠ 0) || decide (rtL (rootW x) 64 0 * rtL (rootW x) 64 0 ≠ rootW x))⟩ := by
    unfold rootX; rw [if_neg hk0, if_neg (fun h => h.elim hk2 hn)]
   rw [← hq] at e
   rw [e]
   simp only [(T_hi _).1, (T_hi _).2]
   have hz : ((r % 128 * 144115188075855872 : Nat) : Int) ≠ 0 ↔ r % 128 ≠ 0 := by omega
   have hc : cmpN (r * r) M = 0 ↔ r * r = M := by
    unfold cmpN
    by_cases h : r * r = M
    ·rw [if_pos h]; simp [h]
    ·rw [if_neg h]; simp only [h, iff_false]; split <;> decide
   rw [hM2] at de
   by_cases c1 : r % 128 ≠ 0
   ·simp only [decide_eq_true (hz.mpr c1), if_true]
    refine evn ?_
    have := de.mp (.inl c1)
    have hb : (decide (x.sc % 2 = 0 ∧ x.V % 2 ≠ 0) || decide (r / 128 * (r / 128) ≠ rootW x)) = true := by simpa using this
    rw [hb]; simp
   ·simp only [decide_eq_false (fun h => c1 (hz.mp h)), Bool.false_eq_true, if_false]
    by_cases c2 : r * r = M
    ·simp only [if_pos (hc.mpr c2)]
     have hb : (decide (x.sc % 2 = 0 ∧ x.V % 2 ≠ 0) || decide (r / 128 * (r / 128) ≠ rootW x)) = false := by
      rw [Bool.eq_false_iff]
      intro h
      have h' := de.mpr (by simpa using h)
      exact h'.elim c1 (fun h => h c2)
     rw [hb, Bool.or_false]
     exact Ev.now _
    ·simp only [if_neg (fun h => c2 (hc.mp h))]
     refine evn ?_
     have := de.mp (.inr c2)
     have hb : (decide (x.sc % 2 = 0 ∧ x.V % 2 ≠ 0) || decide (r / 128 * (r / 128) ≠ rootW x)) = true := by simpa using this
     rw [hb]; simp
end Go.Proofs.YtnjhblakghjdoaaGreat.V
namespace Go.Proofs.YtnjhblakghjdoaaGreat.V
open Go Go.RowKit Go.Proofs.YtnjhblakghjdoaaGreat.Ab Go.Proofs.YtnjhblakghjdoaaGreat.Fn
set_option linter.unusedVariables false
set_option linter.unusedSimpArgs false
def sqrtN (n x : Nat) : Nat := (rootX (decN n x).ex).rnd n
theorem sqrtN_lt {n x : Nat} (h8 : 8 ≤ n) (hn : n ≤ 64) (hx : x < 2 ^ n) : sqrtN n x < 2 ^ n := EX.rnd_lt h8 hn (rootX_ok (NM.ex_ok (decN_ok h8 hn hx)))
theorem root_Sqrt_eq {n a : Nat} (h : isW (n : Int) = true) (ha : a < 18446744073709551616) : Ev (fun k => root_Sqrt.f k (n : Int) (a : Int)) (((sqrtN n (a % 2 ^ n) : Nat) : Int), none) := by
 obtain ⟨b64, b8⟩ := pow64 h
 have hok := decN_ok b8 b64 (Nat.mod_lt a (two_pos n))
 unfold root_Sqrt.f
 refine Ev.bind (Decode_N h ha) ?_
 simp only [Option.isNone_none, if_true]
 refine Ev.bind (Of_X hok) (Ev.bind (root_Exact_X (NM.ex_ok hok)) ?_)
 simp only [Option.isNone_none, if_true]
 exact Ev.bind (Round_X h (rootX_ok (NM.ex_ok hok))) (Ev.now _)
theorem ref_Sqrt_eq {n a : Nat} (h : isW (n : Int) = true) (ha : a < 18446744073709551616) : Ev (fun k => vernierref12_Sqrt.f k (n : Int) (a : Int)) ((sqrtN n (a % 2 ^ n) : Nat) : Int) := by
 obtain ⟨b64, b8⟩ := pow64 h
 have hok := decN_ok b8 b64 (Nat.mod_lt a (two_pos n))
 unfold vernierref12_Sqrt.f
 refine Ev.bind (ref_Decode_N h ha) (Ev.bind (evn (ref_Of_X hok)) (Ev.bind (ref12_Exact_X (NM.ex_ok hok)) ?_))
 exact Ev.bind (ref_Round_X h (rootX_ok (NM.ex_ok hok))) (Ev.now _)
end Go.Proofs.YtnjhblakghjdoaaGreat.V
namespace Go.Proofs.YtnjhblakghjdoaaGreat.V
open Go Go.RowKit Go.Proofs.YtnjhblakghjdoaaGreat.Ab Go.Proofs.YtnjhblakghjdoaaGreat.Fn
set_option linter.unusedVariables false
set_option linter.unusedSimpArgs false
def prdX (n x y : Nat) : EX := prodX (decN n x) (decN n y)
theorem prdX_ok (n x y : Nat) : (prdX n x y).ok := prodX_ok _ _
def fmaN (n x y z : Nat) : Nat := (sumX (prdX n x y) (decN n z).ex).rnd n
theorem fuse_product_eq {n a b : Nat} (h : isW (n : Int) = true) (ha : a < 18446744073709551616) (hb : b < 18446744073709551616) : Ev (fun k => fuse_product.f k (n : Int) (a : Int) (b : Int)) ((prdX n (a % 2 ^ n) (b % 2 ^ n)).kd, (prdX n (a % 2 ^ n) (b % 2 ^ n)).ng, (prdX n (a % 2 ^ n) (b % 2 ^ n)).sc, TH (prdX n (a % 2 ^ n) (b % 2 ^ n)).V, TL (prdX n (a % 2 ^ n) (b % 2 ^ n)).V, (prdX n (a % 2 ^ n) (b % 2 ^ n)).R, none) := by
 obtain ⟨b64, b8⟩ := pow64 h
 have oa := decN_ok b8 b64 (Nat.mod_lt a (two_pos n))
 have ob := decN_ok b8 b64 (Nat.mod_lt b (two_pos n))
 unfold fuse_product.f
 refine Ev.bind (Decode_N h ha) ?_
 simp only [Option.isNone_none, if_true]
 exact Ev.bind (Decode_N h hb) (Ev.bind (prod_Exact_X oa ob) (Ev.now _))
theorem fuse_Fma_eq {n a b c : Nat} (h : isW (n : Int) = true) (ha : a < 18446744073709551616) (hb : b < 18446744073709551616) (hc : c < 18446744073709551616) : Ev (fun k => fuse_Fma.f k (n : Int) (a : Int) (b : Int) (c : Int)) (((fmaN n (a % 2 ^ n) (b % 2 ^ n) (c % 2 ^ n) : Nat) : Int), none) := by
 obtain ⟨b64, b8⟩ := pow64 h
 have oc := decN_ok b8 b64 (Nat.mod_lt c (two_pos n))
 have op := prdX_ok n (a % 2 ^ n) (b % 2 ^ n)
 unfold fuse_Fma.f
 refine Ev.bind (fuse_product_eq h ha hb) ?_
 simp only [Option.isNone_none, if_true]
 exact Ev.bind (Decode_N h hc) (Ev.bind (Of_X oc) (Ev.bind (broad_Sum_X op (NM.ex_ok oc)) (Ev.bind (Round_X h (sumX_ok op (NM.ex_ok oc))) (Ev.now _))))
theorem ref13_product_eq {n a b : Nat} (h : isW (n : Int) = true) (ha : a < 18446744073709551616) (hb : b < 18446744073709551616) : Ev (fun k => vernierref13_product.f k (n : Int) (a : Int) (b : Int)) (prdX n (a % 2 ^ n) (b % 2 ^ n)).tup := by
 obtain ⟨b64, b8⟩ := pow64 h
 have oa := decN_ok b8 b64 (Nat.mod_lt a (two_pos n))
 have ob := decN_ok b8 b64 (Nat.mod_lt b (two_pos n))
 unfold vernierref13_product.f
 exact Ev.bind (ref_Decode_N h ha) (Ev.bind (ref_Decode_N h hb) (Ev.bind (ref10_Exact_X oa ob) (Ev.now _)))
theorem ref13_Fma_eq {n a b c : Nat} (h : isW (n : Int) = true) (ha : a < 18446744073709551616) (hb : b < 18446744073709551616) (hc : c < 18446744073709551616) : Ev (fun k => vernierref13_Fma.f k (n : Int) (a : Int) (b : Int) (c : Int)) ((fmaN n (a % 2 ^ n) (b % 2 ^ n) (c % 2 ^ n) : Nat) : Int) := by
 obtain ⟨b64, b8⟩ := pow64 h
 have oc := decN_ok b8 b64 (Nat.mod_lt c (two_pos n))
 have op := prdX_ok n (a % 2 ^ n) (b % 2 ^ n)
 unfold vernierref13_Fma.f
 exact Ev.bind (ref_Decode_N h hc) (Ev.bind (evn (ref_Of_X oc)) (Ev.bind (ref13_product_eq h ha hb) (Ev.bind (ref09_Sum_X op (NM.ex_ok oc)) (Ev.bind (ref_Round_X h (sumX_ok op (NM.ex_ok oc))) (Ev.now _)))))
end Go.Proofs.YtnjhblakghjdoaaGreat.V
namespace Go.Proofs.YtnjhblakghjdoaaGreat.V
open Go Go.RowKit Go.Proofs.YtnjhblakghjdoaaGreat.Ab Go.Proofs.YtnjhblakghjdoaaGreat.Fn
set_option linter.unusedVariables false
set_option linter.unusedSimpArgs false
theorem dig_test {y1 y0 u d g r : Nat} (hy1 : 2147483648 ≤ y1) (hy1' : y1 < 4294967296) (hy0 : y0 < 4294967296) (hu : u < y1 * 4294967296 + y0) (hd : d < 4294967296) (hg : u = g * y1 + r) (hr : r < 4294967296) :
  (¬ (4294967296 ≤ g ∨ 4294967296 * r + d < g * y0) → g ≤ (u * 4294967296 + d) / (y1 * 4294967296 + y0)) ∧ ((4294967296 ≤ g ∨ 4294967296 * r + d < g * y0) → (u * 4294967296 + d) / (y1 * 4294967296 + y0) < g) := by
 have hpos : 0 < y1 * 4294967296 + y0 := by omega
 have e : g * (y1 * 4294967296 + y0) = g * y1 * 4294967296 + g * y0 := by rw [Nat.mul_add, Nat.mul_assoc]
 have eu : u * 4294967296 = g * y1 * 4294967296 + r * 4294967296 := by rw [hg, Nat.add_mul]
 constructor
 ·intro h
  rw [Nat.le_div_iff_mul_le hpos, e]
  omega
 ·rintro (h | h)
  ·refine Nat.lt_of_lt_of_le ?_ h
   rw [Nat.div_lt_iff_lt_mul hpos]
   omega
  ·rw [Nat.div_lt_iff_lt_mul hpos, e]
   omega
theorem dig_break {y1 y0 u d g r : Nat} (hy1 : 2147483648 ≤ y1) (hy0 : y0 < 4294967296) (hg : u = g * y1 + r) (hr : 4294967296 ≤ r) (hb : g ≤ 4294967296) : g ≤ (u * 4294967296 + d) / (y1 * 4294967296 + y0) := by
 have hpos : 0 < y1 * 4294967296 + y0 := by omega
 have e : g * (y1 * 4294967296 + y0) = g * y1 * 4294967296 + g * y0 := by rw [Nat.mul_add, Nat.mul_assoc]
 have eu : u * 4294967296 = g * y1 * 4294967296 + r * 4294967296 := by rw [hg, Nat.add_mul]
 have h0 : g * y0 ≤ 4294967296 * 4294967295 := Nat.mul_le_mul hb (by omega)
 rw [Nat.le_div_iff_mul_le hpos, e]
 omega
theorem dig_down {y1 u g r : Nat} (hg : u = (g + 1) * y1 + r) : u = g * y1 + (r + y1) := by rw [hg, Nat.add_mul]; omega
theorem dig_first {y1 y0 u : Nat} (hy1 : 2147483648 ≤ y1) (hy0 : y0 < 4294967296) (hu : u < y1 * 4294967296 + y0) : u / y1 ≤ 4294967297 := by
 have : u / y1 < 4294967298 := by rw [Nat.div_lt_iff_lt_mul (by omega)]; omega
 omega
theorem dig_below {y1 y0 u d : Nat} (hy1 : 2147483648 ≤ y1) (hd : d < 4294967296) : (u * 4294967296 + d) / (y1 * 4294967296 + y0) ≤ u / y1 := by
 rw [Nat.le_div_iff_mul_le (by omega)]
 have h := Nat.div_mul_le_self (u * 4294967296 + d) (y1 * 4294967296 + y0)
 generalize (u * 4294967296 + d) / (y1 * 4294967296 + y0) = q at *
 have e : q * (y1 * 4294967296 + y0) = q * y1 * 4294967296 + q * y0 := by rw [Nat.mul_add, Nat.mul_assoc]
 omega
theorem wN {n : Nat} (h : n < 18446744073709551616) : IntKind.u64.wrap (n : Int) = (n : Int) := u64_of (by omega) (by omega)
theorem wMul {a b : Nat} (h : a * b < 18446744073709551616) : IntKind.u64.wrap ((a : Int) * (b : Int)) = ((a * b : Nat) : Int) := by rw [mulC, wN h]
theorem wAdd {a b : Nat} (h : a + b < 18446744073709551616) : IntKind.u64.wrap ((a : Int) + (b : Int)) = ((a + b : Nat) : Int) := by rw [addC, wN h]
theorem wPred {a : Nat} (h : a < 18446744073709551616) (h0 : 0 < a) : IntKind.u64.wrap ((a : Int) - 1) = ((a - 1 : Nat) : Int) := by rw [show (a : Int) - 1 = ((a - 1 : Nat) : Int) by omega, wN (by omega)]
theorem wRest {u d g y : Nat} (h : g * y ≤ u * 4294967296 + d) (hl : u * 4294967296 + d - g * y < 18446744073709551616) : IntKind.u64.wrap (IntKind.u64.wrap (IntKind.u64.wrap ((u : Int) * 4294967296) + (d : Int)) - IntKind.u64.wrap ((g : Int) * (y : Int))) = ((u * 4294967296 + d - g * y : Nat) : Int) := by
 rw [mulC g y]
 generalize g * y = z at *
 simp only [u64_wrap]
 omega
theorem div_test_mul {a b : Nat} (ha : a ≤ 4294967297) (hb : b < 4294967296) : a * b < 18446744073709551616 := by
 have := Nat.mul_le_mul ha (show b ≤ 4294967295 by omega)
 omega
structure Dig (y1 y0 u d q : Nat) : Prop where
 y1lo : 2147483648 ≤ y1
 y1hi : y1 < 4294967296
 y0hi : y0 < 4294967296
 dhi : d < 4294967296
 test : ∀ g r, u = g * y1 + r → r < 4294967296 → (¬ (4294967296 ≤ g ∨ 4294967296 * r + d < g * y0) → g ≤ q) ∧ ((4294967296 ≤ g ∨ 4294967296 * r + d < g * y0) → q < g)
 stop : ∀ g r, u = g * y1 + r → 4294967296 ≤ r → g ≤ 4294967296 → g ≤ q
theorem Dig.mk' {y1 y0 u d : Nat} (hy1 : 2147483648 ≤ y1) (hy1' : y1 < 4294967296) (hy0 : y0 < 4294967296) (hu : u < y1 * 4294967296 + y0) (hd : d < 4294967296) : Dig y1 y0 u d ((u * 4294967296 + d) / (y1 * 4294967296 + y0)) :=
 ⟨hy1, hy1', hy0, hd, fun g r h1 h2 => dig_test hy1 hy1' hy0 hu hd h1 h2, fun g r h1 h2 h3 => dig_break hy1 hy0 h1 h2 h3⟩
theorem wB {r : Nat} (h : r < 4294967296) : IntKind.u64.wrap (4294967296 * (r : Int)) = ((4294967296 * r : Nat) : Int) := by rw [show (4294967296 : Int) * (r : Int) = ((4294967296 * r : Nat) : Int) by omega, wN (by omega)]
theorem wB' {r : Nat} (h : r < 4294967296) : IntKind.u64.wrap ((r : Int) * 4294967296) = ((r * 4294967296 : Nat) : Int) := by rw [show (r : Int) * 4294967296 = ((r * 4294967296 : Nat) : Int) by omega, wN (by omega)]
theorem Div64_l0 {y s y1 y0 u d v q : Nat} {res : Int × Int} (D : Dig y1 y0 u d q)
  (H : Ev (fun k => bits_Div64.j2 k (y : Int) (s : Int) (y1 : Int) (y0 : Int) (u : Int) (d : Int) (v : Int) (q : Int)) res) :
  ∀ (m g r : Nat), g ≤ q + m → q ≤ g → u = g * y1 + r → r < 4294967296 → g ≤ 4294967297 →
   Ev (fun k => bits_Div64.l0 k (y : Int) (s : Int) (y1 : Int) (y0 : Int) (u : Int) (d : Int) (v : Int) (g : Int) (r : Int)) res := by
 have hd := D.dhi
 have hy1 := D.y1hi
 intro m
 induction m with
 | zero =>
  intro g r h1 h2 h3 h4 h5
  obtain ⟨t1, t2⟩ := D.test g r h3 h4
  have hno : ¬ (4294967296 ≤ g ∨ 4294967296 * r + d < g * y0) := fun h => by have := t2 h; omega
  have hm := div_test_mul h5 D.y0hi
  refine evs ?_
  simp only [bits_Div64.l0, if_neg (show ¬ (g : Int) ≥ 4294967296 by omega), wMul hm, wB h4, wAdd (show 4294967296 * r + d < 18446744073709551616 by omega), decide_eq_false (show ¬ ((g * y0 : Nat) : Int) > ((4294967296 * r + d : Nat) : Int) by omega)]
  refine evs ?_
  simp only [bits_Div64.j1, Bool.false_eq_true, if_false]
  rw [show g = q by omega]
  exact H
 | succ m ih =>
  intro g r h1 h2 h3 h4 h5
  obtain ⟨t1, t2⟩ := D.test g r h3 h4
  have hm := div_test_mul h5 D.y0hi
  have go : ∀ b : Bool, (b = true ↔ (4294967296 ≤ g ∨ 4294967296 * r + d < g * y0)) → Ev (fun k => bits_Div64.j1 k (y : Int) (s : Int) (y1 : Int) (y0 : Int) (u : Int) (d : Int) (v : Int) (g : Int) (r : Int) b) res := by
   intro b hb
   refine evs ?_
   simp only [bits_Div64.j1]
   by_cases c : b = true
   ·have c' := hb.mp c
    have hlt := t2 c'
    obtain ⟨g', rfl⟩ : ∃ g', g = g' + 1 := ⟨g - 1, by omega⟩
    have h3' := dig_down h3
    clear h3
    simp only [if_pos c, wPred (show g' + 1 < 18446744073709551616 by omega) (Nat.succ_pos _), Nat.add_sub_cancel, wAdd (show r + y1 < 18446744073709551616 by omega)]
    by_cases hbr : 4294967296 ≤ r + y1
    ·simp only [if_pos (show ((r + y1 : Nat) : Int) ≥ 4294967296 by omega)]
     have := D.stop g' (r + y1) h3' hbr (by omega)
     rw [show g' = q by omega]
     exact H
    ·simp only [if_neg (show ¬ ((r + y1 : Nat) : Int) ≥ 4294967296 by omega)]
     exact ih g' (r + y1) (by omega) (by omega) h3' (by omega) (by omega)
   ·have c' : ¬ (4294967296 ≤ g ∨ 4294967296 * r + d < g * y0) := fun h => c (hb.mpr h)
    have := t1 c'
    simp only [if_neg c]
    rw [show g = q by omega]
    exact H
  refine evs ?_
  by_cases c : 4294967296 ≤ g
  ·simp only [bits_Div64.l0, if_pos (show (g : Int) ≥ 4294967296 by omega)]
   exact go true (by simp [c])
  ·simp only [bits_Div64.l0, if_neg (show ¬ (g : Int) ≥ 4294967296 by omega), wMul hm, wB h4, wAdd (show 4294967296 * r + d < 18446744073709551616 by omega)]
   exact go _ (by simp only [decide_eq_true_eq]; omega)
theorem Div64_l1 {y y1 y0 q1 u d q : Nat} {res : Int × Int} (D : Dig y1 y0 u d q)
  (fin : (some (IntKind.u64.wrap (IntKind.u64.wrap ((q1 : Int) * 4294967296) + (q : Int)), shr .u64 (IntKind.u64.wrap (IntKind.u64.wrap (IntKind.u64.wrap ((u : Int) * 4294967296) + (d : Int)) - IntKind.u64.wrap ((q : Int) * (y : Int)))) 0) : Option (Int × Int)) = some res) :
  ∀ (m g r : Nat), g ≤ q + m → q ≤ g → u = g * y1 + r → r < 4294967296 → g ≤ 4294967297 →
   Ev (fun k => bits_Div64.l1 k (y : Int) 0 (y1 : Int) (y0 : Int) (d : Int) (q1 : Int) (r : Int) (u : Int) (g : Int)) res := by
 have hd := D.dhi
 have hy1 := D.y1hi
 intro m
 induction m with
 | zero =>
  intro g r h1 h2 h3 h4 h5
  obtain ⟨t1, t2⟩ := D.test g r h3 h4
  have hno : ¬ (4294967296 ≤ g ∨ 4294967296 * r + d < g * y0) := fun h => by have := t2 h; omega
  have hm := div_test_mul h5 D.y0hi
  refine evs ?_
  simp only [bits_Div64.l1, if_neg (show ¬ (g : Int) ≥ 4294967296 by omega), wMul hm, wB h4, wAdd (show 4294967296 * r + d < 18446744073709551616 by omega), decide_eq_false (show ¬ ((g * y0 : Nat) : Int) > ((4294967296 * r + d : Nat) : Int) by omega)]
  refine evs ?_
  simp only [bits_Div64.j4, Bool.false_eq_true, if_false, Int.le_refl, if_true]
  rw [show g = q by omega]
  exact evn fin
 | succ m ih =>
  intro g r h1 h2 h3 h4 h5
  obtain ⟨t1, t2⟩ := D.test g r h3 h4
  have hm := div_test_mul h5 D.y0hi
  have go : ∀ b : Bool, (b = true ↔ (4294967296 ≤ g ∨ 4294967296 * r + d < g * y0)) → Ev (fun k => bits_Div64.j4 k (y : Int) 0 (y1 : Int) (y0 : Int) (d : Int) (q1 : Int) (r : Int) (u : Int) (g : Int) b) res := by
   intro b hb
   refine evs ?_
   simp only [bits_Div64.j4, Int.le_refl, if_true]
   by_cases c : b = true
   ·have c' := hb.mp c
    have hlt := t2 c'
    obtain ⟨g', rfl⟩ : ∃ g', g = g' + 1 := ⟨g - 1, by omega⟩
    have h3' := dig_down h3
    clear h3
    simp only [if_pos c, wPred (show g' + 1 < 18446744073709551616 by omega) (Nat.succ_pos _), Nat.add_sub_cancel, wAdd (show r + y1 < 18446744073709551616 by omega)]
    by_cases hbr : 4294967296 ≤ r + y1
    ·simp only [if_pos (show ((r + y1 : Nat) : Int) ≥ 4294967296 by omega)]
     have := D.stop g' (r + y1) h3' hbr (by omega)
     rw [show g' = q by omega]
     exact evn fin
    ·simp only [if_neg (show ¬ ((r + y1 : Nat) : Int) ≥ 4294967296 by omega)]
     exact ih g' (r + y1) (by omega) (by omega) h3' (by omega) (by omega)
   ·have c' : ¬ (4294967296 ≤ g ∨ 4294967296 * r + d < g * y0) := fun h => c (hb.mpr h)
    have := t1 c'
    simp only [if_neg c]
    rw [show g = q by omega]
    exact evn fin
  refine evs ?_
  by_cases c : 4294967296 ≤ g
  ·simp only [bits_Div64.l1, if_pos (show (g : Int) ≥ 4294967296 by omega)]
   exact go true (by simp [c])
  ·simp only [bits_Div64.l1, if_neg (show ¬ (g : Int) ≥ 4294967296 by omega), wMul hm, wB h4, wAdd (show 4294967296 * r + d < 18446744073709551616 by omega)]
   exact go _ (by simp only [decide_eq_true_eq]; omega)
theorem Div64_fin {q1 u d q z y : Nat} (h1 : q1 * 4294967296 + q < 18446744073709551616) (h2 : q1 < 4294967296) (h3 : q * y ≤ u * 4294967296 + d) (h4 : u * 4294967296 + d - q * y = z) (h5 : z < 18446744073709551616) :
  (some (IntKind.u64.wrap (IntKind.u64.wrap ((q1 : Int) * 4294967296) + (q : Int)), shr .u64 (IntKind.u64.wrap (IntKind.u64.wrap (IntKind.u64.wrap ((u : Int) * 4294967296) + (d : Int)) - IntKind.u64.wrap ((q : Int) * (y : Int)))) 0) : Option (Int × Int)) = some (((q1 * 4294967296 + q : Nat) : Int), (z : Int)) := by
 rw [wRest h3 (by omega), h4]
 rw [wB' h2, wAdd h1]
 have := shr_nat z 0 (by decide)
 rw [Nat.pow_zero, Nat.div_one] at this
 rw [show (0 : Int) = ((0 : Nat) : Int) from rfl, this]
theorem div_of_eq {V y q z : Nat} (h : V = q * y + z) (hz : z < y) : V / y = q ∧ V % y = z := by
 subst h
 rw [Nat.add_comm, Nat.add_mul_div_right _ _ (by omega), Nat.div_eq_of_lt hz, Nat.add_mul_mod_self_right, Nat.mod_eq_of_lt hz]
 exact ⟨by omega, rfl⟩
theorem dig_ex {y y1 y0 u d : Nat} (hy : y = y1 * 4294967296 + y0) (hy1 : 2147483648 ≤ y1) (hy1' : y1 < 4294967296) (hy0 : y0 < 4294967296) (hu : u < y) (hd : d < 4294967296) :
  ∃ q z, Dig y1 y0 u d q ∧ q ≤ u / y1 ∧ u / y1 ≤ 4294967297 ∧ u * 4294967296 + d = q * y + z ∧ z < y ∧ q < 4294967296 := by
 subst hy
 have hpos : 0 < y1 * 4294967296 + y0 := by omega
 refine ⟨(u * 4294967296 + d) / (y1 * 4294967296 + y0), (u * 4294967296 + d) % (y1 * 4294967296 + y0), Dig.mk' hy1 hy1' hy0 hu hd, dig_below hy1 hd, dig_first hy1 hy0 hu, ?_, Nat.mod_lt _ hpos, ?_⟩
 ·rw [Nat.mul_comm ((u * 4294967296 + d) / (y1 * 4294967296 + y0))]; exact (Nat.div_add_mod _ _).symm
 ·rw [Nat.div_lt_iff_lt_mul hpos]; omega
theorem dig_both' {B h l l1 l0 a b u z V : Nat} (h1 : V = h * (B * B) + l) (h2 : l = l1 * B + l0) (h3 : h * B + l1 = a + u) (h4 : u * B + l0 = b + z) : V = a * B + b + z := by
 have e : (h * B + l1) * B = (a + u) * B := by rw [h3]
 rw [Nat.add_mul, Nat.add_mul, Nat.mul_assoc] at e
 omega
theorem dig_both {h l l1 l0 q1 q2 y u z V : Nat} (h1 : V = h * 18446744073709551616 + l) (h2 : l = l1 * 4294967296 + l0) (h3 : h * 4294967296 + l1 = q1 * y + u) (h4 : u * 4294967296 + l0 = q2 * y + z) : V = (q1 * 4294967296 + q2) * y + z := by
 have e5 : (q1 * 4294967296 + q2) * y = q1 * y * 4294967296 + q2 * y := by rw [Nat.add_mul, Nat.mul_assoc, Nat.mul_comm 4294967296, ← Nat.mul_assoc]
 rw [e5]
 have e6 : (18446744073709551616 : Nat) = 4294967296 * 4294967296 := by decide
 rw [e6] at h1
 exact dig_both' h1 h2 h3 h4
theorem dig_guess {u y1 : Nat} (h : 2147483648 ≤ y1) (hu : u < 18446744073709551616) : IntKind.u64.wrap (Int.tdiv (u : Int) (y1 : Int)) = ((u / y1 : Nat) : Int) ∧ IntKind.u64.wrap ((u : Int) - IntKind.u64.wrap (((u / y1 : Nat) : Int) * (y1 : Int))) = ((u % y1 : Nat) : Int) ∧ u = u / y1 * y1 + u % y1 ∧ u % y1 < y1 := by
 have hdm := Nat.div_add_mod u y1
 have hml := Nat.mod_lt u (show 0 < y1 by omega)
 have hq : u / y1 ≤ u := Nat.div_le_self _ _
 rw [Nat.mul_comm] at hdm
 rw [tdivN]
 generalize u / y1 = q at *
 generalize u % y1 = r at *
 refine ⟨wN (by omega), ?_, by omega, hml⟩
 rw [wMul (by omega), show (u : Int) - ((q * y1 : Nat) : Int) = (r : Int) by omega, wN (by omega)]
theorem Div64_eq {h l y V : Nat} (hy : 9223372036854775808 ≤ y) (hy' : y < 18446744073709551616) (hh : h < y) (hl : l < 18446744073709551616) (hV : V = h * 18446744073709551616 + l) :
  Ev (fun k => bits_Div64.f k (h : Int) (l : Int) (y : Int)) (((V / y : Nat) : Int), ((V % y : Nat) : Int)) := by
 unfold bits_Div64.f
 simp only [if_neg (show ¬ (y : Int) = 0 by omega), if_neg (show ¬ (y : Int) ≤ (h : Int) by omega)]
 by_cases h0 : h = 0
 ·have hVl : V = l := by omega
  subst h0 hVl
  have hq : V / y < 18446744073709551616 := Nat.lt_of_le_of_lt (Nat.div_le_self _ _) hl
  simp only [show (((0 : Nat) : Int) = 0) = True from by simp, if_true, tdivN, tmodN, wN hq]
  exact Ev.now _
 ·simp only [if_neg (show ¬ (h : Int) = 0 by omega)]
  have hlz : bits_LeadingZeros64.f (y : Int) = some 0 := by
   have := Lead0_eq (x := y) hy'
   rw [bl_unique (n := 64) (by decide) (by rw [show (2 : Nat) ^ (64 - 1) = 9223372036854775808 by decide]; exact hy) (by rw [p64]; exact hy')] at this
   exact this
  have w0 : IntKind.u64.wrap 0 = 0 := by decide
  have w64' : IntKind.u64.wrap (64 - 0) = 64 := by decide
  have s0 : ∀ a : Nat, a < 18446744073709551616 → shl .u64 (a : Int) 0 = (a : Int) := fun a ha => by
   have := shl_nat a 0 (by decide)
   rw [Nat.pow_zero, Nat.mul_one, Nat.mod_eq_of_lt ha] at this
   exact this
  have s1 : shr .u64 (l : Int) 64 = 0 := by
   have := shr_nat l 64 (by decide)
   rw [p64, Nat.div_eq_of_lt hl] at this
   exact this
  have o0 : Go.bits .or .u64 (h : Int) 0 = (h : Int) := by
   have := or_nat h 0 (by omega) (by decide)
   rw [Nat.or_zero] at this
   exact this
  refine Ev.bind (evn hlz) ?_
  have hlh : h < 18446744073709551616 := by omega
  have hy1 : 2147483648 ≤ y / 4294967296 := by omega
  have hy1' : y / 4294967296 < 4294967296 := by omega
  have hy0 : y % 4294967296 < 4294967296 := by omega
  have hye : y = y / 4294967296 * 4294967296 + y % 4294967296 := by omega
  have hyi : (y : Int) / 4294967296 = ((y / 4294967296 : Nat) : Int) := by omega
  have hli : (l : Int) / 4294967296 = ((l / 4294967296 : Nat) : Int) := by omega
  obtain ⟨g1, g2, g3, g4⟩ := dig_guess hy1 hlh
  simp only [w0, w64', Int.le_refl, if_true, if_pos (show (0 : Int) ≤ 64 by decide), s0 y hy', s0 h hlh, s0 l hl, s1, o0, hyi, hli, if_neg (show ¬ ((y / 4294967296 : Nat) : Int) = 0 by omega), mask32 y hy', mask32 l hl, g1, g2]
  obtain ⟨q1, u, D1, b1, b2, b3, b4, b5⟩ := dig_ex hye hy1 hy1' hy0 hh (show l / 4294967296 < 4294967296 by omega)
  refine Div64_l0 (v := l % 4294967296) D1 ?_ (h / (y / 4294967296)) (h / (y / 4294967296)) (h % (y / 4294967296)) (Nat.le_add_left _ _) b1 g3 (Nat.lt_trans g4 hy1') b2
  obtain ⟨e1, e2, e3, e4⟩ := dig_guess hy1 (show u < 18446744073709551616 by omega)
  obtain ⟨q2, z, D2, c1, c2, c3, c4, c5⟩ := dig_ex hye hy1 hy1' hy0 b4 (show l % 4294967296 < 4294967296 by omega)
  have hwr := wRest (u := h) (d := l / 4294967296) (g := q1) (y := y) (by omega) (by omega)
  rw [show h * 4294967296 + l / 4294967296 - q1 * y = u by omega] at hwr
  have hfin := Div64_fin (q1 := q1) (u := u) (d := l % 4294967296) (q := q2) (z := z) (y := y) (by omega) b5 (by omega) (by omega) (by omega)
  have hVe := dig_both hV (show l = l / 4294967296 * 4294967296 + l % 4294967296 by omega) b3 c3
  obtain ⟨v1, v2⟩ := div_of_eq hVe c4
  rw [v1, v2]
  refine evs ?_
  simp only [bits_Div64.j2, if_neg (show ¬ ((y / 4294967296 : Nat) : Int) = 0 by omega), hwr, e1, e2]
  exact Div64_l1 D2 hfin (u / (y / 4294967296)) (u / (y / 4294967296)) (u % (y / 4294967296)) (Nat.le_add_left _ _) c1 e3 (Nat.lt_trans e4 hy1') c2
theorem part_Div_eq {V y : Nat} (hy : 9223372036854775808 ≤ y) (hy' : y < 18446744073709551616) (hV : V / 18446744073709551616 < y) : Ev (fun k => part_Div.f k (TH V) (TL V) (y : Int)) (((V / y : Nat) : Int), ((V % y : Nat) : Int), none) := by
 unfold part_Div.f
 have h1 : TH V < (y : Int) := by unfold TH; omega
 simp only [if_neg (show ¬ (y : Int) = 0 by omega), if_neg (show ¬ TH V ≥ (y : Int) by omega)]
 have := Div64_eq (V := V) (h := V / 18446744073709551616) (l := V % 18446744073709551616) hy hy' hV (Nat.mod_lt _ (by decide)) (by omega)
 exact Ev.bind this (Ev.now _)
end Go.Proofs.YtnjhblakghjdoaaGreat.V
namespace Go.Proofs.YtnjhblakghjdoaaGreat.V
open Go Go.RowKit Go.Proofs.YtnjhblakghjdoaaGreat.Ab Go.Proofs.YtnjhblakghjdoaaGreat.Fn
set_option linter.unusedVariables false
set_option linter.unusedSimpArgs false
def qtJ (a b : NM) : Nat := if b.fr ≤ a.fr then 63 else 64
def quotX (a b : NM) : EX := if a.kd = 2 ∨ b.kd ≠ 1 then EX.nar else if a.kd = 0 then EX.zero else
 ⟨1, a.ng != b.ng, a.sc - b.sc + 63 - (qtJ a b : Int), a.fr * 2 ^ qtJ a b / b.fr * 18446744073709551616, decide (a.fr * 2 ^ qtJ a b % b.fr ≠ 0)⟩
theorem qt_range {x y j : Nat} (h1 : 2 ^ 63 ≤ x) (h2 : x < 2 ^ 64) (h3 : 2 ^ 63 ≤ y) (h4 : y < 2 ^ 64) (hj : j = if y ≤ x then 63 else 64) : 2 ^ 63 ≤ x * 2 ^ j / y ∧ x * 2 ^ j / y < 2 ^ 64 := by
 have hy : 0 < y := Nat.lt_of_lt_of_le (two_pos 63) h3
 rw [Nat.le_div_iff_mul_le hy, Nat.div_lt_iff_lt_mul hy]
 rw [p63] at *
 rw [p64] at *
 by_cases h : y ≤ x
 ·rw [if_pos h] at hj
  subst hj
  rw [p63]; omega
 ·rw [if_neg h] at hj
  subst hj
  rw [p64]; omega
theorem quotX_ok {a b : NM} (ha : a.ok) (hb : b.ok) : (quotX a b).ok := by
 unfold quotX
 by_cases h : a.kd = 2 ∨ b.kd ≠ 1
 ·rw [if_pos h]; exact .inr (.inl rfl)
 ·rw [if_neg h]
  by_cases h0 : a.kd = 0
  ·rw [if_pos h0]; exact .inl rfl
  ·rw [if_neg h0]
   rcases NM.cases ha with rfl | rfl | ⟨a1, a2, a3, a4, a5⟩
   ·exact absurd rfl h0
   ·exact absurd (.inl rfl) h
   ·rcases NM.cases hb with rfl | rfl | ⟨b1, b2, b3, b4, b5⟩
    ·exact absurd (.inr (by decide)) h
    ·exact absurd (.inr (by decide)) h
    ·obtain ⟨r1, r2⟩ := qt_range a2 a3 b2 b3 rfl
     have hj : (if b.fr ≤ a.fr then 63 else 64) = qtJ a b := rfl
     rw [hj] at r1 r2
     have hj2 : qtJ a b = 63 ∨ qtJ a b = 64 := by unfold qtJ; split <;> omega
     rw [p63] at r1
     rw [p64] at r2
     refine .inr (.inr ⟨rfl, ?_, ?_, ?_, ?_⟩)
     ·show 2 ^ 127 ≤ a.fr * 2 ^ qtJ a b / b.fr * 18446744073709551616
      rw [p127]; omega
     ·show a.fr * 2 ^ qtJ a b / b.fr * 18446744073709551616 < 2 ^ 128
      rw [p128]; omega
     ·show -1099511627776 ≤ a.sc - b.sc + 63 - (qtJ a b : Int)
      omega
     ·show a.sc - b.sc + 63 - (qtJ a b : Int) ≤ 1099511627776
      omega
theorem natX_quot {x y : Nat} {s : Int} {g : Bool} (h1 : 2 ^ 63 ≤ x) (h2 : x < 2 ^ 64) (h3 : 2 ^ 63 ≤ y) (h4 : y < 2 ^ 64) (s0 : -4294967296 ≤ s) (s1 : s ≤ 4294967296) (j : Nat) (hj : j = if y ≤ x then 63 else 64) (R : Bool) (hR : R = decide (x * 2 ^ 200 % y ≠ 0)) :
  (natX g (x * 2 ^ 200 / y) (s - 200) R).kd = 1 ∧ (natX g (x * 2 ^ 200 / y) (s - 200) R).ng = g ∧ (natX g (x * 2 ^ 200 / y) (s - 200) R).sc = s + 63 - j ∧ TH (natX g (x * 2 ^ 200 / y) (s - 200) R).V = ((x * 2 ^ j / y : Nat) : Int) ∧
   ((natX g (x * 2 ^ 200 / y) (s - 200) R).R || decide (TL (natX g (x * 2 ^ 200 / y) (s - 200) R).V ≠ 0)) = decide (x * 2 ^ j % y ≠ 0) := by
 obtain ⟨r1, r2⟩ := qt_range h1 h2 h3 h4 hj
 have hy : 0 < y := Nat.lt_of_lt_of_le (two_pos 63) h3
 have hj2 : j = 63 ∨ j = 64 := by subst hj; split <;> omega
 obtain ⟨c, hc⟩ : ∃ c, c = 264 - j := ⟨_, rfl⟩
 have c1 : 63 + (200 - j) = c - 1 := by omega
 have c2 : c = 64 + (200 - j) := by omega
 have c3 : 0 < c := by omega
 have c4 : ¬ c ≤ 128 := by omega
 have c5 : c - 128 = 136 - j := by omega
 have c6 : (c : Int) = 264 - j := by omega
 have c7 : j + (200 - j) = 200 := by omega
 have c8 : 136 - j + 64 = 200 - j := by omega
 clear hc
 -- q is the quotient's upper part
 have e200 : x * 2 ^ 200 = x * 2 ^ j * 2 ^ (200 - j) := by rw [Nat.mul_assoc, ← Nat.pow_add, c7]
 have hq : x * 2 ^ 200 / y / 2 ^ (200 - j) = x * 2 ^ j / y := by
  rw [Nat.div_div_eq_div_mul, Nat.mul_comm y, ← Nat.div_div_eq_div_mul, e200, Nat.mul_div_cancel _ (two_pos _)]
 have hz : (x * 2 ^ 200 / y % 2 ^ (200 - j) ≠ 0 ∨ x * 2 ^ 200 % y ≠ 0) ↔ x * 2 ^ j % y ≠ 0 := by
  rw [← Decidable.not_iff_not]
  simp only [not_or, Decidable.not_not]
  have d1 := Nat.div_add_mod (x * 2 ^ 200) y
  have d2 := Nat.div_add_mod (x * 2 ^ 200 / y) (2 ^ (200 - j))
  have d3 := Nat.div_add_mod (x * 2 ^ j) y
  rw [hq] at d2
  constructor
  ·rintro ⟨z1, z2⟩
   rw [z1, Nat.add_zero] at d2
   rw [z2, Nat.add_zero, ← d2, e200] at d1
   have : y * (x * 2 ^ j / y) = x * 2 ^ j := by
    refine Nat.eq_of_mul_eq_mul_right (two_pos (200 - j)) ?_
    rw [← d1]
    generalize x * 2 ^ j / y = u
    generalize 2 ^ (200 - j) = v
    grind
   omega
  ·intro z
   rw [z, Nat.add_zero] at d3
   have e : x * 2 ^ 200 = y * (x * 2 ^ j / y * 2 ^ (200 - j)) := by
    rw [e200]
    conv => lhs; rw [← d3]
    rw [Nat.mul_assoc]
   rw [e, Nat.mul_div_cancel_left _ hy, Nat.mul_mod_left, Nat.mul_mod_right]
   exact ⟨rfl, rfl⟩
 generalize hQ : x * 2 ^ 200 / y = Q at *
 generalize x * 2 ^ j / y = q at *
 have hlo : 2 ^ (c - 1) ≤ Q := by
  have := Nat.mul_le_mul_right (2 ^ (200 - j)) r1
  rw [← Nat.pow_add, c1] at this
  have := Nat.div_mul_le_self Q (2 ^ (200 - j))
  rw [hq] at this
  exact Nat.le_trans ‹_› this
 have hhi : Q < 2 ^ c := by
  rw [c2, Nat.pow_add, ← Nat.div_lt_iff_lt_mul (two_pos _), hq]
  exact r2
 have hb : bl Q = c := bl_unique c3 hlo hhi
 have hQ0 : Q ≠ 0 := Nat.pos_iff_ne_zero.1 (Nat.lt_of_lt_of_le (two_pos (c - 1)) hlo)
 have hv : mkV Q = Q / 2 ^ (136 - j) := by unfold mkV; rw [hb, if_neg c4, c5]
 have hr : mkR Q R = (R || decide (Q % 2 ^ (136 - j) ≠ 0)) := by unfold mkR; rw [hb, c5]
 unfold natX
 rw [if_neg hQ0]
 simp only
 refine ⟨trivial, trivial, ?_, ?_, ?_⟩
 ·rw [hb]; unfold heldI; rw [if_neg (by omega), if_neg (by omega)]; omega
 ·rw [hv]; unfold TH
  rw [Nat.div_div_eq_div_mul, show 2 ^ (136 - j) * 18446744073709551616 = 2 ^ (200 - j) by rw [← p64, ← Nat.pow_add, c8], hq]
 ·rw [hv, hr]; unfold TL
  have hs : Q % 2 ^ (200 - j) = 2 ^ (136 - j) * (Q / 2 ^ (136 - j) % 18446744073709551616) + Q % 2 ^ (136 - j) := by
   rw [show (2 : Nat) ^ (200 - j) = 2 ^ (136 - j) * 18446744073709551616 by rw [← p64, ← Nat.pow_add, c8], Nat.mod_mul]
   omega
  have hp := two_pos (136 - j)
  have hs0 : Q % 2 ^ (200 - j) = 0 ↔ Q / 2 ^ (136 - j) % 18446744073709551616 = 0 ∧ Q % 2 ^ (136 - j) = 0 := by
   rw [hs, Nat.add_eq_zero_iff, Nat.mul_eq_zero]
   constructor
   ·rintro ⟨h | h, k⟩
    ·omega
    ·exact ⟨h, k⟩
   ·rintro ⟨h, k⟩; exact ⟨.inr h, k⟩
  subst hR
  rw [Bool.eq_iff_iff]
  simp only [Bool.or_eq_true, decide_eq_true_eq]
  rw [← hz]
  generalize Q / 2 ^ (136 - j) % 18446744073709551616 = u at *
  generalize Q % 2 ^ (136 - j) = v at *
  generalize Q % 2 ^ (200 - j) = w at *
  generalize x * 2 ^ 200 % y = r at *
  omega
end Go.Proofs.YtnjhblakghjdoaaGreat.V
namespace Go.Proofs.YtnjhblakghjdoaaGreat.V
open Go Go.RowKit Go.Proofs.YtnjhblakghjdoaaGreat.Ab Go.Proofs.YtnjhblakghjdoaaGreat.Fn
set_option linter.unusedVariables false
set_option linter.unusedSimpArgs false
theorem W_over {x a b i : Nat} (h : x < 2 ^ a * 2 ^ b) (hi : a + b ≤ 24 * i) : x < W i := by
 rw [← Nat.pow_add] at h
 exact Nat.lt_of_lt_of_le h (pow_le hi)
theorem quotX_real {a b : NM} (h1 : a.kd = 1) (h2 : b.kd = 1) : quotX a b = ⟨1, a.ng != b.ng, a.sc - b.sc + 63 - (qtJ a b : Int), a.fr * 2 ^ qtJ a b / b.fr * 18446744073709551616, decide (a.fr * 2 ^ qtJ a b % b.fr ≠ 0)⟩ := by
 unfold quotX
 rw [if_neg (by omega), if_neg (by omega)]
theorem pos_ne (n : Nat) : decide ((n : Int) > 0) = decide (n ≠ 0) := by
 rw [decide_eq_decide]; omega
theorem quot_Exact_X {a b : NM} (ha : a.ok) (hb : b.ok) : Ev (fun k => quot_Exact.f k a.kd a.ng a.sc (a.fr : Int) b.kd b.ng b.sc (b.fr : Int)) ((quotX a b).kd, (quotX a b).ng, (quotX a b).sc, TH (quotX a b).V, TL (quotX a b).V, (quotX a b).R, none) := by
 unfold quot_Exact.f
 refine Ev.bind (Of_X ha) ?_
 simp only [Option.isNone_none, if_true]
 refine Ev.bind (Of_X hb) ?_
 simp only [Option.isNone_none, if_true]
 have j0 : Ev (fun k => quot_Exact.j0 k (decide (a.kd = 2 ∨ b.kd ≠ 1)) a.kd a.ng a.sc (a.fr : Int) b.ng b.sc (b.fr : Int)) ((quotX a b).kd, (quotX a b).ng, (quotX a b).sc, TH (quotX a b).V, TL (quotX a b).V, (quotX a b).R, none) := by
  refine evs ?_
  simp only [quot_Exact.j0]
  by_cases c1 : a.kd = 2 ∨ b.kd ≠ 1
  ·have e : quotX a b = EX.nar := by unfold quotX; rw [if_pos c1]
   simp only [decide_eq_true c1, if_true, e]
   exact Ev.now _
  ·simp only [decide_eq_false c1, Bool.false_eq_true, if_false]
   by_cases c0 : a.kd = 0
   ·have e : quotX a b = EX.zero := by unfold quotX; rw [if_neg c1, if_pos c0]
    simp only [if_pos c0, e]
    exact Ev.now _
   ·simp only [if_neg c0]
    have ca := (NM.cases ha).resolve_left (fun h => c0 (by rw [h]))
    have ca := ca.resolve_left (fun h => c1 (.inl (by rw [h])))
    have hb1 : b.kd = 1 := Decidable.byContradiction fun h => c1 (.inr h)
    have cb := (NM.cases hb).resolve_left (fun h => by rw [h] at hb1; cases hb1)
    have cb := cb.resolve_left (fun h => by rw [h] at hb1; cases hb1)
    obtain ⟨a1, a2, a3, a4, a5⟩ := ca
    obtain ⟨b1, b2, b3, b4, b5⟩ := cb
    rw [quotX_real a1 b1]
    rw [p63] at a2 b2
    rw [p64] at a3 b3
    simp only [(T_hi _).1, (T_hi _).2]
    by_cases hc : b.fr ≤ a.fr
    ·have hj : qtJ a b = 63 := by unfold qtJ; rw [if_pos hc]
     have h1 : TH (a.fr * 2 ^ 63) = (a.fr : Int) / 2 := by unfold TH; rw [p63]; omega
     have h2 : TL (a.fr * 2 ^ 63) = IntKind.u64.wrap ((a.fr : Int) * 9223372036854775808) := by unfold TL; rw [p63, u64_wrap]; omega
     have h3 : a.fr * 2 ^ 63 / 18446744073709551616 < b.fr := by rw [p63]; omega
     have hd := part_Div_eq b2 b3 h3
     rw [h1, h2] at hd
     have es : wrap64 (wrap64 (wrap64 (a.sc - b.sc) - 1) + 1) = a.sc - b.sc + 63 - ((63 : Nat) : Int) := by
      rw [w64 (n := a.sc - b.sc) (by omega) (by omega), w64 (n := a.sc - b.sc - 1) (by omega) (by omega), w64 (by omega) (by omega)]; omega
     simp only [if_pos (show (a.fr : Int) ≥ (b.fr : Int) by omega), hj, es]
     refine Ev.bind hd (evn ?_)
     rw [pos_ne]
     rfl
    ·have hj : qtJ a b = 64 := by unfold qtJ; rw [if_neg hc]
     have h1 : TH (a.fr * 2 ^ 64) = (a.fr : Int) := by unfold TH; rw [p64]; omega
     have h2 : TL (a.fr * 2 ^ 64) = 0 := by unfold TL; rw [p64]; omega
     have h3 : a.fr * 2 ^ 64 / 18446744073709551616 < b.fr := by rw [p64]; omega
     have hd := part_Div_eq b2 b3 h3
     rw [h1, h2] at hd
     have es : wrap64 (wrap64 (a.sc - b.sc) - 1) = a.sc - b.sc + 63 - ((64 : Nat) : Int) := by
      rw [w64 (n := a.sc - b.sc) (by omega) (by omega), w64 (by omega) (by omega)]; omega
     simp only [if_neg (show ¬ (a.fr : Int) ≥ (b.fr : Int) by omega), hj, es]
     refine Ev.bind hd (evn ?_)
     rw [pos_ne]
     rfl
 by_cases c : a.kd = 2
 ·have hd : (a.kd == 2) = decide (a.kd = 2 ∨ b.kd ≠ 1) := by simp [c]
  simp only [if_pos c, hd]
  exact j0
 ·have hd : (b.kd != 1) = decide (a.kd = 2 ∨ b.kd ≠ 1) := by
   rw [Bool.eq_iff_iff]; simp [c]
  simp only [if_neg c, hd]
  exact j0
theorem DL.len_zero {l : List Int} {m : Nat} (h : DL l m) : decide ((l.length : Int) > 0) = decide (m ≠ 0) := by
 rw [decide_eq_decide]
 constructor
 ·intro hl hm
  subst hm
  rw [h.zero] at hl
  simp at hl
 ·intro hm
  have := h.pos (by omega)
  omega
theorem exactE_quot {x y : Nat} {s : Int} {g : Bool} (h1 : 2 ^ 63 ≤ x) (h2 : x < 2 ^ 64) (h3 : 2 ^ 63 ≤ y) (h4 : y < 2 ^ 64) (s0 : -4294967296 ≤ s) (s1 : s ≤ 4294967296) (j : Nat) (hj : j = if y ≤ x then 63 else 64) :
  ∃ lo R, exactE g (x * 2 ^ 200 / y) (s - 200) (decide (x * 2 ^ 200 % y ≠ 0)) = (1, g, s + 63 - j, ((x * 2 ^ j / y : Nat) : Int), lo, R) ∧ (R || decide (lo ≠ 0)) = decide (x * 2 ^ j % y ≠ 0) := by
 obtain ⟨e1, e2, e3, e4, e5⟩ := natX_quot (g := g) h1 h2 h3 h4 s0 s1 j hj _ rfl
 exact ⟨_, _, by rw [exactE_natX, e1, e2, e3, e4], e5⟩
theorem ref11_Exact_X {a b : NM} (ha : a.ok) (hb : b.ok) : Ev (fun k => vernierref11_Exact.f k a.kd a.ng a.sc (a.fr : Int) b.kd b.ng b.sc (b.fr : Int)) ((quotX a b).kd, (quotX a b).ng, (quotX a b).sc, TH (quotX a b).V, TL (quotX a b).V, (quotX a b).R, 0) := by
 unfold vernierref11_Exact.f
 refine Ev.bind (evn (ref_sound _ _ _ _)) (Ev.bind (evn (ref_sound _ _ _ _)) ?_)
 rw [ha.1, hb.1]
 simp only [if_true, Bool.not_true]
 refine evs ?_
 simp only [vernierref11_Exact.j0, Bool.false_eq_true, if_false]
 have j1 : Ev (fun k => vernierref11_Exact.j1 k (decide (a.kd = 2 ∨ b.kd ≠ 1)) a.kd a.ng a.sc (a.fr : Int) b.ng b.sc (b.fr : Int)) ((quotX a b).kd, (quotX a b).ng, (quotX a b).sc, TH (quotX a b).V, TL (quotX a b).V, (quotX a b).R, 0) := by
  refine evs ?_
  simp only [vernierref11_Exact.j1, nI_eq]
  by_cases c1 : a.kd = 2 ∨ b.kd ≠ 1
  ·have e : quotX a b = EX.nar := by unfold quotX; rw [if_pos c1]
   simp only [decide_eq_true c1, if_true, e]
   exact Ev.now _
  ·simp only [decide_eq_false c1, Bool.false_eq_true, if_false]
   by_cases c0 : a.kd = 0
   ·have e : quotX a b = EX.zero := by unfold quotX; rw [if_neg c1, if_pos c0]
    simp only [if_pos c0, e]
    exact Ev.now _
   ·simp only [if_neg c0]
    have ca := (NM.cases ha).resolve_left (fun h => c0 (by rw [h]))
    have ca := ca.resolve_left (fun h => c1 (.inl (by rw [h])))
    have hb1 : b.kd = 1 := Decidable.byContradiction fun h => c1 (.inr h)
    have cb := (NM.cases hb).resolve_left (fun h => by rw [h] at hb1; cases hb1)
    have cb := cb.resolve_left (fun h => by rw [h] at hb1; cases hb1)
    obtain ⟨a1, a2, a3, a4, a5⟩ := ca
    obtain ⟨b1, b2, b3, b4, b5⟩ := cb
    have hT := T_hi (a.fr * 2 ^ qtJ a b / b.fr)
    have key : ((quotX a b).kd, (quotX a b).ng, (quotX a b).sc, TH (quotX a b).V, TL (quotX a b).V, (quotX a b).R, (0 : Int)) = (1, !(a.ng == b.ng), a.sc - b.sc + 63 - (qtJ a b : Int), ((a.fr * 2 ^ qtJ a b / b.fr : Nat) : Int), 0, decide (a.fr * 2 ^ qtJ a b % b.fr ≠ 0), 0) := by
     rw [quotX_real a1 b1, hT.1, hT.2]; rfl
    rw [key]
    clear key hT
    have fa : a.fr < 18446744073709551616 := by rw [← p64]; exact a3
    have fb : b.fr < 18446744073709551616 := by rw [← p64]; exact b3
    have hb0 : 0 < b.fr := Nat.lt_of_lt_of_le (two_pos 63) b2
    obtain ⟨u, u1, u2⟩ := r4_Of a.fr fa
    have lu : u.length ≤ 3 := u2.len_le (Nat.lt_of_lt_of_le fa (by decide))
    obtain ⟨v, v1, v2⟩ := r4_Shl (k := 200) u2 (by decide) (by omega)
    have lv : v.length ≤ 20 := v2.len_le (W_over (Nat.mul_lt_mul_of_pos_right a3 (two_pos 200)) (by decide))
    obtain ⟨w, w1, w2⟩ := r4_Of b.fr fb
    have lw : w.length ≤ 3 := w2.len_le (Nat.lt_of_lt_of_le fb (by decide))
    obtain ⟨q, r, d1, d2, d3⟩ := r4_DivMod v2 w2 hb0 (by omega) (by omega)
    have lq : q.length ≤ 20 := Nat.le_trans (d2.len_le (n := v.length) (Nat.lt_of_le_of_lt (Nat.div_le_self _ _) v2.lt)) lv
    have es : wrap64 (wrap64 (a.sc - b.sc) - 200) = a.sc - b.sc - 200 := by rw [w64 (n := a.sc - b.sc) (by omega) (by omega), w64 (by omega) (by omega)]
    rw [es]
    refine Ev.bind u1 (Ev.bind v1 (Ev.bind w1 (Ev.bind d1 ?_)))
    simp only
    rw [d3.len_zero]
    refine Ev.bind (ref_Exactly_eq d2 (by omega) (by omega) (by omega)) ?_
    obtain ⟨lo, R, e1, e2⟩ := exactE_quot (g := !(a.ng == b.ng)) (s := a.sc - b.sc) a2 a3 b2 b3 (by omega) (by omega) (qtJ a b) rfl
    rw [e1]
    refine Ev.bind (evn (ref11_Cut_eq _ _ _ _ _ _)) ?_
    rw [e2]
    exact Ev.now _
 by_cases c : a.kd = 2
 ·have hd : true = decide (a.kd = 2 ∨ b.kd ≠ 1) := by simp [c]
  simp only [if_pos c]
  rw [hd]
  exact j1
 ·have hd : (b.kd != 1) = decide (a.kd = 2 ∨ b.kd ≠ 1) := by
   rw [Bool.eq_iff_iff]; simp [c]
  simp only [if_neg c, hd]
  exact j1
def divN (n x y : Nat) : Nat := (quotX (decN n x) (decN n y)).rnd n
theorem divN_lt {n x y : Nat} (h8 : 8 ≤ n) (hn : n ≤ 64) (hx : x < 2 ^ n) (hy : y < 2 ^ n) : divN n x y < 2 ^ n := EX.rnd_lt h8 hn (quotX_ok (decN_ok h8 hn hx) (decN_ok h8 hn hy))
theorem quot_Div_eq {n a b : Nat} (h : isW (n : Int) = true) (ha : a < 18446744073709551616) (hb : b < 18446744073709551616) : Ev (fun k => quot_Div.f k (n : Int) (a : Int) (b : Int)) (((divN n (a % 2 ^ n) (b % 2 ^ n) : Nat) : Int), none) := by
 obtain ⟨b64, b8⟩ := pow64 h
 have oa := decN_ok b8 b64 (Nat.mod_lt a (two_pos n))
 have ob := decN_ok b8 b64 (Nat.mod_lt b (two_pos n))
 unfold quot_Div.f
 refine Ev.bind (Decode_N h ha) ?_
 simp only [Option.isNone_none, if_true]
 refine Ev.bind (Decode_N h hb) (Ev.bind (quot_Exact_X oa ob) ?_)
 simp only [Option.isNone_none, if_true]
 exact Ev.bind (Round_X h (quotX_ok oa ob)) (Ev.now _)
theorem ref11_Div_eq {n a b : Nat} (h : isW (n : Int) = true) (ha : a < 18446744073709551616) (hb : b < 18446744073709551616) : Ev (fun k => vernierref11_Div.f k (n : Int) (a : Int) (b : Int)) ((divN n (a % 2 ^ n) (b % 2 ^ n) : Nat) : Int) := by
 obtain ⟨b64, b8⟩ := pow64 h
 have oa := decN_ok b8 b64 (Nat.mod_lt a (two_pos n))
 have ob := decN_ok b8 b64 (Nat.mod_lt b (two_pos n))
 unfold vernierref11_Div.f
 exact Ev.bind (ref_Decode_N h ha) (Ev.bind (ref_Decode_N h hb) (Ev.bind (ref11_Exact_X oa ob) (Ev.bind (ref_Round_X h (quotX_ok oa ob)) (Ev.now _))))
end Go.Proofs.YtnjhblakghjdoaaGreat.V
namespace Go.Proofs.YtnjhblakghjdoaaGreat.V
open Go Go.RowKit Go.Proofs.YtnjhblakghjdoaaGreat.Ab Go.Proofs.YtnjhblakghjdoaaGreat.Fn
set_option linter.unusedVariables false
set_option linter.unusedSimpArgs false
theorem fmaN_lt {n a b c : Nat} (h8 : 8 ≤ n) (hn : n ≤ 64) (hc : c < 2 ^ n) : fmaN n a b c < 2 ^ n := EX.rnd_lt h8 hn (sumX_ok (prdX_ok _ _ _) (NM.ex_ok (decN_ok h8 hn hc)))
theorem c8 {x : Nat} (h : x < 2 ^ 8) : ((x : Int) % 256) = x := by have : (2 : Nat) ^ 8 = 256 := rfl; omega
theorem c16 {x : Nat} (h : x < 2 ^ 16) : IntKind.u16.wrap (x : Int) = x := by
 have e : (2 : Nat) ^ 16 = 65536 := rfl
 have : IntKind.u16.wrap (x : Int) = (x : Int) % 65536 := by unfold IntKind.wrap; simp [IntKind.bits, IntKind.signed]
 omega
theorem c64 {x : Nat} (h : x < 2 ^ 64) : (x : Int) = x := rfl
theorem wu {x : Nat} (h : x < 18446744073709551616) : IntKind.u64.wrap (x : Int) = (x : Int) := u64_of (by omega) (by omega)
theorem isW8 : isW ((8 : Nat) : Int) = true := by decide
theorem isW16 : isW ((16 : Nat) : Int) = true := by decide
theorem isW64 : isW ((64 : Nat) : Int) = true := by decide
theorem lt8 {x : Nat} (h : x < 2 ^ 8) : x < 18446744073709551616 := Nat.lt_of_lt_of_le h (by decide)
theorem lt64 {x : Nat} (h : x < 2 ^ 64) : x < 18446744073709551616 := Nat.lt_of_lt_of_le h (by decide)
theorem gen_Width_P8_eq : gen_Width_P8.f = some 8 := rfl
theorem gen_Width_P16_eq : gen_Width_P16.f = some 16 := rfl
theorem gen_Width_P64_eq : gen_Width_P64.f = some 64 := rfl
theorem gen_To_P16_P8_eq {a : Nat} (ha : a < 2 ^ 8) : Ev (fun k => gen_To_P16_P8.f k (a : Int)) ((convN 8 16 a : Nat) : Int) := by
 have c := gen_Convert_eq (n := 8) (m := 16) (p := a) isW8 isW16 (lt8 ha)
 rw [Nat.mod_eq_of_lt ha] at c
 have hl : convN 8 16 a < 2 ^ 16 := convN_lt (by decide) (by decide) (by decide) (by decide) ha
 unfold gen_To_P16_P8.f
 rw [wu (lt8 ha)]
 exact Ev.bind (evn gen_Width_P8_eq) (Ev.bind (evn gen_Width_P16_eq) (Ev.bind c (evn (congrArg some (c16 hl)))))
theorem gen_Add_P8_eq {a b : Nat} (ha : a < 2 ^ 8) (hb : b < 2 ^ 8) : Ev (fun k => gen_Add_P8.f k (a : Int) (b : Int)) ((addN 8 a b : Nat) : Int) := by
 have c := sum_Add_eq (n := 8) (a := a) (b := b) isW8 (lt8 ha) (lt8 hb)
 rw [Nat.mod_eq_of_lt ha, Nat.mod_eq_of_lt hb] at c
 have hl : addN 8 a b < 2 ^ 8 := addN_lt (by decide) (by decide) ha hb
 unfold gen_Add_P8.f gen_two_P8_sum_Add.f
 rw [wu (lt8 ha), wu (lt8 hb)]
 exact Ev.bind (Ev.bind (evn gen_Width_P8_eq) (Ev.bind c (evn (congrArg some (c8 hl))))) (Ev.now _)
theorem gen_Add_P64_eq {a b : Nat} (ha : a < 2 ^ 64) (hb : b < 2 ^ 64) : Ev (fun k => gen_Add_P64.f k (a : Int) (b : Int)) ((addN 64 a b : Nat) : Int) := by
 have c := sum_Add_eq (n := 64) (a := a) (b := b) isW64 (lt64 ha) (lt64 hb)
 rw [Nat.mod_eq_of_lt ha, Nat.mod_eq_of_lt hb] at c
 have hl : addN 64 a b < 2 ^ 64 := addN_lt (by decide) (by decide) ha hb
 unfold gen_Add_P64.f gen_two_P64_sum_Add.f
 exact Ev.bind (Ev.bind (evn gen_Width_P64_eq) (Ev.bind c (evn (congrArg some (c64 hl))))) (Ev.now _)
theorem gen_Sub_P64_eq {a b : Nat} (ha : a < 2 ^ 64) (hb : b < 2 ^ 64) : Ev (fun k => gen_Sub_P64.f k (a : Int) (b : Int)) ((addN 64 a (negP 64 b) : Nat) : Int) := by
 have c := sum_Sub_eq (n := 64) (a := a) (b := b) isW64 (lt64 ha) (lt64 hb)
 rw [Nat.mod_eq_of_lt ha, Nat.mod_eq_of_lt hb] at c
 have hl : addN 64 a (negP 64 b) < 2 ^ 64 := addN_lt (by decide) (by decide) ha (negP_lt hb)
 unfold gen_Sub_P64.f gen_two_P64_sum_Sub.f
 exact Ev.bind (Ev.bind (evn gen_Width_P64_eq) (Ev.bind c (evn (congrArg some (c64 hl))))) (Ev.now _)
theorem gen_Mul_P64_eq {a b : Nat} (ha : a < 2 ^ 64) (hb : b < 2 ^ 64) : Ev (fun k => gen_Mul_P64.f k (a : Int) (b : Int)) ((mulN 64 a b : Nat) : Int) := by
 have c := prod_Mul_eq (n := 64) (a := a) (b := b) isW64 (lt64 ha) (lt64 hb)
 rw [Nat.mod_eq_of_lt ha, Nat.mod_eq_of_lt hb] at c
 have hl : mulN 64 a b < 2 ^ 64 := mulN_lt (by decide) (by decide)
 unfold gen_Mul_P64.f gen_two_P64_prod_Mul.f
 exact Ev.bind (Ev.bind (evn gen_Width_P64_eq) (Ev.bind c (evn (congrArg some (c64 hl))))) (Ev.now _)
theorem gen_Div_P64_eq {a b : Nat} (ha : a < 2 ^ 64) (hb : b < 2 ^ 64) : Ev (fun k => gen_Div_P64.f k (a : Int) (b : Int)) ((divN 64 a b : Nat) : Int) := by
 have c := quot_Div_eq (n := 64) (a := a) (b := b) isW64 (lt64 ha) (lt64 hb)
 rw [Nat.mod_eq_of_lt ha, Nat.mod_eq_of_lt hb] at c
 have hl : divN 64 a b < 2 ^ 64 := divN_lt (by decide) (by decide) ha hb
 unfold gen_Div_P64.f gen_two_P64_quot_Div.f
 exact Ev.bind (Ev.bind (evn gen_Width_P64_eq) (Ev.bind c (evn (congrArg some (c64 hl))))) (Ev.now _)
theorem gen_Sqrt_P64_eq {a : Nat} (ha : a < 2 ^ 64) : Ev (fun k => gen_Sqrt_P64.f k (a : Int)) ((sqrtN 64 a : Nat) : Int) := by
 have c := root_Sqrt_eq (n := 64) (a := a) isW64 (lt64 ha)
 rw [Nat.mod_eq_of_lt ha] at c
 have hl : sqrtN 64 a < 2 ^ 64 := sqrtN_lt (by decide) (by decide) ha
 unfold gen_Sqrt_P64.f gen_one_P64_root_Sqrt.f
 exact Ev.bind (Ev.bind (evn gen_Width_P64_eq) (Ev.bind c (evn (congrArg some (c64 hl))))) (Ev.now _)
theorem gen_Neg_P64_eq {a : Nat} (ha : a < 2 ^ 64) : Ev (fun _ => gen_Neg_P64.f (a : Int)) ((negP 64 a : Nat) : Int) := by
 have c := order_Neg_eq (n := 64) (a := a) isW64 (lt64 ha)
 rw [Nat.mod_eq_of_lt ha] at c
 have hl : negP 64 a < 2 ^ 64 := negP_lt ha
 unfold gen_Neg_P64.f gen_one_P64_order_Neg.f
 exact Ev.bind (Ev.bind (evn gen_Width_P64_eq) (Ev.bind c (evn (congrArg some (c64 hl))))) (Ev.now _)
theorem gen_Fma_P64_eq {a b c : Nat} (ha : a < 2 ^ 64) (hb : b < 2 ^ 64) (hc : c < 2 ^ 64) : Ev (fun k => gen_Fma_P64.f k (a : Int) (b : Int) (c : Int)) ((fmaN 64 a b c : Nat) : Int) := by
 have q := fuse_Fma_eq (n := 64) (a := a) (b := b) (c := c) isW64 (lt64 ha) (lt64 hb) (lt64 hc)
 rw [Nat.mod_eq_of_lt ha, Nat.mod_eq_of_lt hb, Nat.mod_eq_of_lt hc] at q
 have hl : fmaN 64 a b c < 2 ^ 64 := fmaN_lt (by decide) (by decide) hc
 unfold gen_Fma_P64.f
 exact Ev.bind (evn gen_Width_P64_eq) (Ev.bind q (evn (congrArg some (c64 hl))))
theorem gen_Cmp_P64_eq {a b : Nat} (ha : a < 2 ^ 64) (hb : b < 2 ^ 64) : Ev (fun _ => gen_Cmp_P64.f (a : Int) (b : Int)) (cmpI (rkN 64 a) (rkN 64 b)) := by
 have q := order_Cmp_eq (n := 64) (a := a) (b := b) isW64 (lt64 ha) (lt64 hb)
 rw [Nat.mod_eq_of_lt ha, Nat.mod_eq_of_lt hb] at q
 unfold gen_Cmp_P64.f
 exact Ev.bind (evn gen_Width_P64_eq) (Ev.bind q (Ev.now _))
theorem up14 : Ev (fun k => vernierlaw14_up.f k) true := by
 unfold vernierlaw14_up.f
 have a := gen_Add_P8_eq (a := 64) (b := 64) (by decide) (by decide)
 have b := gen_To_P16_P8_eq (a := 68) (by decide)
 rw [show addN 8 64 64 = 72 by decide +kernel] at a
 rw [show convN 8 16 68 = 17408 by decide +kernel] at b
 show Ev (fun k => (gen_Add_P8.f k ((64 : Nat) : Int) ((64 : Nat) : Int)).bind fun t107 => if t107 = 72 then (gen_To_P16_P8.f k ((68 : Nat) : Int)).bind fun t108 => some (t108 == 17408) else some false) true
 exact Ev.bind a (Ev.bind b (Ev.now _))
end Go.Proofs.YtnjhblakghjdoaaGreat.V
namespace Go.Proofs.YtnjhblakghjdoaaGreat.V
open Go Go.RowKit Go.Proofs.YtnjhblakghjdoaaGreat.Ab Go.Proofs.YtnjhblakghjdoaaGreat.Fn
theorem ref10_Mul_eq {n a b : Nat} (h : isW (n : Int) = true) (ha : a < 18446744073709551616) (hb : b < 18446744073709551616) : Ev (fun k => vernierref10_Mul.f k (n : Int) (a : Int) (b : Int)) ((mulN n (a % 2 ^ n) (b % 2 ^ n) : Nat) : Int) := by
 obtain ⟨b64, b8⟩ := pow64 h
 unfold vernierref10_Mul.f
 refine Ev.bind (ref_Decode_N h ha) ?_
 refine Ev.bind (ref_Decode_N h hb) ?_
 refine Ev.bind (ref10_Exact_X (decN_ok b8 b64 (Nat.mod_lt a (two_pos n))) (decN_ok b8 b64 (Nat.mod_lt b (two_pos n)))) ?_
 refine Ev.bind (ref_Round_X h (prodX_ok _ _)) ?_
 exact Ev.now _
end Go.Proofs.YtnjhblakghjdoaaGreat.V
namespace Go.Proofs.YtnjhblakghjdoaaGreat.Pure
open Go Go.RowKit Go.Proofs.YtnjhblakghjdoaaGreat.Ab Go.Proofs.YtnjhblakghjdoaaGreat.Fn Go.Proofs.YtnjhblakghjdoaaGreat.V
set_option linter.unusedSimpArgs false
theorem if_self {α β : Type} [DecidableEq α] (x : α) (a b : β) : (if x = x then a else b) = a := if_pos rfl
theorem wf_n {a : Int} (h : (Lit.int .u64 a).wf = true) : ∃ x : Nat, a = x ∧ x < 2 ^ 64 := by
 have h := inK_wf h
 obtain ⟨h1, h2⟩ := h
 have e : (2 : Nat) ^ 64 = 18446744073709551616 := rfl
 simp only [kLo, kHi] at h1 h2
 exact ⟨a.toNat, by omega, by omega⟩
theorem GenSixties : vernierlaw14_GenSixties.Pure := by
 intro a b c w0 w1 w2
 obtain ⟨a, rfl, ha⟩ := wf_n w0
 obtain ⟨b, rfl, hb⟩ := wf_n w1
 obtain ⟨c, rfl, hc⟩ := wf_n w2
 refine Ev.rounds (g := fun k => vernierlaw14_GenSixties.f k (a : Int) (b : Int) (c : Int)) ?_
 have la := lt64 ha
 have lb := lt64 hb
 have lc := lt64 hc
 have ma := Nat.mod_eq_of_lt ha
 have mb := Nat.mod_eq_of_lt hb
 have mc := Nat.mod_eq_of_lt hc
 have r1 := ref09_Add_eq isW64 la lb
 have r2 := ref09_Sub_eq isW64 la lb
 have r3 := ref10_Mul_eq isW64 la lb
 have r4 := ref11_Div_eq isW64 la lb
 have r5 := ref_Sqrt_eq isW64 la
 have r6 := ref13_Fma_eq isW64 la lb lc
 have r7 := ref_Neg_eq isW64 la
 have r8 := ref08_Cmp_eq isW64 la lb
 rw [ma, mb] at r1 r2 r3 r4 r8
 rw [ma] at r5
 rw [ma, mb, mc] at r6
 rw [negN_mod (by decide) la, ma] at r7
 have l1 : addN 64 a b < 2 ^ 64 := addN_lt (by decide) (by decide) ha hb
 have l2 : addN 64 a (negP 64 b) < 2 ^ 64 := addN_lt (by decide) (by decide) ha (negP_lt hb)
 have l3 : mulN 64 a b < 2 ^ 64 := mulN_lt (by decide) (by decide)
 have l4 : divN 64 a b < 2 ^ 64 := divN_lt (by decide) (by decide) ha hb
 have l5 : sqrtN 64 a < 2 ^ 64 := sqrtN_lt (by decide) (by decide) ha
 have l6 : fmaN 64 a b c < 2 ^ 64 := fmaN_lt (by decide) (by decide) hc
 have l7 : negP 64 a < 2 ^ 64 := negP_lt ha
 unfold vernierlaw14_GenSixties.f
 refine Ev.bind up14 (Ev.bind (gen_Add_P64_eq ha hb) (Ev.bind r1 ?_))
 simp only [if_self]
 refine Ev.bind (gen_Sub_P64_eq ha hb) (Ev.bind r2 ?_)
 simp only [if_self]
 refine Ev.bind (gen_Mul_P64_eq ha hb) (Ev.bind r3 ?_)
 rw [beq_self_eq_true]
 refine evs ?_
 simp only [vernierlaw14_GenSixties.j0]
 refine Ev.bind (gen_Div_P64_eq ha hb) (Ev.bind r4 ?_)
 simp only [if_self]
 refine Ev.bind (gen_Sqrt_P64_eq ha) (Ev.bind r5 ?_)
 simp only [if_self]
 refine Ev.bind (gen_Fma_P64_eq ha hb hc) (Ev.bind r6 ?_)
 rw [beq_self_eq_true]
 refine evs ?_
 simp only [vernierlaw14_GenSixties.j1, if_true]
 refine Ev.bind (gen_Neg_P64_eq ha) (Ev.bind r7 ?_)
 simp only [if_self]
 exact Ev.bind (gen_Cmp_P64_eq ha hb) (Ev.bind r8 (evn (by rw [beq_self_eq_true])))
end Go.Proofs.YtnjhblakghjdoaaGreat.Pure
