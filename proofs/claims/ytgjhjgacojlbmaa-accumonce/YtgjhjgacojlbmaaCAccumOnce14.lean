-- Written by a program of this session out of its own texts (wip/tools/link.py).
import Derived.Below
import Derived.ChangeKeysEq
import Derived.Deep.MidRow
import Derived.Deep.RegionHeld3
import Derived.Great.BuildSlice
import Derived.IntWalk
import Derived.KernelRfl
import Derived.LaidEql
import Derived.Laws.Bits64
import Derived.Laws.BitsLemmas
import Derived.Laws.BytesArg
import Derived.Laws.IdiomCopy
import Derived.Laws.OwnMore
import Derived.Laws.Rows
import Derived.Laws.Slices
import Derived.Laws.Strings
import Derived.Laws.StructEq
import Derived.Laws.Tables
import Derived.Lib.BitFns
import Derived.Lib.Mul64
import Derived.Lib.Slices
import Derived.Lib.Small
import Derived.Lib.Strings
import Derived.Lib.Walk
import Derived.Maps.AppendAt
import Derived.OrdersHeld
import Derived.RowKit
import Derived.Scope
import Derived.Shelf.Spec.BitsCarry
import Derived.Test.YtgjhjgacojlbmaaProg
import Derived.Test.YtgjhjgacojlbmaaCAccumOnce10
import Derived.Test.YtgjhjgacojlbmaaCAccumOnce11
import Derived.Test.YtgjhjgacojlbmaaCAccumOnce12
import Derived.Test.YtgjhjgacojlbmaaCAccumOnce13
namespace Go.Proofs.Ytgjhjgacojlbmaa.V
open Go Go.RowKit Go.Proofs.Ytgjhjgacojlbmaa.Ab Go.Proofs.Ytgjhjgacojlbmaa.Fn
set_option linter.unusedVariables false
set_option linter.unusedSimpArgs false
theorem beq_dec (a b : Int) : (a == b) = decide (a = b) := by by_cases h : a = b <;> simp [h]
theorem mask32 (a : Nat) (ha : a < 18446744073709551616) : Go.bits .and .u64 (a : Int) 4294967295 = ((a % 4294967296 : Nat) : Int) := and_mask a 32 ha (by decide)
theorem div32 (a : Nat) : (a : Int) / 4294967296 = ((a / 4294967296 : Nat) : Int) := by omega
theorem mulC (a b : Nat) : (a : Int) * (b : Int) = ((a * b : Nat) : Int) := (Int.natCast_mul a b).symm
theorem addC (a b : Nat) : (a : Int) + (b : Int) = ((a + b : Nat) : Int) := (Int.natCast_add a b).symm
theorem wrapN (a : Nat) (ha : a < 18446744073709551616) : IntKind.u64.wrap (a : Int) = (a : Int) := u64_of (by omega) (by omega)
theorem bits_Mul64_eq {x y : Nat} (hx : x < 18446744073709551616) (hy : y < 18446744073709551616) : bits_Mul64.f (x : Int) (y : Int) = some (TH (x * y), TL (x * y)) := by
 obtain ⟨bd, bt, bw, hhi⟩ := Lib.mul64_hi x y hx hy
 have ba := Lib.half_mul_le (a := x / 4294967296) (b := y / 4294967296) (by omega) (by omega)
 have bb := Lib.half_mul_le (a := x / 4294967296) (b := y % 4294967296) (by omega) (by omega)
 have bc := Lib.half_mul_le (a := x % 4294967296) (b := y / 4294967296) (by omega) (by omega)
 have ba' : x / 4294967296 * (y / 4294967296) < 18446744073709551616 := by omega
 have bb' : x / 4294967296 * (y % 4294967296) < 18446744073709551616 := by omega
 have bc' : x % 4294967296 * (y / 4294967296) < 18446744073709551616 := by omega
 have bh1 : x / 4294967296 * (y / 4294967296) + (x / 4294967296 * (y % 4294967296) + x % 4294967296 * (y % 4294967296) / 4294967296) / 4294967296 < 18446744073709551616 := by omega
 have bh : x / 4294967296 * (y / 4294967296) + (x / 4294967296 * (y % 4294967296) + x % 4294967296 * (y % 4294967296) / 4294967296) / 4294967296 + ((x / 4294967296 * (y % 4294967296) + x % 4294967296 * (y % 4294967296) / 4294967296) % 4294967296 + x % 4294967296 * (y / 4294967296)) / 4294967296 < 18446744073709551616 := by omega
 unfold bits_Mul64.f
 simp only [mask32 x hx, mask32 y hy, div32, mulC, addC, wrapN _ bd, wrapN _ bb', wrapN _ bt, mask32 _ bt, wrapN _ bc', wrapN _ bw, wrapN _ ba', wrapN _ bh1, wrapN _ bh, u64_nat_wrap (x * y)]
 rw [hhi]
 rfl
theorem twin_Mul_eq {x y : Nat} (hx : x < 18446744073709551616) (hy : y < 18446744073709551616) : twin_Mul.f (x : Int) (y : Int) = some (TH (x * y), TL (x * y)) := by
 unfold twin_Mul.f
 rw [bits_Mul64_eq hx hy]; rfl
theorem mul_lt128 {x y : Nat} (hx : x < 18446744073709551616) (hy : y < 18446744073709551616) : x * y < 2 ^ 128 := by
 have := Nat.mul_le_mul (show x ≤ 18446744073709551615 by omega) (show y ≤ 18446744073709551615 by omega)
 rw [p128]
 omega
def prodE (kd : Int) (ng : Bool) (sc : Int) (fr : Nat) (kd' : Int) (ng' : Bool) (sc' : Int) (fr' : Nat) : Int × Bool × Int × Int × Int × Bool :=
 if kd = 2 ∨ kd' = 2 then (2, false, 0, 0, 0, false) else if kd = 0 ∨ kd' = 0 then (0, false, 0, 0, 0, false)
 else exactE (ng != ng') (fr * fr') (sc + sc' - 126) false
theorem soundN_cases {kd sc fr : Int} {ng : Bool} (h : soundN kd ng sc fr = true) : (kd = 0 ∧ ng = false ∧ sc = 0 ∧ fr = 0) ∨ (kd = 2 ∧ ng = false ∧ sc = 0 ∧ fr = 0) ∨ (kd = 1 ∧ 9223372036854775808 ≤ fr ∧ -1073741824 ≤ sc ∧ sc ≤ 1073741824) := by
 unfold soundN at h
 split at h
 ·rename_i hk
  have : ng = false ∧ sc = 0 ∧ fr = 0 := by simpa using h
  rcases hk with hk | hk
  ·exact .inl ⟨hk, this⟩
  ·exact .inr (.inl ⟨hk, this⟩)
 ·exact .inr (.inr (of_decide_eq_true h))
theorem makeV_exactE {ng R : Bool} {V : Nat} {e : Int} (hV : V < 2 ^ 128) (h0 : -4398046511104 ≤ e) (h1 : e ≤ 4398046511104) :
  makeV ng V e R = ((exactE ng V e R).1, (exactE ng V e R).2.1, (exactE ng V e R).2.2.1, (exactE ng V e R).2.2.2.1, (exactE ng V e R).2.2.2.2.1, (exactE ng V e R).2.2.2.2.2, none) := by
 unfold makeV exactE
 by_cases hz : V = 0
 ·rw [if_pos hz, if_pos hz]
 ·rw [if_neg hz, if_neg hz]
  have hb := bl_le_of_lt hV
  have hr : mkR V R = R := by unfold mkR; rw [show bl V - 128 = 0 by omega, Nat.pow_zero, Nat.mod_one]; simp
  have hf : farI e = e := by unfold farI; rw [if_neg (by omega), if_neg (by omega)]
  rw [hr, hf]
theorem prod_Exact_eq (kd : Int) (ng : Bool) (sc : Int) (fr : Nat) (kd' : Int) (ng' : Bool) (sc' : Int) (fr' : Nat) (hf : fr < 18446744073709551616) (hf' : fr' < 18446744073709551616) :
  Ev (fun k => prod_Exact.f k kd ng sc (fr : Int) kd' ng' sc' (fr' : Int)) (if soundN kd ng sc fr = true ∧ soundN kd' ng' sc' fr' = true then
   ((prodE kd ng sc fr kd' ng' sc' fr').1, (prodE kd ng sc fr kd' ng' sc' fr').2.1, (prodE kd ng sc fr kd' ng' sc' fr').2.2.1, (prodE kd ng sc fr kd' ng' sc' fr').2.2.2.1, (prodE kd ng sc fr kd' ng' sc' fr').2.2.2.2.1, (prodE kd ng sc fr kd' ng' sc' fr').2.2.2.2.2, none)
   else (0, false, 0, 0, 0, false, some 1)) := by
 unfold prod_Exact.f
 refine Ev.bind (round_Of_eq kd ng sc fr (by omega) (by omega)) ?_
 by_cases h1 : soundN kd ng sc fr = true
 ·simp only [h1, if_true, Option.isNone_none, true_and]
  refine Ev.bind (round_Of_eq kd' ng' sc' fr' (by omega) (by omega)) ?_
  by_cases h2 : soundN kd' ng' sc' fr' = true
  ·simp only [h2, if_true, Option.isNone_none]
   have c1 := soundN_cases h1
   have c2 := soundN_cases h2
   have j1 : Ev (fun k => prod_Exact.j0 k (decide (kd = 2 ∨ kd' = 2)) kd ng sc (fr : Int) kd' ng' sc' (fr' : Int)) ((prodE kd ng sc fr kd' ng' sc' fr').1, (prodE kd ng sc fr kd' ng' sc' fr').2.1, (prodE kd ng sc fr kd' ng' sc' fr').2.2.1, (prodE kd ng sc fr kd' ng' sc' fr').2.2.2.1, (prodE kd ng sc fr kd' ng' sc' fr').2.2.2.2.1, (prodE kd ng sc fr kd' ng' sc' fr').2.2.2.2.2, none) := by
    refine evs ?_
    simp only [prod_Exact.j0]
    unfold prodE
    by_cases hk : kd = 2 ∨ kd' = 2
    ·simp only [if_pos hk, decide_eq_true hk, if_true]
     exact Ev.now _
    ·simp only [if_neg hk, decide_eq_false hk, Bool.false_eq_true, if_false]
     have j2 : Ev (fun k => prod_Exact.j1 k (decide (kd = 0 ∨ kd' = 0)) ng sc (fr : Int) ng' sc' (fr' : Int)) (if kd = 0 ∨ kd' = 0 then (0, false, 0, 0, 0, false, none) else makeV (ng != ng') (fr * fr') (sc + sc' - 126) false) := by
      refine evs ?_
      simp only [prod_Exact.j1]
      by_cases h0 : kd = 0 ∨ kd' = 0
      ·simp only [if_pos h0, decide_eq_true h0, if_true]
       exact Ev.now _
      ·simp only [if_neg h0, decide_eq_false h0, Bool.false_eq_true, if_false]
       have ew : wrap64 (wrap64 (sc + sc') - 126) = sc + sc' - 126 := by
        rw [w64 (n := sc + sc') (by omega) (by omega), w64 (by omega) (by omega)]
       rw [ew, twin_Mul_eq hf hf']
       simp only [Option.bind_some]
       have := round_Make_eq (ng != ng') (fr * fr') (sc + sc' - 126) false (mul_lt128 hf hf')
       simp only [Bool.false_eq_true, false_and, if_false] at this
       refine Ev.bind this ?_
       exact Ev.now _
     have key : ((if kd = 0 ∨ kd' = 0 then (0, false, 0, 0, 0, false, none) else makeV (ng != ng') (fr * fr') (sc + sc' - 126) false) : Int × Bool × Int × Int × Int × Bool × Option Int) = ((if kd = 0 ∨ kd' = 0 then (0, false, 0, 0, 0, false) else exactE (ng != ng') (fr * fr') (sc + sc' - 126) false).1, (if kd = 0 ∨ kd' = 0 then (0, false, 0, 0, 0, false) else exactE (ng != ng') (fr * fr') (sc + sc' - 126) false).2.1, (if kd = 0 ∨ kd' = 0 then (0, false, 0, 0, 0, false) else exactE (ng != ng') (fr * fr') (sc + sc' - 126) false).2.2.1, (if kd = 0 ∨ kd' = 0 then (0, false, 0, 0, 0, false) else exactE (ng != ng') (fr * fr') (sc + sc' - 126) false).2.2.2.1, (if kd = 0 ∨ kd' = 0 then (0, false, 0, 0, 0, false) else exactE (ng != ng') (fr * fr') (sc + sc' - 126) false).2.2.2.2.1, (if kd = 0 ∨ kd' = 0 then (0, false, 0, 0, 0, false) else exactE (ng != ng') (fr * fr') (sc + sc' - 126) false).2.2.2.2.2, none) := by
      by_cases h0 : kd = 0 ∨ kd' = 0
      ·simp only [if_pos h0]
      ·simp only [if_neg h0]
       exact makeV_exactE (mul_lt128 hf hf') (by omega) (by omega)
     rw [← key]
     by_cases hk0 : kd = 0
     ·have hd : (kd == 0) = decide (kd = 0 ∨ kd' = 0) := by rw [decide_eq_true (.inl hk0)]; simp [hk0]
      simp only [if_pos hk0, hd]
      exact j2
     ·have hd : (kd' == 0) = decide (kd = 0 ∨ kd' = 0) := by rw [beq_dec]; simp [hk0]
      simp only [if_neg hk0, hd]
      exact j2
   by_cases hk2 : kd = 2
   ·have hd : (kd == 2) = decide (kd = 2 ∨ kd' = 2) := by simp [hk2]
    simp only [if_pos hk2, hd]
    exact j1
   ·have hd : (kd' == 2) = decide (kd = 2 ∨ kd' = 2) := by rw [beq_dec]; simp [hk2]
    simp only [if_neg hk2, hd]
    exact j1
  ·simp only [if_neg h2]
   exact Ev.now _
 ·simp only [if_neg h1, if_neg (show ¬ (soundN kd ng sc fr = true ∧ soundN kd' ng' sc' fr' = true) from fun h => h1 h.1)]
  exact Ev.now _
def prodX (a b : NM) : EX := if a.kd = 2 ∨ b.kd = 2 then EX.nar else if a.kd = 0 ∨ b.kd = 0 then EX.zero else natX (a.ng != b.ng) (a.fr * b.fr) (a.sc + b.sc - 126) false
theorem prodX_ok (a b : NM) : (prodX a b).ok := by
 unfold prodX
 split
 ·exact .inr (.inl rfl)
 ·split
  ·exact .inl rfl
  ·exact natX_ok _ _ _ _
theorem prodE_X (a b : NM) : prodE a.kd a.ng a.sc a.fr b.kd b.ng b.sc b.fr = ((prodX a b).kd, (prodX a b).ng, (prodX a b).sc, TH (prodX a b).V, TL (prodX a b).V, (prodX a b).R) := by
 unfold prodE prodX
 by_cases h2 : a.kd = 2 ∨ b.kd = 2
 ·rw [if_pos h2, if_pos h2]; rfl
 ·rw [if_neg h2, if_neg h2]
  by_cases h0 : a.kd = 0 ∨ b.kd = 0
  ·rw [if_pos h0, if_pos h0]; rfl
  ·rw [if_neg h0, if_neg h0, exactE_natX]
theorem prod_Exact_X {a b : NM} (ha : a.ok) (hb : b.ok) : Ev (fun k => prod_Exact.f k a.kd a.ng a.sc (a.fr : Int) b.kd b.ng b.sc (b.fr : Int)) ((prodX a b).kd, (prodX a b).ng, (prodX a b).sc, TH (prodX a b).V, TL (prodX a b).V, (prodX a b).R, none) := by
 have := prod_Exact_eq a.kd a.ng a.sc a.fr b.kd b.ng b.sc b.fr ha.2 hb.2
 rw [if_pos ⟨ha.1, hb.1⟩, prodE_X] at this
 exact this
def mulN (n x y : Nat) : Nat := (prodX (decN n x) (decN n y)).rnd n
theorem mulN_lt {n x y : Nat} (h8 : 8 ≤ n) (hn : n ≤ 64) : mulN n x y < 2 ^ n := EX.rnd_lt h8 hn (prodX_ok _ _)
theorem prod_Mul_eq {n a b : Nat} (h : isW (n : Int) = true) (ha : a < 18446744073709551616) (hb : b < 18446744073709551616) : Ev (fun k => prod_Mul.f k (n : Int) (a : Int) (b : Int)) (((mulN n (a % 2 ^ n) (b % 2 ^ n) : Nat) : Int), none) := by
 obtain ⟨b64, b8⟩ := pow64 h
 unfold prod_Mul.f
 refine Ev.bind (Decode_N h ha) ?_
 simp only [Option.isNone_none, if_true]
 refine Ev.bind (Decode_N h hb) ?_
 refine Ev.bind (prod_Exact_X (decN_ok b8 b64 (Nat.mod_lt a (two_pos n))) (decN_ok b8 b64 (Nat.mod_lt b (two_pos n)))) ?_
 refine Ev.bind (Round_X h (prodX_ok _ _)) ?_
 exact Ev.now _
end Go.Proofs.Ytgjhjgacojlbmaa.V
namespace Go.Proofs.Ytgjhjgacojlbmaa.V
open Go Go.RowKit Go.Proofs.Ytgjhjgacojlbmaa.Ab
theorem prodX_neg {a : NM} (ha : a.ok) (b : NM) : prodX a.neg b = (prodX a b).neg := by
 rcases NM.cases ha with rfl | rfl | ⟨h, h2, h3, h4, h5⟩
 ·rw [show (⟨0, false, 0, 0⟩ : NM).neg = ⟨0, false, 0, 0⟩ from rfl]
  unfold prodX
  split
  ·rfl
  ·rw [if_pos (.inl rfl)]; rfl
 ·rw [show (⟨2, false, 0, 0⟩ : NM).neg = ⟨2, false, 0, 0⟩ from rfl]
  unfold prodX
  rw [if_pos (.inl rfl)]; rfl
 ·unfold NM.neg
  rw [if_pos h]
  unfold prodX
  simp only
  by_cases h2 : a.kd = 2 ∨ b.kd = 2
  ·rw [if_pos h2, if_pos h2]; rfl
  ·rw [if_neg h2, if_neg h2]
   by_cases h0 : a.kd = 0 ∨ b.kd = 0
   ·rw [if_pos h0, if_pos h0]; rfl
   ·rw [if_neg h0, if_neg h0, ← natX_neg]
    congr 1
    cases a.ng <;> cases b.ng <;> rfl
theorem bl63 {f : Nat} (h : 2 ^ 63 ≤ f) (h2 : f < 2 ^ 64) : bl f = 64 := bl_unique (by decide) h h2
theorem prodX_one {a : NM} (ha : a.ok) : prodX a oneN = a.ex := by
 rcases NM.cases ha with rfl | rfl | ⟨h1, h2, h3, h4, h5⟩
 ·rfl
 ·rfl
 ·unfold prodX
  rw [if_neg (by unfold oneN; simp only; omega), if_neg (by unfold oneN; simp only; omega)]
  unfold oneN natX
  simp only
  have hp : a.fr * 9223372036854775808 ≠ 0 := by rw [p63] at h2; omega
  have hb : bl (a.fr * 9223372036854775808) = 127 := by
   rw [show (9223372036854775808 : Nat) = 2 ^ 63 from p63.symm, bl_mul_pow 63 (by rw [p63] at h2; omega), bl63 h2 h3]
  rw [if_neg hp, hb]
  unfold NM.ex
  refine EX.ext' h1.symm ?_ ?_ ?_ ?_
  ·simp
  ·simp only
   unfold heldI
   rw [if_neg (by omega), if_neg (by omega)]
   omega
  ·simp only
   unfold mkV
   rw [hb, if_pos (by decide), Nat.mul_assoc]
  ·simp only
   unfold mkR
   rw [hb, Nat.pow_zero, Nat.mod_one]; rfl
theorem decN_kd {n x : Nat} (h : x ≠ 2 ^ (n - 1)) : (decN n x).kd ≠ 2 := by
 unfold decN
 by_cases h0 : x = 0
 ·rw [if_pos h0]; show (0 : Int) ≠ 2; decide
 ·rw [if_neg h0, if_neg h]; show (1 : Int) ≠ 2; decide
end Go.Proofs.Ytgjhjgacojlbmaa.V
namespace Go.Proofs.Ytgjhjgacojlbmaa.V
open Go Go.RowKit Go.Proofs.Ytgjhjgacojlbmaa.Ab Go.Proofs.Ytgjhjgacojlbmaa.Fn
set_option linter.unusedVariables false
set_option linter.unusedSimpArgs false
theorem PW_ex (i : Nat) : ∃ n : Nat, n = 18446744073709551616 ^ i := ⟨_, rfl⟩
noncomputable def PW (i : Nat) : Nat := Classical.choose (PW_ex i)
theorem PW_def (i : Nat) : PW i = 18446744073709551616 ^ i := Classical.choose_spec (PW_ex i)
theorem PW_pos (i : Nat) : 0 < PW i := by rw [PW_def]; exact Nat.pow_pos (by decide)
theorem PW_succ (i : Nat) : PW (i + 1) = PW i * 18446744073709551616 := by rw [PW_def, PW_def]; exact Nat.pow_succ ..
theorem PW_add (i j : Nat) : PW (i + j) = PW i * PW j := by rw [PW_def, PW_def, PW_def]; exact Nat.pow_add ..
theorem PW_two (i : Nat) : PW i = 2 ^ (64 * i) := by rw [PW_def, show (18446744073709551616 : Nat) = 2 ^ 64 by decide, ← Nat.pow_mul]
theorem PW_le {i j : Nat} (h : i ≤ j) : PW i ≤ PW j := by rw [PW_def, PW_def]; exact Nat.pow_le_pow_right (by decide) h
theorem PW_dvd {i j : Nat} (h : i ≤ j) : PW i ∣ PW j := by rw [PW_def, PW_def]; exact Nat.pow_dvd_pow _ h
theorem PW_zero : PW 0 = 1 := by rw [PW_def, Nat.pow_zero]
noncomputable def ws (V : Nat) : List Int := (List.range 16).map fun i => ((V / PW i % 18446744073709551616 : Nat) : Int)
theorem ws_zero : ws 0 = [0, 0, 0, 0, 0, 0, 0, 0, 0, 0, 0, 0, 0, 0, 0, 0] := by
 unfold ws
 simp only [Nat.zero_div, Nat.zero_mod]
 decide
theorem rd_ws (V i : Nat) (h : i < 16) : rd (ws V) (i : Int) = ((V / PW i % 18446744073709551616 : Nat) : Int) := by
 unfold rd ws
 rw [Int.toNat_natCast, List.getD_eq_getElem?_getD, List.getElem?_map, List.getElem?_range h]
 rfl
theorem digit_eq (V j : Nat) : V / PW j % 18446744073709551616 = V % PW (j + 1) / PW j := by
 rw [PW_succ, Nat.mod_mul_right_div_self]
theorem set_ws {V i m : Nat} (h : i < 16) (hm : m < 18446744073709551616) : (ws V).set i (m : Int) = ws (V % PW i + m * PW i + V / PW (i + 1) * PW (i + 1)) := by
 have hp := PW_pos i
 have hlt : V % PW i < PW i := Nat.mod_lt _ hp
 have e0 : V % PW i + m * PW i + V / PW (i + 1) * PW (i + 1) = V % PW i + PW i * (m + 18446744073709551616 * (V / PW (i + 1))) := by
  rw [Nat.mul_add, Nat.mul_comm m, PW_succ, Nat.mul_comm (V / _), Nat.mul_assoc, Nat.add_assoc]
 apply List.ext_getElem (by simp [ws])
 intro j h1 h2
 have hj : j < 16 := by simpa [ws] using h2
 rw [List.getElem_set]
 simp only [ws, List.getElem_map, List.getElem_range]
 by_cases hij : i = j
 ·subst hij
  rw [if_pos rfl, e0, Nat.add_mul_div_left _ _ hp, Nat.div_eq_of_lt hlt, Nat.zero_add, Nat.add_mul_mod_self_left, Nat.mod_eq_of_lt hm]
 ·rw [if_neg hij]
  congr 1
  by_cases hlt2 : j < i
  ·rw [digit_eq, digit_eq, e0]
   congr 1
   obtain ⟨q, hq⟩ := PW_dvd (show j + 1 ≤ i by omega)
   rw [hq, Nat.mul_assoc, Nat.add_mul_mod_self_left, Nat.mod_mul_right_mod]
  ·have hle : i + 1 ≤ j := by omega
   congr 1
   obtain ⟨d, rfl⟩ : ∃ d, j = i + 1 + d := ⟨j - (i + 1), by omega⟩
   rw [PW_add, ← Nat.div_div_eq_div_mul, ← Nat.div_div_eq_div_mul]
   congr 1
   have hb : V % PW i + m * PW i < PW (i + 1) := by
    rw [PW_succ]
    have : (m + 1) * PW i ≤ 18446744073709551616 * PW i := Nat.mul_le_mul_right _ hm
    rw [Nat.add_mul] at this
    rw [Nat.mul_comm (PW i)]
    omega
   rw [Nat.add_mul_div_right _ _ (PW_pos _), Nat.div_eq_of_lt hb, Nat.zero_add]
theorem step_add {V X P c U m q : Nat} (h : V % P + X % P = P * c + U) (hm : V / P % 18446744073709551616 + X / P % 18446744073709551616 + c = 18446744073709551616 * q + m) :
  V % (P * 18446744073709551616) + X % (P * 18446744073709551616) = P * 18446744073709551616 * q + (U + m * P) := by
 rw [Nat.mod_mul, Nat.mod_mul, Nat.mul_assoc, Nat.mul_comm m P]
 have e : P * (V / P % 18446744073709551616 + X / P % 18446744073709551616 + c) = P * (18446744073709551616 * q + m) := by rw [hm]
 simp only [Nat.mul_add] at e
 omega
theorem step_sub {V X P c U m q : Nat} (h : V % P + P * c = X % P + U) (hm : V / P % 18446744073709551616 + 18446744073709551616 * q = X / P % 18446744073709551616 + c + m) :
  V % (P * 18446744073709551616) + P * 18446744073709551616 * q = X % (P * 18446744073709551616) + (U + m * P) := by
 rw [Nat.mod_mul, Nat.mod_mul, Nat.mul_assoc, Nat.mul_comm m P]
 have e : P * (V / P % 18446744073709551616 + 18446744073709551616 * q) = P * (X / P % 18446744073709551616 + c + m) := by rw [hm]
 simp only [Nat.mul_add] at e
 omega
theorem step_neg {V P c U m q : Nat} (h : V % P + U + P * c = P) (hm : 18446744073709551615 - V / P % 18446744073709551616 + 0 + c = 18446744073709551616 * q + m) :
  V % (P * 18446744073709551616) + (U + m * P) + P * 18446744073709551616 * q = P * 18446744073709551616 := by
 rw [Nat.mod_mul, Nat.mul_assoc, Nat.mul_comm m P]
 have hv : V / P % 18446744073709551616 < 18446744073709551616 := Nat.mod_lt _ (by decide)
 have hm' : 18446744073709551615 + c = 18446744073709551616 * q + m + V / P % 18446744073709551616 := by omega
 have e : P * (18446744073709551615 + c) = P * (18446744073709551616 * q + m + V / P % 18446744073709551616) := by rw [hm']
 simp only [Nat.mul_add] at e
 omega
theorem cur_digit {V U i : Nat} (hU : U < PW i) : (U + V / PW i * PW i) / PW i % 18446744073709551616 = V / PW i % 18446744073709551616 := by
 rw [Nat.add_mul_div_right _ _ (PW_pos i), Nat.div_eq_of_lt hU, Nat.zero_add]
theorem cur_set {V U i m : Nat} (hi : i < 16) (hU : U < PW i) (hm : m < 18446744073709551616) : (ws (U + V / PW i * PW i)).set i (m : Int) = ws (U + m * PW i + V / PW (i + 1) * PW (i + 1)) := by
 rw [set_ws hi hm, Nat.add_mul_mod_self_right, Nat.mod_eq_of_lt hU]
 congr 3
 rw [PW_succ, ← Nat.div_div_eq_div_mul, Nat.add_mul_div_right _ _ (PW_pos i), Nat.div_eq_of_lt hU, Nat.zero_add, Nat.div_div_eq_div_mul]
theorem cur_lt {U m i : Nat} (hU : U < PW i) (hm : m < 18446744073709551616) : U + m * PW i < PW (i + 1) := by
 rw [PW_succ]
 have : (m + 1) * PW i ≤ 18446744073709551616 * PW i := Nat.mul_le_mul_right _ hm
 rw [Nat.add_mul] at this
 rw [Nat.mul_comm (PW i)]
 omega
noncomputable def finW (b : Bool) (s V X : Nat) : Nat := if b then (V + PW s - X % PW s) % PW s else (V + X) % PW s
def relW (b : Bool) (V X P c U : Nat) : Prop := if b then V % P + P * c = X % P + U else V % P + X % P = P * c + U
theorem fin_end {b : Bool} {s V X c U : Nat} (hV : V < PW s) (hU : U < PW s) (hc : c ≤ 1) (h : relW b V X (PW s) c U) : U + V / PW s * PW s = finW b s V X := by
 unfold relW at h
 unfold finW
 have hp := PW_pos s
 have hX := Nat.mod_lt X hp
 rw [Nat.div_eq_of_lt hV, Nat.zero_mul, Nat.add_zero]
 rw [Nat.mod_eq_of_lt hV] at h
 have hc' : c = 0 ∨ c = 1 := by omega
 cases b
 ·rw [if_neg (by decide)] at h ⊢
  rw [← Nat.add_mod_mod V X, h, Nat.mul_add_mod, Nat.mod_eq_of_lt hU]
 ·rw [if_pos rfl] at h ⊢
  rcases hc' with rfl | rfl
  ·rw [show V + PW s - X % PW s = PW s + U by omega, Nat.add_mod_left, Nat.mod_eq_of_lt hU]
  ·rw [show V + PW s - X % PW s = U by omega, Nat.mod_eq_of_lt hU]
theorem fin_break {b : Bool} {s i V X U : Nat} (his : i ≤ s) (hV : V < PW s) (hU : U < PW i) (hX : X < PW i) (h : relW b V X (PW i) 0 U) : U + V / PW i * PW i = finW b s V X := by
 unfold relW at h
 unfold finW
 have hp := PW_pos i
 rw [Nat.mod_eq_of_lt hX] at h
 have hd := Nat.div_add_mod V (PW i)
 rw [Nat.mul_comm] at hd
 have hlt : U + V / PW i * PW i < PW s := by
  obtain ⟨d, rfl⟩ : ∃ d, s = i + d := ⟨s - i, by omega⟩
  rw [PW_add] at hV ⊢
  have := (Nat.div_lt_iff_lt_mul hp).2 (by rw [Nat.mul_comm]; exact hV : V < PW d * PW i)
  have h2 : (V / PW i + 1) * PW i ≤ PW d * PW i := Nat.mul_le_mul_right _ this
  rw [Nat.add_mul] at h2
  rw [Nat.mul_comm (PW i) (PW d)]
  omega
 cases b
 ·rw [if_neg (by decide)] at h ⊢
  rw [show V + X = U + V / PW i * PW i by omega, Nat.mod_eq_of_lt hlt]
 ·rw [if_pos rfl] at h ⊢
  have hXs : X % PW s = X := Nat.mod_eq_of_lt (Nat.lt_of_lt_of_le hX (PW_le his))
  rw [hXs, show V + PW s - X = PW s + (U + V / PW i * PW i) by omega, Nat.add_mod_left, Nat.mod_eq_of_lt hlt]
noncomputable def dgt (X i : Nat) : Nat := X / PW i % 18446744073709551616
theorem dgt_lt (X i : Nat) : dgt X i < 18446744073709551616 := Nat.mod_lt _ (by decide)
theorem dgt_zero {X i : Nat} (h : X < PW i) : dgt X i = 0 := by unfold dgt; rw [Nat.div_eq_of_lt h]
theorem rd_dgt {V i : Nat} (h : i < 16) : rd (ws V) (i : Int) = (dgt V i : Int) := rd_ws V i h
theorem wrap_succ {i : Nat} (h : i < 16) : wrap64 ((i : Int) + 1) = ((i + 1 : Nat) : Int) := by rw [w64 (by omega) (by omega)]; omega
theorem enter_j1 {n : Int} {nar : Bool} {t : Int} {s at_ i V X U c x : Nat} {b : Bool} {t0 t1 t2 : Int} {r : (Int × Bool × Int × List Int) × Unit × Unit} (hs : s ≤ 16) (hi : i < s) (hc : c ≤ 1) (hU : U < PW i) (hx : x = dgt X i) (h : relW b V X (PW i) c U)
  (ih : ∀ U' c', c' ≤ 1 → U' < PW (i + 1) → relW b V X (PW (i + 1)) c' U' → Ev (fun k => accum_Acc_enter.l0 k n nar t (s : Int) (ws (U' + V / PW (i + 1) * PW (i + 1))) b (at_ : Int) (c' : Int) ((i + 1 : Nat) : Int) t0 t1 t2) r) :
  Ev (fun k => accum_Acc_enter.j1 k n nar t (s : Int) (ws (U + V / PW i * PW i)) b (at_ : Int) (c : Int) (i : Int) (x : Int) t0 t1 t2) r := by
 refine evs ?_
 simp only [accum_Acc_enter.j1]
 have hv := dgt_lt V i
 have hxl : x < 18446744073709551616 := by rw [hx]; exact dgt_lt X i
 have hcd : rd (ws (U + V / PW i * PW i)) (i : Int) = (dgt V i : Int) := by rw [rd_ws _ i (Nat.lt_of_lt_of_le hi hs), cur_digit hU]; rfl
 have hi16 : i < 16 := Nat.lt_of_lt_of_le hi hs
 have hw := wrap_succ hi16
 have c1 : (0 : Int) ≤ (i : Int) := Int.natCast_nonneg i
 have c2 : (i : Int) < (s : Int) := Int.ofNat_lt.2 hi
 simp only [hcd, c1, c2, if_true, Int.toNat_natCast, hw]
 cases b
 ·simp only [Bool.false_eq_true, if_false]
  obtain ⟨m, q, h1, h2, h3, h4⟩ := add64_nat hv hxl hc
  simp only [h4, Option.bind_some]
  rw [cur_set hi16 hU h1]
  refine ih _ _ h2 (cur_lt hU h1) ?_
  unfold relW at h ⊢
  rw [if_neg (by decide)] at h ⊢
  rw [PW_succ]
  exact step_add h (by rw [hx] at h3; exact h3)
 ·simp only [if_true]
  obtain ⟨m, q, h1, h2, h3, h4⟩ := sub64_nat hv hxl hc
  simp only [h4, Option.bind_some]
  rw [cur_set hi16 hU h1]
  refine ih _ _ h2 (cur_lt hU h1) ?_
  unfold relW at h ⊢
  rw [if_pos rfl] at h ⊢
  rw [PW_succ]
  exact step_sub h (by rw [hx] at h3; exact h3)
theorem enter_l0 {n : Int} {nar : Bool} {t : Int} {s at_ V X : Nat} {b : Bool} {t0 t1 t2 : Nat} (hs : s ≤ 16) (hat : at_ < 4294967296) (hV : V < PW s) (hX : X < PW (at_ + 3)) (h0 : t0 = dgt X at_) (h1 : t1 = dgt X (at_ + 1)) (h2 : t2 = dgt X (at_ + 2)) :
  ∀ (d i U c : Nat), i + d = s → at_ ≤ i → c ≤ 1 → U < PW i → relW b V X (PW i) c U → Ev (fun k => accum_Acc_enter.l0 k n nar t (s : Int) (ws (U + V / PW i * PW i)) b (at_ : Int) (c : Int) (i : Int) (t0 : Int) (t1 : Int) (t2 : Int)) ((n, nar, t, ws (finW b s V X)), (), ()) := by
 intro d
 induction d with
 | zero =>
  intro i U c hi ha hc hU h
  have : i = s := by omega
  subst this
  refine evs ?_
  simp only [accum_Acc_enter.l0]
  simp only [if_neg (show ¬ ((i : Int) < (i : Int)) by omega), fin_end hV hU hc h]
  exact Ev.now _
 | succ d ih =>
  intro i U c hi ha hc hU h
  have hw : wrap64 ((i : Int) - at_) = ((i - at_ : Nat) : Int) := by rw [w64 (by omega) (by omega)]; omega
  refine evs ?_
  simp only [accum_Acc_enter.l0]
  simp only [if_pos (show (i : Int) < s by omega), hw]
  have step := fun x hx => enter_j1 (n := n) (nar := nar) (t := t) (at_ := at_) (x := x) (t0 := t0) (t1 := t1) (t2 := t2) hs (show i < s by omega) hc hU hx h (fun U' c' hc' hU' h' => ih (i + 1) U' c' (by omega) (by omega) hc' hU' h')
  by_cases hk : i - at_ < 3
  ·simp only [if_pos (show ((i - at_ : Nat) : Int) < 3 by omega), if_pos (show (0 : Int) ≤ ((i - at_ : Nat) : Int) by omega)]
   have h3 : i = at_ ∨ i = at_ + 1 ∨ i = at_ + 2 := by omega
   rcases h3 with rfl | rfl | rfl
   ·rw [Nat.sub_self]
    exact step t0 h0
   ·rw [Nat.add_sub_cancel_left]
    exact step t1 h1
   ·rw [Nat.add_sub_cancel_left]
    exact step t2 h2
  ·have hlt : X < PW i := Nat.lt_of_lt_of_le hX (PW_le (by omega))
   simp only [if_neg (show ¬ (((i - at_ : Nat) : Int) < 3) by omega)]
   by_cases hc0 : c = 0
   ·subst hc0
    simp only [Int.natCast_zero, if_true]
    rw [fin_break (by omega) hV hU hlt h]
    exact Ev.now _
   ·simp only [if_neg (show ¬ ((c : Int) = 0) by omega)]
    exact step 0 (dgt_zero hlt).symm
theorem two_rows {B hi lo S c d a b : Nat} (h1 : hi * S = c * B + d) (h2 : lo * S = a * B + b) : (hi * B + lo) * S = c * (B * B) + (d + a) * B + b := by
 rw [Nat.add_mul, Nat.mul_right_comm, h1, h2]
 simp only [Nat.add_mul, Nat.mul_assoc]
 omega
theorem three_words {c z1 z0 Y : Nat} (hc : c < 18446744073709551616) (h1 : z1 < 18446744073709551616) (h0 : z0 < 18446744073709551616) (h : c * (18446744073709551616 * 18446744073709551616) + z1 * 18446744073709551616 + z0 = Y) :
  Y < PW 3 ∧ z0 = Y % 18446744073709551616 ∧ z1 = Y / 18446744073709551616 % 18446744073709551616 ∧ c = Y / PW 2 % 18446744073709551616 := by
 have e2 : PW 2 = 18446744073709551616 * 18446744073709551616 := by rw [PW_def]
 have e3 : PW 3 = 18446744073709551616 * (18446744073709551616 * 18446744073709551616) := by rw [PW_def]
 rw [e2, e3]
 have k1 : Y / 18446744073709551616 = c * 18446744073709551616 + z1 := by omega
 have k2 : Y / (18446744073709551616 * 18446744073709551616) = c := by rw [← Nat.div_div_eq_div_mul, k1]; omega
 refine ⟨?_, by omega, by rw [k1]; omega, by rw [k2]; omega⟩
 omega
theorem enter_eq {n : Nat} {nar : Bool} {t : Int} {V hi lo up : Nat} {b : Bool} (hn : isW (n : Int) = true) (hV : V < PW (n / 4)) (hh : hi < 18446744073709551616) (hl : lo < 18446744073709551616) (hu : up < 4294967296) :
  Ev (fun k => accum_Acc_enter.f k (n : Int) nar t (ws V) (hi : Int) (lo : Int) (up : Int) b) (((n : Int), nar, t, ws (finW b (n / 4) V ((hi * 18446744073709551616 + lo) * 2 ^ up))), (), ()) := by
 have hn4 : n / 4 ≤ 16 := by have := isW_cases hn; omega
 have hsz : accum_Acc_size.f (n : Int) nar t (ws V) = some ((), (), ((n / 4 : Nat) : Int)) := by
  unfold accum_Acc_size.f
  have := isW_cases hn
  rw [Int.tdiv_eq_ediv_of_nonneg (by omega), w64 (by omega) (by omega)]
  congr 3
 have hm : Int.tmod (up : Int) 64 = ((up % 64 : Nat) : Int) := by rw [Int.tmod_eq_emod_of_nonneg (by omega)]; omega
 have hd : Int.tdiv (up : Int) 64 = ((up / 64 : Nat) : Int) := by rw [Int.tdiv_eq_ediv_of_nonneg (by omega)]; omega
 have hs : up % 64 < 64 := Nat.mod_lt _ (by decide)
 unfold accum_Acc_enter.f
 rw [hm, hd, wrapN _ (by omega)]
 have h63 : IntKind.u64.wrap (63 - ((up % 64 : Nat) : Int)) = ((63 - up % 64 : Nat) : Int) := by rw [u64_of (by omega) (by omega)]; omega
 rw [h63, hsz]
 simp only [Option.bind_some]
 simp only [if_pos (show (0 : Int) ≤ ((up % 64 : Nat) : Int) by omega), if_pos (show (0 : Int) ≤ ((63 - up % 64 : Nat) : Int) by omega), if_pos (show (0 : Int) ≤ ((n / 4 : Nat) : Int) by omega), if_pos (show ((n / 4 : Nat) : Int) ≤ 16 by omega), w64 (show -9223372036854775808 ≤ ((up / 64 : Nat) : Int) by omega) (show ((up / 64 : Nat) : Int) < 9223372036854775808 by omega)]
 -- the three words
 generalize hsd : up % 64 = sh at *
 generalize had : up / 64 = at_ at *
 have hup : up = 64 * at_ + sh := by omega
 have hX : (hi * 18446744073709551616 + lo) * 2 ^ up = (hi * 18446744073709551616 + lo) * 2 ^ sh * PW at_ := by
  rw [PW_two, Nat.mul_assoc, ← Nat.pow_add, hup]; congr 2; omega
 have p1 := two_pos sh
 have hsh : 2 ^ sh ≤ 2 ^ 63 := pow_le (by omega)
 rw [p63] at hsh
 have e64 : 2 ^ sh * 2 ^ (64 - sh) = 18446744073709551616 := by rw [← Nat.pow_add, show sh + (64 - sh) = 64 by omega, p64]
 have q1 := two_pos (64 - sh)
 -- parts
 have hlo : lo = lo / 2 ^ (64 - sh) * 2 ^ (64 - sh) + lo % 2 ^ (64 - sh) := by rw [Nat.mul_comm]; exact (Nat.div_add_mod _ _).symm
 have hhi : hi = hi / 2 ^ (64 - sh) * 2 ^ (64 - sh) + hi % 2 ^ (64 - sh) := by rw [Nat.mul_comm]; exact (Nat.div_add_mod _ _).symm
 generalize ha : lo / 2 ^ (64 - sh) = a at *
 generalize hb : lo % 2 ^ (64 - sh) = b0 at *
 generalize hc : hi / 2 ^ (64 - sh) = c at *
 generalize hd0 : hi % 2 ^ (64 - sh) = d0 at *
 have hb0 : b0 < 2 ^ (64 - sh) := by rw [← hb]; exact Nat.mod_lt _ q1
 have hd1 : d0 < 2 ^ (64 - sh) := by rw [← hd0]; exact Nat.mod_lt _ q1
 have ha1 : a < 2 ^ sh := by rw [← ha]; exact (Nat.div_lt_iff_lt_mul q1).2 (by rw [e64]; exact hl)
 have hc1 : c < 2 ^ sh := by rw [← hc]; exact (Nat.div_lt_iff_lt_mul q1).2 (by rw [e64]; exact hh)
 have hbs : b0 * 2 ^ sh < 18446744073709551616 := by rw [← e64, Nat.mul_comm]; exact Nat.mul_lt_mul_of_pos_left hb0 p1
 have hds : d0 * 2 ^ sh + a < 18446744073709551616 := by
  have : (d0 + 1) * 2 ^ sh ≤ 2 ^ (64 - sh) * 2 ^ sh := Nat.mul_le_mul_right _ hd1
  rw [Nat.mul_comm (2 ^ (64 - sh)), e64, Nat.add_mul] at this
  omega
 have hlos : lo * 2 ^ sh = a * 18446744073709551616 + b0 * 2 ^ sh := by
  rw [hlo, Nat.add_mul, Nat.mul_assoc, Nat.mul_comm (2 ^ (64 - sh)), e64]
 have hhis : hi * 2 ^ sh = c * 18446744073709551616 + d0 * 2 ^ sh := by
  rw [hhi, Nat.add_mul, Nat.mul_assoc, Nat.mul_comm (2 ^ (64 - sh)), e64]
 have w0 : shl .u64 (lo : Int) (sh : Int) = ((b0 * 2 ^ sh : Nat) : Int) := by
  rw [shl_nat _ _ (by omega), hlos, Nat.mul_add_mod', Nat.mod_eq_of_lt hbs]
 have half : ∀ z : Nat, shr .u64 ((z : Int) / 2) ((63 - sh : Nat) : Int) = ((z / 2 ^ (64 - sh) : Nat) : Int) := fun z => by
  rw [show (z : Int) / 2 = ((z / 2 : Nat) : Int) by omega, shr_nat _ _ (by omega), Nat.div_div_eq_div_mul, ← Nat.pow_succ', show (63 - sh).succ = 64 - sh by omega]
 have w1 : Go.bits .or .u64 (shl .u64 (hi : Int) (sh : Int)) (shr .u64 ((lo : Int) / 2) ((63 - sh : Nat) : Int)) = ((d0 * 2 ^ sh + a : Nat) : Int) := by
  rw [half lo, ha, shl_nat _ _ (by omega), hhis, Nat.mul_add_mod', Nat.mod_eq_of_lt (show d0 * 2 ^ sh < 18446744073709551616 from Nat.lt_of_le_of_lt (Nat.le_add_right _ _) hds)]
  exact or_add _ _ sh (by omega) (Nat.mul_mod_left _ _) ha1 (by omega)
 have w2 : shr .u64 ((hi : Int) / 2) ((63 - sh : Nat) : Int) = ((c : Nat) : Int) := by rw [half hi, hc]
 rw [w0, w1, w2, hX]
 have hY : (hi * 18446744073709551616 + lo) * 2 ^ sh = c * (18446744073709551616 * 18446744073709551616) + (d0 * 2 ^ sh + a) * 18446744073709551616 + b0 * 2 ^ sh := two_rows hhis hlos
 have hc2 : c < 18446744073709551616 := Nat.lt_of_lt_of_le hc1 (Nat.le_trans hsh (by decide))
 rw [hY]
 clear hY hhis hlos hX hlo hhi
 generalize hz0 : b0 * 2 ^ sh = z0 at *
 generalize hz1 : d0 * 2 ^ sh + a = z1 at *
 obtain ⟨Y, hYd⟩ : ∃ Y, c * (18446744073709551616 * 18446744073709551616) + z1 * 18446744073709551616 + z0 = Y := ⟨_, rfl⟩
 rw [hYd]
 obtain ⟨hYl, k0, k1, k2⟩ := three_words hc2 hds hbs hYd
 have g0 : z0 = dgt (Y * PW at_) at_ := by unfold dgt; rw [Nat.mul_div_cancel _ (PW_pos _)]; exact k0
 have g1 : z1 = dgt (Y * PW at_) (at_ + 1) := by unfold dgt; rw [PW_succ, Nat.mul_comm (PW at_) _, Nat.mul_div_mul_right _ _ (PW_pos _)]; exact k1
 have g2 : c = dgt (Y * PW at_) (at_ + 2) := by
  unfold dgt; rw [PW_add, Nat.mul_comm (PW at_) _, Nat.mul_div_mul_right _ _ (PW_pos _)]; exact k2
 have hX3 : Y * PW at_ < PW (at_ + 3) := by rw [PW_add, Nat.mul_comm]; exact Nat.mul_lt_mul_of_pos_left hYl (PW_pos _)
 by_cases hlt : at_ ≤ n / 4
 ·have hdm := Nat.div_add_mod V (PW at_)
  have e : V % PW at_ + V / PW at_ * PW at_ = V := by rw [Nat.mul_comm]; omega
  have := enter_l0 (n := n) (nar := nar) (t := t) (b := b) hn4 (by omega) hV hX3 g0 g1 g2 (n / 4 - at_) at_ (V % PW at_) 0 (by omega) (Nat.le_refl _) (by decide) (Nat.mod_lt _ (PW_pos _)) (by unfold relW; rw [Nat.mul_mod_left]; split <;> omega)
  rw [e] at this
  exact this
 ·refine evs ?_
  simp only [accum_Acc_enter.l0]
  simp only [if_neg (show ¬ ((at_ : Int) < ((n / 4 : Nat) : Int)) by omega)]
  have hfin : finW b (n / 4) V (Y * PW at_) = V := by
   have hz : Y * PW at_ % PW (n / 4) = 0 := by
    obtain ⟨q, hq⟩ := PW_dvd (show n / 4 ≤ at_ by omega)
    rw [hq, ← Nat.mul_assoc, Nat.mul_right_comm, Nat.mul_mod_left]
   unfold finW
   split
   ·rw [hz, Nat.sub_zero, Nat.add_mod_right, Nat.mod_eq_of_lt hV]
   ·rw [Nat.add_mod, hz, Nat.add_zero, Nat.mod_mod, Nat.mod_eq_of_lt hV]
  rw [hfin]
  exact Ev.now _
theorem size_eq {n : Nat} (hn : isW (n : Int) = true) (nar : Bool) (t : Int) (l : List Int) : accum_Acc_size.f (n : Int) nar t l = some ((), (), ((n / 4 : Nat) : Int)) := by
 unfold accum_Acc_size.f
 have := isW_cases hn
 rw [Int.tdiv_eq_ediv_of_nonneg (by omega), w64 (by omega) (by omega)]
 congr 3
theorem size_bounds {n : Nat} (hn : isW (n : Int) = true) : 2 ≤ n / 4 ∧ n / 4 ≤ 16 := by have := isW_cases hn; omega
theorem HW_ex (s : Nat) : ∃ h : Nat, h = PW (s - 1) * 9223372036854775808 := ⟨_, rfl⟩
noncomputable def HW (s : Nat) : Nat := Classical.choose (HW_ex s)
theorem HW_def (s : Nat) : HW s = PW (s - 1) * 9223372036854775808 := Classical.choose_spec (HW_ex s)
theorem HW_two {s : Nat} (h : 0 < s) : HW s * 2 = PW s := by
 obtain ⟨r, rfl⟩ : ∃ r, s = r + 1 := ⟨s - 1, by omega⟩
 rw [HW_def, PW_succ, Nat.add_sub_cancel, Nat.mul_assoc]
theorem top_bitW {s V : Nat} (h : 0 < s) (hV : V < PW s) : dgt V (s - 1) / 9223372036854775808 = if HW s ≤ V then 1 else 0 := by
 obtain ⟨r, rfl⟩ : ∃ r, s = r + 1 := ⟨s - 1, by omega⟩
 have hp := PW_pos r
 have hd : dgt V (r + 1 - 1) = V / PW r := by
  unfold dgt
  rw [Nat.add_sub_cancel, Nat.mod_eq_of_lt]
  rw [PW_succ] at hV
  exact (Nat.div_lt_iff_lt_mul hp).2 (by rw [Nat.mul_comm]; exact hV)
 rw [hd, Nat.div_div_eq_div_mul]
 have hH : HW (r + 1) = PW r * 9223372036854775808 := by rw [HW_def, Nat.add_sub_cancel]
 rw [← hH]
 have h2 := HW_two (s := r + 1) (by omega)
 have hHp : 0 < HW (r + 1) := by rw [hH]; exact Nat.mul_pos hp (by decide)
 split
 ·rename_i hle
  exact Nat.div_eq_of_lt_le (by omega) (by omega)
 ·exact Nat.div_eq_of_lt (by omega)
theorem negative_eq {n V : Nat} (hn : isW (n : Int) = true) (hV : V < PW (n / 4)) (nar : Bool) (t : Int) : accum_Acc_negative.f (n : Int) nar t (ws V) = some ((), (), decide (HW (n / 4) ≤ V)) := by
 unfold accum_Acc_negative.f
 obtain ⟨h1, h2⟩ := size_bounds hn
 have hw : wrap64 (((n / 4 : Nat) : Int) - 1) = ((n / 4 - 1 : Nat) : Int) := by rw [w64 (by omega) (by omega)]; omega
 rw [size_eq hn]
 simp only [Option.bind_some, hw]
 rw [if_pos (by omega), if_pos (by omega), rd_dgt (by omega)]
 have e : ((dgt V (n / 4 - 1) : Nat) : Int) / 9223372036854775808 = ((dgt V (n / 4 - 1) / 9223372036854775808 : Nat) : Int) := by omega
 rw [e, top_bitW (by omega) hV]
 by_cases h : HW (n / 4) ≤ V
 ·rw [if_pos h, decide_eq_true h]; rfl
 ·rw [if_neg h, decide_eq_false h]; rfl
theorem turn_arr {s V : Nat} (hs : s ≤ 16) (hV : V < PW s) : ∀ (d i U c : Nat), i + d = s → c ≤ 1 → U < PW i → V % PW i + U + PW i * c = PW i → Ev (fun k => accum_turn_arr.l0 k (s : Int) (s : Int) (ws (U + V / PW i * PW i)) (c : Int) (s : Int) (i : Int)) (ws ((PW s - V) % PW s), (), ()) := by
 intro d
 induction d with
 | zero =>
  intro i U c hi hc hU h
  have : i = s := by omega
  subst this
  refine evs ?_
  simp only [accum_turn_arr.l0]
  simp only [if_neg (show ¬ ((i : Int) < (i : Int)) by omega)]
  rw [Nat.mod_eq_of_lt hV] at h
  have hc' : c = 0 ∨ c = 1 := by omega
  have e : U + V / PW i * PW i = (PW i - V) % PW i := by
   rw [Nat.div_eq_of_lt hV, Nat.zero_mul, Nat.add_zero]
   rcases hc' with rfl | rfl
   ·rw [show PW i - V = U by omega, Nat.mod_eq_of_lt hU]
   ·rw [show V = 0 by omega, Nat.sub_zero, Nat.mod_self]; omega
  rw [e]
  exact Ev.now _
 | succ d ih =>
  intro i U c hi hc hU h
  refine evs ?_
  simp only [accum_turn_arr.l0]
  have hi16 : i < 16 := by omega
  have hcd : rd (ws (U + V / PW i * PW i)) (i : Int) = (dgt V i : Int) := by rw [rd_ws _ i hi16, cur_digit hU]; rfl
  have hv := dgt_lt V i
  obtain ⟨m, q, h1, h2, h3, h4⟩ := add64_nat (show 18446744073709551615 - dgt V i < 18446744073709551616 by omega) (show 0 < 18446744073709551616 by decide) hc
  simp only [if_pos (show (i : Int) < (s : Int) by omega), if_pos (show (0 : Int) ≤ (i : Int) by omega), hcd, xor_all _ hv, show ((0 : Nat) : Int) = 0 from rfl, Int.toNat_natCast, wrap_succ hi16] at h4 ⊢
  simp only [h4, Option.bind_some]
  rw [cur_set hi16 hU h1]
  exact ih (i + 1) _ q (by omega) h2 (cur_lt hU h1) (by rw [PW_succ]; exact step_neg h h3)
theorem turn_arr_eq {s V : Nat} (hs : s ≤ 16) (hV : V < PW s) : Ev (fun k => accum_turn_arr.f k (s : Int) (ws V)) (ws ((PW s - V) % PW s), (), ()) := by
 have := turn_arr hs hV s 0 0 1 (by omega) (by decide) (PW_pos 0) (by rw [PW_zero, Nat.mod_one])
 rw [PW_zero, Nat.div_one, Nat.mul_one, Nat.zero_add] at this
 exact this
theorem magnitude_eq {n V : Nat} (hn : isW (n : Int) = true) (hV : V < PW (n / 4)) (nar : Bool) (t : Int) : Ev (fun k => accum_Acc_magnitude.f k (n : Int) nar t (ws V)) ((), ws (if HW (n / 4) ≤ V then PW (n / 4) - V else V), ()) := by
 unfold accum_Acc_magnitude.f
 obtain ⟨h1, h2⟩ := size_bounds hn
 simp only [negative_eq hn hV, size_eq hn, Option.bind_some]
 by_cases h : HW (n / 4) ≤ V
 ·simp only [decide_eq_true h, if_true, if_pos h, if_pos (show (0 : Int) ≤ ((n / 4 : Nat) : Int) by omega), if_pos (show ((n / 4 : Nat) : Int) ≤ 16 by omega)]
  have hlt : PW (n / 4) - V < PW (n / 4) := by
   have h2 := HW_two (s := n / 4) (by omega)
   have := PW_pos (n / 4)
   omega
  have := turn_arr_eq h2 hV
  rw [Nat.mod_eq_of_lt hlt] at this
  exact Ev.bind (f := fun _ (z : List Int × Unit × Unit) => some ((), z.1, ())) this (Ev.now ((), ws (PW (n / 4) - V), ()))
 ·simp only [decide_eq_false h, Bool.false_eq_true, if_false, if_neg h]
  exact Ev.now ((), ws V, ())
theorem turn_acc {n : Int} {nar : Bool} {t : Int} {s V : Nat} (hs : s ≤ 16) (hV : V < PW s) : ∀ (d i U c : Nat), i + d = s → c ≤ 1 → U < PW i → V % PW i + U + PW i * c = PW i → Ev (fun k => accum_turn_acc.l0 k n nar t (s : Int) (s : Int) (ws (U + V / PW i * PW i)) (c : Int) (s : Int) (i : Int)) ((n, nar, t, ws ((PW s - V) % PW s)), (), ()) := by
 intro d
 induction d with
 | zero =>
  intro i U c hi hc hU h
  have : i = s := by omega
  subst this
  refine evs ?_
  simp only [accum_turn_acc.l0]
  simp only [if_neg (show ¬ ((i : Int) < (i : Int)) by omega)]
  rw [Nat.mod_eq_of_lt hV] at h
  have hc' : c = 0 ∨ c = 1 := by omega
  have e : U + V / PW i * PW i = (PW i - V) % PW i := by
   rw [Nat.div_eq_of_lt hV, Nat.zero_mul, Nat.add_zero]
   rcases hc' with rfl | rfl
   ·rw [show PW i - V = U by omega, Nat.mod_eq_of_lt hU]
   ·rw [show V = 0 by omega, Nat.sub_zero, Nat.mod_self]; omega
  rw [e]
  exact Ev.now _
 | succ d ih =>
  intro i U c hi hc hU h
  refine evs ?_
  simp only [accum_turn_acc.l0]
  have hi16 : i < 16 := by omega
  have hcd : rd (ws (U + V / PW i * PW i)) (i : Int) = (dgt V i : Int) := by rw [rd_ws _ i hi16, cur_digit hU]; rfl
  have hv := dgt_lt V i
  obtain ⟨m, q, h1, h2, h3, h4⟩ := add64_nat (show 18446744073709551615 - dgt V i < 18446744073709551616 by omega) (show 0 < 18446744073709551616 by decide) hc
  simp only [if_pos (show (i : Int) < (s : Int) by omega), if_pos (show (0 : Int) ≤ (i : Int) by omega), hcd, xor_all _ hv, show ((0 : Nat) : Int) = 0 from rfl, Int.toNat_natCast, wrap_succ hi16] at h4 ⊢
  simp only [h4, Option.bind_some]
  rw [cur_set hi16 hU h1]
  exact ih (i + 1) _ q (by omega) h2 (cur_lt hU h1) (by rw [PW_succ]; exact step_neg h h3)
theorem Negate_eq {n V : Nat} (hn : isW (n : Int) = true) (hV : V < PW (n / 4)) (nar : Bool) (t : Int) : Ev (fun k => accum_Acc_Negate.f k (n : Int) nar t (ws V)) (((n : Int), nar, t, ws ((PW (n / 4) - V) % PW (n / 4))), (), ()) := by
 unfold accum_Acc_Negate.f
 obtain ⟨h1, h2⟩ := size_bounds hn
 simp only [size_eq hn, Option.bind_some, if_pos (show (0 : Int) ≤ ((n / 4 : Nat) : Int) by omega), if_pos (show ((n / 4 : Nat) : Int) ≤ 16 by omega)]
 have := turn_acc (n := n) (nar := nar) (t := t) h2 hV (n / 4) 0 0 1 (by omega) (by decide) (PW_pos 0) (by rw [PW_zero, Nat.mod_one])
 rw [PW_zero, Nat.div_one, Nat.mul_one, Nat.zero_add] at this
 exact Ev.bind (f := fun _ (z : (Int × Bool × Int × List Int) × Unit × Unit) => some ((z.1.1, z.1.2.1, z.1.2.2.1, z.1.2.2.2), (), ())) this (Ev.now _)
end Go.Proofs.Ytgjhjgacojlbmaa.V
namespace Go.Proofs.Ytgjhjgacojlbmaa.V
open Go Go.RowKit Go.Proofs.Ytgjhjgacojlbmaa.Ab Go.Proofs.Ytgjhjgacojlbmaa.Fn
set_option linter.unusedVariables false
set_option linter.unusedSimpArgs false
theorem or_words {hi lo sh : Nat} (hh : hi < 18446744073709551616) (hl : lo < 18446744073709551616) (hs : sh < 64) :
  Go.bits .or .u64 (shl .u64 (hi : Int) (sh : Int)) (shr .u64 ((lo : Int) / 2) ((63 - sh : Nat) : Int)) = ((hi * 2 ^ sh % 18446744073709551616 + lo / 2 ^ (64 - sh) : Nat) : Int) := by
 have e64 : 2 ^ sh * 2 ^ (64 - sh) = 18446744073709551616 := by rw [← Nat.pow_add, show sh + (64 - sh) = 64 by omega, p64]
 have q1 := two_pos (64 - sh)
 have hb : lo / 2 ^ (64 - sh) < 2 ^ sh := (Nat.div_lt_iff_lt_mul q1).2 (by rw [e64]; exact hl)
 rw [show (lo : Int) / 2 = ((lo / 2 : Nat) : Int) by omega, shr_nat _ _ (by omega), Nat.div_div_eq_div_mul, ← Nat.pow_succ', show (63 - sh).succ = 64 - sh by omega, shl_nat _ _ (by omega)]
 refine or_add _ _ sh (Nat.mod_lt _ (by decide)) ?_ hb (Nat.lt_of_le_of_lt (Nat.div_le_self _ _) hl)
 rw [Nat.mod_mod_of_dvd _ ⟨2 ^ (64 - sh), e64.symm⟩, Nat.mul_mod_left]
theorem up_words {t0 t1 t2 sh : Nat} (hs : sh < 64) (h0 : t0 < 2 ^ (64 - sh)) (h1 : t1 < 18446744073709551616) (h2 : t2 < 18446744073709551616) :
  ∃ a b c : Nat, a = t0 * 2 ^ sh % 18446744073709551616 + t1 / 2 ^ (64 - sh) ∧ b = t1 * 2 ^ sh % 18446744073709551616 + t2 / 2 ^ (64 - sh) ∧ c = t2 * 2 ^ sh % 18446744073709551616 ∧ t0 * 2 ^ sh ≤ a ∧ a < 18446744073709551616 ∧ b < 18446744073709551616 ∧ c < 18446744073709551616 ∧
   ((t0 * 18446744073709551616 + t1) * 18446744073709551616 + t2) * 2 ^ sh = (a * 18446744073709551616 + b) * 18446744073709551616 + c := by
 have p1 := two_pos sh
 have q1 := two_pos (64 - sh)
 have e64 : 2 ^ sh * 2 ^ (64 - sh) = 18446744073709551616 := by rw [← Nat.pow_add, show sh + (64 - sh) = 64 by omega, p64]
 have key : ∀ t : Nat, t < 18446744073709551616 → t * 2 ^ sh = t / 2 ^ (64 - sh) * 18446744073709551616 + t % 2 ^ (64 - sh) * 2 ^ sh ∧ t % 2 ^ (64 - sh) * 2 ^ sh + 2 ^ sh ≤ 18446744073709551616 ∧ t / 2 ^ (64 - sh) < 2 ^ sh := fun t ht => by
  have hm := Nat.mod_lt t q1
  refine ⟨?_, ?_, (Nat.div_lt_iff_lt_mul q1).2 (by rw [e64]; exact ht)⟩
  ·have hd := Nat.div_add_mod t (2 ^ (64 - sh))
   have : t * 2 ^ sh = (2 ^ (64 - sh) * (t / 2 ^ (64 - sh)) + t % 2 ^ (64 - sh)) * 2 ^ sh := by rw [hd]
   rw [this, Nat.add_mul, Nat.mul_right_comm, Nat.mul_comm (2 ^ (64 - sh)) (2 ^ sh), e64, Nat.mul_comm]
  ·have : (t % 2 ^ (64 - sh) + 1) * 2 ^ sh ≤ 2 ^ (64 - sh) * 2 ^ sh := Nat.mul_le_mul_right _ hm
   rw [Nat.mul_comm (2 ^ (64 - sh)), e64, Nat.add_mul, Nat.one_mul] at this
   exact this
 obtain ⟨k1, k2, k3⟩ := key t1 h1
 obtain ⟨k4, k5, k6⟩ := key t2 h2
 have z0 : (t0 + 1) * 2 ^ sh ≤ 2 ^ (64 - sh) * 2 ^ sh := Nat.mul_le_mul_right _ h0
 rw [Nat.mul_comm (2 ^ (64 - sh)), e64, Nat.add_mul, Nat.one_mul] at z0
 generalize t1 / 2 ^ (64 - sh) = a1 at *
 generalize t1 % 2 ^ (64 - sh) * 2 ^ sh = b1 at *
 generalize t2 / 2 ^ (64 - sh) = a2 at *
 generalize t2 % 2 ^ (64 - sh) * 2 ^ sh = b2 at *
 have m0 : t0 * 2 ^ sh % 18446744073709551616 = t0 * 2 ^ sh := Nat.mod_eq_of_lt (by omega)
 have m1 : t1 * 2 ^ sh % 18446744073709551616 = b1 := by rw [k1]; omega
 have m2 : t2 * 2 ^ sh % 18446744073709551616 = b2 := by rw [k4]; omega
 refine ⟨t0 * 2 ^ sh + a1, b1 + a2, b2, by rw [m0], by rw [m1], m2.symm, Nat.le_add_right _ _, by omega, by omega, by omega, ?_⟩
 rw [Nat.add_mul, Nat.mul_right_comm, Nat.add_mul, Nat.mul_right_comm, k1, k4]
 generalize t0 * 2 ^ sh = x0
 omega
theorem Round_end {n V i sh H : Nat} {rest : Bool} {nar : Bool} {t : Int} {l : List Int} {j : Nat} (hn : isW (n : Int) = true) (hV : V < PW (n / 4)) (hi : i < 16) (hs : sh < 64) (hH : H < 2 ^ 128) (hR : rest = true → 2 ^ 127 ≤ H) (hj : i - 2 ≤ j) :
  Ev (fun k => accum_Acc_Round.l1 k (n : Int) nar t (ws V) (i : Int) (sh : Int) (TH H) (TL H) rest (j : Int) l) ((), (), (((natX (decide (HW (n / 4) ≤ V)) H (64 * ((i : Int) - 1) - sh + 16 - 8 * n) rest).rnd n : Nat) : Int)) := by
 refine evs ?_
 simp only [accum_Acc_Round.l1]
 have hnb := isW_cases hn
 have w1 : wrap64 ((i : Int) - 2) = (i : Int) - 2 := w64 (by omega) (by omega)
 have w2 : wrap64 ((wrap64 ((wrap64 ((wrap64 (64 * (wrap64 ((i : Int) - 1)))) - (sh : Int))) + 16)) - (wrap64 (8 * (n : Int)))) = 64 * ((i : Int) - 1) - sh + 16 - 8 * n := by
  rw [w64 (n := (i : Int) - 1) (by omega) (by omega), w64 (n := 64 * ((i : Int) - 1)) (by omega) (by omega), w64 (n := 64 * ((i : Int) - 1) - (sh : Int)) (by omega) (by omega), w64 (n := 64 * ((i : Int) - 1) - (sh : Int) + 16) (by omega) (by omega), w64 (n := 8 * (n : Int)) (by omega) (by omega), w64 (by omega) (by omega)]
 simp only [w1, w2, if_neg (show ¬ ((j : Int) < (i : Int) - 2) by omega), negative_eq hn hV, Option.bind_some]
 have hm := round_Make_eq (decide (HW (n / 4) ≤ V)) H (64 * ((i : Int) - 1) - sh + 16 - 8 * n) rest hH
 rw [if_neg (by rintro ⟨h1, h2⟩; have := hR h1; omega), makeV_exactE hH (by omega) (by omega), exactE_natX] at hm
 refine Ev.bind hm ?_
 simp only [Option.isNone_none, if_true]
 refine Ev.bind (Round_X hn (natX_ok _ _ _ _)) ?_
 simp only [Option.isNone_none, if_true]
 exact Ev.now _
theorem Round_l1 {n V i sh H M : Nat} {rest : Bool} {nar : Bool} {t : Int} (hn : isW (n : Int) = true) (hV : V < PW (n / 4)) (hi : i < 16) (hs : sh < 64) (hH : H < 2 ^ 128) (hR : 2 ≤ i ∨ rest = true → 2 ^ 127 ≤ H) :
  ∀ (d j : Nat) (r : Bool), j + d = i - 2 → r = (rest || decide (M % PW j ≠ 0)) → Ev (fun k => accum_Acc_Round.l1 k (n : Int) nar t (ws V) (i : Int) (sh : Int) (TH H) (TL H) r (j : Int) (ws M)) ((), (), (((natX (decide (HW (n / 4) ≤ V)) H (64 * ((i : Int) - 1) - sh + 16 - 8 * n) (rest || decide (M % PW (i - 2) ≠ 0))).rnd n : Nat) : Int)) := by
 intro d
 induction d with
 | zero =>
  intro j r hj hr
  have : j = i - 2 := by omega
  subst this
  rw [← hr]
  refine Round_end hn hV hi hs hH (fun h => ?_) (Nat.le_refl _)
  by_cases h2 : 2 ≤ i
  ·exact hR (.inl h2)
  ·refine hR (.inr ?_)
   rw [hr, show i - 2 = 0 by omega, PW_zero, Nat.mod_one] at h
   simpa using h
 | succ d ih =>
  intro j r hj hr
  have h16 : j < 16 := by omega
  have next : ∀ r', r' = (rest || decide (M % PW (j + 1) ≠ 0)) → Ev (fun k => accum_Acc_Round.l1 k (n : Int) nar t (ws V) (i : Int) (sh : Int) (TH H) (TL H) r' (wrap64 ((j : Int) + 1)) (ws M)) _ := fun r' h' => by
   rw [wrap_succ h16]; exact ih (j + 1) r' (by omega) h'
  have hdig : decide (M % PW (j + 1) ≠ 0) = (decide (M % PW j ≠ 0) || decide (dgt M j ≠ 0)) := by
   rw [PW_succ, Nat.mod_mul]
   exact or_ne (PW_pos j)
  refine evs ?_
  simp only [accum_Acc_Round.l1]
  have w1 : wrap64 ((i : Int) - 2) = (i : Int) - 2 := w64 (by omega) (by omega)
  simp only [w1, if_pos (show (j : Int) < (i : Int) - 2 by omega), if_pos (show (0 : Int) ≤ (j : Int) by omega), if_pos (show (j : Int) < 16 by omega), rd_dgt h16]
  cases hrb : r
  ·simp only [Bool.false_eq_true, if_false]
   refine next _ ?_
   rw [hdig, ← Bool.or_assoc, ← hr, hrb, Bool.false_or]
   by_cases h0 : dgt M j = 0
   ·rw [h0]; rfl
   ·rw [decide_eq_true h0]
    simpa using h0
  ·simp only [if_true]
   refine next _ ?_
   rw [hdig, ← Bool.or_assoc, ← hr, hrb, Bool.true_or]
theorem Round_j2 {n V i M t0 t1 t2 : Nat} {nar : Bool} {t : Int} {X : EX} (hn : isW (n : Int) = true) (hV : V < PW (n / 4)) (hi : i < 16) (h0 : t0 < 18446744073709551616) (h1 : t1 < 18446744073709551616) (h2 : t2 < 18446744073709551616) (ht : 1 ≤ i → t0 ≠ 0) (h00 : t0 = 0 → t2 = 0)
  (hX : ∀ sh H c : Nat, sh < 64 → (t0 ≠ 0 → 2 ^ 63 ≤ t0 * 2 ^ sh) → ((t0 * 18446744073709551616 + t1) * 18446744073709551616 + t2) * 2 ^ sh = H * 18446744073709551616 + c → c < 18446744073709551616 → natX (decide (HW (n / 4) ≤ V)) H (64 * ((i : Int) - 1) - sh + 16 - 8 * n) (decide (c ≠ 0) || decide (M % PW (i - 2) ≠ 0)) = X) :
  Ev (fun k => accum_Acc_Round.j2 k (n : Int) nar t (ws V) (i : Int) (ws M) (t0 : Int) (t1 : Int) (t2 : Int)) ((), (), ((X.rnd n : Nat) : Int)) := by
 have hb := bl_le_of_lt (show t0 < 2 ^ 64 by rw [p64]; exact h0)
 obtain ⟨sh, hsh, hs, ht0, hbig⟩ : ∃ sh : Nat, Int.tmod ((64 - bl t0 : Nat) : Int) 64 = (sh : Int) ∧ sh < 64 ∧ t0 < 2 ^ (64 - sh) ∧ (t0 ≠ 0 → 2 ^ 63 ≤ t0 * 2 ^ sh) := by
  by_cases hz : t0 = 0
  ·subst hz
   exact ⟨0, by rw [bl_zero]; decide, by decide, two_pos _, fun h => absurd rfl h⟩
  ·have hp := bl_pos (show 0 < t0 by omega)
   refine ⟨64 - bl t0, ?_, by omega, ?_, fun _ => ?_⟩
   ·rw [Int.tmod_eq_emod_of_nonneg (by omega)]; omega
   ·rw [show 64 - (64 - bl t0) = bl t0 by omega]; exact bl_lt t0
   ·have := Nat.mul_le_mul_right (2 ^ (64 - bl t0)) (bl_le (show 0 < t0 by omega))
    rwa [← Nat.pow_add, show bl t0 - 1 + (64 - bl t0) = 63 by omega] at this
 refine evs ?_
 simp only [accum_Acc_Round.j2, Lead0_eq h0, Option.bind_some, hsh]
 have w3 : wrap64 (63 - (sh : Int)) = ((63 - sh : Nat) : Int) := by rw [w64 (by omega) (by omega)]; omega
 simp only [w3, if_pos (show (0 : Int) ≤ (sh : Int) by omega), if_pos (show (0 : Int) ≤ ((63 - sh : Nat) : Int) by omega), or_words h0 h1 hs, or_words h1 h2 hs, shl_nat t2 sh (by omega)]
 obtain ⟨a, b, c, ha, hb', hc, hle, ha1, hb1, hc1, hT⟩ := up_words hs ht0 h1 h2
 rw [← ha, ← hb', ← hc]
 have hX' := hX sh _ _ hs hbig hT hc1
 have hge : t0 ≠ 0 → 2 ^ 127 ≤ a * 18446744073709551616 + b := fun h => by
  have := hbig h
  rw [p63] at this
  rw [p127]; omega
 have hlt : a * 18446744073709551616 + b < 2 ^ 128 := by rw [p128]; omega
 have := Round_l1 (nar := nar) (t := t) (rest := decide (c ≠ 0)) (M := M) hn hV hi hs hlt (fun h => hge ?_) (i - 2) 0 (decide (c ≠ 0)) (by omega) (by rw [PW_zero, Nat.mod_one]; simp)
 ·rw [hX', TH_of hb1, TL_of hb1] at this
  have hbe : ((c : Int) != 0) = decide (c ≠ 0) := by
   by_cases h : c = 0
   ·subst h; rfl
   ·rw [decide_eq_true h]; simpa using h
  rw [hbe]
  exact this
 ·rcases h with h | h
  ·exact ht (by omega)
  ·intro hz
   have hz2 := h00 hz
   rw [hz2, Nat.zero_mul, Nat.zero_mod] at hc
   rw [hc] at h
   cases h
theorem top_dgt {M j : Nat} (h : M < PW (j + 1)) : dgt M j = M / PW j := by
 unfold dgt
 rw [Nat.mod_eq_of_lt]
 rw [PW_succ] at h
 exact (Nat.div_lt_iff_lt_mul (PW_pos j)).2 (by rw [Nat.mul_comm]; exact h)
theorem div_next (M j : Nat) : M / PW (j + 1) = M / PW j / 18446744073709551616 := by rw [PW_succ, Nat.div_div_eq_div_mul]
theorem top_three {M j : Nat} (h : M < PW (j + 3)) : (dgt M (j + 2) * 18446744073709551616 + dgt M (j + 1)) * 18446744073709551616 + dgt M j = M / PW j := by
 rw [top_dgt h]
 unfold dgt
 rw [div_next M (j + 1), div_next M j]
 generalize M / PW j = q
 omega
theorem top_two {M : Nat} (h : M < PW 2) : dgt M 1 * 18446744073709551616 + dgt M 0 = M := by
 rw [top_dgt h]
 unfold dgt
 rw [div_next M 0, PW_zero, Nat.div_one]
 omega
theorem top_one {M : Nat} (h : M < PW 1) : dgt M 0 = M := by rw [top_dgt h, PW_zero, Nat.div_one]
theorem row_one {B M S H c : Nat} (h : M * B * S = H * B + c) (hc : c < B) : H = M * S ∧ c = 0 := by
 rw [Nat.mul_right_comm] at h
 have h1 : (H * B + c) / B = M * S := by rw [← h, Nat.mul_div_cancel _ (by omega)]
 have h2 : (H * B + c) % B = 0 := by rw [← h, Nat.mul_mod_left]
 rw [Nat.mul_comm H, Nat.mul_add_div (by omega), Nat.div_eq_of_lt hc, Nat.add_zero] at h1
 rw [Nat.mul_comm H, Nat.mul_add_mod, Nat.mod_eq_of_lt hc] at h2
 exact ⟨h1, h2⟩
theorem row_div {B T H c : Nat} (h : T = H * B + c) (hc : c < B) : T / B = H ∧ T % B = c := by
 rw [h, Nat.mul_comm H, Nat.mul_add_div (by omega), Nat.div_eq_of_lt hc, Nat.add_zero, Nat.mul_add_mod, Nat.mod_eq_of_lt hc]
 exact ⟨rfl, rfl⟩
theorem Round_x2 {n M j sh H c : Nat} {g : Bool} {t0 t1 t2 : Nat} (hT : (t0 * 18446744073709551616 + t1) * 18446744073709551616 + t2 = M / PW j) (hs : sh < 64) (hbig : 2 ^ 63 ≤ t0 * 2 ^ sh) (e' : Int) (he : e' = 64 * (((j + 2 : Nat) : Int) - 1) - sh + 16 - 8 * n) (hH : M / PW j * 2 ^ sh = H * 18446744073709551616 + c) (hc : c < 18446744073709551616) :
  natX g H e' (decide (c ≠ 0) || decide (M % PW j ≠ 0)) = natX g M (16 - 8 * n) false := by
 obtain ⟨hq, hr⟩ := row_div hH hc
 rw [← hq, ← hr]
 have e1 : M / PW j * 2 ^ sh / 18446744073709551616 = M / 2 ^ (64 * j + (64 - sh)) := by
  rw [← p64, mul_pow_div _ (by omega), PW_two, div_div_pow]
 have e2 : decide (M / PW j * 2 ^ sh % 18446744073709551616 ≠ 0) = decide (M / PW j % 2 ^ (64 - sh) ≠ 0) := by
  rw [← p64, show (2 : Nat) ^ 64 = 2 ^ (64 - sh) * 2 ^ sh by rw [← Nat.pow_add]; congr 1; omega, Nat.mul_mod_mul_right]
  have := two_pos sh
  rw [Bool.eq_iff_iff]
  simp only [decide_eq_true_eq]
  exact ⟨fun h h' => h (by rw [h', Nat.zero_mul]), fun h h' => (Nat.mul_eq_zero.1 h').elim h (by omega)⟩
 have e3 : decide (M % 2 ^ (64 * j + (64 - sh)) ≠ 0) = (decide (M / PW j % 2 ^ (64 - sh) ≠ 0) || decide (M % PW j ≠ 0)) := by
  rw [Nat.pow_add, ← PW_two, Nat.mod_mul, or_ne (PW_pos j), Bool.or_comm]
 have hge : 2 ^ 127 ≤ M / 2 ^ (64 * j + (64 - sh)) := by
  rw [← e1, ← hT]
  refine (Nat.le_div_iff_mul_le (by decide)).2 ?_
  refine Nat.le_trans (m := t0 * 2 ^ sh * 18446744073709551616 * 18446744073709551616) ?_ ?_
  ·refine Nat.mul_le_mul_right _ ?_
   refine Nat.le_trans (m := 2 ^ 63 * 18446744073709551616) (by rw [p127]; decide) (Nat.mul_le_mul_right _ hbig)
  ·rw [Nat.add_mul, Nat.add_mul, Nat.add_mul, Nat.mul_right_comm t0 (2 ^ sh), Nat.mul_right_comm (t0 * _) (2 ^ sh), Nat.add_assoc]
   exact Nat.le_add_right _ _
 have := natX_trunc g (16 - 8 * (n : Int)) false rfl hge
 rw [this, e1, e2, e3, Bool.false_or]
 congr 1
 rw [he]
 omega
theorem Round_j1 {n V i M : Nat} {nar : Bool} {t : Int} (hn : isW (n : Int) = true) (hV : V < PW (n / 4)) (hi : i < 16) (hM : M < PW (i + 1)) (h0 : 1 ≤ i → dgt M i ≠ 0) :
  Ev (fun k => accum_Acc_Round.j1 k (n : Int) nar t (ws V) (i : Int) (ws M)) ((), (), (((natX (decide (HW (n / 4) ≤ V)) M (16 - 8 * n) false).rnd n : Nat) : Int)) := by
 refine evs ?_
 simp only [accum_Acc_Round.j1]
 have w0 : wrap64 ((i : Int) - 0) = (i : Int) := by rw [w64 (by omega) (by omega)]; omega
 simp only [w0, if_pos (show (i : Int) ≥ 0 by omega), if_pos (show (0 : Int) ≤ (i : Int) by omega), if_pos (show (i : Int) < 16 by omega), rd_dgt hi]
 by_cases h1 : 1 ≤ i
 ·have hi1 : i - 1 < 16 := by omega
  have w1 : wrap64 ((i : Int) - 1) = ((i - 1 : Nat) : Int) := by rw [w64 (by omega) (by omega)]; omega
  simp only [w1, if_pos (show (i : Int) ≥ 1 by omega), if_pos (show (0 : Int) ≤ ((i - 1 : Nat) : Int) by omega), if_pos (show ((i - 1 : Nat) : Int) < 16 by omega), rd_dgt hi1]
  by_cases h2 : 2 ≤ i
  ·have hi2 : i - 2 < 16 := by omega
   have w2 : wrap64 ((i : Int) - 2) = ((i - 2 : Nat) : Int) := by rw [w64 (by omega) (by omega)]; omega
   simp only [w2, if_pos (show (i : Int) ≥ 2 by omega), if_pos (show (0 : Int) ≤ ((i - 2 : Nat) : Int) by omega), if_pos (show ((i - 2 : Nat) : Int) < 16 by omega), rd_dgt hi2]
   obtain ⟨j, rfl⟩ : ∃ j, i = j + 2 := ⟨i - 2, by omega⟩
   refine Round_j2 hn hV hi (dgt_lt _ _) (dgt_lt _ _) (dgt_lt _ _) h0 (fun h => absurd h (h0 (by omega))) (fun sh H c hs hbig hH hc => ?_)
   have hT := top_three hM
   rw [show j + 2 - 1 = j + 1 by omega, show j + 2 - 2 = j by omega] at *
   rw [hT] at hH
   exact Round_x2 hT hs (hbig (h0 (by omega))) _ rfl hH hc
  ·have : i = 1 := by omega
   subst this
   simp only [if_neg (show ¬ (((1 : Nat) : Int) ≥ 2) by omega)]
   refine Round_j2 (t2 := 0) hn hV hi (dgt_lt _ _) (dgt_lt _ _) (by decide) h0 (fun _ => rfl) (fun sh H c hs hbig hH hc => ?_)
   have hT := top_two hM
   rw [Nat.sub_self, hT, Nat.add_zero] at hH
   obtain ⟨rfl, rfl⟩ := row_one hH hc
   rw [natX_shift, show 1 - 2 = 0 by omega, PW_zero, Nat.mod_one]
   simp only [ne_eq, not_true_eq_false, decide_false, Bool.or_self]
   congr 1
   omega
 ·have : i = 0 := by omega
  subst this
  simp only [if_neg (show ¬ (((0 : Nat) : Int) ≥ 1) by omega), if_neg (show ¬ (((0 : Nat) : Int) ≥ 2) by omega)]
  refine Round_j2 (t1 := 0) (t2 := 0) hn hV hi (dgt_lt _ _) (by decide) (by decide) h0 (fun _ => rfl) (fun sh H c hs hbig hH hc => ?_)
  have hT := top_one hM
  rw [hT, Nat.add_zero, Nat.add_zero] at hH
  obtain ⟨rfl, rfl⟩ := row_one hH hc
  rw [Nat.mul_assoc, show (18446744073709551616 : Nat) * 2 ^ sh = 2 ^ (64 + sh) by rw [Nat.pow_add, p64], natX_shift, show 0 - 2 = 0 by omega, PW_zero, Nat.mod_one]
  simp only [ne_eq, not_true_eq_false, decide_false, Bool.or_self]
  congr 1
  omega
theorem Round_l0 {n V M : Nat} {nar : Bool} {t : Int} (hn : isW (n : Int) = true) (hV : V < PW (n / 4)) : ∀ (i : Nat), i < 16 → M < PW (i + 1) →
  Ev (fun k => accum_Acc_Round.l0 k (n : Int) nar t (ws V) (i : Int) (ws M)) ((), (), (((natX (decide (HW (n / 4) ≤ V)) M (16 - 8 * n) false).rnd n : Nat) : Int)) := by
 intro i
 induction i with
 | zero =>
  intro hi hM
  refine evs ?_
  simp only [accum_Acc_Round.l0]
  simp only [if_neg (show ¬ (((0 : Nat) : Int) > 0) by omega)]
  exact Round_j1 hn hV hi hM (fun h => absurd h (by decide))
 | succ i ih =>
  intro hi hM
  refine evs ?_
  simp only [accum_Acc_Round.l0]
  have w1 : wrap64 (((i + 1 : Nat) : Int) - 1) = (i : Int) := by rw [w64 (by omega) (by omega)]; omega
  simp only [w1, if_pos (show ((i + 1 : Nat) : Int) > 0 by omega), if_pos (show (0 : Int) ≤ ((i + 1 : Nat) : Int) by omega), if_pos (show ((i + 1 : Nat) : Int) < 16 by omega), rd_dgt hi]
  by_cases h : dgt M (i + 1) = 0
  ·simp only [h, Int.natCast_zero, if_true]
   refine ih (by omega) ?_
   rw [top_dgt hM] at h
   rcases (Nat.div_eq_zero_iff).1 h with h | h
   ·have := PW_pos (i + 1); omega
   ·exact h
  ·simp only [if_neg (show ¬ (((dgt M (i + 1) : Nat) : Int) = 0) by omega)]
   exact Round_j1 hn hV hi hM (fun _ => h)
theorem Round_eq {n V : Nat} {t : Int} (hn : isW (n : Int) = true) (hV : V < PW (n / 4)) :
  Ev (fun k => accum_Acc_Round.f k (n : Int) false t (ws V)) ((), (), (((natX (decide (HW (n / 4) ≤ V)) (if HW (n / 4) ≤ V then PW (n / 4) - V else V) (16 - 8 * n) false).rnd n : Nat) : Int)) := by
 unfold accum_Acc_Round.f
 obtain ⟨h1, h2⟩ := size_bounds hn
 have w1 : wrap64 (((n / 4 : Nat) : Int) - 1) = ((n / 4 - 1 : Nat) : Int) := by rw [w64 (by omega) (by omega)]; omega
 simp only [Bool.false_eq_true, if_false, size_eq hn, Option.bind_some, w1]
 refine Ev.bind (magnitude_eq hn hV false t) ?_
 refine Round_l0 hn hV (n / 4 - 1) (by omega) ?_
 rw [show n / 4 - 1 + 1 = n / 4 by omega]
 have := PW_pos (n / 4)
 have := HW_two (s := n / 4) (by omega)
 split <;> omega
theorem Round_nar {n : Nat} {t : Int} {l : List Int} (hn : isW (n : Int) = true) : Ev (fun k => accum_Acc_Round.f k (n : Int) true t l) ((), (), ((2 ^ (n - 1) : Nat) : Int)) := by
 unfold accum_Acc_Round.f
 have hnb := isW_cases hn
 have w1 : wrap64 ((n : Int) - 1) = ((n - 1 : Nat) : Int) := by rw [w64 (by omega) (by omega)]; omega
 have hs : shl .u64 1 ((n - 1 : Nat) : Int) = ((2 ^ (n - 1) : Nat) : Int) := by
  have := shl_nat 1 (n - 1) (by omega)
  rw [Nat.one_mul, Nat.mod_eq_of_lt (by rw [← p64]; exact pow_lt (by omega))] at this
  exact this
 simp only [if_true, w1, if_pos (show (0 : Int) ≤ ((n - 1 : Nat) : Int) by omega), hs]
 exact Ev.now _
end Go.Proofs.Ytgjhjgacojlbmaa.V
namespace Go.Proofs.Ytgjhjgacojlbmaa.V
open Go Go.RowKit Go.Proofs.Ytgjhjgacojlbmaa.Ab Go.Proofs.Ytgjhjgacojlbmaa.Fn
set_option linter.unusedVariables false
set_option linter.unusedSimpArgs false
noncomputable def enc (s : Nat) (z : Int) : Nat := (z % (PW s : Int)).toNat
theorem PW_posI (s : Nat) : (0 : Int) < (PW s : Int) := by have := PW_pos s; omega
theorem enc_int (s : Nat) (z : Int) : (enc s z : Int) = z % (PW s : Int) := Int.toNat_of_nonneg (Int.emod_nonneg _ (Int.ne_of_gt (PW_posI s)))
theorem enc_lt (s : Nat) (z : Int) : enc s z < PW s := by
 have h := Int.emod_lt_of_pos z (PW_posI s)
 rw [← enc_int] at h
 exact Int.ofNat_lt.1 h
theorem enc_zero (s : Nat) : enc s 0 = 0 := by unfold enc; rw [Int.zero_emod]; rfl
theorem enc_eq {s : Nat} {z : Int} {V : Nat} (hV : V < PW s) (h : ∃ q : Int, z = V + PW s * q) : enc s z = V := by
 obtain ⟨q, rfl⟩ := h
 have : (enc s ((V : Int) + PW s * q) : Int) = V := by
  rw [enc_int, Int.add_mul_emod_self_left]
  exact Int.emod_eq_of_lt (Int.natCast_nonneg _) (Int.ofNat_lt.2 hV)
 exact Int.ofNat.inj this
theorem enc_mod (s : Nat) (z : Int) : ∃ q : Int, z = (enc s z : Int) + PW s * q := ⟨z / (PW s : Int), by rw [enc_int]; exact (Int.emod_add_mul_ediv z _).symm⟩
theorem fin_enc (b : Bool) (s : Nat) (z : Int) (X : Nat) : finW b s (enc s z) X = enc s (if b then z - X else z + X) := by
 have hp := PW_pos s
 obtain ⟨q, hq⟩ := enc_mod s z
 cases b
 ·rw [if_neg (by decide)]
  unfold finW
  rw [if_neg (by decide)]
  refine (enc_eq (Nat.mod_lt _ hp) ?_).symm
  have hd := Nat.div_add_mod (enc s z + X) (PW s)
  refine ⟨q + ((enc s z + X) / PW s : Nat), ?_⟩
  have hd' : ((enc s z : Nat) : Int) + (X : Int) = (PW s : Int) * ((enc s z + X) / PW s : Nat) + ((enc s z + X) % PW s : Nat) := by exact_mod_cast hd.symm
  rw [Int.mul_add]
  generalize (PW s : Int) * q = A at *
  generalize (PW s : Int) * ((enc s z + X) / PW s : Nat) = B at *
  generalize ((enc s z + X) % PW s : Nat) = C at *
  omega
 ·rw [if_pos rfl]
  unfold finW
  rw [if_pos rfl]
  refine (enc_eq (Nat.mod_lt _ hp) ?_).symm
  have hX := Nat.mod_lt X hp
  have hd := Nat.div_add_mod (enc s z + PW s - X % PW s) (PW s)
  have hx := Nat.div_add_mod X (PW s)
  refine ⟨q + ((enc s z + PW s - X % PW s) / PW s : Nat) - 1 - (X / PW s : Nat), ?_⟩
  have hd' : (PW s : Int) * ((enc s z + PW s - X % PW s) / PW s : Nat) + ((enc s z + PW s - X % PW s) % PW s : Nat) = ((enc s z + PW s - X % PW s : Nat) : Int) := by exact_mod_cast hd
  have hx' : (PW s : Int) * (X / PW s : Nat) + (X % PW s : Nat) = (X : Int) := by exact_mod_cast hx
  have hs : ((enc s z + PW s - X % PW s : Nat) : Int) = (enc s z : Int) + PW s - (X % PW s : Nat) := by
   generalize X % PW s = R at *
   omega
  rw [hs] at hd'
  simp only [Int.mul_add, Int.mul_sub, Int.mul_one]
  generalize (PW s : Int) * q = A at *
  generalize (PW s : Int) * ((enc s z + PW s - X % PW s) / PW s : Nat) = B at *
  generalize ((enc s z + PW s - X % PW s) % PW s : Nat) = C at *
  generalize (PW s : Int) * (X / PW s : Nat) = D at *
  generalize X % PW s = R at *
  omega
theorem enc_sign {s : Nat} {z : Int} (hs : 0 < s) (h0 : -(HW s : Int) ≤ z) (h1 : z < (HW s : Int)) : decide (HW s ≤ enc s z) = decide (z < 0) ∧ (if HW s ≤ enc s z then PW s - enc s z else enc s z) = z.natAbs := by
 have h2 := HW_two hs
 by_cases hz : z < 0
 ·have he : enc s z = PW s - z.natAbs := enc_eq (by omega) ⟨-1, by omega⟩
  rw [he, decide_eq_true hz, if_pos (by omega)]
  exact ⟨decide_eq_true (by omega), by omega⟩
 ·have he : enc s z = z.natAbs := enc_eq (by omega) ⟨0, by omega⟩
  rw [he, decide_eq_false hz, if_neg (by omega)]
  exact ⟨decide_eq_false (by omega), rfl⟩
theorem Round_z {n : Nat} {t : Int} {z : Int} (hn : isW (n : Int) = true) (h0 : -(HW (n / 4) : Int) ≤ z) (h1 : z < (HW (n / 4) : Int)) :
  Ev (fun k => accum_Acc_Round.f k (n : Int) false t (ws (enc (n / 4) z))) ((), (), (((intX z (16 - 8 * n)).rnd n : Nat) : Int)) := by
 have h := Round_eq (t := t) hn (enc_lt (n / 4) z)
 obtain ⟨h2, h3⟩ := enc_sign (s := n / 4) (by have := size_bounds hn; omega) h0 h1
 rw [h2, h3] at h
 exact h
theorem Negate_z {n : Nat} {t : Int} {z : Int} (hn : isW (n : Int) = true) (nar : Bool) :
  Ev (fun k => accum_Acc_Negate.f k (n : Int) nar t (ws (enc (n / 4) z))) (((n : Int), nar, t, ws (enc (n / 4) (-z))), (), ()) := by
 have h := Negate_eq hn (enc_lt (n / 4) z) nar t
 have hp := PW_pos (n / 4)
 obtain ⟨q, hq⟩ := enc_mod (n / 4) z
 have hl := enc_lt (n / 4) z
 have e : enc (n / 4) (-z) = (PW (n / 4) - enc (n / 4) z) % PW (n / 4) := by
  refine enc_eq (Nat.mod_lt _ hp) ?_
  by_cases h0 : enc (n / 4) z = 0
  ·rw [h0] at hq ⊢
   rw [Nat.sub_zero, Nat.mod_self]
   refine ⟨-q, ?_⟩
   rw [hq, Int.mul_neg]
   omega
  ·rw [Nat.mod_eq_of_lt (by omega)]
   refine ⟨-q - 1, ?_⟩
   rw [Int.mul_sub, Int.mul_neg, Int.mul_one]
   generalize (PW (n / 4) : Int) * q = A at *
   omega
 rw [e]
 exact h
theorem ws_inj_zero {V : Nat} (h : V < PW 16) (hw : ws V = ws 0) : V = 0 := by
 have hd : ∀ i, i < 16 → dgt V i = 0 := fun i hi => by
  have h1 := rd_dgt (V := V) hi
  rw [hw, rd_dgt hi] at h1
  have h2 : dgt 0 i = 0 := dgt_zero (PW_pos i)
  rw [h2] at h1
  exact (Int.ofNat.inj h1).symm
 have : ∀ i, i ≤ 16 → V % PW i = 0 := by
  intro i
  induction i with
  | zero => intro _; rw [PW_zero, Nat.mod_one]
  | succ i ih =>
   intro hi
   have h3 := hd i (by omega)
   unfold dgt at h3
   rw [PW_succ, Nat.mod_mul, ih (by omega), h3]
   rfl
 have h16 := this 16 (Nat.le_refl _)
 rwa [Nat.mod_eq_of_lt h] at h16
theorem Sign_z {n : Nat} {t : Int} {z : Int} {nar : Bool} (hn : isW (n : Int) = true) (h0 : -(HW (n / 4) : Int) ≤ z) (h1 : z < (HW (n / 4) : Int)) :
  accum_Acc_Sign.f (n : Int) nar t (ws (enc (n / 4) z)) = some ((), (), if z < 0 then -1 else if z = 0 then 0 else 1) := by
 unfold accum_Acc_Sign.f
 obtain ⟨hs1, hs2⟩ := size_bounds hn
 obtain ⟨h2, h3⟩ := enc_sign (s := n / 4) (by omega) h0 h1
 rw [negative_eq hn (enc_lt _ _), h2]
 simp only [Option.bind_some]
 by_cases hz : z < 0
 ·rw [decide_eq_true hz, if_pos rfl, if_pos hz]
 ·rw [decide_eq_false hz, if_neg (by decide), if_neg hz]
  rw [← ws_zero]
  have hH : ¬ (HW (n / 4) ≤ enc (n / 4) z) := fun h => by
   have := decide_eq_true h
   rw [h2, decide_eq_false hz] at this
   cases this
  rw [if_neg hH] at h3
  by_cases h4 : z = 0
  ·subst h4
   rw [if_pos rfl, enc_zero, if_pos (by simp)]
  ·rw [if_neg h4, if_neg]
   intro hb
   have := ws_inj_zero (Nat.lt_of_lt_of_le (enc_lt (n / 4) z) (PW_le hs2)) (by simpa using hb)
   omega
def prM (n : Nat) (a b : NM) : Nat := if 0 ≤ a.sc + b.sc - 126 + 8 * n - 16 then a.fr * b.fr * 2 ^ (a.sc + b.sc - 126 + 8 * n - 16).toNat else a.fr * b.fr / 2 ^ (-(a.sc + b.sc - 126 + 8 * n - 16)).toNat
def prI (n : Nat) (a b : NM) : Int := if a.kd = 1 ∧ b.kd = 1 then (if a.ng != b.ng then -(prM n a b : Int) else (prM n a b : Int)) else 0
def depS (n : Nat) (nar : Bool) (z : Int) (p q : NM) (take : Bool) : Bool × Int := if nar = true ∨ p.kd = 2 ∨ q.kd = 2 then (true, 0) else (false, if take then z - prI n p q else z + prI n p q)
theorem half_words (m : Nat) : TH m / 2 = TH (m / 2) ∧ Go.bits .or .u64 (TL m / 2) (IntKind.u64.wrap (TH m * 9223372036854775808)) = TL (m / 2) := by
 have h1 : TH m / 2 = TH (m / 2) := by unfold TH; omega
 refine ⟨h1, ?_⟩
 have h2 : IntKind.u64.wrap (TH m * 9223372036854775808) = ((m / 18446744073709551616 % 2 * 9223372036854775808 : Nat) : Int) := by
  unfold TH; rw [u64_wrap]; omega
 have h3 : TL m / 2 = ((m % 18446744073709551616 / 2 : Nat) : Int) := by unfold TL; omega
 rw [h2, h3, or_nat _ _ (by omega) (by omega), Nat.or_comm, ← or_nat _ _ (by omega) (by omega), or_add _ _ 63 (by omega) (by rw [p63]; omega) (by rw [p63]; omega) (by omega)]
 unfold TL
 omega
theorem dep_l0 {n : Nat} {t : Int} {take ng ng' : Bool} {z : Int} (hn : isW (n : Int) = true) : ∀ (d m : Nat) (u : Int), m < 2 ^ 128 → u < 4294967296 → -4294967296 < u → (-u).toNat = d →
  Ev (fun k => accum_Acc_deposit.l0 k (n : Int) false t (ws (enc (n / 4) z)) take (TH m) (TL m) u ng ng') (((n : Int), false, t, ws (enc (n / 4) (if ((ng != ng') != take) then z - ((if 0 ≤ u then m * 2 ^ u.toNat else m / 2 ^ d : Nat) : Int) else z + ((if 0 ≤ u then m * 2 ^ u.toNat else m / 2 ^ d : Nat) : Int)))), (), none) := by
 intro d
 induction d with
 | zero =>
  intro m u hm hu hu2 hd
  refine evs ?_
  simp only [accum_Acc_deposit.l0]
  simp only [if_neg (show ¬ (u < 0) by omega), if_pos (show 0 ≤ u by omega)]
  obtain ⟨up, rfl⟩ : ∃ up : Nat, u = up := ⟨u.toNat, by omega⟩
  have hb : (!((!(ng == ng')) == take)) = ((ng != ng') != take) := by cases ng <;> cases ng' <;> cases take <;> rfl
  have he := enter_eq (n := n) (nar := false) (t := t) (V := enc (n / 4) z) (hi := m / 18446744073709551616) (lo := m % 18446744073709551616) (up := up) (b := ((ng != ng') != take)) hn (enc_lt _ _) (by rw [p128] at hm; omega) (Nat.mod_lt _ (by decide)) (by omega)
  rw [fin_enc, show m / 18446744073709551616 * 18446744073709551616 + m % 18446744073709551616 = m by omega] at he
  rw [hb]
  refine Ev.bind (f := fun _ (z : (Int × Bool × Int × List Int) × Unit × Unit) => some ((z.1.1, z.1.2.1, z.1.2.2.1, z.1.2.2.2), (), none)) he ?_
  simp only [Int.toNat_natCast]
  exact Ev.now _
 | succ d ih =>
  intro m u hm hu hu2 hd
  refine evs ?_
  simp only [accum_Acc_deposit.l0]
  obtain ⟨h1, h2⟩ := half_words m
  have hw : wrap64 (u + 1) = u + 1 := w64 (by omega) (by omega)
  ·simp only [if_pos (show u < 0 by omega), if_neg (show ¬ (0 ≤ u) by omega), h1, h2, hw]
   have := ih (m / 2) (u + 1) (by omega) (by omega) (by omega) (by omega)
   have e : (if 0 ≤ u + 1 then m / 2 * 2 ^ (u + 1).toNat else m / 2 / 2 ^ d) = m / 2 ^ (d + 1) := by
    have h3 : m / 2 / 2 ^ d = m / 2 ^ (d + 1) := by rw [Nat.div_div_eq_div_mul, Nat.pow_succ, Nat.mul_comm]
    by_cases hu0 : 0 ≤ u + 1
    ·rw [if_pos hu0, show (u + 1).toNat = 0 by omega, ← h3, show d = 0 by omega, Nat.pow_zero, Nat.mul_one, Nat.div_one]
    ·rw [if_neg hu0, h3]
   rw [e] at this
   exact this
theorem deposit_eq {n a b : Nat} {t : Int} {z : Int} {nar take : Bool} (hn : isW (n : Int) = true) (ht0 : 0 ≤ t) (ht : t < 2147483647) (ha : a < 18446744073709551616) (hb : b < 18446744073709551616) (hz : nar = true → z = 0) :
  Ev (fun k => accum_Acc_deposit.f k (n : Int) nar t (ws (enc (n / 4) z)) (a : Int) (b : Int) take) (((n : Int), (depS n nar z (decN n (a % 2 ^ n)) (decN n (b % 2 ^ n)) take).1, t + 1, ws (enc (n / 4) (depS n nar z (decN n (a % 2 ^ n)) (decN n (b % 2 ^ n)) take).2)), (), none) := by
 unfold accum_Acc_deposit.f
 have hnb := isW_cases hn
 have h8 : 8 ≤ n := by omega
 have h64 : n ≤ 64 := by omega
 have hp := decN_ok h8 h64 (Nat.mod_lt a (two_pos n))
 have hq := decN_ok h8 h64 (Nat.mod_lt b (two_pos n))
 have hwt : wrap64 (t + 1) = t + 1 := w64 (by omega) (by omega)
 simp only [if_neg (show ¬ (t = 2147483647) by omega), hwt]
 refine Ev.bind (Decode_N hn ha) ?_
 simp only [Option.isNone_none, if_true]
 refine Ev.bind (Decode_N hn hb) ?_
 simp only [Option.isNone_none, if_true]
 generalize decN n (a % 2 ^ n) = p at *
 generalize decN n (b % 2 ^ n) = q at *
 have jt : ∀ (nar' : Bool) (x3 : Bool) (x5 : Int) (x6 : Bool) (x7 x8 x9 : Int) (x10 : Bool) (x11 x12 : Int), (nar = true ∨ p.kd = 2 ∨ q.kd = 2) → Ev (fun k => accum_Acc_deposit.j0 k (n : Int) nar' (t + 1) (ws (enc (n / 4) z)) x3 true x5 x6 x7 x8 x9 x10 x11 x12) (((n : Int), (depS n nar z p q take).1, t + 1, ws (enc (n / 4) (depS n nar z p q take).2)), (), none) := by
  intro nar' x3 x5 x6 x7 x8 x9 x10 x11 x12 hc
  refine evs ?_
  simp only [accum_Acc_deposit.j0, if_true]
  unfold depS
  rw [if_pos hc]
  simp only [enc_zero, ws_zero]
  exact Ev.now _
 cases nar
 ·simp only [Bool.false_eq_true, if_false]
  by_cases h1 : p.kd = 2
  ·simp only [if_pos h1]
   exact jt _ _ _ _ _ _ _ _ _ _ (.inr (.inl h1))
  ·simp only [if_neg h1]
   by_cases h2 : q.kd = 2
   ·simp only [h2, beq_self_eq_true]
    exact jt _ _ _ _ _ _ _ _ _ _ (.inr (.inr h2))
   ·have hb2 : (q.kd == 2) = false := by simpa using h2
    simp only [hb2]
    have hd : depS n false z p q take = (false, if take then z - prI n p q else z + prI n p q) := by
     unfold depS; rw [if_neg (by simp [h1, h2])]
    rw [hd]
    refine evs ?_
    simp only [accum_Acc_deposit.j0, Bool.false_eq_true, if_false]
    have none1 : ∀ (x74 : Bool), x74 = decide (p.kd = 1 ∧ q.kd = 1) → Ev (fun k => accum_Acc_deposit.j1 k (n : Int) false (t + 1) (ws (enc (n / 4) z)) take x74 p.ng p.sc (p.fr : Int) q.ng q.sc (q.fr : Int)) (((n : Int), false, t + 1, ws (enc (n / 4) (if take then z - prI n p q else z + prI n p q))), (), none) := by
     intro x74 hx
     refine evs ?_
     simp only [accum_Acc_deposit.j1]
     by_cases h11 : p.kd = 1 ∧ q.kd = 1
     ·rw [decide_eq_true h11] at hx
      subst hx
      simp only [if_true]
      rcases NM.cases hp with rfl | rfl | ⟨-, p1, p2, p3, p4⟩
      ·exact absurd h11.1 (by decide)
      ·exact absurd rfl h1
      rcases NM.cases hq with rfl | rfl | ⟨-, q1, q2, q3, q4⟩
      ·exact absurd h11.2 (by decide)
      ·exact absurd rfl h2
      rw [p64] at p2 q2
      simp only [bits_Mul64_eq p2 q2, Option.bind_some]
      have hw : wrap64 ((wrap64 ((wrap64 ((wrap64 (p.sc + q.sc)) - 126)) + (wrap64 (8 * (n : Int))))) - 16) = p.sc + q.sc - 126 + 8 * n - 16 := by
       rw [w64 (n := p.sc + q.sc) (by omega) (by omega), w64 (n := p.sc + q.sc - 126) (by omega) (by omega), w64 (n := 8 * (n : Int)) (by omega) (by omega), w64 (n := p.sc + q.sc - 126 + 8 * n) (by omega) (by omega), w64 (by omega) (by omega)]
      simp only [hw]
      have := dep_l0 (t := t + 1) (take := take) (ng := p.ng) (ng' := q.ng) (z := z) hn _ (p.fr * q.fr) (p.sc + q.sc - 126 + 8 * n - 16) (mul_lt128 p2 q2) (by omega) (by omega) rfl
      have hres : (if ((p.ng != q.ng) != take) then z - ((prM n p q : Nat) : Int) else z + ((prM n p q : Nat) : Int)) = (if take then z - prI n p q else z + prI n p q) := by
       unfold prI
       rw [if_pos h11]
       cases take <;> cases (p.ng != q.ng) <;> simp <;> omega
      rw [← hres]
      exact this
     ·rw [decide_eq_false h11] at hx
      subst hx
      simp only [Bool.false_eq_true, if_false]
      have hr : (if take then z - prI n p q else z + prI n p q) = z := by
       unfold prI
       rw [if_neg h11]
       cases take <;> simp
      rw [hr]
      exact Ev.now _
    by_cases hp1 : p.kd = 1
    ·simp only [if_pos hp1]
     refine none1 _ ?_
     rw [beq_dec]
     simp [hp1]
    ·simp only [if_neg hp1]
     refine none1 _ ?_
     simp [hp1]
 ·simp only [if_true]
  exact jt _ _ _ _ _ _ _ _ _ _ (.inl rfl)
theorem deposit_full {n a b : Int} {l : List Int} {nar take : Bool} : Ev (fun k => accum_Acc_deposit.f k n nar 2147483647 l a b take) ((n, nar, 2147483647, l), (), some 11) := by
 unfold accum_Acc_deposit.f
 simp only [if_true]
 exact Ev.now _
theorem New_eq {n : Nat} (hn : isW (n : Int) = true) : Ev (fun k => accum_New.f k (n : Int)) ((), (true, ((n : Int), false, 0, ws 0)), none) := by
 unfold accum_New.f
 have h := Decode_N (p := 0) hn (by decide)
 refine Ev.bind h ?_
 simp only [Option.isNone_none, if_true, ws_zero]
 exact Ev.now _
theorem Put_of {n a b : Int} {t : Int} {l : List Int} {nar : Bool} {n' t' : Int} {l' : List Int} {nar' : Bool} {e : Option Int} (h : Ev (fun k => accum_Acc_deposit.f k n nar t l a b false) ((n', nar', t', l'), (), e)) : Ev (fun k => accum_Acc_Put.f k n nar t l a b) ((n', nar', t', l'), (), e) := by
 unfold accum_Acc_Put.f
 exact Ev.bind (f := fun _ (z : (Int × Bool × Int × List Int) × Unit × Option Int) => some ((z.1.1, z.1.2.1, z.1.2.2.1, z.1.2.2.2), (), z.2.2)) h (Ev.now _)
theorem Take_of {n a b : Int} {t : Int} {l : List Int} {nar : Bool} {n' t' : Int} {l' : List Int} {nar' : Bool} {e : Option Int} (h : Ev (fun k => accum_Acc_deposit.f k n nar t l a b true) ((n', nar', t', l'), (), e)) : Ev (fun k => accum_Acc_Take.f k n nar t l a b) ((n', nar', t', l'), (), e) := by
 unfold accum_Acc_Take.f
 exact Ev.bind (f := fun _ (z : (Int × Bool × Int × List Int) × Unit × Option Int) => some ((z.1.1, z.1.2.1, z.1.2.2.1, z.1.2.2.2), (), z.2.2)) h (Ev.now _)
theorem Add_of {n : Nat} {a : Int} {t : Int} {l : List Int} {nar : Bool} {n' t' : Int} {l' : List Int} {nar' : Bool} {e : Option Int} (hn : isW (n : Int) = true) (h : Ev (fun k => accum_Acc_deposit.f k (n : Int) nar t l a ((2 ^ (n - 2) : Nat) : Int) false) ((n', nar', t', l'), (), e)) : Ev (fun k => accum_Acc_Add.f k (n : Int) nar t l a) ((n', nar', t', l'), (), e) := by
 unfold accum_Acc_Add.f
 have hnb := isW_cases hn
 have w1 : wrap64 ((n : Int) - 2) = ((n - 2 : Nat) : Int) := by rw [w64 (by omega) (by omega)]; omega
 have hs : shl .u64 1 ((n - 2 : Nat) : Int) = ((2 ^ (n - 2) : Nat) : Int) := by
  have := shl_nat 1 (n - 2) (by omega)
  rw [Nat.one_mul, Nat.mod_eq_of_lt (by rw [← p64]; exact pow_lt (by omega))] at this
  exact this
 simp only [w1, if_pos (show (0 : Int) ≤ ((n - 2 : Nat) : Int) by omega), hs]
 exact Ev.bind (f := fun _ (z : (Int × Bool × Int × List Int) × Unit × Option Int) => some ((z.1.1, z.1.2.1, z.1.2.2.1, z.1.2.2.2), (), z.2.2)) h (Ev.now _)
theorem HW_pos (s : Nat) : 0 < HW s := by rw [HW_def]; exact Nat.mul_pos (PW_pos _) (by decide)
theorem room_zero {n : Nat} {t : Int} {nar : Bool} (hn : isW (n : Int) = true) (h0 : 0 < t) (h1 : t ≤ 2147483647) : Ev (fun k => accum_Acc_room.f k (n : Int) nar t (ws 0)) ((), (), true) := by
 unfold accum_Acc_room.f
 have hm := magnitude_eq (V := 0) hn (PW_pos _) nar t
 have := HW_pos (n / 4)
 rw [if_neg (by omega)] at hm
 refine Ev.bind hm ?_
 have hwt : IntKind.u64.wrap t = t := u64_of (by omega) (by omega)
 have fin : ∀ x4 : Int, Ev (fun k => accum_Acc_room.j0 k nar t x4 0 false (ws 0)) ((), (), true) := by
  intro x4
  refine evs ?_
  simp only [accum_Acc_room.j0, Bool.false_eq_true, if_false]
  refine evs ?_
  simp only [accum_Acc_room.j1, hwt, if_neg (show ¬ (0 = t) by omega), decide_eq_true h0]
  exact Ev.now _
 have hz : ∀ i : Nat, i < 16 → shr .u64 (rd (ws 0) (i : Int)) 32 = 0 := fun i hi => by
  rw [rd_dgt hi, dgt_zero (PW_pos i)]
  exact shr_nat 0 32 (by decide)
 rcases isW_cases hn with h | h | h | h
 all_goals
  have hsz := size_eq hn nar t (ws 0)
  have hn' : n = 8 ∨ n = 16 ∨ n = 32 ∨ n = 64 := by omega
 ·have : n = 8 := by omega
  subst this
  have e : wrap64 (wrap64 (16 * ((8 : Nat) : Int)) - 32) = 96 := by unfold wrap64; omega
  have e2 : wrap64 (Int.tdiv 96 64) = ((1 : Nat) : Int) := by rw [show Int.tdiv 96 64 = 1 by decide]; unfold wrap64; omega
  have e3 : Int.tmod 96 64 = 32 := by decide
  have e4 : decide (wrap64 (((1 : Nat) : Int) + 1) < ((8 / 4 : Nat) : Int)) = false := decide_eq_false (by unfold wrap64; omega)
  simp only [e, e2, e3, hsz, Option.bind_some, e4, hz 1 (by decide)]
  exact fin 96
 ·have : n = 16 := by omega
  subst this
  have e : wrap64 (wrap64 (16 * ((16 : Nat) : Int)) - 32) = 224 := by unfold wrap64; omega
  have e2 : wrap64 (Int.tdiv 224 64) = ((3 : Nat) : Int) := by rw [show Int.tdiv 224 64 = 3 by decide]; unfold wrap64; omega
  have e3 : Int.tmod 224 64 = 32 := by decide
  have e4 : decide (wrap64 (((3 : Nat) : Int) + 1) < ((16 / 4 : Nat) : Int)) = false := decide_eq_false (by unfold wrap64; omega)
  simp only [e, e2, e3, hsz, Option.bind_some, e4, hz 3 (by decide)]
  exact fin 224
 ·have : n = 32 := by omega
  subst this
  have e : wrap64 (wrap64 (16 * ((32 : Nat) : Int)) - 32) = 480 := by unfold wrap64; omega
  have e2 : wrap64 (Int.tdiv 480 64) = ((7 : Nat) : Int) := by rw [show Int.tdiv 480 64 = 7 by decide]; unfold wrap64; omega
  have e3 : Int.tmod 480 64 = 32 := by decide
  have e4 : decide (wrap64 (((7 : Nat) : Int) + 1) < ((32 / 4 : Nat) : Int)) = false := decide_eq_false (by unfold wrap64; omega)
  simp only [e, e2, e3, hsz, Option.bind_some, e4, hz 7 (by decide)]
  exact fin 480
 ·have : n = 64 := by omega
  subst this
  have e : wrap64 (wrap64 (16 * ((64 : Nat) : Int)) - 32) = 992 := by unfold wrap64; omega
  have e2 : wrap64 (Int.tdiv 992 64) = ((15 : Nat) : Int) := by rw [show Int.tdiv 992 64 = 15 by decide]; unfold wrap64; omega
  have e3 : Int.tmod 992 64 = 32 := by decide
  have e4 : decide (wrap64 (((15 : Nat) : Int) + 1) < ((64 / 4 : Nat) : Int)) = false := decide_eq_false (by unfold wrap64; omega)
  simp only [e, e2, e3, hsz, Option.bind_some, e4, hz 15 (by decide)]
  exact fin 992
theorem Load_zero {n : Nat} {t : Int} (hn : isW (n : Int) = true) (h0 : 0 < t) (h1 : t ≤ 2147483647) : Ev (fun k => accum_Load.f k (n : Int) false t (List.replicate (n / 4) 0)) ((), (true, ((n : Int), false, t, ws 0)), none) := by
 unfold accum_Load.f
 refine Ev.bind (New_eq hn) ?_
 have hl : (List.replicate (n / 4) (0 : Int)).take 16 ++ (ws 0).drop ((List.replicate (n / 4) (0 : Int)).take 16).length = ws 0 := by
  rw [ws_zero]
  have hnb := isW_cases hn
  have : n = 8 ∨ n = 16 ∨ n = 32 ∨ n = 64 := by omega
  rcases this with rfl | rfl | rfl | rfl <;> decide
 simp only [if_true, Option.isNone_none, if_neg (show ¬ (t < 0) by omega), if_neg (show ¬ (t > 2147483647) by omega), size_eq hn, Option.bind_some, nI_eq, List.length_replicate, Bool.false_eq_true, if_false, hl]
 refine Ev.bind (room_zero hn h0 h1) ?_
 simp only [if_true]
 exact Ev.now _
end Go.Proofs.Ytgjhjgacojlbmaa.V
namespace Go.Proofs.Ytgjhjgacojlbmaa.V
open Go Go.RowKit Go.Proofs.Ytgjhjgacojlbmaa.Ab Go.Proofs.Ytgjhjgacojlbmaa.Fn
set_option linter.unusedVariables false
set_option linter.unusedSimpArgs false
theorem HW_2 : HW 2 = 2 ^ 127 := by rw [HW_def, PW_two]
theorem up15 : Ev (fun k => vernierlaw15_shown.f k) true := by
 have hn : isW ((8 : Nat) : Int) = true := by decide
 have b127 : (127 : Nat) < 18446744073709551616 := by decide
 have b1 : (1 : Nat) < 18446744073709551616 := by decide
 have hw : (HW (8 / 4) : Int) = 170141183460469231731687303715884105728 := by rw [show 8 / 4 = 2 by decide, HW_2]; decide +kernel
 have p1 : depS 8 false 0 (decN 8 (127 % 2 ^ 8)) (decN 8 (127 % 2 ^ 8)) false = (false, 79228162514264337593543950336) := by decide +kernel
 have p2 : depS 8 false 79228162514264337593543950336 (decN 8 (1 % 2 ^ 8)) (decN 8 (1 % 2 ^ 8)) false = (false, 79228162514264337593543950337) := by decide +kernel
 have p3 : depS 8 false 79228162514264337593543950337 (decN 8 (127 % 2 ^ 8)) (decN 8 (127 % 2 ^ 8)) true = (false, 1) := by decide +kernel
 have d1 := deposit_eq (t := 0) (z := 0) (nar := false) (take := false) hn (by decide) (by decide) b127 b127 (fun _ => rfl)
 rw [p1, enc_zero] at d1
 have d2 := deposit_eq (t := 0 + 1) (z := 79228162514264337593543950336) (nar := false) (take := false) hn (by decide) (by decide) b1 b1 (fun h => by cases h)
 rw [p2] at d2
 have d3 := deposit_eq (t := 0 + 1 + 1) (z := 79228162514264337593543950337) (nar := false) (take := true) hn (by decide) (by decide) b127 b127 (fun h => by cases h)
 rw [p3] at d3
 have r1 := Round_z (t := 0 + 1 + 1) (z := 79228162514264337593543950337) hn (by rw [hw]; decide) (by rw [hw]; decide)
 have r2 := Round_z (t := 0 + 1 + 1 + 1) (z := 1) hn (by rw [hw]; decide) (by rw [hw]; decide)
 have q1 : (intX 79228162514264337593543950337 (16 - 8 * ((8 : Nat) : Int))).rnd 8 = 127 := by decide +kernel
 have q2 : (intX 1 (16 - 8 * ((8 : Nat) : Int))).rnd 8 = 1 := by decide +kernel
 rw [q1] at r1
 rw [q2] at r2
 have n1 := Negate_z (n := 8) (t := 0 + 1 + 1 + 1) (z := 1) hn false
 have s1 := Sign_z (n := 8) (t := 0 + 1 + 1 + 1) (z := -1) (nar := false) hn (by rw [hw]; decide) (by rw [hw]; decide)
 have l1 := Load_zero (n := 8) (t := 2147483647) hn (by decide) (by decide)
 unfold vernierlaw15_shown.f
 refine Ev.bind (New_eq hn) ?_
 simp only [if_true, Option.isNone_none]
 refine Ev.bind (Put_of d1) ?_
 refine Ev.bind (Put_of d2) ?_
 refine Ev.bind r1 ?_
 refine Ev.bind (Take_of d3) ?_
 refine Ev.bind r2 ?_
 refine Ev.bind n1 ?_
 refine Ev.bind (evn s1) ?_
 refine Ev.bind l1 ?_
 simp only [if_true, Option.isNone_none]
 refine Ev.bind (Add_of hn deposit_full) ?_
 exact Ev.now _
end Go.Proofs.Ytgjhjgacojlbmaa.V
namespace Go.Proofs.Ytgjhjgacojlbmaa.V
open Go Go.RowKit Go.Proofs.Ytgjhjgacojlbmaa.Ab Go.Proofs.Ytgjhjgacojlbmaa.Fn
set_option linter.unusedVariables false
set_option linter.unusedSimpArgs false
def pickN (a : Int) (n : Nat) : Nat := (if a < 0 then -(a + 1) else a).toNat % n
theorem pickN_lt (a : Int) {n : Nat} (h : 0 < n) : pickN a n < n := Nat.mod_lt _ h
theorem pick15_eq {a : Int} {n : Nat} (h0 : 0 < n) (h1 : -9223372036854775808 ≤ a) (h2 : a < 9223372036854775808) : vernierlaw15_pick.f a (n : Int) = some ((pickN a n : Nat) : Int) := by
 unfold vernierlaw15_pick.f pickN
 by_cases h : a < 0
 ·rw [if_pos h, if_neg (by omega), if_pos h]
  rw [w64 (n := a + 1) (by omega) (by omega), w64 (n := -(a + 1)) (by omega) (by omega), Int.tmod_eq_emod_of_nonneg (by omega)]
  congr 1
  rw [Int.natCast_emod, Int.toNat_of_nonneg (by omega)]
 ·rw [if_neg h, if_neg (by omega), if_neg h, Int.tmod_eq_emod_of_nonneg (by omega)]
  congr 1
  rw [Int.natCast_emod, Int.toNat_of_nonneg (by omega)]
theorem width15_l0 : ∀ (p m : Nat), m * 2 ^ p ≤ 64 → p ≤ 3 → Ev (fun k => vernierlaw15_width.l0 k (m : Int) (p : Int)) ((m * 2 ^ p : Nat) : Int)
 | 0, m, _, _ => by
  refine evs ?_
  simp only [vernierlaw15_width.l0]
  simp only [if_neg (show ¬ (((0 : Nat) : Int) > 0) by omega), Nat.pow_zero, Nat.mul_one]
  exact Ev.now _
 | p + 1, m, h, hp => by
  have hm : m * 2 * 2 ^ p ≤ 64 := by rw [Nat.mul_assoc, ← Nat.pow_succ']; exact h
  have hm2 : m * 2 ≤ 64 := Nat.le_trans (Nat.le_mul_of_pos_right _ (two_pos p)) hm
  refine evs ?_
  simp only [vernierlaw15_width.l0]
  have w1 : wrap64 (2 * (m : Int)) = ((m * 2 : Nat) : Int) := by rw [w64 (by omega) (by omega)]; omega
  have w2 : wrap64 (((p + 1 : Nat) : Int) - 1) = (p : Int) := by rw [w64 (by omega) (by omega)]; omega
  simp only [if_pos (show ((p + 1 : Nat) : Int) > 0 by omega), w1, w2]
  have := width15_l0 p (m * 2) hm (by omega)
  rw [Nat.mul_assoc, ← Nat.pow_succ'] at this
  exact this
theorem width15_eq {a : Int} (h1 : -9223372036854775808 ≤ a) (h2 : a < 9223372036854775808) : ∃ n : Nat, isW (n : Int) = true ∧ Ev (fun k => vernierlaw15_width.f k a) (n : Int) := by
 have hp := pickN_lt a (show 0 < 4 by decide)
 refine ⟨8 * 2 ^ pickN a 4, ?_, ?_⟩
 ·have h4 : pickN a 4 = 0 ∨ pickN a 4 = 1 ∨ pickN a 4 = 2 ∨ pickN a 4 = 3 := by omega
  rcases h4 with h | h | h | h <;> rw [h] <;> decide
 ·unfold vernierlaw15_width.f
  refine Ev.bind (evn (pick15_eq (n := 4) (by decide) h1 h2)) ?_
  refine width15_l0 (pickN a 4) 8 ?_ (by omega)
  have : 2 ^ pickN a 4 ≤ 2 ^ 3 := pow_le (by omega)
  omega
theorem put15_eq {n a b : Nat} {t z : Int} {nar take : Bool} (hn : isW (n : Int) = true) (ht0 : 0 ≤ t) (ht : t < 2147483647) (ha : a < 18446744073709551616) (hb : b < 18446744073709551616) (hz : nar = true → z = 0) :
  Ev (fun k => vernierlaw15_put.f k (n : Int) nar t (ws (enc (n / 4) z)) (a : Int) (b : Int) take) (((n : Int), (depS n nar z (decN n (a % 2 ^ n)) (decN n (b % 2 ^ n)) take).1, t + 1, ws (enc (n / 4) (depS n nar z (decN n (a % 2 ^ n)) (decN n (b % 2 ^ n)) take).2)), (), true) := by
 have h := deposit_eq (take := take) hn ht0 ht ha hb hz
 unfold vernierlaw15_put.f
 cases take
 ·simp only [Bool.false_eq_true, if_false]
  refine Ev.bind (Put_of h) ?_
  simp only [Option.isNone_none, if_true]
  exact Ev.now _
 ·simp only [if_true]
  refine Ev.bind (Take_of h) ?_
  simp only [Option.isNone_none, if_true]
  exact Ev.now _
theorem term_at {l : List (Int × Int × Bool)} (hw : ∀ x ∈ l, CT.wf [.int .u64, .int .u64, .bool] x) {i : Nat} (hi : i < l.length) : ∃ (a b : Nat) (take : Bool), a < 18446744073709551616 ∧ b < 18446744073709551616 ∧ l.getD (i : Int).toNat (0, (0, false)) = ((a : Int), ((b : Int), take)) := by
 have h := hw _ (List.getElem_mem hi)
 have e : l.getD (i : Int).toNat (0, (0, false)) = l[i] := by
  rw [Int.toNat_natCast, List.getD_eq_getElem?_getD, List.getElem?_eq_getElem hi]; rfl
 rw [e]
 obtain ⟨h1, h2, -⟩ := h
 obtain ⟨h3, h4⟩ := h1
 obtain ⟨h5, h6⟩ := h2
 simp only [kLo, kHi] at h3 h4 h5 h6
 refine ⟨l[i].1.toNat, l[i].2.1.toNat, l[i].2.2, by omega, by omega, ?_⟩
 rw [Int.toNat_of_nonneg h3, Int.toNat_of_nonneg h5]
theorem depS_nar {n : Nat} {nar take : Bool} {z : Int} {p q : NM} (h : (depS n nar z p q take).1 = true) : (depS n nar z p q take).2 = 0 := by
 unfold depS at h ⊢
 split at h
 ·rename_i hc; rw [if_pos hc]
 ·cases h
end Go.Proofs.Ytgjhjgacojlbmaa.V
namespace Go.Proofs.Ytgjhjgacojlbmaa.V
open Go Go.RowKit Go.Proofs.Ytgjhjgacojlbmaa.Ab Go.Proofs.Ytgjhjgacojlbmaa.Fn
set_option linter.unusedVariables false
set_option linter.unusedSimpArgs false
abbrev Tm := Int × Int × Bool
def tmNar (n : Nat) (x : Tm) : Bool := decide ((decN n (x.1.toNat % 2 ^ n)).kd = 2 ∨ (decN n (x.2.1.toNat % 2 ^ n)).kd = 2)
def tmVal (n : Nat) (x : Tm) : Int := if x.2.2 then -(prI n (decN n (x.1.toNat % 2 ^ n)) (decN n (x.2.1.toNat % 2 ^ n))) else prI n (decN n (x.1.toNat % 2 ^ n)) (decN n (x.2.1.toNat % 2 ^ n))
def narL (n : Nat) : List Tm → Bool
 | [] => false
 | x :: l => tmNar n x || narL n l
def sumL (n : Nat) : List Tm → Int
 | [] => 0
 | x :: l => tmVal n x + sumL n l
theorem narL_perm {n : Nat} {l m : List Tm} (h : l.Perm m) : narL n l = narL n m := by
 induction h with
 | nil => rfl
 | cons x _ ih => simp only [narL, ih]
 | swap x y l => simp only [narL, ← Bool.or_assoc, Bool.or_comm]
 | trans _ _ h1 h2 => exact h1.trans h2
theorem sumL_perm {n : Nat} {l m : List Tm} (h : l.Perm m) : sumL n l = sumL n m := by
 induction h with
 | nil => rfl
 | cons x _ ih => simp only [sumL, ih]
 | swap x y l => simp only [sumL]; omega
 | trans _ _ h1 h2 => exact h1.trans h2
theorem erase_perm {α : Type} : ∀ {l : List α} {k : Nat} (h : k < l.length), (l[k] :: l.eraseIdx k).Perm l
 | x :: l, 0, _ => by simp
 | x :: l, k + 1, h => by
  have ih := erase_perm (l := l) (k := k) (by simpa using h)
  simp only [List.getElem_cons_succ, List.eraseIdx_cons_succ]
  exact (List.Perm.swap _ _ _).trans (ih.cons x)
 | [], _, h => by simp at h
theorem swap_perm {α : Type} (L : List α) (k : Nat) (hk : k < L.length) : (L[k] :: (L.set k (L[L.length - 1]'(by omega))).take (L.length - 1)).Perm L := by
 obtain ⟨M, y, rfl⟩ : ∃ M y, L = M ++ [y] := ⟨L.dropLast, L.getLast (by intro h; subst h; simp at hk), (List.dropLast_concat_getLast _).symm⟩
 have hl : (M ++ [y]).length - 1 = M.length := by simp
 have hy : (M ++ [y])[(M ++ [y]).length - 1]'(by simp) = y := by simp
 rw [hy]
 simp only [hl]
 by_cases h : k < M.length
 ·rw [List.set_append_left _ _ h, List.take_left' (by simp), List.getElem_append_left h]
  refine List.Perm.trans ?_ (List.perm_append_singleton y M).symm
  have hset : (M.set k y).Perm (y :: M.eraseIdx k) := by
   have h1 : k < (M.set k y).length := by simpa using h
   have := erase_perm h1
   rw [List.getElem_set_self, List.eraseIdx_set_eq] at this
   exact this.symm
  refine List.Perm.trans (hset.cons _) ?_
  exact (List.Perm.swap _ _ _).trans ((erase_perm h).cons _)
 ·have : k = M.length := by simp at hk; omega
  subst this
  rw [List.set_append_right _ _ (Nat.le_refl _), List.take_left' rfl, List.getElem_append_right (Nat.le_refl _)]
  simp only [Nat.sub_self, List.getElem_cons_zero]
  exact (List.perm_append_singleton y M).symm
def finN (n : Nat) (nar : Bool) (L : List Tm) : Bool := nar || narL n L
def finZ (n : Nat) (nar : Bool) (z : Int) (L : List Tm) : Int := if finN n nar L then 0 else z + sumL n L
theorem dep_one {n : Nat} {nar take : Bool} {z : Int} {p q : NM} : (depS n nar z p q take).1 = (nar || decide (p.kd = 2 ∨ q.kd = 2)) := by
 unfold depS
 by_cases h : nar = true ∨ p.kd = 2 ∨ q.kd = 2
 ·rw [if_pos h]
  rcases h with h | h
  ·rw [h]; rfl
  ·rw [decide_eq_true h, Bool.or_true]
 ·rw [if_neg h]
  have h1 : nar = false := by
   cases nar
   ·rfl
   ·exact absurd (.inl rfl) h
  rw [h1, decide_eq_false (fun h2 => h (.inr h2))]; rfl
theorem dep_two {n : Nat} {nar take : Bool} {z : Int} {p q : NM} (hd : (depS n nar z p q take).1 = false) : (depS n nar z p q take).2 = z + (if take = true then -(prI n p q) else prI n p q) := by
 unfold depS at hd ⊢
 split at hd
 ·cases hd
 ·rename_i h
  rw [if_neg h]
  cases take
  ·simp
  ·simp only [if_true]; omega
theorem dep_fin {n : Nat} {nar take : Bool} {z : Int} {a b : Nat} {L : List Tm} : finN n (depS n nar z (decN n (a % 2 ^ n)) (decN n (b % 2 ^ n)) take).1 L = finN n nar (((a : Int), ((b : Int), take)) :: L) ∧
  finZ n (depS n nar z (decN n (a % 2 ^ n)) (decN n (b % 2 ^ n)) take).1 (depS n nar z (decN n (a % 2 ^ n)) (decN n (b % 2 ^ n)) take).2 L = finZ n nar z (((a : Int), ((b : Int), take)) :: L) := by
 have hN : (depS n nar z (decN n (a % 2 ^ n)) (decN n (b % 2 ^ n)) take).1 = (nar || tmNar n ((a : Int), ((b : Int), take))) := by
  unfold tmNar
  simp only [Int.toNat_natCast]
  exact dep_one
 have h1 : finN n (depS n nar z (decN n (a % 2 ^ n)) (decN n (b % 2 ^ n)) take).1 L = finN n nar (((a : Int), ((b : Int), take)) :: L) := by
  unfold finN
  rw [hN]
  simp only [narL, Bool.or_assoc]
 refine ⟨h1, ?_⟩
 unfold finZ
 rw [h1]
 by_cases hf : finN n nar (((a : Int), ((b : Int), take)) :: L) = true
 ·rw [if_pos hf, if_pos hf]
 ·rw [if_neg hf, if_neg hf]
  have hd : (depS n nar z (decN n (a % 2 ^ n)) (decN n (b % 2 ^ n)) take).1 = false := by
   rw [← h1] at hf
   unfold finN at hf
   cases h : (depS n nar z (decN n (a % 2 ^ n)) (decN n (b % 2 ^ n)) take).1
   ·rfl
   ·rw [h] at hf; exact absurd rfl hf
  have hz : (depS n nar z (decN n (a % 2 ^ n)) (decN n (b % 2 ^ n)) take).2 = z + tmVal n ((a : Int), ((b : Int), take)) := by
   unfold tmVal
   simp only [Int.toNat_natCast]
   exact dep_two hd
  rw [hz]
  simp only [sumL]
  omega
theorem fin_perm {n : Nat} {nar : Bool} {z : Int} {l m : List Tm} (h : l.Perm m) : finN n nar l = finN n nar m ∧ finZ n nar z l = finZ n nar z m := by
 have h1 : finN n nar l = finN n nar m := by unfold finN; rw [narL_perm h]
 refine ⟨h1, ?_⟩
 unfold finZ
 rw [h1, sumL_perm h]
theorem puts_step {n i : Nat} {picks : List Int} {left : List Tm} {nar : Bool} {t z : Int} {r : Unit × (Bool × (Int × Bool × Int × List Int)) × Unit} (hn : isW (n : Int) = true) (hw : ∀ x ∈ left, CT.wf [.int .u64, .int .u64, .bool] x) (ht0 : 0 ≤ t) (ht : t < 2147483647) (hz : nar = true → z = 0) (hlen : left.length ≤ 2147483647) (k : Nat) (hk : k < left.length)
  (ih : ∀ L' nar' z', L'.length + 1 = left.length → (∀ x ∈ L', CT.wf [.int .u64, .int .u64, .bool] x) → (nar' = true → z' = 0) → finN n nar' L' = finN n nar left → finZ n nar' z' L' = finZ n nar z left →
   Ev (fun k => vernierlaw15_puts.l0 k picks L' (wrap64 ((i : Int) + 1)) (n : Int) nar' (t + 1) (ws (enc (n / 4) z'))) r) :
  Ev (fun kk => (vernierlaw15_put.f kk (n : Int) nar t (ws (enc (n / 4) z)) ((left.getD k (0, (0, false))).1) (((left.getD k (0, (0, false))).2).1) (((left.getD k (0, (0, false))).2).2)).bind fun t102 => (if t102.2.2 = true then (vernierlaw15_puts.l0 kk picks ((left.set k (left.getD (left.length - 1) (0, (0, false)))).take (left.length - 1)) (wrap64 ((i : Int) + 1)) t102.1.1 t102.1.2.1 t102.1.2.2.1 t102.1.2.2.2) else (some ((), (false, (0, false, 0, ([] : List Int))), ())))) r := by
 obtain ⟨a, b, take, ha, hb, hg⟩ := term_at hw hk
 rw [Int.toNat_natCast] at hg
 have hgk : left.getD k (0, (0, false)) = left[k] := by rw [List.getD_eq_getElem?_getD, List.getElem?_eq_getElem hk]; rfl
 have hgl : left.getD (left.length - 1) (0, (0, false)) = left[left.length - 1]'(by omega) := by rw [List.getD_eq_getElem?_getD, List.getElem?_eq_getElem (by omega)]; rfl
 rw [hg]
 refine Ev.bind (put15_eq hn ht0 ht ha hb hz) ?_
 simp only [if_true]
 have hp := swap_perm left k hk
 rw [← hgl, ← hgk, hg] at hp
 obtain ⟨h1, h2⟩ := dep_fin (n := n) (nar := nar) (take := take) (z := z) (a := a) (b := b) (L := (left.set k (left.getD (left.length - 1) (0, (0, false)))).take (left.length - 1))
 obtain ⟨h3, h4⟩ := fin_perm (n := n) (nar := nar) (z := z) hp
 refine ih _ _ _ ?_ ?_ depS_nar (h1.trans h3) (h2.trans h4)
 ·rw [List.length_take, List.length_set]; omega
 ·intro x hx
  exact hw x (hp.subset (List.mem_cons_of_mem _ hx))
theorem puts_l0 {n : Nat} {picks : List Int} (hn : isW (n : Int) = true) (hpk : inL .i64 picks) (hpl : picks.length ≤ 17592186044416) : ∀ (d i : Nat) (left : List Tm) (nar : Bool) (t z : Int), left.length = d → i ≤ 4294967296 → (∀ x ∈ left, CT.wf [.int .u64, .int .u64, .bool] x) → 0 ≤ t → t + d ≤ 2147483647 → i + d ≤ 4294967296 → (nar = true → z = 0) →
  Ev (fun k => vernierlaw15_puts.l0 k picks left (i : Int) (n : Int) nar t (ws (enc (n / 4) z))) ((), (true, ((n : Int), finN n nar left, t + d, ws (enc (n / 4) (finZ n nar z left)))), ()) := by
 intro d
 induction d with
 | zero =>
  intro i left nar t z hd hi hw ht0 ht hid hz
  have : left = [] := List.length_eq_zero_iff.1 hd
  subst this
  refine evs ?_
  simp only [vernierlaw15_puts.l0, nI_eq, List.length_nil]
  simp only [if_neg (show ¬ (((0 : Nat) : Int) > 0) by omega)]
  have e1 : finN n nar [] = nar := by unfold finN narL; rw [Bool.or_false]
  have e2 : finZ n nar z [] = z := by
   unfold finZ
   rw [e1]
   cases nar
   ·simp [sumL]
   ·simp [hz rfl]
  rw [e1, e2, Int.natCast_zero, Int.add_zero]
  exact Ev.now _
 | succ d ih =>
  intro i left nar t z hd hi hw ht0 ht hid hz
  have hpos : 0 < left.length := by omega
  have hwi : wrap64 ((i : Int) + 1) = ((i + 1 : Nat) : Int) := by rw [w64 (by omega) (by omega)]; omega
  have hlast : wrap64 (((left.length : Nat) : Int) - 1) = ((left.length - 1 : Nat) : Int) := by rw [w64 (by omega) (by omega)]; omega
  have c1 : ((left.length : Nat) : Int) > 0 := by omega
  have c2 : (0 : Int) ≤ ((left.length - 1 : Nat) : Int) := by omega
  have c3 : ((left.length - 1 : Nat) : Int) < ((left.length : Nat) : Int) := by omega
  have c4 : ((left.length - 1 : Nat) : Int) ≤ ((left.length : Nat) : Int) := by omega
  have ti : t + 1 + (d : Int) = t + ((d + 1 : Nat) : Int) := by omega
  have step := fun k hk => puts_step (i := i) (picks := picks) (left := left) (nar := nar) (t := t) (z := z) hn hw ht0 (by omega) hz (by omega) k hk (r := ((), (true, ((n : Int), finN n nar left, t + ((d + 1 : Nat) : Int), ws (enc (n / 4) (finZ n nar z left)))), ())) (fun L' nar' z' h1 h2 h3 h4 h5 => by
   have := ih (i + 1) L' nar' (t + 1) z' (by omega) (by omega) h2 (by omega) (by omega) (by omega) h3
   rw [h4, h5, ti] at this
   rw [hwi]
   exact this)
  refine evs ?_
  simp only [vernierlaw15_puts.l0, nI_eq]
  by_cases hp : i < picks.length
  ·have hr : rd picks (i : Int) = picks[i] := by unfold rd; rw [Int.toNat_natCast, List.getD_eq_getElem?_getD, List.getElem?_eq_getElem hp]; rfl
   obtain ⟨g1, g2⟩ := hpk.2 _ (List.getElem_mem hp)
   simp only [kLo, kHi] at g1 g2
   have hpick := pick15_eq (a := picks[i]) (n := left.length) hpos (by omega) (by omega)
   have hlt := pickN_lt picks[i] hpos
   rw [hr]
   simp only [if_pos c1, if_pos (show (i : Int) < (picks.length : Int) by omega), if_pos (show (0 : Int) ≤ (i : Int) by omega), hpick, Option.bind_some]
   generalize pickN picks[i] left.length = k at *
   have c5 : (0 : Int) ≤ (k : Int) := by omega
   have c6 : (k : Int) < ((left.length : Nat) : Int) := by omega
   have := step k hlt
   simpa only [if_pos c5, if_pos c6, Int.toNat_natCast, List.length_set, hlast, if_pos c2, if_pos c3, if_pos c4] using this
  ·have c5 : (0 : Int) < ((left.length : Nat) : Int) := by omega
   have := step 0 hpos
   simpa only [if_pos c1, if_neg (show ¬ ((i : Int) < (picks.length : Int)) by omega), if_pos c5, Int.toNat_natCast, List.length_set, hlast, if_pos c2, if_pos c3, if_pos c4] using this
theorem puts_eq {n : Nat} {l : List Tm} {picks : List Int} (hn : isW (n : Int) = true) (hw : ∀ x ∈ l, CT.wf [.int .u64, .int .u64, .bool] x) (hpk : inL .i64 picks) (hpl : picks.length ≤ 17592186044416) (hl : l.length ≤ 2147483647) :
  Ev (fun k => vernierlaw15_puts.f k (n : Int) l picks) ((), (true, ((n : Int), narL n l, (l.length : Int), ws (enc (n / 4) (finZ n false 0 l)))), ()) := by
 unfold vernierlaw15_puts.f
 refine Ev.bind (New_eq hn) ?_
 simp only [if_true, Option.isNone_none, if_pos (show 0 + l.length ≤ 140737488355328 / 24 by omega)]
 have := puts_l0 hn hpk hpl l.length 0 l false 0 0 rfl (by decide) hw (by decide) (by omega) (by omega) (fun _ => rfl)
 rw [enc_zero] at this
 have e : finN n false l = narL n l := by unfold finN; rw [Bool.false_or]
 rw [e, Int.zero_add] at this
 exact this
end Go.Proofs.Ytgjhjgacojlbmaa.V
namespace Go.Proofs.Ytgjhjgacojlbmaa.V
open Go Go.RowKit Go.Proofs.Ytgjhjgacojlbmaa.Ab Go.Proofs.Ytgjhjgacojlbmaa.Fn
set_option linter.unusedVariables false
set_option linter.unusedSimpArgs false
theorem Of_X {x : NM} (h : x.ok) : Ev (fun k => round_Of.f k x.kd x.ng x.sc (x.fr : Int)) (x.ex.kd, x.ex.ng, x.ex.sc, TH x.ex.V, TL x.ex.V, x.ex.R, none) := by
 have := round_Of_eq x.kd x.ng x.sc (x.fr : Int) (by have := h.2; omega) (by omega)
 rw [if_pos h.1] at this
 rw [(NM.ex_tup x h).1, (NM.ex_tup x h).2]
 exact this
end Go.Proofs.Ytgjhjgacojlbmaa.V
namespace Go.Proofs.Ytgjhjgacojlbmaa.V
open Go Go.RowKit Go.Proofs.Ytgjhjgacojlbmaa.Ab Go.Proofs.Ytgjhjgacojlbmaa.Fn
set_option linter.unusedVariables false
set_option linter.unusedSimpArgs false
theorem EX.ok_kd {x : EX} (hx : x.ok) : x.kd = 0 ∨ x.kd = 1 ∨ x.kd = 2 := by
 rcases hx with rfl | rfl | hx
 ·exact .inl rfl
 ·exact .inr (.inr rfl)
 ·exact .inr (.inl hx.1)
theorem sumX_nar {x y : EX} (h : x.kd = 2 ∨ y.kd = 2) : sumX x y = EX.nar := by unfold sumX; rw [if_pos h]
theorem sumX_z1 {x y : EX} (h : ¬ (x.kd = 2 ∨ y.kd = 2)) (h1 : x.kd = 0) : sumX x y = y := by unfold sumX; rw [if_neg h, if_pos h1]
theorem sumX_z2 {x y : EX} (h : ¬ (x.kd = 2 ∨ y.kd = 2)) (h1 : ¬ x.kd = 0) (h2 : y.kd = 0) : sumX x y = x := by unfold sumX; rw [if_neg h, if_neg h1, if_pos h2]
theorem broad_Sum_j0 {x y : EX} (hx : x.ok) (hy : y.ok) : Ev (fun k => broad_Sum.j0 k (decide (x.kd = 2 ∨ y.kd = 2)) x.kd x.ng x.sc (TH x.V) (TL x.V) x.R y.kd y.ng y.sc (TH y.V) (TL y.V) y.R) (sumX x y).tup := by
 refine evs ?_
 simp only [broad_Sum.j0]
 by_cases h : x.kd = 2 ∨ y.kd = 2
 ·simp only [if_pos (decide_eq_true h)]
  rw [sumX_nar h]
  exact Ev.now _
 ·simp only [if_neg (fun h' => h (of_decide_eq_true h') : ¬ decide (x.kd = 2 ∨ y.kd = 2) = true)]
  by_cases a : x.kd = 0
  ·simp only [if_pos a]
   rw [sumX_z1 h a]
   exact Ev.now _
  ·simp only [if_neg a]
   by_cases b : y.kd = 0
   ·simp only [if_pos b]
    rw [sumX_z2 h a b]
    exact Ev.now _
   ·simp only [if_neg b]
    have kx : x.kd = 1 := by have := EX.ok_kd hx; omega
    have ky : y.kd = 1 := by have := EX.ok_kd hy; omega
    by_cases c : x.sc < y.sc
    ·simp only [if_pos c]
     rw [sumX_comm hx hy]
     exact Sum_j1 hy hx ky kx (Int.le_of_lt c)
    ·simp only [if_neg c]
     exact Sum_j1 hx hy kx ky (Int.not_lt.1 c)
theorem broad_Sum_X {x y : EX} (hx : x.ok) (hy : y.ok) : Ev (fun k => broad_Sum.f k x.kd x.ng x.sc (TH x.V) (TL x.V) x.R y.kd y.ng y.sc (TH y.V) (TL y.V) y.R) (sumX x y).tup := by
 have h := broad_Sum_j0 hx hy
 unfold broad_Sum.f
 by_cases a : x.kd = 2
 ·simp only [if_pos a]
  rw [decide_eq_true (Or.inl a)] at h
  exact h
 ·simp only [if_neg a]
  rw [show decide (x.kd = 2 ∨ y.kd = 2) = (y.kd == 2) by rw [Bool.eq_iff_iff]; simp [a]] at h
  exact h
end Go.Proofs.Ytgjhjgacojlbmaa.V
namespace Go.Proofs.Ytgjhjgacojlbmaa.V
open Go Go.RowKit Go.Proofs.Ytgjhjgacojlbmaa.Ab Go.Proofs.Ytgjhjgacojlbmaa.Fn
set_option linter.unusedVariables false
set_option linter.unusedSimpArgs false
theorem EX.ok_zero {x : EX} (hx : x.ok) (h : x.kd = 0) : x = EX.zero := by
 rcases hx with rfl | rfl | hx
 ·rfl
 ·exact absurd h (by decide)
 ·omega
theorem sumX_zero_r {x : EX} (hx : x.ok) : sumX x EX.zero = x := by
 unfold sumX
 by_cases h : x.kd = 2 ∨ EX.zero.kd = 2
 ·rw [if_pos h]
  have h2 : x.kd = 2 := h.elim id (fun h => absurd h (by decide))
  rcases hx with rfl | rfl | hx
  ·exact absurd h2 (by decide)
  ·rfl
  ·omega
 ·rw [if_neg h]
  by_cases h0 : x.kd = 0
  ·rw [if_pos h0, EX.ok_zero hx h0]
  ·rw [if_neg h0, if_pos (show EX.zero.kd = 0 from rfl)]
theorem EX.neg_kd (x : EX) : x.neg.kd = x.kd := by unfold EX.neg; split <;> rfl
theorem EX.neg_sc (x : EX) : x.neg.sc = x.sc := by unfold EX.neg; split <;> rfl
theorem EX.neg_val {x : EX} (h : x.kd = 1) (e : Int) : x.neg.val e = -(x.val e) := by
 unfold EX.neg
 rw [if_pos h]
 unfold EX.val
 simp only
 cases x.ng <;> simp
theorem intX_neg (z e : Int) : intX (-z) e = (intX z e).neg := by
 unfold intX
 by_cases h : z = 0
 ·subst h; rfl
 ·rw [Int.natAbs_neg, ← natX_neg]
  congr 1
  rw [Bool.eq_iff_iff]
  simp only [decide_eq_true_eq, Bool.not_eq_true', decide_eq_false_iff_not]
  omega
end Go.Proofs.Ytgjhjgacojlbmaa.V
namespace Go.Proofs.Ytgjhjgacojlbmaa.V
open Go Go.RowKit Go.Proofs.Ytgjhjgacojlbmaa.Ab Go.Proofs.Ytgjhjgacojlbmaa.Fn
set_option linter.unusedVariables false
set_option linter.unusedSimpArgs false
theorem fr_lat {m w : Nat} (h7 : 7 ≤ m) (hm : m ≤ 64) (hw0 : 0 < w) (hw : w < 2 ^ m) : ∃ M : Nat, decFr m w * 2 ^ (decS m w + 4 * (m : Int) - 4).toNat = M * 2 ^ 63 ∧ M ≤ 2 ^ (8 * m - 8) ∧ 0 ≤ decS m w + 4 * (m : Int) - 4 := by
 obtain ⟨-, s1, s2, r1, r2⟩ := dec_sig h7 hm hw0 hw
 have hex := decEx_lt (m := m) (w := w)
 have hs : decS m w = 4 * decK m w + (decEx m w : Int) := rfl
 have hk : decK m w = (runL m w : Int) - 1 ∨ decK m w = -(runL m w : Int) := by unfold decK; split; exact .inl rfl; exact .inr rfl
 have hd : dL1 m w = m - runL m w - 1 := rfl
 have hlf : dLf m w ≤ dL1 m w := by unfold dLf; omega
 have hlf2 : dLf m w ≤ 63 := dLf_le hm
 have hK : ((dLf m w : Nat) : Int) ≤ decS m w + 4 * (m : Int) - 4 := by omega
 have htop : decS m w + 4 * (m : Int) - 4 = ((8 * m - 8 : Nat) : Int) → dLf m w = 0 := by omega
 have hKle : decS m w + 4 * (m : Int) - 4 ≤ ((8 * m - 8 : Nat) : Int) := by omega
 have hf := Nat.mod_lt w (two_pos (dLf m w))
 unfold decFr
 generalize decS m w + 4 * (m : Int) - 4 = K at *
 generalize w % 2 ^ dLf m w = f at *
 generalize dLf m w = lf at *
 obtain ⟨K, rfl⟩ : ∃ k : Nat, K = k := ⟨K.toNat, by omega⟩
 rw [Int.toNat_natCast]
 have hKl : lf ≤ K := by omega
 refine ⟨(2 ^ lf + f) * 2 ^ (K - lf), ?_, ?_, by omega⟩
 ·have e1 : (2 : Nat) ^ 63 = 2 ^ lf * 2 ^ (63 - lf) := (pow_split hlf2).symm
  have e2 : (2 : Nat) ^ K = 2 ^ lf * 2 ^ (K - lf) := (pow_split hKl).symm
  rw [e1, e2]
  generalize 2 ^ lf = A
  generalize 2 ^ (63 - lf) = B
  generalize 2 ^ (K - lf) = C
  grind
 ·by_cases ht : (K : Int) = ((8 * m - 8 : Nat) : Int)
  ·have h0 := htop ht
   subst h0
   have : f = 0 := by simpa using hf
   subst this
   have : K = 8 * m - 8 := by omega
   subst this
   simp
  ·have h1 : (2 ^ lf + f) * 2 ^ (K - lf) ≤ 2 ^ (lf + 1) * 2 ^ (K - lf) := Nat.mul_le_mul_right _ (by rw [Nat.pow_succ]; omega)
   refine Nat.le_trans h1 ?_
   rw [← Nat.pow_add]
   exact pow_le (by omega)
theorem dec_lat {n x : Nat} (h8 : 8 ≤ n) (hn : n ≤ 64) (hx : x < 2 ^ n) (hk : (decN n x).kd = 1) : ∃ M k : Nat, (decN n x).fr * 2 ^ k = M * 2 ^ 63 ∧ M ≤ 2 ^ (8 * n - 16) ∧ (k : Int) = (decN n x).sc + 4 * (n : Int) - 8 := by
 unfold decN at hk ⊢
 by_cases h0 : x = 0
 ·rw [if_pos h0] at hk; exact absurd hk (by decide)
 ·rw [if_neg h0] at hk ⊢
  by_cases h1 : x = 2 ^ (n - 1)
  ·rw [if_pos h1] at hk; exact absurd hk (by decide)
  ·rw [if_neg h1]
   obtain ⟨b1, b2⟩ := magN_bounds (by omega) hx h0 h1
   obtain ⟨M, m1, m2, m3⟩ := fr_lat (m := n - 1) (by omega) (by omega) b1 b2
   refine ⟨M, _, m1, ?_, ?_⟩
   ·rw [show 8 * n - 16 = 8 * (n - 1) - 8 by omega]; exact m2
   ·show (((decS (n - 1) (magN n x) + 4 * ((n - 1 : Nat) : Int) - 4).toNat : Nat) : Int) = decS (n - 1) (magN n x) + 4 * (n : Int) - 8
    omega
theorem prM_lat {n : Nat} {a b : NM} {Ma Mb ka kb : Nat} (h8 : 8 ≤ n) (ha : a.fr * 2 ^ ka = Ma * 2 ^ 63) (hb : b.fr * 2 ^ kb = Mb * 2 ^ 63) (ea : (ka : Int) = a.sc + 4 * (n : Int) - 8) (eb : (kb : Int) = b.sc + 4 * (n : Int) - 8) :
  prM n a b = Ma * Mb ∧ (16 - 8 * (n : Int) ≤ a.sc + b.sc - 126 → prM n a b = a.fr * b.fr * 2 ^ (a.sc + b.sc - 126 - (16 - 8 * (n : Int))).toNat) ∧ (a.sc + b.sc - 126 < 16 - 8 * (n : Int) → a.fr * b.fr = prM n a b * 2 ^ (16 - 8 * (n : Int) - (a.sc + b.sc - 126)).toNat) := by
 have hprod : a.fr * b.fr * 2 ^ (ka + kb) = Ma * Mb * 2 ^ 126 := by
  rw [Nat.pow_add, show (126 : Nat) = 63 + 63 by rfl, Nat.pow_add]
  calc a.fr * b.fr * (2 ^ ka * 2 ^ kb) = (a.fr * 2 ^ ka) * (b.fr * 2 ^ kb) := by grind
   _ = (Ma * 2 ^ 63) * (Mb * 2 ^ 63) := by rw [ha, hb]
   _ = Ma * Mb * (2 ^ 63 * 2 ^ 63) := by grind
 have hs : a.sc + b.sc - 126 + 8 * (n : Int) - 16 = (ka : Int) + kb - 126 := by omega
 have hs2 : a.sc + b.sc - 126 - (16 - 8 * (n : Int)) = (ka : Int) + kb - 126 := by omega
 have hs3 : 16 - 8 * (n : Int) - (a.sc + b.sc - 126) = -((ka : Int) + kb - 126) := by omega
 unfold prM
 rw [hs, hs2, hs3]
 generalize a.fr * b.fr = F at *
 by_cases h : 126 ≤ ka + kb
 ·obtain ⟨t, ht⟩ : ∃ t, ka + kb = t + 126 := ⟨ka + kb - 126, by omega⟩
  rw [if_pos (by omega), show ((ka : Int) + kb - 126).toNat = t by omega]
  have h1 : F * 2 ^ t = Ma * Mb := by
   rw [ht, Nat.pow_add, ← Nat.mul_assoc] at hprod
   exact Nat.eq_of_mul_eq_mul_right (two_pos 126) hprod
  exact ⟨h1, fun _ => rfl, fun h2 => by omega⟩
 ·obtain ⟨t, ht⟩ : ∃ t, ka + kb + t = 126 := ⟨126 - (ka + kb), by omega⟩
  rw [if_neg (by omega), show (-((ka : Int) + kb - 126)).toNat = t by omega]
  have h1 : F = Ma * Mb * 2 ^ t := by
   have e : (2 : Nat) ^ 126 = 2 ^ t * 2 ^ (ka + kb) := by rw [← Nat.pow_add]; exact pow_congr (by omega)
   rw [e, ← Nat.mul_assoc] at hprod
   exact Nat.eq_of_mul_eq_mul_right (two_pos (ka + kb)) hprod
  have h2 : F / 2 ^ t = Ma * Mb := by rw [h1]; exact Nat.mul_div_cancel _ (two_pos t)
  rw [h2]
  exact ⟨rfl, fun h3 => by omega, fun _ => h1⟩
def EX.exa (x : EX) (z u : Int) : Prop := x.kd = 1 ∧ ∀ e, e ≤ x.sc → (e - 127 ≤ u → x.val e = z * 2 ^ (u - (e - 127)).toNat) ∧ (u ≤ e - 127 → z = x.val e * 2 ^ (e - 127 - u).toNat)
theorem sumX_exa {x y : EX} {z w u : Int} (hx : x.exa z u) (hy : y.exa w u) : sumX x y = intX (z + w) u := by
 obtain ⟨kx, hx⟩ := hx
 obtain ⟨ky, hy⟩ := hy
 obtain ⟨x1, x2⟩ := hx (min x.sc y.sc) (by omega)
 obtain ⟨y1, y2⟩ := hy (min x.sc y.sc) (by omega)
 unfold sumX
 rw [if_neg (by omega), if_neg (by omega), if_neg (by omega)]
 generalize min x.sc y.sc = e at *
 by_cases h : e - 127 ≤ u
 ·rw [x1 h, y1 h, ← Int.add_mul, intX_shift]
  congr 1
  omega
 ·have h' : u ≤ e - 127 := by omega
  rw [x2 h', y2 h', ← Int.add_mul, intX_shift]
  congr 1
  omega
theorem natX_exa {g : Bool} {M N : Nat} {e0 u : Int} (hM : 0 < M) (hb : bl M ≤ 128) (b0 : -1099511627776 ≤ e0 + (bl M : Int) - 1) (b1 : e0 + (bl M : Int) - 1 ≤ 1099511627776) (h1 : u ≤ e0 → N = M * 2 ^ (e0 - u).toNat) (h2 : e0 < u → M = N * 2 ^ (u - e0).toNat) :
  (natX g M e0 false).exa (if g then -(N : Int) else (N : Int)) u ∧ natX g M e0 false = intX (if g then -(N : Int) else (N : Int)) u := by
 constructor
 ·unfold natX
  rw [if_neg (by omega)]
  refine ⟨rfl, fun e he => ?_⟩
  have hsc : heldI (e0 + (bl M : Int) - 1) = e0 + (bl M : Int) - 1 := by unfold heldI; rw [if_neg (by omega), if_neg (by omega)]
  simp only [hsc] at he
  have hv : (⟨1, g, heldI (e0 + (bl M : Int) - 1), mkV M, mkR M false⟩ : EX).val e = if g then -((M * 2 ^ (e0 + 127 - e).toNat : Nat) : Int) else ((M * 2 ^ (e0 + 127 - e).toNat : Nat) : Int) := by
   unfold EX.val mkV
   simp only [hsc, if_pos hb]
   rw [Nat.mul_assoc, ← Nat.pow_add, show 128 - bl M + (e0 + (bl M : Int) - 1 - e).toNat = (e0 + 127 - e).toNat by omega]
  rw [hv]
  have hM2 : e - 127 ≤ u → M * 2 ^ (e0 + 127 - e).toNat = N * 2 ^ (u - (e - 127)).toNat := by
   intro hu
   by_cases h : u ≤ e0
   ·rw [h1 h, Nat.mul_assoc, ← Nat.pow_add]
    congr 2
    omega
   ·rw [h2 (by omega), Nat.mul_assoc, ← Nat.pow_add]
    congr 2
    omega
  have hM3 : u ≤ e - 127 → N = M * 2 ^ (e0 + 127 - e).toNat * 2 ^ (e - 127 - u).toNat := by
   intro hu
   rw [h1 (by omega), Nat.mul_assoc, ← Nat.pow_add]
   congr 2
   omega
  refine ⟨fun hu => ?_, fun hu => ?_⟩
  ·rw [hM2 hu]
   cases g
   ·simp only [Bool.false_eq_true, if_false]
    rw [pow_cast, ← Int.natCast_mul]
   ·simp only [if_true]
    rw [pow_cast, Int.neg_mul, ← Int.natCast_mul]
  ·rw [hM3 hu]
   cases g
   ·simp only [Bool.false_eq_true, if_false]
    rw [pow_cast, ← Int.natCast_mul]
   ·simp only [if_true]
    rw [pow_cast, Int.neg_mul, ← Int.natCast_mul]
 ·rw [intX_nat]
  by_cases h : u ≤ e0
  ·rw [h1 h, natX_shift]
   congr 1
   omega
  ·rw [h2 (by omega), natX_shift]
   congr 1
   omega
theorem pr_real {n : Nat} {a b : NM} (h8 : 8 ≤ n) (hn : n ≤ 64) (ha : a.ok) (hb : b.ok) (ka : a.kd = 1) (kb : b.kd = 1) (la : ∃ M k : Nat, a.fr * 2 ^ k = M * 2 ^ 63 ∧ M ≤ 2 ^ (8 * n - 16) ∧ (k : Int) = a.sc + 4 * (n : Int) - 8) (lb : ∃ M k : Nat, b.fr * 2 ^ k = M * 2 ^ 63 ∧ M ≤ 2 ^ (8 * n - 16) ∧ (k : Int) = b.sc + 4 * (n : Int) - 8) :
  (prodX a b).exa (prI n a b) (16 - 8 * (n : Int)) ∧ prodX a b = intX (prI n a b) (16 - 8 * (n : Int)) ∧ prM n a b ≤ 2 ^ (16 * n - 32) := by
 obtain ⟨Ma, k1, a1, a2, a3⟩ := la
 obtain ⟨Mb, k2, b1, b2, b3⟩ := lb
 obtain ⟨e1, e2, e3⟩ := prM_lat h8 a1 b1 a3 b3
 rcases NM.cases ha with rfl | rfl | ⟨-, p1, p2, p3, p4⟩
 ·exact absurd ka (by decide)
 ·exact absurd ka (by decide)
 rcases NM.cases hb with rfl | rfl | ⟨-, q1, q2, q3, q4⟩
 ·exact absurd kb (by decide)
 ·exact absurd kb (by decide)
 have hle : prM n a b ≤ 2 ^ (16 * n - 32) := by
  rw [e1, show 16 * n - 32 = 8 * n - 16 + (8 * n - 16) by omega, Nat.pow_add]
  exact Nat.mul_le_mul a2 b2
 have h128 : a.fr * b.fr < 2 ^ 128 := by
  rw [p64] at p2 q2
  exact mul_lt128 p2 q2
 have hpos : 0 < a.fr * b.fr := Nat.mul_pos (Nat.lt_of_lt_of_le (two_pos 63) p1) (Nat.lt_of_lt_of_le (two_pos 63) q1)
 have hbl := bl_le_of_lt h128
 unfold prodX prI
 rw [if_neg (by omega), if_neg (by omega), if_pos ⟨ka, kb⟩]
 obtain ⟨h1, h2⟩ := natX_exa (g := a.ng != b.ng) (N := prM n a b) (e0 := a.sc + b.sc - 126) (u := 16 - 8 * (n : Int)) hpos hbl (by omega) (by omega) e2 e3
 exact ⟨h1, h2, hle⟩
theorem intX_zero (u : Int) : intX 0 u = EX.zero := by unfold intX; rw [Int.natAbs_zero, natX_zero]
theorem pr_any {n x y : Nat} (h8 : 8 ≤ n) (hn : n ≤ 64) (hx : x < 2 ^ n) (hy : y < 2 ^ n) (kx : (decN n x).kd ≠ 2) (ky : (decN n y).kd ≠ 2) :
  prodX (decN n x) (decN n y) = intX (prI n (decN n x) (decN n y)) (16 - 8 * (n : Int)) ∧ (prI n (decN n x) (decN n y)).natAbs ≤ 2 ^ (16 * n - 32) ∧
  ((prodX (decN n x) (decN n y) = EX.zero ∧ prI n (decN n x) (decN n y) = 0) ∨ (prodX (decN n x) (decN n y)).exa (prI n (decN n x) (decN n y)) (16 - 8 * (n : Int))) := by
 have ox := decN_ok h8 hn hx
 have oy := decN_ok h8 hn hy
 have cx : (decN n x).kd = 0 ∨ (decN n x).kd = 1 := by
  rcases NM.cases ox with h | h | h
  ·left; rw [h]
  ·rw [h] at kx; exact absurd rfl kx
  ·exact .inr h.1
 have cy : (decN n y).kd = 0 ∨ (decN n y).kd = 1 := by
  rcases NM.cases oy with h | h | h
  ·left; rw [h]
  ·rw [h] at ky; exact absurd rfl ky
  ·exact .inr h.1
 by_cases hr : (decN n x).kd = 1 ∧ (decN n y).kd = 1
 ·obtain ⟨h1, h2, h3⟩ := pr_real h8 hn ox oy hr.1 hr.2 (dec_lat h8 hn hx hr.1) (dec_lat h8 hn hy hr.2)
  refine ⟨h2, ?_, .inr h1⟩
  unfold prI
  rw [if_pos hr]
  split
  ·rw [Int.natAbs_neg, Int.natAbs_natCast]; exact h3
  ·rw [Int.natAbs_natCast]; exact h3
 ·have h0 : prodX (decN n x) (decN n y) = EX.zero := by
   unfold prodX
   rw [if_neg (by omega), if_pos (by omega)]
  have h1 : prI n (decN n x) (decN n y) = 0 := by unfold prI; rw [if_neg hr]
  rw [h0, h1, intX_zero]
  exact ⟨rfl, by simp, .inl ⟨rfl, rfl⟩⟩
theorem exa_neg {x : EX} {z u : Int} (h : x.exa z u) : x.neg.exa (-z) u := by
 obtain ⟨h1, h2⟩ := h
 refine ⟨(EX.neg_kd x).trans h1, fun e he => ?_⟩
 rw [EX.neg_sc] at he
 rw [EX.neg_val h1]
 obtain ⟨h3, h4⟩ := h2 e he
 refine ⟨fun h => ?_, fun h => ?_⟩
 ·rw [h3 h, Int.neg_mul]
 ·rw [Int.neg_mul, ← h4 h]
theorem sum_units {x y : EX} {z w u : Int} (ox : x.ok) (hx : (x = EX.zero ∧ z = 0) ∨ x.exa z u) (hy : (y = EX.zero ∧ w = 0) ∨ y.exa w u) (ex : x = intX z u) (ey : y = intX w u) : sumX x y = intX (z + w) u := by
 rcases hx with ⟨rfl, rfl⟩ | hx
 ·rcases hy with ⟨rfl, rfl⟩ | hy
  ·rw [sumX_zero_r ox, Int.zero_add]; exact ex
  ·rw [sumX_z1 (by rintro (h | h); exact absurd h (by decide); rw [hy.1] at h; exact absurd h (by decide)) rfl, Int.zero_add]
   exact ey
 ·rcases hy with ⟨rfl, rfl⟩ | hy
  ·rw [sumX_zero_r ox, Int.add_zero]; exact ex
  ·exact sumX_exa hx hy
theorem HW_pow {n : Nat} (hn : isW (n : Int) = true) : HW (n / 4) = 2 ^ (16 * n - 1) := by
 have hb := isW_cases hn
 have : n = 8 ∨ n = 16 ∨ n = 32 ∨ n = 64 := by omega
 rcases this with rfl | rfl | rfl | rfl <;> rw [HW_def, PW_two] <;> decide +kernel
end Go.Proofs.Ytgjhjgacojlbmaa.V
namespace Go.Proofs.Ytgjhjgacojlbmaa.V
open Go Go.RowKit Go.Proofs.Ytgjhjgacojlbmaa.Ab Go.Proofs.Ytgjhjgacojlbmaa.Fn
set_option linter.unusedVariables false
set_option linter.unusedSimpArgs false
def prdX (n x y : Nat) : EX := prodX (decN n x) (decN n y)
theorem prdX_ok (n x y : Nat) : (prdX n x y).ok := prodX_ok _ _
def fmaN (n x y z : Nat) : Nat := (sumX (prdX n x y) (decN n z).ex).rnd n
theorem prdX_neg {n x y : Nat} (h8 : 8 ≤ n) (hn : n ≤ 64) (hx : x < 2 ^ n) : prdX n (negP n x) y = (prdX n x y).neg := by
 unfold prdX
 rw [decN_neg (by omega) hx, prodX_neg (decN_ok h8 hn hx)]
theorem prdX_one {n x : Nat} (h : isW (n : Int) = true) (h8 : 8 ≤ n) (hn : n ≤ 64) (hx : x < 2 ^ n) : prdX n x (2 ^ (n - 2)) = (decN n x).ex := by
 unfold prdX
 rw [decN_one h, prodX_one (decN_ok h8 hn hx)]
theorem fuse_product_eq {n a b : Nat} (h : isW (n : Int) = true) (ha : a < 18446744073709551616) (hb : b < 18446744073709551616) : Ev (fun k => fuse_product.f k (n : Int) (a : Int) (b : Int)) ((prdX n (a % 2 ^ n) (b % 2 ^ n)).kd, (prdX n (a % 2 ^ n) (b % 2 ^ n)).ng, (prdX n (a % 2 ^ n) (b % 2 ^ n)).sc, TH (prdX n (a % 2 ^ n) (b % 2 ^ n)).V, TL (prdX n (a % 2 ^ n) (b % 2 ^ n)).V, (prdX n (a % 2 ^ n) (b % 2 ^ n)).R, none) := by
 obtain ⟨b64, b8⟩ := pow64 h
 have oa := decN_ok b8 b64 (Nat.mod_lt a (two_pos n))
 have ob := decN_ok b8 b64 (Nat.mod_lt b (two_pos n))
 unfold fuse_product.f
 refine Ev.bind (Decode_N h ha) ?_
 simp only [Option.isNone_none, if_true]
 exact Ev.bind (Decode_N h hb) (Ev.bind (prod_Exact_X oa ob) (Ev.now _))
theorem fuse_Fma_eq {n a b c : Nat} (h : isW (n : Int) = true) (ha : a < 18446744073709551616) (hb : b < 18446744073709551616) (hc : c < 18446744073709551616) : Ev (fun k => fuse_Fma.f k (n : Int) (a : Int) (b : Int) (c : Int)) (((fmaN n (a % 2 ^ n) (b % 2 ^ n) (c % 2 ^ n) : Nat) : Int), none) := by
 obtain ⟨b64, b8⟩ := pow64 h
 have oc := decN_ok b8 b64 (Nat.mod_lt c (two_pos n))
 have op := prdX_ok n (a % 2 ^ n) (b % 2 ^ n)
 unfold fuse_Fma.f
 refine Ev.bind (fuse_product_eq h ha hb) ?_
 simp only [Option.isNone_none, if_true]
 exact Ev.bind (Decode_N h hc) (Ev.bind (Of_X oc) (Ev.bind (broad_Sum_X op (NM.ex_ok oc)) (Ev.bind (Round_X h (sumX_ok op (NM.ex_ok oc))) (Ev.now _))))
theorem order_Abs_any {n a : Nat} (h : isW (n : Int) = true) (ha : a < 18446744073709551616) : ∃ x : Nat, x < 2 ^ n ∧ Ev (fun _ => order_Abs.f (n : Int) (a : Int)) ((x : Int), none) := by
 unfold order_Abs.f
 rw [shape_Rank_eq h ha]
 simp only [Option.bind_some]
 by_cases hr : rkN n (a % 2 ^ n) < 0
 ·refine ⟨_, Nat.mod_lt ((18446744073709551616 - a) % 18446744073709551616) (two_pos n), evn ?_⟩
  simp only [if_pos hr]
  rw [neg_wrap ha, shape_Fold_eq h (Nat.mod_lt _ (by decide))]
  rfl
 ·refine ⟨_, Nat.mod_lt a (two_pos n), evn ?_⟩
  simp only [if_neg hr]
  rw [shape_Fold_eq h ha]
  rfl
end Go.Proofs.Ytgjhjgacojlbmaa.V
namespace Go.Proofs.Ytgjhjgacojlbmaa.Pure
open Go Go.RowKit Go.Proofs.Ytgjhjgacojlbmaa.Ab Go.Proofs.Ytgjhjgacojlbmaa.Fn Go.Proofs.Ytgjhjgacojlbmaa.V
set_option linter.unusedVariables false
set_option linter.unusedSimpArgs false
def RD (n : Nat) (nar : Bool) (z : Int) : Nat := if nar = true then 2 ^ (n - 1) else (intX z (16 - 8 * (n : Int))).rnd n
theorem Round_any {n : Nat} {t z : Int} {nar : Bool} (hn : isW (n : Int) = true) (hb : z.natAbs ≤ 2 * 2 ^ (16 * n - 32)) : Ev (fun k => accum_Acc_Round.f k (n : Int) nar t (ws (enc (n / 4) z))) ((), (), ((RD n nar z : Nat) : Int)) := by
 have hh := HW_pow hn
 have hnb := isW_cases hn
 have h2 : 2 * 2 ^ (16 * n - 32) < 2 ^ (16 * n - 1) := by
  have : 2 * 2 ^ (16 * n - 32) = 2 ^ (16 * n - 31) := by rw [show 16 * n - 31 = 16 * n - 32 + 1 by omega, Nat.pow_succ, Nat.mul_comm]
  rw [this]
  exact pow_lt (by omega)
 rw [← hh] at h2
 unfold RD
 cases nar
 ·exact Round_z hn (by omega) (by omega)
 ·exact Round_nar hn
theorem neg_half {n : Nat} (h8 : 8 ≤ n) : negP n (2 ^ (n - 1)) = 2 ^ (n - 1) := by
 have hp := two_pos (n - 1)
 have hd : 2 ^ n = 2 * 2 ^ (n - 1) := by rw [show n = n - 1 + 1 by omega, Nat.pow_succ, Nat.add_sub_cancel, Nat.mul_comm]
 unfold negP
 rw [if_neg (by omega), hd]
 omega
theorem one_mod {n : Nat} (h8 : 8 ≤ n) : 2 ^ (n - 2) % 2 ^ n = 2 ^ (n - 2) := Nat.mod_eq_of_lt (pow_lt (by omega))
theorem one_kd {n : Nat} (hn : isW (n : Int) = true) : (decN n (2 ^ (n - 2))).kd ≠ 2 := by rw [decN_one hn]; decide
theorem pat_units {n c : Nat} (hn : isW (n : Int) = true) (hc : c < 2 ^ n) (kc : (decN n c).kd ≠ 2) :
  (decN n c).ex = intX (prI n (decN n c) (decN n (2 ^ (n - 2)))) (16 - 8 * (n : Int)) ∧ (prI n (decN n c) (decN n (2 ^ (n - 2)))).natAbs ≤ 2 ^ (16 * n - 32) ∧
  (((decN n c).ex = EX.zero ∧ prI n (decN n c) (decN n (2 ^ (n - 2))) = 0) ∨ (decN n c).ex.exa (prI n (decN n c) (decN n (2 ^ (n - 2)))) (16 - 8 * (n : Int))) := by
 obtain ⟨b64, b8⟩ := pow64 hn
 have := pr_any (x := c) (y := 2 ^ (n - 2)) b8 b64 hc (pow_lt (by omega)) kc (one_kd hn)
 have e : prodX (decN n c) (decN n (2 ^ (n - 2))) = (decN n c).ex := prdX_one hn b8 b64 hc
 rw [e] at this
 exact this
theorem own_reads {n c : Nat} (hn : isW (n : Int) = true) (hc : c < 2 ^ n) : (depS n false 0 (decN n (c % 2 ^ n)) (decN n (2 ^ (n - 2) % 2 ^ n)) false).2.natAbs ≤ 2 * 2 ^ (16 * n - 32) ∧
  RD n (depS n false 0 (decN n (c % 2 ^ n)) (decN n (2 ^ (n - 2) % 2 ^ n)) false).1 (depS n false 0 (decN n (c % 2 ^ n)) (decN n (2 ^ (n - 2) % 2 ^ n)) false).2 = c := by
 obtain ⟨b64, b8⟩ := pow64 hn
 rw [Nat.mod_eq_of_lt hc, one_mod b8]
 have k1 := one_kd hn
 by_cases kc : (decN n c).kd = 2
 ·have hd : depS n false 0 (decN n c) (decN n (2 ^ (n - 2))) false = (true, 0) := by unfold depS; rw [if_pos (.inr (.inl kc))]
  rw [hd]
  refine ⟨by simp, ?_⟩
  unfold RD
  rw [if_pos rfl]
  by_cases h : c = 2 ^ (n - 1)
  ·exact h.symm
  ·exact absurd kc (decN_kd h)
 ·have hd : depS n false 0 (decN n c) (decN n (2 ^ (n - 2))) false = (false, 0 + prI n (decN n c) (decN n (2 ^ (n - 2)))) := by
   unfold depS
   rw [if_neg (by simp [kc, k1])]
   rfl
  rw [hd]
  obtain ⟨h1, h2, -⟩ := pat_units hn hc kc
  simp only [Int.zero_add]
  refine ⟨by omega, ?_⟩
  unfold RD
  rw [if_neg (by decide), ← h1]
  exact dec_rnd b8 b64 hc
theorem once_reads {n a b : Nat} {take : Bool} (hn : isW (n : Int) = true) (ha : a < 2 ^ n) (hb : b < 2 ^ n) (nar : Bool) (z : Int)
  (hnar : nar = decide ((decN n a).kd = 2 ∨ (decN n b).kd = 2)) (hz : z = if nar = true then 0 else if take = true then -(prI n (decN n a) (decN n b)) else prI n (decN n a) (decN n b)) :
  z.natAbs ≤ 2 * 2 ^ (16 * n - 32) ∧ RD n nar z = (if take = true then negP n (mulN n a b) else mulN n a b) ∧
  ∀ c, c < 2 ^ n → (depS n nar z (decN n c) (decN n (2 ^ (n - 2))) false).2.natAbs ≤ 2 * 2 ^ (16 * n - 32) ∧
   RD n (depS n nar z (decN n c) (decN n (2 ^ (n - 2))) false).1 (depS n nar z (decN n c) (decN n (2 ^ (n - 2))) false).2 = fmaN n (if take = true then negP n a else a) b c := by
 obtain ⟨b64, b8⟩ := pow64 hn
 have k1 := one_kd hn
 have hX : prdX n (if take = true then negP n a else a) b = if take = true then (prdX n a b).neg else prdX n a b := by
  cases take
  ·rfl
  ·exact prdX_neg b8 b64 ha
 by_cases hk : (decN n a).kd = 2 ∨ (decN n b).kd = 2
 ·rw [decide_eq_true hk] at hnar
  subst hnar
  rw [if_pos rfl] at hz
  subst hz
  have hp : prdX n a b = EX.nar := by unfold prdX prodX; rw [if_pos hk]
  have hp' : prdX n (if take = true then negP n a else a) b = EX.nar := by
   rw [hX, hp]
   cases take <;> rfl
  refine ⟨by simp, ?_, fun c hc => ?_⟩
  ·have hm : mulN n a b = 2 ^ (n - 1) := by
    show (prdX n a b).rnd n = _
    rw [hp, EX.rnd_nar]
   rw [hm, neg_half b8]
   unfold RD
   cases take <;> rfl
  ·have hd : depS n true 0 (decN n c) (decN n (2 ^ (n - 2))) false = (true, 0) := by unfold depS; rw [if_pos (.inl rfl)]
   rw [hd]
   refine ⟨by simp, ?_⟩
   unfold fmaN
   rw [hp', sumX_nar (.inl rfl), EX.rnd_nar]
   rfl
 ·rw [decide_eq_false hk] at hnar
  subst hnar
  rw [if_neg (by decide)] at hz
  obtain ⟨p1, p2, p3⟩ := pr_any b8 b64 ha hb (fun h => hk (.inl h)) (fun h => hk (.inr h))
  have hzb : z.natAbs ≤ 2 ^ (16 * n - 32) := by
   rw [hz]
   split
   ·rw [Int.natAbs_neg]; exact p2
   ·exact p2
  have hXz : prdX n (if take = true then negP n a else a) b = intX z (16 - 8 * (n : Int)) ∧ ((prdX n (if take = true then negP n a else a) b = EX.zero ∧ z = 0) ∨ (prdX n (if take = true then negP n a else a) b).exa z (16 - 8 * (n : Int))) := by
   rw [hX, hz]
   have e : prdX n a b = prodX (decN n a) (decN n b) := rfl
   cases take
   ·simp only [Bool.false_eq_true, if_false]
    exact ⟨p1, p3⟩
   ·simp only [if_true]
    rw [intX_neg, ← p1, e]
    refine ⟨rfl, ?_⟩
    rcases p3 with ⟨q1, q2⟩ | q
    ·left; rw [q1, q2]; exact ⟨rfl, rfl⟩
    ·exact .inr (exa_neg q)
  have hok := prdX_ok n (if take = true then negP n a else a) b
  refine ⟨by omega, ?_, fun c hc => ?_⟩
  ·unfold RD
   rw [if_neg (by decide), ← hXz.1, hX]
   cases take
   ·rfl
   ·simp only [if_true]
    exact EX.rnd_neg b8 b64 (prdX_ok n a b)
  ·by_cases kc : (decN n c).kd = 2
   ·have hd : depS n false z (decN n c) (decN n (2 ^ (n - 2))) false = (true, 0) := by unfold depS; rw [if_pos (.inr (.inl kc))]
    rw [hd]
    refine ⟨by simp, ?_⟩
    unfold fmaN
    rw [sumX_nar (.inr kc), EX.rnd_nar]
    rfl
   ·have hd : depS n false z (decN n c) (decN n (2 ^ (n - 2))) false = (false, z + prI n (decN n c) (decN n (2 ^ (n - 2)))) := by
     unfold depS
     rw [if_neg (by simp [kc, k1])]
     rfl
    rw [hd]
    obtain ⟨c1, c2, c3⟩ := pat_units hn hc kc
    refine ⟨by show (z + _).natAbs ≤ _; omega, ?_⟩
    unfold RD fmaN
    rw [sum_units hok hXz.2 c3 hXz.1 c1]
    exact if_neg Bool.false_ne_true
theorem once_j0 {n a b c p : Nat} {take nar : Bool} {z : Int} (hn : isW (n : Int) = true) (ha : a < 18446744073709551616) (hb : b < 18446744073709551616) (hc : c < 18446744073709551616)
  (hnar : nar = decide ((decN n (a % 2 ^ n)).kd = 2 ∨ (decN n (b % 2 ^ n)).kd = 2)) (hz : z = if nar = true then 0 else if take = true then -(prI n (decN n (a % 2 ^ n)) (decN n (b % 2 ^ n))) else prI n (decN n (a % 2 ^ n)) (decN n (b % 2 ^ n)))
  (hp : p = if take = true then negP n (mulN n (a % 2 ^ n) (b % 2 ^ n)) else mulN n (a % 2 ^ n) (b % 2 ^ n)) :
  Ev (fun k => vernierlaw15_AccumOnce.j0 k (c : Int) true (n : Int) (p : Int) none (a : Int) (b : Int) take (n : Int) nar ((1 : Nat) : Int) (ws (enc (n / 4) z)) (n : Int) false 0 (ws 0)) true := by
 obtain ⟨b64, b8⟩ := pow64 hn
 have hl : 2 ^ (n - 2) < 18446744073709551616 := by rw [← p64]; exact pow_lt (by omega)
 have pa := Nat.mod_lt a (two_pos n)
 have pb := Nat.mod_lt b (two_pos n)
 have pc := Nat.mod_lt c (two_pos n)
 obtain ⟨r1, r2, r3⟩ := once_reads (take := take) hn pa pb nar z hnar hz
 obtain ⟨r4, r5⟩ := r3 _ pc
 have hzn : nar = true → z = 0 := fun h => by rw [hz, if_pos h]
 have hx := deposit_eq (t := ((1 : Nat) : Int)) (take := false) hn (by decide) (by decide) hc hl hzn
 obtain ⟨own, o1, o2⟩ := order_Abs_any hn hc
 obtain ⟨o3, o4⟩ := own_reads hn o1
 have ho64 : own < 18446744073709551616 := Nat.lt_of_lt_of_le o1 (by rw [← p64]; exact pow_le b64)
 have hy := deposit_eq (t := 0) (z := 0) (nar := false) (take := false) hn (by decide) (by decide) ho64 hl (fun _ => rfl)
 rw [enc_zero] at hy
 rw [one_mod b8] at hx
 have h1 := Round_any (t := ((1 : Nat) : Int)) (nar := nar) hn r1
 have h2 := Round_any (t := (0 : Int) + 1) (nar := (depS n false 0 (decN n (own % 2 ^ n)) (decN n (2 ^ (n - 2) % 2 ^ n)) false).1) hn o3
 have h3 := Round_any (t := ((1 : Nat) : Int) + 1) (nar := (depS n nar z (decN n (c % 2 ^ n)) (decN n (2 ^ (n - 2))) false).1) hn r4
 rw [r2, ← hp] at h1
 rw [o4] at h2
 rw [r5] at h3
 refine evs ?_
 simp only [vernierlaw15_AccumOnce.j0]
 refine Ev.bind h1 ?_
 refine Ev.bind o2 ?_
 refine Ev.bind (Add_of hn hy) ?_
 refine Ev.bind h2 ?_
 refine Ev.bind (Add_of hn hx) ?_
 cases take
 ·simp only [Bool.false_eq_true, if_false]
  refine Ev.bind (fuse_Fma_eq hn ha hb hc) ?_
  simp only [Option.isNone_none, if_true]
  refine Ev.bind h3 ?_
  simp only [Bool.false_eq_true, if_false, beq_self_eq_true]
  exact Ev.now _
 ·simp only [if_true]
  refine Ev.bind (order_Neg_eq hn ha) ?_
  have hng : negP n (a % 2 ^ n) < 2 ^ n := negP_lt pa
  have hn64 : negP n (a % 2 ^ n) < 18446744073709551616 := Nat.lt_of_lt_of_le hng (by rw [← p64]; exact pow_le b64)
  simp only [Option.isNone_none, if_true]
  have hf := fuse_Fma_eq (a := negP n (a % 2 ^ n)) hn hn64 hb hc
  rw [Nat.mod_eq_of_lt hng] at hf
  refine Ev.bind hf ?_
  simp only [Option.isNone_none, if_true]
  refine Ev.bind h3 ?_
  simp only [if_true, beq_self_eq_true]
  exact Ev.now _
theorem AccumOnce : vernierlaw15_AccumOnce.Pure := by
 intro a0 a b take c w0 w1 w2 w3
 obtain ⟨g0, g1⟩ := wf_i64 w0
 obtain ⟨a, rfl, ha⟩ := u64_nat w1
 obtain ⟨b, rfl, hb⟩ := u64_nat w2
 obtain ⟨c, rfl, hc⟩ := u64_nat w3
 refine Ev.rounds (g := fun k => vernierlaw15_AccumOnce.f k a0 (a : Int) (b : Int) take (c : Int)) ?_
 obtain ⟨n, hn, hwd⟩ := width15_eq g0 g1
 obtain ⟨b64, b8⟩ := pow64 hn
 have hw : ∀ x ∈ [((a : Int), ((b : Int), take))], CT.wf [.int .u64, .int .u64, .bool] x := by
  intro x hx
  rw [List.mem_singleton] at hx
  subst hx
  refine ⟨⟨?_, ?_⟩, ⟨?_, ?_⟩, trivial⟩ <;> simp only [kLo, kHi] <;> omega
 have hp := puts_eq (picks := []) hn hw ⟨by simp, by simp⟩ (by simp) (by simp)
 rw [List.length_singleton] at hp
 have hnar : narL n [((a : Int), ((b : Int), take))] = decide ((decN n (a % 2 ^ n)).kd = 2 ∨ (decN n (b % 2 ^ n)).kd = 2) := by
  unfold narL narL tmNar
  simp only [Int.toNat_natCast, Bool.or_false]
 have hz : finZ n false 0 [((a : Int), ((b : Int), take))] = if narL n [((a : Int), ((b : Int), take))] = true then 0 else if take = true then -(prI n (decN n (a % 2 ^ n)) (decN n (b % 2 ^ n))) else prI n (decN n (a % 2 ^ n)) (decN n (b % 2 ^ n)) := by
  unfold finZ finN
  rw [Bool.false_or]
  split
  ·rfl
  ·unfold sumL sumL tmVal
   simp only [Int.toNat_natCast, Int.add_zero, Int.zero_add]
 generalize narL n [((a : Int), ((b : Int), take))] = nar at *
 generalize finZ n false 0 [((a : Int), ((b : Int), take))] = z at *
 have main := fun p hp => once_j0 (c := c) (p := p) (take := take) hn ha hb hc hnar hz hp
 have hm := mulN_lt (x := a % 2 ^ n) (y := b % 2 ^ n) b8 b64
 unfold vernierlaw15_AccumOnce.f
 refine Ev.bind up15 ?_
 refine Ev.bind hwd ?_
 refine Ev.bind hp ?_
 simp only [if_true]
 refine Ev.bind (New_eq hn) ?_
 simp only [if_true, Option.isNone_none]
 refine Ev.bind (prod_Mul_eq hn ha hb) ?_
 cases take
 ·simp only [Bool.false_eq_true, if_false]
  exact main _ (by simp)
 ·simp only [if_true]
  have hm64 : mulN n (a % 2 ^ n) (b % 2 ^ n) < 18446744073709551616 := Nat.lt_of_lt_of_le hm (by rw [← p64]; exact pow_le b64)
  have hng := order_Neg_eq hn hm64
  rw [Nat.mod_eq_of_lt hm] at hng
  refine Ev.bind hng ?_
  simp only [Option.isNone_none, if_true]
  exact main _ (by simp)
end Go.Proofs.Ytgjhjgacojlbmaa.Pure
