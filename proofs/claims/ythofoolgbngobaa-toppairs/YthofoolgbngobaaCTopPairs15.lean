-- Written by a program of this session out of its own texts (wip/tools/link.py).
import Derived.Below
import Derived.ChangeKeysEq
import Derived.Deep.MidRow
import Derived.Deep.RegionHeld3
import Derived.Great.BuildSlice
import Derived.IntWalk
import Derived.KernelRfl
import Derived.LaidEql
import Derived.Laws.Bits64
import Derived.Laws.BitsLemmas
import Derived.Laws.BytesArg
import Derived.Laws.IdiomCopy
import Derived.Laws.OwnMore
import Derived.Laws.Rows
import Derived.Laws.Slices
import Derived.Laws.Strings
import Derived.Laws.StructEq
import Derived.Laws.Tables
import Derived.Lib.BitFns
import Derived.Lib.Mul64
import Derived.Lib.Slices
import Derived.Lib.Small
import Derived.Lib.Strings
import Derived.Lib.Walk
import Derived.Maps.AppendAt
import Derived.OrdersHeld
import Derived.RowKit
import Derived.Scope
import Derived.Shelf.Spec.BitsCarry
import Derived.Test.YthofoolgbngobaaProg
import Derived.Test.YthofoolgbngobaaCTopPairs9
import Derived.Test.YthofoolgbngobaaCTopPairs10
import Derived.Test.YthofoolgbngobaaCTopPairs13
import Derived.Test.YthofoolgbngobaaCTopPairs14
namespace Go.Proofs.Ythofoolgbngobaa.V
open Go Go.RowKit Go.Proofs.Ythofoolgbngobaa.Ab Go.Proofs.Ythofoolgbngobaa.Fn
set_option linter.unusedVariables false
set_option linter.unusedSimpArgs false
theorem beq_dec (a b : Int) : (a == b) = decide (a = b) := by by_cases h : a = b <;> simp [h]
theorem mask32 (a : Nat) (ha : a < 18446744073709551616) : Go.bits .and .u64 (a : Int) 4294967295 = ((a % 4294967296 : Nat) : Int) := and_mask a 32 ha (by decide)
theorem div32 (a : Nat) : (a : Int) / 4294967296 = ((a / 4294967296 : Nat) : Int) := by omega
theorem mulC (a b : Nat) : (a : Int) * (b : Int) = ((a * b : Nat) : Int) := (Int.natCast_mul a b).symm
theorem addC (a b : Nat) : (a : Int) + (b : Int) = ((a + b : Nat) : Int) := (Int.natCast_add a b).symm
theorem wrapN (a : Nat) (ha : a < 18446744073709551616) : IntKind.u64.wrap (a : Int) = (a : Int) := u64_of (by omega) (by omega)
theorem bits_Mul64_eq {x y : Nat} (hx : x < 18446744073709551616) (hy : y < 18446744073709551616) : bits_Mul64.f (x : Int) (y : Int) = some (TH (x * y), TL (x * y)) := by
 obtain ⟨bd, bt, bw, hhi⟩ := Lib.mul64_hi x y hx hy
 have ba := Lib.half_mul_le (a := x / 4294967296) (b := y / 4294967296) (by omega) (by omega)
 have bb := Lib.half_mul_le (a := x / 4294967296) (b := y % 4294967296) (by omega) (by omega)
 have bc := Lib.half_mul_le (a := x % 4294967296) (b := y / 4294967296) (by omega) (by omega)
 have ba' : x / 4294967296 * (y / 4294967296) < 18446744073709551616 := by omega
 have bb' : x / 4294967296 * (y % 4294967296) < 18446744073709551616 := by omega
 have bc' : x % 4294967296 * (y / 4294967296) < 18446744073709551616 := by omega
 have bh1 : x / 4294967296 * (y / 4294967296) + (x / 4294967296 * (y % 4294967296) + x % 4294967296 * (y % 4294967296) / 4294967296) / 4294967296 < 18446744073709551616 := by omega
 have bh : x / 4294967296 * (y / 4294967296) + (x / 4294967296 * (y % 4294967296) + x % 4294967296 * (y % 4294967296) / 4294967296) / 4294967296 + ((x / 4294967296 * (y % 4294967296) + x % 4294967296 * (y % 4294967296) / 4294967296) % 4294967296 + x % 4294967296 * (y / 4294967296)) / 4294967296 < 18446744073709551616 := by omega
 unfold bits_Mul64.f
 simp only [mask32 x hx, mask32 y hy, div32, mulC, addC, wrapN _ bd, wrapN _ bb', wrapN _ bt, mask32 _ bt, wrapN _ bc', wrapN _ bw, wrapN _ ba', wrapN _ bh1, wrapN _ bh, u64_nat_wrap (x * y)]
 rw [hhi]
 rfl
theorem twin_Mul_eq {x y : Nat} (hx : x < 18446744073709551616) (hy : y < 18446744073709551616) : twin_Mul.f (x : Int) (y : Int) = some (TH (x * y), TL (x * y)) := by
 unfold twin_Mul.f
 rw [bits_Mul64_eq hx hy]; rfl
theorem mul_lt128 {x y : Nat} (hx : x < 18446744073709551616) (hy : y < 18446744073709551616) : x * y < 2 ^ 128 := by
 have := Nat.mul_le_mul (show x ≤ 18446744073709551615 by omega) (show y ≤ 18446744073709551615 by omega)
 rw [p128]
 omega
def prodE (kd : Int) (ng : Bool) (sc : Int) (fr : Nat) (kd' : Int) (ng' : Bool) (sc' : Int) (fr' : Nat) : Int × Bool × Int × Int × Int × Bool :=
 if kd = 2 ∨ kd' = 2 then (2, false, 0, 0, 0, false) else if kd = 0 ∨ kd' = 0 then (0, false, 0, 0, 0, false)
 else exactE (ng != ng') (fr * fr') (sc + sc' - 126) false
theorem soundN_cases {kd sc fr : Int} {ng : Bool} (h : soundN kd ng sc fr = true) : (kd = 0 ∧ ng = false ∧ sc = 0 ∧ fr = 0) ∨ (kd = 2 ∧ ng = false ∧ sc = 0 ∧ fr = 0) ∨ (kd = 1 ∧ 9223372036854775808 ≤ fr ∧ -1073741824 ≤ sc ∧ sc ≤ 1073741824) := by
 unfold soundN at h
 split at h
 ·rename_i hk
  have : ng = false ∧ sc = 0 ∧ fr = 0 := by simpa using h
  rcases hk with hk | hk
  ·exact .inl ⟨hk, this⟩
  ·exact .inr (.inl ⟨hk, this⟩)
 ·exact .inr (.inr (of_decide_eq_true h))
theorem makeV_exactE {ng R : Bool} {V : Nat} {e : Int} (hV : V < 2 ^ 128) (h0 : -4398046511104 ≤ e) (h1 : e ≤ 4398046511104) :
  makeV ng V e R = ((exactE ng V e R).1, (exactE ng V e R).2.1, (exactE ng V e R).2.2.1, (exactE ng V e R).2.2.2.1, (exactE ng V e R).2.2.2.2.1, (exactE ng V e R).2.2.2.2.2, none) := by
 unfold makeV exactE
 by_cases hz : V = 0
 ·rw [if_pos hz, if_pos hz]
 ·rw [if_neg hz, if_neg hz]
  have hb := bl_le_of_lt hV
  have hr : mkR V R = R := by unfold mkR; rw [show bl V - 128 = 0 by omega, Nat.pow_zero, Nat.mod_one]; simp
  have hf : farI e = e := by unfold farI; rw [if_neg (by omega), if_neg (by omega)]
  rw [hr, hf]
theorem prod_Exact_eq (kd : Int) (ng : Bool) (sc : Int) (fr : Nat) (kd' : Int) (ng' : Bool) (sc' : Int) (fr' : Nat) (hf : fr < 18446744073709551616) (hf' : fr' < 18446744073709551616) :
  Ev (fun k => prod_Exact.f k kd ng sc (fr : Int) kd' ng' sc' (fr' : Int)) (if soundN kd ng sc fr = true ∧ soundN kd' ng' sc' fr' = true then
   ((prodE kd ng sc fr kd' ng' sc' fr').1, (prodE kd ng sc fr kd' ng' sc' fr').2.1, (prodE kd ng sc fr kd' ng' sc' fr').2.2.1, (prodE kd ng sc fr kd' ng' sc' fr').2.2.2.1, (prodE kd ng sc fr kd' ng' sc' fr').2.2.2.2.1, (prodE kd ng sc fr kd' ng' sc' fr').2.2.2.2.2, none)
   else (0, false, 0, 0, 0, false, some 1)) := by
 unfold prod_Exact.f
 refine Ev.bind (round_Of_eq kd ng sc fr (by omega) (by omega)) ?_
 by_cases h1 : soundN kd ng sc fr = true
 ·simp only [h1, if_true, Option.isNone_none, true_and]
  refine Ev.bind (round_Of_eq kd' ng' sc' fr' (by omega) (by omega)) ?_
  by_cases h2 : soundN kd' ng' sc' fr' = true
  ·simp only [h2, if_true, Option.isNone_none]
   have c1 := soundN_cases h1
   have c2 := soundN_cases h2
   have j1 : Ev (fun k => prod_Exact.j0 k (decide (kd = 2 ∨ kd' = 2)) kd ng sc (fr : Int) kd' ng' sc' (fr' : Int)) ((prodE kd ng sc fr kd' ng' sc' fr').1, (prodE kd ng sc fr kd' ng' sc' fr').2.1, (prodE kd ng sc fr kd' ng' sc' fr').2.2.1, (prodE kd ng sc fr kd' ng' sc' fr').2.2.2.1, (prodE kd ng sc fr kd' ng' sc' fr').2.2.2.2.1, (prodE kd ng sc fr kd' ng' sc' fr').2.2.2.2.2, none) := by
    refine evs ?_
    simp only [prod_Exact.j0]
    unfold prodE
    by_cases hk : kd = 2 ∨ kd' = 2
    ·simp only [if_pos hk, decide_eq_true hk, if_true]
     exact Ev.now _
    ·simp only [if_neg hk, decide_eq_false hk, Bool.false_eq_true, if_false]
     have j2 : Ev (fun k => prod_Exact.j1 k (decide (kd = 0 ∨ kd' = 0)) ng sc (fr : Int) ng' sc' (fr' : Int)) (if kd = 0 ∨ kd' = 0 then (0, false, 0, 0, 0, false, none) else makeV (ng != ng') (fr * fr') (sc + sc' - 126) false) := by
      refine evs ?_
      simp only [prod_Exact.j1]
      by_cases h0 : kd = 0 ∨ kd' = 0
      ·simp only [if_pos h0, decide_eq_true h0, if_true]
       exact Ev.now _
      ·simp only [if_neg h0, decide_eq_false h0, Bool.false_eq_true, if_false]
       have ew : wrap64 (wrap64 (sc + sc') - 126) = sc + sc' - 126 := by
        rw [w64 (n := sc + sc') (by omega) (by omega), w64 (by omega) (by omega)]
       rw [ew, twin_Mul_eq hf hf']
       simp only [Option.bind_some]
       have := round_Make_eq (ng != ng') (fr * fr') (sc + sc' - 126) false (mul_lt128 hf hf')
       simp only [Bool.false_eq_true, false_and, if_false] at this
       refine Ev.bind this ?_
       exact Ev.now _
     have key : ((if kd = 0 ∨ kd' = 0 then (0, false, 0, 0, 0, false, none) else makeV (ng != ng') (fr * fr') (sc + sc' - 126) false) : Int × Bool × Int × Int × Int × Bool × Option Int) = ((if kd = 0 ∨ kd' = 0 then (0, false, 0, 0, 0, false) else exactE (ng != ng') (fr * fr') (sc + sc' - 126) false).1, (if kd = 0 ∨ kd' = 0 then (0, false, 0, 0, 0, false) else exactE (ng != ng') (fr * fr') (sc + sc' - 126) false).2.1, (if kd = 0 ∨ kd' = 0 then (0, false, 0, 0, 0, false) else exactE (ng != ng') (fr * fr') (sc + sc' - 126) false).2.2.1, (if kd = 0 ∨ kd' = 0 then (0, false, 0, 0, 0, false) else exactE (ng != ng') (fr * fr') (sc + sc' - 126) false).2.2.2.1, (if kd = 0 ∨ kd' = 0 then (0, false, 0, 0, 0, false) else exactE (ng != ng') (fr * fr') (sc + sc' - 126) false).2.2.2.2.1, (if kd = 0 ∨ kd' = 0 then (0, false, 0, 0, 0, false) else exactE (ng != ng') (fr * fr') (sc + sc' - 126) false).2.2.2.2.2, none) := by
      by_cases h0 : kd = 0 ∨ kd' = 0
      ·simp only [if_pos h0]
      ·simp only [if_neg h0]
       exact makeV_exactE (mul_lt128 hf hf') (by omega) (by omega)
     rw [← key]
     by_cases hk0 : kd = 0
     ·have hd : (kd == 0) = decide (kd = 0 ∨ kd' = 0) := by rw [decide_eq_true (.inl hk0)]; simp [hk0]
      simp only [if_pos hk0, hd]
      exact j2
     ·have hd : (kd' == 0) = decide (kd = 0 ∨ kd' = 0) := by rw [beq_dec]; simp [hk0]
      simp only [if_neg hk0, hd]
      exact j2
   by_cases hk2 : kd = 2
   ·have hd : (kd == 2) = decide (kd = 2 ∨ kd' = 2) := by simp [hk2]
    simp only [if_pos hk2, hd]
    exact j1
   ·have hd : (kd' == 2) = decide (kd = 2 ∨ kd' = 2) := by rw [beq_dec]; simp [hk2]
    simp only [if_neg hk2, hd]
    exact j1
  ·simp only [if_neg h2]
   exact Ev.now _
 ·simp only [if_neg h1, if_neg (show ¬ (soundN kd ng sc fr = true ∧ soundN kd' ng' sc' fr' = true) from fun h => h1 h.1)]
  exact Ev.now _
def prodX (a b : NM) : EX := if a.kd = 2 ∨ b.kd = 2 then EX.nar else if a.kd = 0 ∨ b.kd = 0 then EX.zero else natX (a.ng != b.ng) (a.fr * b.fr) (a.sc + b.sc - 126) false
theorem prodX_ok (a b : NM) : (prodX a b).ok := by
 unfold prodX
 split
 ·exact .inr (.inl rfl)
 ·split
  ·exact .inl rfl
  ·exact natX_ok _ _ _ _
theorem prodE_X (a b : NM) : prodE a.kd a.ng a.sc a.fr b.kd b.ng b.sc b.fr = ((prodX a b).kd, (prodX a b).ng, (prodX a b).sc, TH (prodX a b).V, TL (prodX a b).V, (prodX a b).R) := by
 unfold prodE prodX
 by_cases h2 : a.kd = 2 ∨ b.kd = 2
 ·rw [if_pos h2, if_pos h2]; rfl
 ·rw [if_neg h2, if_neg h2]
  by_cases h0 : a.kd = 0 ∨ b.kd = 0
  ·rw [if_pos h0, if_pos h0]; rfl
  ·rw [if_neg h0, if_neg h0, exactE_natX]
theorem prod_Exact_X {a b : NM} (ha : a.ok) (hb : b.ok) : Ev (fun k => prod_Exact.f k a.kd a.ng a.sc (a.fr : Int) b.kd b.ng b.sc (b.fr : Int)) ((prodX a b).kd, (prodX a b).ng, (prodX a b).sc, TH (prodX a b).V, TL (prodX a b).V, (prodX a b).R, none) := by
 have := prod_Exact_eq a.kd a.ng a.sc a.fr b.kd b.ng b.sc b.fr ha.2 hb.2
 rw [if_pos ⟨ha.1, hb.1⟩, prodE_X] at this
 exact this
def mulN (n x y : Nat) : Nat := (prodX (decN n x) (decN n y)).rnd n
theorem prod_Mul_eq {n a b : Nat} (h : isW (n : Int) = true) (ha : a < 18446744073709551616) (hb : b < 18446744073709551616) : Ev (fun k => prod_Mul.f k (n : Int) (a : Int) (b : Int)) (((mulN n (a % 2 ^ n) (b % 2 ^ n) : Nat) : Int), none) := by
 obtain ⟨b64, b8⟩ := pow64 h
 unfold prod_Mul.f
 refine Ev.bind (Decode_N h ha) ?_
 simp only [Option.isNone_none, if_true]
 refine Ev.bind (Decode_N h hb) ?_
 refine Ev.bind (prod_Exact_X (decN_ok b8 b64 (Nat.mod_lt a (two_pos n))) (decN_ok b8 b64 (Nat.mod_lt b (two_pos n)))) ?_
 refine Ev.bind (Round_X h (prodX_ok _ _)) ?_
 exact Ev.now _
end Go.Proofs.Ythofoolgbngobaa.V
namespace Go.Proofs.Ythofoolgbngobaa.V
open Go Go.RowKit Go.Proofs.Ythofoolgbngobaa.Ab
theorem prodX_neg {a : NM} (ha : a.ok) (b : NM) : prodX a.neg b = (prodX a b).neg := by
 rcases NM.cases ha with rfl | rfl | ⟨h, h2, h3, h4, h5⟩
 ·rw [show (⟨0, false, 0, 0⟩ : NM).neg = ⟨0, false, 0, 0⟩ from rfl]
  unfold prodX
  split
  ·rfl
  ·rw [if_pos (.inl rfl)]; rfl
 ·rw [show (⟨2, false, 0, 0⟩ : NM).neg = ⟨2, false, 0, 0⟩ from rfl]
  unfold prodX
  rw [if_pos (.inl rfl)]; rfl
 ·unfold NM.neg
  rw [if_pos h]
  unfold prodX
  simp only
  by_cases h2 : a.kd = 2 ∨ b.kd = 2
  ·rw [if_pos h2, if_pos h2]; rfl
  ·rw [if_neg h2, if_neg h2]
   by_cases h0 : a.kd = 0 ∨ b.kd = 0
   ·rw [if_pos h0, if_pos h0]; rfl
   ·rw [if_neg h0, if_neg h0, ← natX_neg]
    congr 1
    cases a.ng <;> cases b.ng <;> rfl
theorem bl63 {f : Nat} (h : 2 ^ 63 ≤ f) (h2 : f < 2 ^ 64) : bl f = 64 := bl_unique (by decide) h h2
theorem prodX_one {a : NM} (ha : a.ok) : prodX a oneN = a.ex := by
 rcases NM.cases ha with rfl | rfl | ⟨h1, h2, h3, h4, h5⟩
 ·rfl
 ·rfl
 ·unfold prodX
  rw [if_neg (by unfold oneN; simp only; omega), if_neg (by unfold oneN; simp only; omega)]
  unfold oneN natX
  simp only
  have hp : a.fr * 9223372036854775808 ≠ 0 := by rw [p63] at h2; omega
  have hb : bl (a.fr * 9223372036854775808) = 127 := by
   rw [show (9223372036854775808 : Nat) = 2 ^ 63 from p63.symm, bl_mul_pow 63 (by rw [p63] at h2; omega), bl63 h2 h3]
  rw [if_neg hp, hb]
  unfold NM.ex
  refine EX.ext' h1.symm ?_ ?_ ?_ ?_
  ·simp
  ·simp only
   unfold heldI
   rw [if_neg (by omega), if_neg (by omega)]
   omega
  ·simp only
   unfold mkV
   rw [hb, if_pos (by decide), Nat.mul_assoc]
  ·simp only
   unfold mkR
   rw [hb, Nat.pow_zero, Nat.mod_one]; rfl
end Go.Proofs.Ythofoolgbngobaa.V
namespace Go.Proofs.Ythofoolgbngobaa.V
open Go Go.RowKit Go.Proofs.Ythofoolgbngobaa.Ab Go.Proofs.Ythofoolgbngobaa.Fn
set_option linter.unusedVariables false
set_option linter.unusedSimpArgs false
theorem PW_ex (i : Nat) : ∃ n : Nat, n = 18446744073709551616 ^ i := ⟨_, rfl⟩
noncomputable def PW (i : Nat) : Nat := Classical.choose (PW_ex i)
theorem PW_def (i : Nat) : PW i = 18446744073709551616 ^ i := Classical.choose_spec (PW_ex i)
theorem PW_pos (i : Nat) : 0 < PW i := by rw [PW_def]; exact Nat.pow_pos (by decide)
theorem PW_succ (i : Nat) : PW (i + 1) = PW i * 18446744073709551616 := by rw [PW_def, PW_def]; exact Nat.pow_succ ..
theorem PW_add (i j : Nat) : PW (i + j) = PW i * PW j := by rw [PW_def, PW_def, PW_def]; exact Nat.pow_add ..
theorem PW_two (i : Nat) : PW i = 2 ^ (64 * i) := by rw [PW_def, show (18446744073709551616 : Nat) = 2 ^ 64 by decide, ← Nat.pow_mul]
theorem PW_le {i j : Nat} (h : i ≤ j) : PW i ≤ PW j := by rw [PW_def, PW_def]; exact Nat.pow_le_pow_right (by decide) h
theorem PW_dvd {i j : Nat} (h : i ≤ j) : PW i ∣ PW j := by rw [PW_def, PW_def]; exact Nat.pow_dvd_pow _ h
theorem PW_zero : PW 0 = 1 := by rw [PW_def, Nat.pow_zero]
noncomputable def ws (V : Nat) : List Int := (List.range 16).map fun i => ((V / PW i % 18446744073709551616 : Nat) : Int)
theorem ws_len (V : Nat) : (ws V).length = 16 := by simp [ws]
theorem ws_zero : ws 0 = [0, 0, 0, 0, 0, 0, 0, 0, 0, 0, 0, 0, 0, 0, 0, 0] := by
 unfold ws
 simp only [Nat.zero_div, Nat.zero_mod]
 decide
theorem rd_ws (V i : Nat) (h : i < 16) : rd (ws V) (i : Int) = ((V / PW i % 18446744073709551616 : Nat) : Int) := by
 unfold rd ws
 rw [Int.toNat_natCast, List.getD_eq_getElem?_getD, List.getElem?_map, List.getElem?_range h]
 rfl
theorem digit_eq (V j : Nat) : V / PW j % 18446744073709551616 = V % PW (j + 1) / PW j := by
 rw [PW_succ, Nat.mod_mul_right_div_self]
theorem set_ws {V i m : Nat} (h : i < 16) (hm : m < 18446744073709551616) : (ws V).set i (m : Int) = ws (V % PW i + m * PW i + V / PW (i + 1) * PW (i + 1)) := by
 have hp := PW_pos i
 have hlt : V % PW i < PW i := Nat.mod_lt _ hp
 have e0 : V % PW i + m * PW i + V / PW (i + 1) * PW (i + 1) = V % PW i + PW i * (m + 18446744073709551616 * (V / PW (i + 1))) := by
  rw [Nat.mul_add, Nat.mul_comm m, PW_succ, Nat.mul_comm (V / _), Nat.mul_assoc, Nat.add_assoc]
 apply List.ext_getElem (by simp [ws])
 intro j h1 h2
 have hj : j < 16 := by simpa [ws] using h2
 rw [List.getElem_set]
 simp only [ws, List.getElem_map, List.getElem_range]
 by_cases hij : i = j
 ·subst hij
  rw [if_pos rfl, e0, Nat.add_mul_div_left _ _ hp, Nat.div_eq_of_lt hlt, Nat.zero_add, Nat.add_mul_mod_self_left, Nat.mod_eq_of_lt hm]
 ·rw [if_neg hij]
  congr 1
  by_cases hlt2 : j < i
  ·rw [digit_eq, digit_eq, e0]
   congr 1
   obtain ⟨q, hq⟩ := PW_dvd (show j + 1 ≤ i by omega)
   rw [hq, Nat.mul_assoc, Nat.add_mul_mod_self_left, Nat.mod_mul_right_mod]
  ·have hle : i + 1 ≤ j := by omega
   congr 1
   obtain ⟨d, rfl⟩ : ∃ d, j = i + 1 + d := ⟨j - (i + 1), by omega⟩
   rw [PW_add, ← Nat.div_div_eq_div_mul, ← Nat.div_div_eq_div_mul]
   congr 1
   have hb : V % PW i + m * PW i < PW (i + 1) := by
    rw [PW_succ]
    have : (m + 1) * PW i ≤ 18446744073709551616 * PW i := Nat.mul_le_mul_right _ hm
    rw [Nat.add_mul] at this
    rw [Nat.mul_comm (PW i)]
    omega
   rw [Nat.add_mul_div_right _ _ (PW_pos _), Nat.div_eq_of_lt hb, Nat.zero_add]
theorem step_add {V X P c U m q : Nat} (h : V % P + X % P = P * c + U) (hm : V / P % 18446744073709551616 + X / P % 18446744073709551616 + c = 18446744073709551616 * q + m) :
  V % (P * 18446744073709551616) + X % (P * 18446744073709551616) = P * 18446744073709551616 * q + (U + m * P) := by
 rw [Nat.mod_mul, Nat.mod_mul, Nat.mul_assoc, Nat.mul_comm m P]
 have e : P * (V / P % 18446744073709551616 + X / P % 18446744073709551616 + c) = P * (18446744073709551616 * q + m) := by rw [hm]
 simp only [Nat.mul_add] at e
 omega
theorem step_sub {V X P c U m q : Nat} (h : V % P + P * c = X % P + U) (hm : V / P % 18446744073709551616 + 18446744073709551616 * q = X / P % 18446744073709551616 + c + m) :
  V % (P * 18446744073709551616) + P * 18446744073709551616 * q = X % (P * 18446744073709551616) + (U + m * P) := by
 rw [Nat.mod_mul, Nat.mod_mul, Nat.mul_assoc, Nat.mul_comm m P]
 have e : P * (V / P % 18446744073709551616 + 18446744073709551616 * q) = P * (X / P % 18446744073709551616 + c + m) := by rw [hm]
 simp only [Nat.mul_add] at e
 omega
theorem step_neg {V P c U m q : Nat} (h : V % P + U + P * c = P) (hm : 18446744073709551615 - V / P % 18446744073709551616 + 0 + c = 18446744073709551616 * q + m) :
  V % (P * 18446744073709551616) + (U + m * P) + P * 18446744073709551616 * q = P * 18446744073709551616 := by
 rw [Nat.mod_mul, Nat.mul_assoc, Nat.mul_comm m P]
 have hv : V / P % 18446744073709551616 < 18446744073709551616 := Nat.mod_lt _ (by decide)
 have hm' : 18446744073709551615 + c = 18446744073709551616 * q + m + V / P % 18446744073709551616 := by omega
 have e : P * (18446744073709551615 + c) = P * (18446744073709551616 * q + m + V / P % 18446744073709551616) := by rw [hm']
 simp only [Nat.mul_add] at e
 omega
theorem cur_digit {V U i : Nat} (hU : U < PW i) : (U + V / PW i * PW i) / PW i % 18446744073709551616 = V / PW i % 18446744073709551616 := by
 rw [Nat.add_mul_div_right _ _ (PW_pos i), Nat.div_eq_of_lt hU, Nat.zero_add]
theorem cur_set {V U i m : Nat} (hi : i < 16) (hU : U < PW i) (hm : m < 18446744073709551616) : (ws (U + V / PW i * PW i)).set i (m : Int) = ws (U + m * PW i + V / PW (i + 1) * PW (i + 1)) := by
 rw [set_ws hi hm, Nat.add_mul_mod_self_right, Nat.mod_eq_of_lt hU]
 congr 3
 rw [PW_succ, ← Nat.div_div_eq_div_mul, Nat.add_mul_div_right _ _ (PW_pos i), Nat.div_eq_of_lt hU, Nat.zero_add, Nat.div_div_eq_div_mul]
theorem cur_lt {U m i : Nat} (hU : U < PW i) (hm : m < 18446744073709551616) : U + m * PW i < PW (i + 1) := by
 rw [PW_succ]
 have : (m + 1) * PW i ≤ 18446744073709551616 * PW i := Nat.mul_le_mul_right _ hm
 rw [Nat.add_mul] at this
 rw [Nat.mul_comm (PW i)]
 omega
noncomputable def finW (b : Bool) (s V X : Nat) : Nat := if b then (V + PW s - X % PW s) % PW s else (V + X) % PW s
def relW (b : Bool) (V X P c U : Nat) : Prop := if b then V % P + P * c = X % P + U else V % P + X % P = P * c + U
theorem fin_end {b : Bool} {s V X c U : Nat} (hV : V < PW s) (hU : U < PW s) (hc : c ≤ 1) (h : relW b V X (PW s) c U) : U + V / PW s * PW s = finW b s V X := by
 unfold relW at h
 unfold finW
 have hp := PW_pos s
 have hX := Nat.mod_lt X hp
 rw [Nat.div_eq_of_lt hV, Nat.zero_mul, Nat.add_zero]
 rw [Nat.mod_eq_of_lt hV] at h
 have hc' : c = 0 ∨ c = 1 := by omega
 cases b
 ·rw [if_neg (by decide)] at h ⊢
  rw [← Nat.add_mod_mod V X, h, Nat.mul_add_mod, Nat.mod_eq_of_lt hU]
 ·rw [if_pos rfl] at h ⊢
  rcases hc' with rfl | rfl
  ·rw [show V + PW s - X % PW s = PW s + U by omega, Nat.add_mod_left, Nat.mod_eq_of_lt hU]
  ·rw [show V + PW s - X % PW s = U by omega, Nat.mod_eq_of_lt hU]
theorem fin_break {b : Bool} {s i V X U : Nat} (his : i ≤ s) (hV : V < PW s) (hU : U < PW i) (hX : X < PW i) (h : relW b V X (PW i) 0 U) : U + V / PW i * PW i = finW b s V X := by
 unfold relW at h
 unfold finW
 have hp := PW_pos i
 rw [Nat.mod_eq_of_lt hX] at h
 have hd := Nat.div_add_mod V (PW i)
 rw [Nat.mul_comm] at hd
 have hlt : U + V / PW i * PW i < PW s := by
  obtain ⟨d, rfl⟩ : ∃ d, s = i + d := ⟨s - i, by omega⟩
  rw [PW_add] at hV ⊢
  have := (Nat.div_lt_iff_lt_mul hp).2 (by rw [Nat.mul_comm]; exact hV : V < PW d * PW i)
  have h2 : (V / PW i + 1) * PW i ≤ PW d * PW i := Nat.mul_le_mul_right _ this
  rw [Nat.add_mul] at h2
  rw [Nat.mul_comm (PW i) (PW d)]
  omega
 cases b
 ·rw [if_neg (by decide)] at h ⊢
  rw [show V + X = U + V / PW i * PW i by omega, Nat.mod_eq_of_lt hlt]
 ·rw [if_pos rfl] at h ⊢
  have hXs : X % PW s = X := Nat.mod_eq_of_lt (Nat.lt_of_lt_of_le hX (PW_le his))
  rw [hXs, show V + PW s - X = PW s + (U + V / PW i * PW i) by omega, Nat.add_mod_left, Nat.mod_eq_of_lt hlt]
noncomputable def dgt (X i : Nat) : Nat := X / PW i % 18446744073709551616
theorem dgt_lt (X i : Nat) : dgt X i < 18446744073709551616 := Nat.mod_lt _ (by decide)
theorem dgt_zero {X i : Nat} (h : X < PW i) : dgt X i = 0 := by unfold dgt; rw [Nat.div_eq_of_lt h]
theorem rd_dgt {V i : Nat} (h : i < 16) : rd (ws V) (i : Int) = (dgt V i : Int) := rd_ws V i h
theorem wrap_succ {i : Nat} (h : i < 16) : wrap64 ((i : Int) + 1) = ((i + 1 : Nat) : Int) := by rw [w64 (by omega) (by omega)]; omega
theorem enter_j1 {n : Int} {nar : Bool} {t : Int} {s at_ i V X U c x : Nat} {b : Bool} {t0 t1 t2 : Int} {r : (Int × Bool × Int × List Int) × Unit × Unit} (hs : s ≤ 16) (hi : i < s) (hc : c ≤ 1) (hU : U < PW i) (hx : x = dgt X i) (h : relW b V X (PW i) c U)
  (ih : ∀ U' c', c' ≤ 1 → U' < PW (i + 1) → relW b V X (PW (i + 1)) c' U' → Ev (fun k => accum_Acc_enter.l0 k n nar t (s : Int) (ws (U' + V / PW (i + 1) * PW (i + 1))) b (at_ : Int) (c' : Int) ((i + 1 : Nat) : Int) t0 t1 t2) r) :
  Ev (fun k => accum_Acc_enter.j1 k n nar t (s : Int) (ws (U + V / PW i * PW i)) b (at_ : Int) (c : Int) (i : Int) (x : Int) t0 t1 t2) r := by
 refine evs ?_
 simp only [accum_Acc_enter.j1]
 have hv := dgt_lt V i
 have hxl : x < 18446744073709551616 := by rw [hx]; exact dgt_lt X i
 have hcd : rd (ws (U + V / PW i * PW i)) (i : Int) = (dgt V i : Int) := by rw [rd_ws _ i (Nat.lt_of_lt_of_le hi hs), cur_digit hU]; rfl
 have hi16 : i < 16 := Nat.lt_of_lt_of_le hi hs
 have hw := wrap_succ hi16
 have c1 : (0 : Int) ≤ (i : Int) := Int.natCast_nonneg i
 have c2 : (i : Int) < (s : Int) := Int.ofNat_lt.2 hi
 simp only [hcd, c1, c2, if_true, Int.toNat_natCast, hw]
 cases b
 ·simp only [Bool.false_eq_true, if_false]
  obtain ⟨m, q, h1, h2, h3, h4⟩ := add64_nat hv hxl hc
  simp only [h4, Option.bind_some]
  rw [cur_set hi16 hU h1]
  refine ih _ _ h2 (cur_lt hU h1) ?_
  unfold relW at h ⊢
  rw [if_neg (by decide)] at h ⊢
  rw [PW_succ]
  exact step_add h (by rw [hx] at h3; exact h3)
 ·simp only [if_true]
  obtain ⟨m, q, h1, h2, h3, h4⟩ := sub64_nat hv hxl hc
  simp only [h4, Option.bind_some]
  rw [cur_set hi16 hU h1]
  refine ih _ _ h2 (cur_lt hU h1) ?_
  unfold relW at h ⊢
  rw [if_pos rfl] at h ⊢
  rw [PW_succ]
  exact step_sub h (by rw [hx] at h3; exact h3)
theorem enter_l0 {n : Int} {nar : Bool} {t : Int} {s at_ V X : Nat} {b : Bool} {t0 t1 t2 : Nat} (hs : s ≤ 16) (hat : at_ < 4294967296) (hV : V < PW s) (hX : X < PW (at_ + 3)) (h0 : t0 = dgt X at_) (h1 : t1 = dgt X (at_ + 1)) (h2 : t2 = dgt X (at_ + 2)) :
  ∀ (d i U c : Nat), i + d = s → at_ ≤ i → c ≤ 1 → U < PW i → relW b V X (PW i) c U → Ev (fun k => accum_Acc_enter.l0 k n nar t (s : Int) (ws (U + V / PW i * PW i)) b (at_ : Int) (c : Int) (i : Int) (t0 : Int) (t1 : Int) (t2 : Int)) ((n, nar, t, ws (finW b s V X)), (), ()) := by
 intro d
 induction d with
 | zero =>
  intro i U c hi ha hc hU h
  have : i = s := by omega
  subst this
  refine evs ?_
  simp only [accum_Acc_enter.l0]
  simp only [if_neg (show ¬ ((i : Int) < (i : Int)) by omega), fin_end hV hU hc h]
  exact Ev.now _
 | succ d ih =>
  intro i U c hi ha hc hU h
  have hw : wrap64 ((i : Int) - at_) = ((i - at_ : Nat) : Int) := by rw [w64 (by omega) (by omega)]; omega
  refine evs ?_
  simp only [accum_Acc_enter.l0]
  simp only [if_pos (show (i : Int) < s by omega), hw]
  have step := fun x hx => enter_j1 (n := n) (nar := nar) (t := t) (at_ := at_) (x := x) (t0 := t0) (t1 := t1) (t2 := t2) hs (show i < s by omega) hc hU hx h (fun U' c' hc' hU' h' => ih (i + 1) U' c' (by omega) (by omega) hc' hU' h')
  by_cases hk : i - at_ < 3
  ·simp only [if_pos (show ((i - at_ : Nat) : Int) < 3 by omega), if_pos (show (0 : Int) ≤ ((i - at_ : Nat) : Int) by omega)]
   have h3 : i = at_ ∨ i = at_ + 1 ∨ i = at_ + 2 := by omega
   rcases h3 with rfl | rfl | rfl
   ·rw [Nat.sub_self]
    exact step t0 h0
   ·rw [Nat.add_sub_cancel_left]
    exact step t1 h1
   ·rw [Nat.add_sub_cancel_left]
    exact step t2 h2
  ·have hlt : X < PW i := Nat.lt_of_lt_of_le hX (PW_le (by omega))
   simp only [if_neg (show ¬ (((i - at_ : Nat) : Int) < 3) by omega)]
   by_cases hc0 : c = 0
   ·subst hc0
    simp only [Int.natCast_zero, if_true]
    rw [fin_break (by omega) hV hU hlt h]
    exact Ev.now _
   ·simp only [if_neg (show ¬ ((c : Int) = 0) by omega)]
    exact step 0 (dgt_zero hlt).symm
theorem two_rows {B hi lo S c d a b : Nat} (h1 : hi * S = c * B + d) (h2 : lo * S = a * B + b) : (hi * B + lo) * S = c * (B * B) + (d + a) * B + b := by
 rw [Nat.add_mul, Nat.mul_right_comm, h1, h2]
 simp only [Nat.add_mul, Nat.mul_assoc]
 omega
theorem three_words {c z1 z0 Y : Nat} (hc : c < 18446744073709551616) (h1 : z1 < 18446744073709551616) (h0 : z0 < 18446744073709551616) (h : c * (18446744073709551616 * 18446744073709551616) + z1 * 18446744073709551616 + z0 = Y) :
  Y < PW 3 ∧ z0 = Y % 18446744073709551616 ∧ z1 = Y / 18446744073709551616 % 18446744073709551616 ∧ c = Y / PW 2 % 18446744073709551616 := by
 have e2 : PW 2 = 18446744073709551616 * 18446744073709551616 := by rw [PW_def]
 have e3 : PW 3 = 18446744073709551616 * (18446744073709551616 * 18446744073709551616) := by rw [PW_def]
 rw [e2, e3]
 have k1 : Y / 18446744073709551616 = c * 18446744073709551616 + z1 := by omega
 have k2 : Y / (18446744073709551616 * 18446744073709551616) = c := by rw [← Nat.div_div_eq_div_mul, k1]; omega
 refine ⟨?_, by omega, by rw [k1]; omega, by rw [k2]; omega⟩
 omega
theorem enter_eq {n : Nat} {nar : Bool} {t : Int} {V hi lo up : Nat} {b : Bool} (hn : isW (n : Int) = true) (hV : V < PW (n / 4)) (hh : hi < 18446744073709551616) (hl : lo < 18446744073709551616) (hu : up < 4294967296) :
  Ev (fun k => accum_Acc_enter.f k (n : Int) nar t (ws V) (hi : Int) (lo : Int) (up : Int) b) (((n : Int), nar, t, ws (finW b (n / 4) V ((hi * 18446744073709551616 + lo) * 2 ^ up))), (), ()) := by
 have hn4 : n / 4 ≤ 16 := by have := isW_cases hn; omega
 have hsz : accum_Acc_size.f (n : Int) nar t (ws V) = some ((), (), ((n / 4 : Nat) : Int)) := by
  unfold accum_Acc_size.f
  have := isW_cases hn
  rw [Int.tdiv_eq_ediv_of_nonneg (by omega), w64 (by omega) (by omega)]
  congr 3
 have hm : Int.tmod (up : Int) 64 = ((up % 64 : Nat) : Int) := by rw [Int.tmod_eq_emod_of_nonneg (by omega)]; omega
 have hd : Int.tdiv (up : Int) 64 = ((up / 64 : Nat) : Int) := by rw [Int.tdiv_eq_ediv_of_nonneg (by omega)]; omega
 have hs : up % 64 < 64 := Nat.mod_lt _ (by decide)
 unfold accum_Acc_enter.f
 rw [hm, hd, wrapN _ (by omega)]
 have h63 : IntKind.u64.wrap (63 - ((up % 64 : Nat) : Int)) = ((63 - up % 64 : Nat) : Int) := by rw [u64_of (by omega) (by omega)]; omega
 rw [h63, hsz]
 simp only [Option.bind_some]
 simp only [if_pos (show (0 : Int) ≤ ((up % 64 : Nat) : Int) by omega), if_pos (show (0 : Int) ≤ ((63 - up % 64 : Nat) : Int) by omega), if_pos (show (0 : Int) ≤ ((n / 4 : Nat) : Int) by omega), if_pos (show ((n / 4 : Nat) : Int) ≤ 16 by omega), w64 (show -9223372036854775808 ≤ ((up / 64 : Nat) : Int) by omega) (show ((up / 64 : Nat) : Int) < 9223372036854775808 by omega)]
 -- the three words
 generalize hsd : up % 64 = sh at *
 generalize had : up / 64 = at_ at *
 have hup : up = 64 * at_ + sh := by omega
 have hX : (hi * 18446744073709551616 + lo) * 2 ^ up = (hi * 18446744073709551616 + lo) * 2 ^ sh * PW at_ := by
  rw [PW_two, Nat.mul_assoc, ← Nat.pow_add, hup]; congr 2; omega
 have p1 := two_pos sh
 have hsh : 2 ^ sh ≤ 2 ^ 63 := pow_le (by omega)
 rw [p63] at hsh
 have e64 : 2 ^ sh * 2 ^ (64 - sh) = 18446744073709551616 := by rw [← Nat.pow_add, show sh + (64 - sh) = 64 by omega, p64]
 have q1 := two_pos (64 - sh)
 -- parts
 have hlo : lo = lo / 2 ^ (64 - sh) * 2 ^ (64 - sh) + lo % 2 ^ (64 - sh) := by rw [Nat.mul_comm]; exact (Nat.div_add_mod _ _).symm
 have hhi : hi = hi / 2 ^ (64 - sh) * 2 ^ (64 - sh) + hi % 2 ^ (64 - sh) := by rw [Nat.mul_comm]; exact (Nat.div_add_mod _ _).symm
 generalize ha : lo / 2 ^ (64 - sh) = a at *
 generalize hb : lo % 2 ^ (64 - sh) = b0 at *
 generalize hc : hi / 2 ^ (64 - sh) = c at *
 generalize hd0 : hi % 2 ^ (64 - sh) = d0 at *
 have hb0 : b0 < 2 ^ (64 - sh) := by rw [← hb]; exact Nat.mod_lt _ q1
 have hd1 : d0 < 2 ^ (64 - sh) := by rw [← hd0]; exact Nat.mod_lt _ q1
 have ha1 : a < 2 ^ sh := by rw [← ha]; exact (Nat.div_lt_iff_lt_mul q1).2 (by rw [e64]; exact hl)
 have hc1 : c < 2 ^ sh := by rw [← hc]; exact (Nat.div_lt_iff_lt_mul q1).2 (by rw [e64]; exact hh)
 have hbs : b0 * 2 ^ sh < 18446744073709551616 := by rw [← e64, Nat.mul_comm]; exact Nat.mul_lt_mul_of_pos_left hb0 p1
 have hds : d0 * 2 ^ sh + a < 18446744073709551616 := by
  have : (d0 + 1) * 2 ^ sh ≤ 2 ^ (64 - sh) * 2 ^ sh := Nat.mul_le_mul_right _ hd1
  rw [Nat.mul_comm (2 ^ (64 - sh)), e64, Nat.add_mul] at this
  omega
 have hlos : lo * 2 ^ sh = a * 18446744073709551616 + b0 * 2 ^ sh := by
  rw [hlo, Nat.add_mul, Nat.mul_assoc, Nat.mul_comm (2 ^ (64 - sh)), e64]
 have hhis : hi * 2 ^ sh = c * 18446744073709551616 + d0 * 2 ^ sh := by
  rw [hhi, Nat.add_mul, Nat.mul_assoc, Nat.mul_comm (2 ^ (64 - sh)), e64]
 have w0 : shl .u64 (lo : Int) (sh : Int) = ((b0 * 2 ^ sh : Nat) : Int) := by
  rw [shl_nat _ _ (by omega), hlos, Nat.mul_add_mod', Nat.mod_eq_of_lt hbs]
 have half : ∀ z : Nat, shr .u64 ((z : Int) / 2) ((63 - sh : Nat) : Int) = ((z / 2 ^ (64 - sh) : Nat) : Int) := fun z => by
  rw [show (z : Int) / 2 = ((z / 2 : Nat) : Int) by omega, shr_nat _ _ (by omega), Nat.div_div_eq_div_mul, ← Nat.pow_succ', show (63 - sh).succ = 64 - sh by omega]
 have w1 : Go.bits .or .u64 (shl .u64 (hi : Int) (sh : Int)) (shr .u64 ((lo : Int) / 2) ((63 - sh : Nat) : Int)) = ((d0 * 2 ^ sh + a : Nat) : Int) := by
  rw [half lo, ha, shl_nat _ _ (by omega), hhis, Nat.mul_add_mod', Nat.mod_eq_of_lt (show d0 * 2 ^ sh < 18446744073709551616 from Nat.lt_of_le_of_lt (Nat.le_add_right _ _) hds)]
  exact or_add _ _ sh (by omega) (Nat.mul_mod_left _ _) ha1 (by omega)
 have w2 : shr .u64 ((hi : Int) / 2) ((63 - sh : Nat) : Int) = ((c : Nat) : Int) := by rw [half hi, hc]
 rw [w0, w1, w2, hX]
 have hY : (hi * 18446744073709551616 + lo) * 2 ^ sh = c * (18446744073709551616 * 18446744073709551616) + (d0 * 2 ^ sh + a) * 18446744073709551616 + b0 * 2 ^ sh := two_rows hhis hlos
 have hc2 : c < 18446744073709551616 := Nat.lt_of_lt_of_le hc1 (Nat.le_trans hsh (by decide))
 rw [hY]
 clear hY hhis hlos hX hlo hhi
 generalize hz0 : b0 * 2 ^ sh = z0 at *
 generalize hz1 : d0 * 2 ^ sh + a = z1 at *
 obtain ⟨Y, hYd⟩ : ∃ Y, c * (18446744073709551616 * 18446744073709551616) + z1 * 18446744073709551616 + z0 = Y := ⟨_, rfl⟩
 rw [hYd]
 obtain ⟨hYl, k0, k1, k2⟩ := three_words hc2 hds hbs hYd
 have g0 : z0 = dgt (Y * PW at_) at_ := by unfold dgt; rw [Nat.mul_div_cancel _ (PW_pos _)]; exact k0
 have g1 : z1 = dgt (Y * PW at_) (at_ + 1) := by unfold dgt; rw [PW_succ, Nat.mul_comm (PW at_) _, Nat.mul_div_mul_right _ _ (PW_pos _)]; exact k1
 have g2 : c = dgt (Y * PW at_) (at_ + 2) := by
  unfold dgt; rw [PW_add, Nat.mul_comm (PW at_) _, Nat.mul_div_mul_right _ _ (PW_pos _)]; exact k2
 have hX3 : Y * PW at_ < PW (at_ + 3) := by rw [PW_add, Nat.mul_comm]; exact Nat.mul_lt_mul_of_pos_left hYl (PW_pos _)
 by_cases hlt : at_ ≤ n / 4
 ·have hdm := Nat.div_add_mod V (PW at_)
  have e : V % PW at_ + V / PW at_ * PW at_ = V := by rw [Nat.mul_comm]; omega
  have := enter_l0 (n := n) (nar := nar) (t := t) (b := b) hn4 (by omega) hV hX3 g0 g1 g2 (n / 4 - at_) at_ (V % PW at_) 0 (by omega) (Nat.le_refl _) (by decide) (Nat.mod_lt _ (PW_pos _)) (by unfold relW; rw [Nat.mul_mod_left]; split <;> omega)
  rw [e] at this
  exact this
 ·refine evs ?_
  simp only [accum_Acc_enter.l0]
  simp only [if_neg (show ¬ ((at_ : Int) < ((n / 4 : Nat) : Int)) by omega)]
  have hfin : finW b (n / 4) V (Y * PW at_) = V := by
   have hz : Y * PW at_ % PW (n / 4) = 0 := by
    obtain ⟨q, hq⟩ := PW_dvd (show n / 4 ≤ at_ by omega)
    rw [hq, ← Nat.mul_assoc, Nat.mul_right_comm, Nat.mul_mod_left]
   unfold finW
   split
   ·rw [hz, Nat.sub_zero, Nat.add_mod_right, Nat.mod_eq_of_lt hV]
   ·rw [Nat.add_mod, hz, Nat.add_zero, Nat.mod_mod, Nat.mod_eq_of_lt hV]
  rw [hfin]
  exact Ev.now _
theorem size_eq {n : Nat} (hn : isW (n : Int) = true) (nar : Bool) (t : Int) (l : List Int) : accum_Acc_size.f (n : Int) nar t l = some ((), (), ((n / 4 : Nat) : Int)) := by
 unfold accum_Acc_size.f
 have := isW_cases hn
 rw [Int.tdiv_eq_ediv_of_nonneg (by omega), w64 (by omega) (by omega)]
 congr 3
theorem size_bounds {n : Nat} (hn : isW (n : Int) = true) : 2 ≤ n / 4 ∧ n / 4 ≤ 16 := by have := isW_cases hn; omega
theorem HW_ex (s : Nat) : ∃ h : Nat, h = PW (s - 1) * 9223372036854775808 := ⟨_, rfl⟩
noncomputable def HW (s : Nat) : Nat := Classical.choose (HW_ex s)
theorem HW_def (s : Nat) : HW s = PW (s - 1) * 9223372036854775808 := Classical.choose_spec (HW_ex s)
theorem HW_two {s : Nat} (h : 0 < s) : HW s * 2 = PW s := by
 obtain ⟨r, rfl⟩ : ∃ r, s = r + 1 := ⟨s - 1, by omega⟩
 rw [HW_def, PW_succ, Nat.add_sub_cancel, Nat.mul_assoc]
theorem top_bitW {s V : Nat} (h : 0 < s) (hV : V < PW s) : dgt V (s - 1) / 9223372036854775808 = if HW s ≤ V then 1 else 0 := by
 obtain ⟨r, rfl⟩ : ∃ r, s = r + 1 := ⟨s - 1, by omega⟩
 have hp := PW_pos r
 have hd : dgt V (r + 1 - 1) = V / PW r := by
  unfold dgt
  rw [Nat.add_sub_cancel, Nat.mod_eq_of_lt]
  rw [PW_succ] at hV
  exact (Nat.div_lt_iff_lt_mul hp).2 (by rw [Nat.mul_comm]; exact hV)
 rw [hd, Nat.div_div_eq_div_mul]
 have hH : HW (r + 1) = PW r * 9223372036854775808 := by rw [HW_def, Nat.add_sub_cancel]
 rw [← hH]
 have h2 := HW_two (s := r + 1) (by omega)
 have hHp : 0 < HW (r + 1) := by rw [hH]; exact Nat.mul_pos hp (by decide)
 split
 ·rename_i hle
  exact Nat.div_eq_of_lt_le (by omega) (by omega)
 ·exact Nat.div_eq_of_lt (by omega)
theorem negative_eq {n V : Nat} (hn : isW (n : Int) = true) (hV : V < PW (n / 4)) (nar : Bool) (t : Int) : accum_Acc_negative.f (n : Int) nar t (ws V) = some ((), (), decide (HW (n / 4) ≤ V)) := by
 unfold accum_Acc_negative.f
 obtain ⟨h1, h2⟩ := size_bounds hn
 have hw : wrap64 (((n / 4 : Nat) : Int) - 1) = ((n / 4 - 1 : Nat) : Int) := by rw [w64 (by omega) (by omega)]; omega
 rw [size_eq hn]
 simp only [Option.bind_some, hw]
 rw [if_pos (by omega), if_pos (by omega), rd_dgt (by omega)]
 have e : ((dgt V (n / 4 - 1) : Nat) : Int) / 9223372036854775808 = ((dgt V (n / 4 - 1) / 9223372036854775808 : Nat) : Int) := by omega
 rw [e, top_bitW (by omega) hV]
 by_cases h : HW (n / 4) ≤ V
 ·rw [if_pos h, decide_eq_true h]; rfl
 ·rw [if_neg h, decide_eq_false h]; rfl
theorem turn_arr {s V : Nat} (hs : s ≤ 16) (hV : V < PW s) : ∀ (d i U c : Nat), i + d = s → c ≤ 1 → U < PW i → V % PW i + U + PW i * c = PW i → Ev (fun k => accum_turn_arr.l0 k (s : Int) (s : Int) (ws (U + V / PW i * PW i)) (c : Int) (s : Int) (i : Int)) (ws ((PW s - V) % PW s), (), ()) := by
 intro d
 induction d with
 | zero =>
  intro i U c hi hc hU h
  have : i = s := by omega
  subst this
  refine evs ?_
  simp only [accum_turn_arr.l0]
  simp only [if_neg (show ¬ ((i : Int) < (i : Int)) by omega)]
  rw [Nat.mod_eq_of_lt hV] at h
  have hc' : c = 0 ∨ c = 1 := by omega
  have e : U + V / PW i * PW i = (PW i - V) % PW i := by
   rw [Nat.div_eq_of_lt hV, Nat.zero_mul, Nat.add_zero]
   rcases hc' with rfl | rfl
   ·rw [show PW i - V = U by omega, Nat.mod_eq_of_lt hU]
   ·rw [show V = 0 by omega, Nat.sub_zero, Nat.mod_self]; omega
  rw [e]
  exact Ev.now _
 | succ d ih =>
  intro i U c hi hc hU h
  refine evs ?_
  simp only [accum_turn_arr.l0]
  have hi16 : i < 16 := by omega
  have hcd : rd (ws (U + V / PW i * PW i)) (i : Int) = (dgt V i : Int) := by rw [rd_ws _ i hi16, cur_digit hU]; rfl
  have hv := dgt_lt V i
  obtain ⟨m, q, h1, h2, h3, h4⟩ := add64_nat (show 18446744073709551615 - dgt V i < 18446744073709551616 by omega) (show 0 < 18446744073709551616 by decide) hc
  simp only [if_pos (show (i : Int) < (s : Int) by omega), if_pos (show (0 : Int) ≤ (i : Int) by omega), hcd, xor_all _ hv, show ((0 : Nat) : Int) = 0 from rfl, Int.toNat_natCast, wrap_succ hi16] at h4 ⊢
  simp only [h4, Option.bind_some]
  rw [cur_set hi16 hU h1]
  exact ih (i + 1) _ q (by omega) h2 (cur_lt hU h1) (by rw [PW_succ]; exact step_neg h h3)
theorem turn_arr_eq {s V : Nat} (hs : s ≤ 16) (hV : V < PW s) : Ev (fun k => accum_turn_arr.f k (s : Int) (ws V)) (ws ((PW s - V) % PW s), (), ()) := by
 have := turn_arr hs hV s 0 0 1 (by omega) (by decide) (PW_pos 0) (by rw [PW_zero, Nat.mod_one])
 rw [PW_zero, Nat.div_one, Nat.mul_one, Nat.zero_add] at this
 exact this
theorem magnitude_eq {n V : Nat} (hn : isW (n : Int) = true) (hV : V < PW (n / 4)) (nar : Bool) (t : Int) : Ev (fun k => accum_Acc_magnitude.f k (n : Int) nar t (ws V)) ((), ws (if HW (n / 4) ≤ V then PW (n / 4) - V else V), ()) := by
 unfold accum_Acc_magnitude.f
 obtain ⟨h1, h2⟩ := size_bounds hn
 simp only [negative_eq hn hV, size_eq hn, Option.bind_some]
 by_cases h : HW (n / 4) ≤ V
 ·simp only [decide_eq_true h, if_true, if_pos h, if_pos (show (0 : Int) ≤ ((n / 4 : Nat) : Int) by omega), if_pos (show ((n / 4 : Nat) : Int) ≤ 16 by omega)]
  have hlt : PW (n / 4) - V < PW (n / 4) := by
   have h2 := HW_two (s := n / 4) (by omega)
   have := PW_pos (n / 4)
   omega
  have := turn_arr_eq h2 hV
  rw [Nat.mod_eq_of_lt hlt] at this
  exact Ev.bind (f := fun _ (z : List Int × Unit × Unit) => some ((), z.1, ())) this (Ev.now ((), ws (PW (n / 4) - V), ()))
 ·simp only [decide_eq_false h, Bool.false_eq_true, if_false, if_neg h]
  exact Ev.now ((), ws V, ())
end Go.Proofs.Ythofoolgbngobaa.V
namespace Go.Proofs.Ythofoolgbngobaa.V
open Go Go.RowKit Go.Proofs.Ythofoolgbngobaa.Ab Go.Proofs.Ythofoolgbngobaa.Fn
set_option linter.unusedVariables false
set_option linter.unusedSimpArgs false
theorem or_words {hi lo sh : Nat} (hh : hi < 18446744073709551616) (hl : lo < 18446744073709551616) (hs : sh < 64) :
  Go.bits .or .u64 (shl .u64 (hi : Int) (sh : Int)) (shr .u64 ((lo : Int) / 2) ((63 - sh : Nat) : Int)) = ((hi * 2 ^ sh % 18446744073709551616 + lo / 2 ^ (64 - sh) : Nat) : Int) := by
 have e64 : 2 ^ sh * 2 ^ (64 - sh) = 18446744073709551616 := by rw [← Nat.pow_add, show sh + (64 - sh) = 64 by omega, p64]
 have q1 := two_pos (64 - sh)
 have hb : lo / 2 ^ (64 - sh) < 2 ^ sh := (Nat.div_lt_iff_lt_mul q1).2 (by rw [e64]; exact hl)
 rw [show (lo : Int) / 2 = ((lo / 2 : Nat) : Int) by omega, shr_nat _ _ (by omega), Nat.div_div_eq_div_mul, ← Nat.pow_succ', show (63 - sh).succ = 64 - sh by omega, shl_nat _ _ (by omega)]
 refine or_add _ _ sh (Nat.mod_lt _ (by decide)) ?_ hb (Nat.lt_of_le_of_lt (Nat.div_le_self _ _) hl)
 rw [Nat.mod_mod_of_dvd _ ⟨2 ^ (64 - sh), e64.symm⟩, Nat.mul_mod_left]
theorem up_words {t0 t1 t2 sh : Nat} (hs : sh < 64) (h0 : t0 < 2 ^ (64 - sh)) (h1 : t1 < 18446744073709551616) (h2 : t2 < 18446744073709551616) :
  ∃ a b c : Nat, a = t0 * 2 ^ sh % 18446744073709551616 + t1 / 2 ^ (64 - sh) ∧ b = t1 * 2 ^ sh % 18446744073709551616 + t2 / 2 ^ (64 - sh) ∧ c = t2 * 2 ^ sh % 18446744073709551616 ∧ t0 * 2 ^ sh ≤ a ∧ a < 18446744073709551616 ∧ b < 18446744073709551616 ∧ c < 18446744073709551616 ∧
   ((t0 * 18446744073709551616 + t1) * 18446744073709551616 + t2) * 2 ^ sh = (a * 18446744073709551616 + b) * 18446744073709551616 + c := by
 have p1 := two_pos sh
 have q1 := two_pos (64 - sh)
 have e64 : 2 ^ sh * 2 ^ (64 - sh) = 18446744073709551616 := by rw [← Nat.pow_add, show sh + (64 - sh) = 64 by omega, p64]
 have key : ∀ t : Nat, t < 18446744073709551616 → t * 2 ^ sh = t / 2 ^ (64 - sh) * 18446744073709551616 + t % 2 ^ (64 - sh) * 2 ^ sh ∧ t % 2 ^ (64 - sh) * 2 ^ sh + 2 ^ sh ≤ 18446744073709551616 ∧ t / 2 ^ (64 - sh) < 2 ^ sh := fun t ht => by
  have hm := Nat.mod_lt t q1
  refine ⟨?_, ?_, (Nat.div_lt_iff_lt_mul q1).2 (by rw [e64]; exact ht)⟩
  ·have hd := Nat.div_add_mod t (2 ^ (64 - sh))
   have : t * 2 ^ sh = (2 ^ (64 - sh) * (t / 2 ^ (64 - sh)) + t % 2 ^ (64 - sh)) * 2 ^ sh := by rw [hd]
   rw [this, Nat.add_mul, Nat.mul_right_comm, Nat.mul_comm (2 ^ (64 - sh)) (2 ^ sh), e64, Nat.mul_comm]
  ·have : (t % 2 ^ (64 - sh) + 1) * 2 ^ sh ≤ 2 ^ (64 - sh) * 2 ^ sh := Nat.mul_le_mul_right _ hm
   rw [Nat.mul_comm (2 ^ (64 - sh)), e64, Nat.add_mul, Nat.one_mul] at this
   exact this
 obtain ⟨k1, k2, k3⟩ := key t1 h1
 obtain ⟨k4, k5, k6⟩ := key t2 h2
 have z0 : (t0 + 1) * 2 ^ sh ≤ 2 ^ (64 - sh) * 2 ^ sh := Nat.mul_le_mul_right _ h0
 rw [Nat.mul_comm (2 ^ (64 - sh)), e64, Nat.add_mul, Nat.one_mul] at z0
 generalize t1 / 2 ^ (64 - sh) = a1 at *
 generalize t1 % 2 ^ (64 - sh) * 2 ^ sh = b1 at *
 generalize t2 / 2 ^ (64 - sh) = a2 at *
 generalize t2 % 2 ^ (64 - sh) * 2 ^ sh = b2 at *
 have m0 : t0 * 2 ^ sh % 18446744073709551616 = t0 * 2 ^ sh := Nat.mod_eq_of_lt (by omega)
 have m1 : t1 * 2 ^ sh % 18446744073709551616 = b1 := by rw [k1]; omega
 have m2 : t2 * 2 ^ sh % 18446744073709551616 = b2 := by rw [k4]; omega
 refine ⟨t0 * 2 ^ sh + a1, b1 + a2, b2, by rw [m0], by rw [m1], m2.symm, Nat.le_add_right _ _, by omega, by omega, by omega, ?_⟩
 rw [Nat.add_mul, Nat.mul_right_comm, Nat.add_mul, Nat.mul_right_comm, k1, k4]
 generalize t0 * 2 ^ sh = x0
 omega
theorem Round_end {n V i sh H : Nat} {rest : Bool} {nar : Bool} {t : Int} {l : List Int} {j : Nat} (hn : isW (n : Int) = true) (hV : V < PW (n / 4)) (hi : i < 16) (hs : sh < 64) (hH : H < 2 ^ 128) (hR : rest = true → 2 ^ 127 ≤ H) (hj : i - 2 ≤ j) :
  Ev (fun k => accum_Acc_Round.l1 k (n : Int) nar t (ws V) (i : Int) (sh : Int) (TH H) (TL H) rest (j : Int) l) ((), (), (((natX (decide (HW (n / 4) ≤ V)) H (64 * ((i : Int) - 1) - sh + 16 - 8 * n) rest).rnd n : Nat) : Int)) := by
 refine evs ?_
 simp only [accum_Acc_Round.l1]
 have hnb := isW_cases hn
 have w1 : wrap64 ((i : Int) - 2) = (i : Int) - 2 := w64 (by omega) (by omega)
 have w2 : wrap64 ((wrap64 ((wrap64 ((wrap64 (64 * (wrap64 ((i : Int) - 1)))) - (sh : Int))) + 16)) - (wrap64 (8 * (n : Int)))) = 64 * ((i : Int) - 1) - sh + 16 - 8 * n := by
  rw [w64 (n := (i : Int) - 1) (by omega) (by omega), w64 (n := 64 * ((i : Int) - 1)) (by omega) (by omega), w64 (n := 64 * ((i : Int) - 1) - (sh : Int)) (by omega) (by omega), w64 (n := 64 * ((i : Int) - 1) - (sh : Int) + 16) (by omega) (by omega), w64 (n := 8 * (n : Int)) (by omega) (by omega), w64 (by omega) (by omega)]
 simp only [w1, w2, if_neg (show ¬ ((j : Int) < (i : Int) - 2) by omega), negative_eq hn hV, Option.bind_some]
 have hm := round_Make_eq (decide (HW (n / 4) ≤ V)) H (64 * ((i : Int) - 1) - sh + 16 - 8 * n) rest hH
 rw [if_neg (by rintro ⟨h1, h2⟩; have := hR h1; omega), makeV_exactE hH (by omega) (by omega), exactE_natX] at hm
 refine Ev.bind hm ?_
 simp only [Option.isNone_none, if_true]
 refine Ev.bind (Round_X hn (natX_ok _ _ _ _)) ?_
 simp only [Option.isNone_none, if_true]
 exact Ev.now _
theorem Round_l1 {n V i sh H M : Nat} {rest : Bool} {nar : Bool} {t : Int} (hn : isW (n : Int) = true) (hV : V < PW (n / 4)) (hi : i < 16) (hs : sh < 64) (hH : H < 2 ^ 128) (hR : 2 ≤ i ∨ rest = true → 2 ^ 127 ≤ H) :
  ∀ (d j : Nat) (r : Bool), j + d = i - 2 → r = (rest || decide (M % PW j ≠ 0)) → Ev (fun k => accum_Acc_Round.l1 k (n : Int) nar t (ws V) (i : Int) (sh : Int) (TH H) (TL H) r (j : Int) (ws M)) ((), (), (((natX (decide (HW (n / 4) ≤ V)) H (64 * ((i : Int) - 1) - sh + 16 - 8 * n) (rest || decide (M % PW (i - 2) ≠ 0))).rnd n : Nat) : Int)) := by
 intro d
 induction d with
 | zero =>
  intro j r hj hr
  have : j = i - 2 := by omega
  subst this
  rw [← hr]
  refine Round_end hn hV hi hs hH (fun h => ?_) (Nat.le_refl _)
  by_cases h2 : 2 ≤ i
  ·exact hR (.inl h2)
  ·refine hR (.inr ?_)
   rw [hr, show i - 2 = 0 by omega, PW_zero, Nat.mod_one] at h
   simpa using h
 | succ d ih =>
  intro j r hj hr
  have h16 : j < 16 := by omega
  have next : ∀ r', r' = (rest || decide (M % PW (j + 1) ≠ 0)) → Ev (fun k => accum_Acc_Round.l1 k (n : Int) nar t (ws V) (i : Int) (sh : Int) (TH H) (TL H) r' (wrap64 ((j : Int) + 1)) (ws M)) _ := fun r' h' => by
   rw [wrap_succ h16]; exact ih (j + 1) r' (by omega) h'
  have hdig : decide (M % PW (j + 1) ≠ 0) = (decide (M % PW j ≠ 0) || decide (dgt M j ≠ 0)) := by
   rw [PW_succ, Nat.mod_mul]
   exact or_ne (PW_pos j)
  refine evs ?_
  simp only [accum_Acc_Round.l1]
  have w1 : wrap64 ((i : Int) - 2) = (i : Int) - 2 := w64 (by omega) (by omega)
  simp only [w1, if_pos (show (j : Int) < (i : Int) - 2 by omega), if_pos (show (0 : Int) ≤ (j : Int) by omega), if_pos (show (j : Int) < 16 by omega), rd_dgt h16]
  cases hrb : r
  ·simp only [Bool.false_eq_true, if_false]
   refine next _ ?_
   rw [hdig, ← Bool.or_assoc, ← hr, hrb, Bool.false_or]
   by_cases h0 : dgt M j = 0
   ·rw [h0]; rfl
   ·rw [decide_eq_true h0]
    simpa using h0
  ·simp only [if_true]
   refine next _ ?_
   rw [hdig, ← Bool.or_assoc, ← hr, hrb, Bool.true_or]
theorem Round_j2 {n V i M t0 t1 t2 : Nat} {nar : Bool} {t : Int} {X : EX} (hn : isW (n : Int) = true) (hV : V < PW (n / 4)) (hi : i < 16) (h0 : t0 < 18446744073709551616) (h1 : t1 < 18446744073709551616) (h2 : t2 < 18446744073709551616) (ht : 1 ≤ i → t0 ≠ 0) (h00 : t0 = 0 → t2 = 0)
  (hX : ∀ sh H c : Nat, sh < 64 → (t0 ≠ 0 → 2 ^ 63 ≤ t0 * 2 ^ sh) → ((t0 * 18446744073709551616 + t1) * 18446744073709551616 + t2) * 2 ^ sh = H * 18446744073709551616 + c → c < 18446744073709551616 → natX (decide (HW (n / 4) ≤ V)) H (64 * ((i : Int) - 1) - sh + 16 - 8 * n) (decide (c ≠ 0) || decide (M % PW (i - 2) ≠ 0)) = X) :
  Ev (fun k => accum_Acc_Round.j2 k (n : Int) nar t (ws V) (i : Int) (ws M) (t0 : Int) (t1 : Int) (t2 : Int)) ((), (), ((X.rnd n : Nat) : Int)) := by
 have hb := bl_le_of_lt (show t0 < 2 ^ 64 by rw [p64]; exact h0)
 obtain ⟨sh, hsh, hs, ht0, hbig⟩ : ∃ sh : Nat, Int.tmod ((64 - bl t0 : Nat) : Int) 64 = (sh : Int) ∧ sh < 64 ∧ t0 < 2 ^ (64 - sh) ∧ (t0 ≠ 0 → 2 ^ 63 ≤ t0 * 2 ^ sh) := by
  by_cases hz : t0 = 0
  ·subst hz
   exact ⟨0, by rw [bl_zero]; decide, by decide, two_pos _, fun h => absurd rfl h⟩
  ·have hp := bl_pos (show 0 < t0 by omega)
   refine ⟨64 - bl t0, ?_, by omega, ?_, fun _ => ?_⟩
   ·rw [Int.tmod_eq_emod_of_nonneg (by omega)]; omega
   ·rw [show 64 - (64 - bl t0) = bl t0 by omega]; exact bl_lt t0
   ·have := Nat.mul_le_mul_right (2 ^ (64 - bl t0)) (bl_le (show 0 < t0 by omega))
    rwa [← Nat.pow_add, show bl t0 - 1 + (64 - bl t0) = 63 by omega] at this
 refine evs ?_
 simp only [accum_Acc_Round.j2, Lead0_eq h0, Option.bind_some, hsh]
 have w3 : wrap64 (63 - (sh : Int)) = ((63 - sh : Nat) : Int) := by rw [w64 (by omega) (by omega)]; omega
 simp only [w3, if_pos (show (0 : Int) ≤ (sh : Int) by omega), if_pos (show (0 : Int) ≤ ((63 - sh : Nat) : Int) by omega), or_words h0 h1 hs, or_words h1 h2 hs, shl_nat t2 sh (by omega)]
 obtain ⟨a, b, c, ha, hb', hc, hle, ha1, hb1, hc1, hT⟩ := up_words hs ht0 h1 h2
 rw [← ha, ← hb', ← hc]
 have hX' := hX sh _ _ hs hbig hT hc1
 have hge : t0 ≠ 0 → 2 ^ 127 ≤ a * 18446744073709551616 + b := fun h => by
  have := hbig h
  rw [p63] at this
  rw [p127]; omega
 have hlt : a * 18446744073709551616 + b < 2 ^ 128 := by rw [p128]; omega
 have := Round_l1 (nar := nar) (t := t) (rest := decide (c ≠ 0)) (M := M) hn hV hi hs hlt (fun h => hge ?_) (i - 2) 0 (decide (c ≠ 0)) (by omega) (by rw [PW_zero, Nat.mod_one]; simp)
 ·rw [hX', TH_of hb1, TL_of hb1] at this
  have hbe : ((c : Int) != 0) = decide (c ≠ 0) := by
   by_cases h : c = 0
   ·subst h; rfl
   ·rw [decide_eq_true h]; simpa using h
  rw [hbe]
  exact this
 ·rcases h with h | h
  ·exact ht (by omega)
  ·intro hz
   have hz2 := h00 hz
   rw [hz2, Nat.zero_mul, Nat.zero_mod] at hc
   rw [hc] at h
   cases h
theorem top_dgt {M j : Nat} (h : M < PW (j + 1)) : dgt M j = M / PW j := by
 unfold dgt
 rw [Nat.mod_eq_of_lt]
 rw [PW_succ] at h
 exact (Nat.div_lt_iff_lt_mul (PW_pos j)).2 (by rw [Nat.mul_comm]; exact h)
theorem div_next (M j : Nat) : M / PW (j + 1) = M / PW j / 18446744073709551616 := by rw [PW_succ, Nat.div_div_eq_div_mul]
theorem top_three {M j : Nat} (h : M < PW (j + 3)) : (dgt M (j + 2) * 18446744073709551616 + dgt M (j + 1)) * 18446744073709551616 + dgt M j = M / PW j := by
 rw [top_dgt h]
 unfold dgt
 rw [div_next M (j + 1), div_next M j]
 generalize M / PW j = q
 omega
theorem top_two {M : Nat} (h : M < PW 2) : dgt M 1 * 18446744073709551616 + dgt M 0 = M := by
 rw [top_dgt h]
 unfold dgt
 rw [div_next M 0, PW_zero, Nat.div_one]
 omega
theorem top_one {M : Nat} (h : M < PW 1) : dgt M 0 = M := by rw [top_dgt h, PW_zero, Nat.div_one]
theorem row_one {B M S H c : Nat} (h : M * B * S = H * B + c) (hc : c < B) : H = M * S ∧ c = 0 := by
 rw [Nat.mul_right_comm] at h
 have h1 : (H * B + c) / B = M * S := by rw [← h, Nat.mul_div_cancel _ (by omega)]
 have h2 : (H * B + c) % B = 0 := by rw [← h, Nat.mul_mod_left]
 rw [Nat.mul_comm H, Nat.mul_add_div (by omega), Nat.div_eq_of_lt hc, Nat.add_zero] at h1
 rw [Nat.mul_comm H, Nat.mul_add_mod, Nat.mod_eq_of_lt hc] at h2
 exact ⟨h1, h2⟩
theorem row_div {B T H c : Nat} (h : T = H * B + c) (hc : c < B) : T / B = H ∧ T % B = c := by
 rw [h, Nat.mul_comm H, Nat.mul_add_div (by omega), Nat.div_eq_of_lt hc, Nat.add_zero, Nat.mul_add_mod, Nat.mod_eq_of_lt hc]
 exact ⟨rfl, rfl⟩
theorem Round_x2 {n M j sh H c : Nat} {g : Bool} {t0 t1 t2 : Nat} (hT : (t0 * 18446744073709551616 + t1) * 18446744073709551616 + t2 = M / PW j) (hs : sh < 64) (hbig : 2 ^ 63 ≤ t0 * 2 ^ sh) (e' : Int) (he : e' = 64 * (((j + 2 : Nat) : Int) - 1) - sh + 16 - 8 * n) (hH : M / PW j * 2 ^ sh = H * 18446744073709551616 + c) (hc : c < 18446744073709551616) :
  natX g H e' (decide (c ≠ 0) || decide (M % PW j ≠ 0)) = natX g M (16 - 8 * n) false := by
 obtain ⟨hq, hr⟩ := row_div hH hc
 rw [← hq, ← hr]
 have e1 : M / PW j * 2 ^ sh / 18446744073709551616 = M / 2 ^ (64 * j + (64 - sh)) := by
  rw [← p64, mul_pow_div _ (by omega), PW_two, div_div_pow]
 have e2 : decide (M / PW j * 2 ^ sh % 18446744073709551616 ≠ 0) = decide (M / PW j % 2 ^ (64 - sh) ≠ 0) := by
  rw [← p64, show (2 : Nat) ^ 64 = 2 ^ (64 - sh) * 2 ^ sh by rw [← Nat.pow_add]; congr 1; omega, Nat.mul_mod_mul_right]
  have := two_pos sh
  rw [Bool.eq_iff_iff]
  simp only [decide_eq_true_eq]
  exact ⟨fun h h' => h (by rw [h', Nat.zero_mul]), fun h h' => (Nat.mul_eq_zero.1 h').elim h (by omega)⟩
 have e3 : decide (M % 2 ^ (64 * j + (64 - sh)) ≠ 0) = (decide (M / PW j % 2 ^ (64 - sh) ≠ 0) || decide (M % PW j ≠ 0)) := by
  rw [Nat.pow_add, ← PW_two, Nat.mod_mul, or_ne (PW_pos j), Bool.or_comm]
 have hge : 2 ^ 127 ≤ M / 2 ^ (64 * j + (64 - sh)) := by
  rw [← e1, ← hT]
  refine (Nat.le_div_iff_mul_le (by decide)).2 ?_
  refine Nat.le_trans (m := t0 * 2 ^ sh * 18446744073709551616 * 18446744073709551616) ?_ ?_
  ·refine Nat.mul_le_mul_right _ ?_
   refine Nat.le_trans (m := 2 ^ 63 * 18446744073709551616) (by rw [p127]; decide) (Nat.mul_le_mul_right _ hbig)
  ·rw [Nat.add_mul, Nat.add_mul, Nat.add_mul, Nat.mul_right_comm t0 (2 ^ sh), Nat.mul_right_comm (t0 * _) (2 ^ sh), Nat.add_assoc]
   exact Nat.le_add_right _ _
 have := natX_trunc g (16 - 8 * (n : Int)) false rfl hge
 rw [this, e1, e2, e3, Bool.false_or]
 congr 1
 rw [he]
 omega
theorem Round_j1 {n V i M : Nat} {nar : Bool} {t : Int} (hn : isW (n : Int) = true) (hV : V < PW (n / 4)) (hi : i < 16) (hM : M < PW (i + 1)) (h0 : 1 ≤ i → dgt M i ≠ 0) :
  Ev (fun k => accum_Acc_Round.j1 k (n : Int) nar t (ws V) (i : Int) (ws M)) ((), (), (((natX (decide (HW (n / 4) ≤ V)) M (16 - 8 * n) false).rnd n : Nat) : Int)) := by
 refine evs ?_
 simp only [accum_Acc_Round.j1]
 have w0 : wrap64 ((i : Int) - 0) = (i : Int) := by rw [w64 (by omega) (by omega)]; omega
 simp only [w0, if_pos (show (i : Int) ≥ 0 by omega), if_pos (show (0 : Int) ≤ (i : Int) by omega), if_pos (show (i : Int) < 16 by omega), rd_dgt hi]
 by_cases h1 : 1 ≤ i
 ·have hi1 : i - 1 < 16 := by omega
  have w1 : wrap64 ((i : Int) - 1) = ((i - 1 : Nat) : Int) := by rw [w64 (by omega) (by omega)]; omega
  simp only [w1, if_pos (show (i : Int) ≥ 1 by omega), if_pos (show (0 : Int) ≤ ((i - 1 : Nat) : Int) by omega), if_pos (show ((i - 1 : Nat) : Int) < 16 by omega), rd_dgt hi1]
  by_cases h2 : 2 ≤ i
  ·have hi2 : i - 2 < 16 := by omega
   have w2 : wrap64 ((i : Int) - 2) = ((i - 2 : Nat) : Int) := by rw [w64 (by omega) (by omega)]; omega
   simp only [w2, if_pos (show (i : Int) ≥ 2 by omega), if_pos (show (0 : Int) ≤ ((i - 2 : Nat) : Int) by omega), if_pos (show ((i - 2 : Nat) : Int) < 16 by omega), rd_dgt hi2]
   obtain ⟨j, rfl⟩ : ∃ j, i = j + 2 := ⟨i - 2, by omega⟩
   refine Round_j2 hn hV hi (dgt_lt _ _) (dgt_lt _ _) (dgt_lt _ _) h0 (fun h => absurd h (h0 (by omega))) (fun sh H c hs hbig hH hc => ?_)
   have hT := top_three hM
   rw [show j + 2 - 1 = j + 1 by omega, show j + 2 - 2 = j by omega] at *
   rw [hT] at hH
   exact Round_x2 hT hs (hbig (h0 (by omega))) _ rfl hH hc
  ·have : i = 1 := by omega
   subst this
   simp only [if_neg (show ¬ (((1 : Nat) : Int) ≥ 2) by omega)]
   refine Round_j2 (t2 := 0) hn hV hi (dgt_lt _ _) (dgt_lt _ _) (by decide) h0 (fun _ => rfl) (fun sh H c hs hbig hH hc => ?_)
   have hT := top_two hM
   rw [Nat.sub_self, hT, Nat.add_zero] at hH
   obtain ⟨rfl, rfl⟩ := row_one hH hc
   rw [natX_shift, show 1 - 2 = 0 by omega, PW_zero, Nat.mod_one]
   simp only [ne_eq, not_true_eq_false, decide_false, Bool.or_self]
   congr 1
   omega
 ·have : i = 0 := by omega
  subst this
  simp only [if_neg (show ¬ (((0 : Nat) : Int) ≥ 1) by omega), if_neg (show ¬ (((0 : Nat) : Int) ≥ 2) by omega)]
  refine Round_j2 (t1 := 0) (t2 := 0) hn hV hi (dgt_lt _ _) (by decide) (by decide) h0 (fun _ => rfl) (fun sh H c hs hbig hH hc => ?_)
  have hT := top_one hM
  rw [hT, Nat.add_zero, Nat.add_zero] at hH
  obtain ⟨rfl, rfl⟩ := row_one hH hc
  rw [Nat.mul_assoc, show (18446744073709551616 : Nat) * 2 ^ sh = 2 ^ (64 + sh) by rw [Nat.pow_add, p64], natX_shift, show 0 - 2 = 0 by omega, PW_zero, Nat.mod_one]
  simp only [ne_eq, not_true_eq_false, decide_false, Bool.or_self]
  congr 1
  omega
theorem Round_l0 {n V M : Nat} {nar : Bool} {t : Int} (hn : isW (n : Int) = true) (hV : V < PW (n / 4)) : ∀ (i : Nat), i < 16 → M < PW (i + 1) →
  Ev (fun k => accum_Acc_Round.l0 k (n : Int) nar t (ws V) (i : Int) (ws M)) ((), (), (((natX (decide (HW (n / 4) ≤ V)) M (16 - 8 * n) false).rnd n : Nat) : Int)) := by
 intro i
 induction i with
 | zero =>
  intro hi hM
  refine evs ?_
  simp only [accum_Acc_Round.l0]
  simp only [if_neg (show ¬ (((0 : Nat) : Int) > 0) by omega)]
  exact Round_j1 hn hV hi hM (fun h => absurd h (by decide))
 | succ i ih =>
  intro hi hM
  refine evs ?_
  simp only [accum_Acc_Round.l0]
  have w1 : wrap64 (((i + 1 : Nat) : Int) - 1) = (i : Int) := by rw [w64 (by omega) (by omega)]; omega
  simp only [w1, if_pos (show ((i + 1 : Nat) : Int) > 0 by omega), if_pos (show (0 : Int) ≤ ((i + 1 : Nat) : Int) by omega), if_pos (show ((i + 1 : Nat) : Int) < 16 by omega), rd_dgt hi]
  by_cases h : dgt M (i + 1) = 0
  ·simp only [h, Int.natCast_zero, if_true]
   refine ih (by omega) ?_
   rw [top_dgt hM] at h
   rcases (Nat.div_eq_zero_iff).1 h with h | h
   ·have := PW_pos (i + 1); omega
   ·exact h
  ·simp only [if_neg (show ¬ (((dgt M (i + 1) : Nat) : Int) = 0) by omega)]
   exact Round_j1 hn hV hi hM (fun _ => h)
theorem Round_eq {n V : Nat} {t : Int} (hn : isW (n : Int) = true) (hV : V < PW (n / 4)) :
  Ev (fun k => accum_Acc_Round.f k (n : Int) false t (ws V)) ((), (), (((natX (decide (HW (n / 4) ≤ V)) (if HW (n / 4) ≤ V then PW (n / 4) - V else V) (16 - 8 * n) false).rnd n : Nat) : Int)) := by
 unfold accum_Acc_Round.f
 obtain ⟨h1, h2⟩ := size_bounds hn
 have w1 : wrap64 (((n / 4 : Nat) : Int) - 1) = ((n / 4 - 1 : Nat) : Int) := by rw [w64 (by omega) (by omega)]; omega
 simp only [Bool.false_eq_true, if_false, size_eq hn, Option.bind_some, w1]
 refine Ev.bind (magnitude_eq hn hV false t) ?_
 refine Round_l0 hn hV (n / 4 - 1) (by omega) ?_
 rw [show n / 4 - 1 + 1 = n / 4 by omega]
 have := PW_pos (n / 4)
 have := HW_two (s := n / 4) (by omega)
 split <;> omega
theorem Round_nar {n : Nat} {t : Int} {l : List Int} (hn : isW (n : Int) = true) : Ev (fun k => accum_Acc_Round.f k (n : Int) true t l) ((), (), ((2 ^ (n - 1) : Nat) : Int)) := by
 unfold accum_Acc_Round.f
 have hnb := isW_cases hn
 have w1 : wrap64 ((n : Int) - 1) = ((n - 1 : Nat) : Int) := by rw [w64 (by omega) (by omega)]; omega
 have hs : shl .u64 1 ((n - 1 : Nat) : Int) = ((2 ^ (n - 1) : Nat) : Int) := by
  have := shl_nat 1 (n - 1) (by omega)
  rw [Nat.one_mul, Nat.mod_eq_of_lt (by rw [← p64]; exact pow_lt (by omega))] at this
  exact this
 simp only [if_true, w1, if_pos (show (0 : Int) ≤ ((n - 1 : Nat) : Int) by omega), hs]
 exact Ev.now _
end Go.Proofs.Ythofoolgbngobaa.V
namespace Go.Proofs.Ythofoolgbngobaa.V
open Go Go.RowKit Go.Proofs.Ythofoolgbngobaa.Ab Go.Proofs.Ythofoolgbngobaa.Fn
set_option linter.unusedVariables false
set_option linter.unusedSimpArgs false
theorem Of_X {x : NM} (h : x.ok) : Ev (fun k => round_Of.f k x.kd x.ng x.sc (x.fr : Int)) (x.ex.kd, x.ex.ng, x.ex.sc, TH x.ex.V, TL x.ex.V, x.ex.R, none) := by
 have := round_Of_eq x.kd x.ng x.sc (x.fr : Int) (by have := h.2; omega) (by omega)
 rw [if_pos h.1] at this
 rw [(NM.ex_tup x h).1, (NM.ex_tup x h).2]
 exact this
end Go.Proofs.Ythofoolgbngobaa.V
namespace Go.Proofs.Ythofoolgbngobaa.V
open Go Go.RowKit Go.Proofs.Ythofoolgbngobaa.Ab Go.Proofs.Ythofoolgbngobaa.Fn
set_option linter.unusedVariables false
set_option linter.unusedSimpArgs false
theorem EX.ok_kd {x : EX} (hx : x.ok) : x.kd = 0 ∨ x.kd = 1 ∨ x.kd = 2 := by
 rcases hx with rfl | rfl | hx
 ·exact .inl rfl
 ·exact .inr (.inr rfl)
 ·exact .inr (.inl hx.1)
theorem sumX_nar {x y : EX} (h : x.kd = 2 ∨ y.kd = 2) : sumX x y = EX.nar := by unfold sumX; rw [if_pos h]
theorem sumX_z1 {x y : EX} (h : ¬ (x.kd = 2 ∨ y.kd = 2)) (h1 : x.kd = 0) : sumX x y = y := by unfold sumX; rw [if_neg h, if_pos h1]
theorem sumX_z2 {x y : EX} (h : ¬ (x.kd = 2 ∨ y.kd = 2)) (h1 : ¬ x.kd = 0) (h2 : y.kd = 0) : sumX x y = x := by unfold sumX; rw [if_neg h, if_neg h1, if_pos h2]
theorem broad_Sum_j0 {x y : EX} (hx : x.ok) (hy : y.ok) : Ev (fun k => broad_Sum.j0 k (decide (x.kd = 2 ∨ y.kd = 2)) x.kd x.ng x.sc (TH x.V) (TL x.V) x.R y.kd y.ng y.sc (TH y.V) (TL y.V) y.R) (sumX x y).tup := by
 refine evs ?_
 simp only [broad_Sum.j0]
 by_cases h : x.kd = 2 ∨ y.kd = 2
 ·simp only [if_pos (decide_eq_true h)]
  rw [sumX_nar h]
  exact Ev.now _
 ·simp only [if_neg (fun h' => h (of_decide_eq_true h') : ¬ decide (x.kd = 2 ∨ y.kd = 2) = true)]
  by_cases a : x.kd = 0
  ·simp only [if_pos a]
   rw [sumX_z1 h a]
   exact Ev.now _
  ·simp only [if_neg a]
   by_cases b : y.kd = 0
   ·simp only [if_pos b]
    rw [sumX_z2 h a b]
    exact Ev.now _
   ·simp only [if_neg b]
    have kx : x.kd = 1 := by have := EX.ok_kd hx; omega
    have ky : y.kd = 1 := by have := EX.ok_kd hy; omega
    by_cases c : x.sc < y.sc
    ·simp only [if_pos c]
     rw [sumX_comm hx hy]
     exact Sum_j1 hy hx ky kx (Int.le_of_lt c)
    ·simp only [if_neg c]
     exact Sum_j1 hx hy kx ky (Int.not_lt.1 c)
theorem broad_Sum_X {x y : EX} (hx : x.ok) (hy : y.ok) : Ev (fun k => broad_Sum.f k x.kd x.ng x.sc (TH x.V) (TL x.V) x.R y.kd y.ng y.sc (TH y.V) (TL y.V) y.R) (sumX x y).tup := by
 have h := broad_Sum_j0 hx hy
 unfold broad_Sum.f
 by_cases a : x.kd = 2
 ·simp only [if_pos a]
  rw [decide_eq_true (Or.inl a)] at h
  exact h
 ·simp only [if_neg a]
  rw [show decide (x.kd = 2 ∨ y.kd = 2) = (y.kd == 2) by rw [Bool.eq_iff_iff]; simp [a]] at h
  exact h
theorem sum_Exact_X {a b : NM} (ha : a.ok) (hb : b.ok) : Ev (fun k => sum_Exact.f k a.kd a.ng a.sc (a.fr : Int) b.kd b.ng b.sc (b.fr : Int)) ((sumX a.ex b.ex).kd, (sumX a.ex b.ex).ng, (sumX a.ex b.ex).sc, TH (sumX a.ex b.ex).V, TL (sumX a.ex b.ex).V, (sumX a.ex b.ex).R, none) := by
 unfold sum_Exact.f
 refine Ev.bind (Of_X ha) ?_
 simp only [Option.isNone_none, if_true]
 refine Ev.bind (Of_X hb) ?_
 simp only [Option.isNone_none, if_true]
 exact Ev.bind (broad_Sum_X (NM.ex_ok ha) (NM.ex_ok hb)) (Ev.now _)
def addN (n x y : Nat) : Nat := (sumX (decN n x).ex (decN n y).ex).rnd n
theorem sum_Add_eq {n a b : Nat} (h : isW (n : Int) = true) (ha : a < 18446744073709551616) (hb : b < 18446744073709551616) : Ev (fun k => sum_Add.f k (n : Int) (a : Int) (b : Int)) (((addN n (a % 2 ^ n) (b % 2 ^ n) : Nat) : Int), none) := by
 obtain ⟨b64, b8⟩ := pow64 h
 have oa := decN_ok b8 b64 (Nat.mod_lt a (two_pos n))
 have ob := decN_ok b8 b64 (Nat.mod_lt b (two_pos n))
 unfold sum_Add.f
 refine Ev.bind (Decode_N h ha) ?_
 simp only [Option.isNone_none, if_true]
 refine Ev.bind (Decode_N h hb) (Ev.bind (sum_Exact_X oa ob) ?_)
 simp only [Option.isNone_none, if_true]
 exact Ev.bind (Round_X h (sumX_ok (NM.ex_ok oa) (NM.ex_ok ob))) (Ev.now _)
end Go.Proofs.Ythofoolgbngobaa.V
namespace Go.Proofs.Ythofoolgbngobaa.V
open Go Go.RowKit Go.Proofs.Ythofoolgbngobaa.Ab Go.Proofs.Ythofoolgbngobaa.Fn
set_option linter.unusedVariables false
set_option linter.unusedSimpArgs false
theorem EX.ok_zero {x : EX} (hx : x.ok) (h : x.kd = 0) : x = EX.zero := by
 rcases hx with rfl | rfl | hx
 ·rfl
 ·exact absurd h (by decide)
 ·omega
theorem sumX_zero_r {x : EX} (hx : x.ok) : sumX x EX.zero = x := by
 unfold sumX
 by_cases h : x.kd = 2 ∨ EX.zero.kd = 2
 ·rw [if_pos h]
  have h2 : x.kd = 2 := h.elim id (fun h => absurd h (by decide))
  rcases hx with rfl | rfl | hx
  ·exact absurd h2 (by decide)
  ·rfl
  ·omega
 ·rw [if_neg h]
  by_cases h0 : x.kd = 0
  ·rw [if_pos h0, EX.ok_zero hx h0]
  ·rw [if_neg h0, if_pos (show EX.zero.kd = 0 from rfl)]
theorem EX.neg_kd (x : EX) : x.neg.kd = x.kd := by unfold EX.neg; split <;> rfl
theorem EX.neg_sc (x : EX) : x.neg.sc = x.sc := by unfold EX.neg; split <;> rfl
theorem EX.neg_val {x : EX} (h : x.kd = 1) (e : Int) : x.neg.val e = -(x.val e) := by
 unfold EX.neg
 rw [if_pos h]
 unfold EX.val
 simp only
 cases x.ng <;> simp
theorem intX_neg (z e : Int) : intX (-z) e = (intX z e).neg := by
 unfold intX
 by_cases h : z = 0
 ·subst h; rfl
 ·rw [Int.natAbs_neg, ← natX_neg]
  congr 1
  rw [Bool.eq_iff_iff]
  simp only [decide_eq_true_eq, Bool.not_eq_true', decide_eq_false_iff_not]
  omega
end Go.Proofs.Ythofoolgbngobaa.V
