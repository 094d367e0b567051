-- Written by a program of this session out of its own texts (wip/tools/link.py).
import Derived.Below
import Derived.ChangeKeysEq
import Derived.Deep.MidRow
import Derived.Deep.RegionHeld3
import Derived.Great.BuildSlice
import Derived.IntWalk
import Derived.KernelRfl
import Derived.LaidEql
import Derived.Laws.Bits64
import Derived.Laws.BitsLemmas
import Derived.Laws.BytesArg
import Derived.Laws.IdiomCopy
import Derived.Laws.OwnMore
import Derived.Laws.Rows
import Derived.Laws.Slices
import Derived.Laws.Strings
import Derived.Laws.StructEq
import Derived.Laws.Tables
import Derived.Lib.BitFns
import Derived.Lib.Mul64
import Derived.Lib.Slices
import Derived.Lib.Small
import Derived.Lib.Strings
import Derived.Lib.Walk
import Derived.Maps.AppendAt
import Derived.OrdersHeld
import Derived.RowKit
import Derived.Shelf.Spec.BitsCarry
import Derived.Test.YtfbbnpliaokmbaaProg
import Derived.Test.YtfbbnpliaokmbaaCFuseExacts8
import Derived.Test.YtfbbnpliaokmbaaCFuseExacts10
import Derived.Test.YtfbbnpliaokmbaaCFuseExacts11
import Derived.Test.YtfbbnpliaokmbaaCFuseExacts12
namespace Go.Proofs.Ytfbbnpliaokmbaa.V
open Go Go.RowKit Go.Proofs.Ytfbbnpliaokmbaa.Ab Go.Proofs.Ytfbbnpliaokmbaa.Fn
set_option linter.unusedVariables false
set_option linter.unusedSimpArgs false
theorem beq_dec (a b : Int) : (a == b) = decide (a = b) := by by_cases h : a = b <;> simp [h]
theorem mask32 (a : Nat) (ha : a < 18446744073709551616) : Go.bits .and .u64 (a : Int) 4294967295 = ((a % 4294967296 : Nat) : Int) := and_mask a 32 ha (by decide)
theorem div32 (a : Nat) : (a : Int) / 4294967296 = ((a / 4294967296 : Nat) : Int) := by omega
theorem mulC (a b : Nat) : (a : Int) * (b : Int) = ((a * b : Nat) : Int) := (Int.natCast_mul a b).symm
theorem addC (a b : Nat) : (a : Int) + (b : Int) = ((a + b : Nat) : Int) := (Int.natCast_add a b).symm
theorem wrapN (a : Nat) (ha : a < 18446744073709551616) : IntKind.u64.wrap (a : Int) = (a : Int) := u64_of (by omega) (by omega)
theorem bits_Mul64_eq {x y : Nat} (hx : x < 18446744073709551616) (hy : y < 18446744073709551616) : bits_Mul64.f (x : Int) (y : Int) = some (TH (x * y), TL (x * y)) := by
 obtain ⟨bd, bt, bw, hhi⟩ := Lib.mul64_hi x y hx hy
 have ba := Lib.half_mul_le (a := x / 4294967296) (b := y / 4294967296) (by omega) (by omega)
 have bb := Lib.half_mul_le (a := x / 4294967296) (b := y % 4294967296) (by omega) (by omega)
 have bc := Lib.half_mul_le (a := x % 4294967296) (b := y / 4294967296) (by omega) (by omega)
 have ba' : x / 4294967296 * (y / 4294967296) < 18446744073709551616 := by omega
 have bb' : x / 4294967296 * (y % 4294967296) < 18446744073709551616 := by omega
 have bc' : x % 4294967296 * (y / 4294967296) < 18446744073709551616 := by omega
 have bh1 : x / 4294967296 * (y / 4294967296) + (x / 4294967296 * (y % 4294967296) + x % 4294967296 * (y % 4294967296) / 4294967296) / 4294967296 < 18446744073709551616 := by omega
 have bh : x / 4294967296 * (y / 4294967296) + (x / 4294967296 * (y % 4294967296) + x % 4294967296 * (y % 4294967296) / 4294967296) / 4294967296 + ((x / 4294967296 * (y % 4294967296) + x % 4294967296 * (y % 4294967296) / 4294967296) % 4294967296 + x % 4294967296 * (y / 4294967296)) / 4294967296 < 18446744073709551616 := by omega
 unfold bits_Mul64.f
 simp only [mask32 x hx, mask32 y hy, div32, mulC, addC, wrapN _ bd, wrapN _ bb', wrapN _ bt, mask32 _ bt, wrapN _ bc', wrapN _ bw, wrapN _ ba', wrapN _ bh1, wrapN _ bh, u64_nat_wrap (x * y)]
 rw [hhi]
 rfl
theorem twin_Mul_eq {x y : Nat} (hx : x < 18446744073709551616) (hy : y < 18446744073709551616) : twin_Mul.f (x : Int) (y : Int) = some (TH (x * y), TL (x * y)) := by
 unfold twin_Mul.f
 rw [bits_Mul64_eq hx hy]; rfl
theorem mul_lt128 {x y : Nat} (hx : x < 18446744073709551616) (hy : y < 18446744073709551616) : x * y < 2 ^ 128 := by
 have := Nat.mul_le_mul (show x ≤ 18446744073709551615 by omega) (show y ≤ 18446744073709551615 by omega)
 rw [p128]
 omega
def prodE (kd : Int) (ng : Bool) (sc : Int) (fr : Nat) (kd' : Int) (ng' : Bool) (sc' : Int) (fr' : Nat) : Int × Bool × Int × Int × Int × Bool :=
 if kd = 2 ∨ kd' = 2 then (2, false, 0, 0, 0, false) else if kd = 0 ∨ kd' = 0 then (0, false, 0, 0, 0, false)
 else exactE (ng != ng') (fr * fr') (sc + sc' - 126) false
theorem soundN_cases {kd sc fr : Int} {ng : Bool} (h : soundN kd ng sc fr = true) : (kd = 0 ∧ ng = false ∧ sc = 0 ∧ fr = 0) ∨ (kd = 2 ∧ ng = false ∧ sc = 0 ∧ fr = 0) ∨ (kd = 1 ∧ 9223372036854775808 ≤ fr ∧ -1073741824 ≤ sc ∧ sc ≤ 1073741824) := by
 unfold soundN at h
 split at h
 ·rename_i hk
  have : ng = false ∧ sc = 0 ∧ fr = 0 := by simpa using h
  rcases hk with hk | hk
  ·exact .inl ⟨hk, this⟩
  ·exact .inr (.inl ⟨hk, this⟩)
 ·exact .inr (.inr (of_decide_eq_true h))
theorem makeV_exactE {ng R : Bool} {V : Nat} {e : Int} (hV : V < 2 ^ 128) (h0 : -4398046511104 ≤ e) (h1 : e ≤ 4398046511104) :
  makeV ng V e R = ((exactE ng V e R).1, (exactE ng V e R).2.1, (exactE ng V e R).2.2.1, (exactE ng V e R).2.2.2.1, (exactE ng V e R).2.2.2.2.1, (exactE ng V e R).2.2.2.2.2, none) := by
 unfold makeV exactE
 by_cases hz : V = 0
 ·rw [if_pos hz, if_pos hz]
 ·rw [if_neg hz, if_neg hz]
  have hb := bl_le_of_lt hV
  have hr : mkR V R = R := by unfold mkR; rw [show bl V - 128 = 0 by omega, Nat.pow_zero, Nat.mod_one]; simp
  have hf : farI e = e := by unfold farI; rw [if_neg (by omega), if_neg (by omega)]
  rw [hr, hf]
theorem prod_Exact_eq (kd : Int) (ng : Bool) (sc : Int) (fr : Nat) (kd' : Int) (ng' : Bool) (sc' : Int) (fr' : Nat) (hf : fr < 18446744073709551616) (hf' : fr' < 18446744073709551616) :
  Ev (fun k => prod_Exact.f k kd ng sc (fr : Int) kd' ng' sc' (fr' : Int)) (if soundN kd ng sc fr = true ∧ soundN kd' ng' sc' fr' = true then
   ((prodE kd ng sc fr kd' ng' sc' fr').1, (prodE kd ng sc fr kd' ng' sc' fr').2.1, (prodE kd ng sc fr kd' ng' sc' fr').2.2.1, (prodE kd ng sc fr kd' ng' sc' fr').2.2.2.1, (prodE kd ng sc fr kd' ng' sc' fr').2.2.2.2.1, (prodE kd ng sc fr kd' ng' sc' fr').2.2.2.2.2, none)
   else (0, false, 0, 0, 0, false, some 1)) := by
 unfold prod_Exact.f
 refine Ev.bind (round_Of_eq kd ng sc fr (by omega) (by omega)) ?_
 by_cases h1 : soundN kd ng sc fr = true
 ·simp only [h1, if_true, Option.isNone_none, true_and]
  refine Ev.bind (round_Of_eq kd' ng' sc' fr' (by omega) (by omega)) ?_
  by_cases h2 : soundN kd' ng' sc' fr' = true
  ·simp only [h2, if_true, Option.isNone_none]
   have c1 := soundN_cases h1
   have c2 := soundN_cases h2
   have j1 : Ev (fun k => prod_Exact.j0 k (decide (kd = 2 ∨ kd' = 2)) kd ng sc (fr : Int) kd' ng' sc' (fr' : Int)) ((prodE kd ng sc fr kd' ng' sc' fr').1, (prodE kd ng sc fr kd' ng' sc' fr').2.1, (prodE kd ng sc fr kd' ng' sc' fr').2.2.1, (prodE kd ng sc fr kd' ng' sc' fr').2.2.2.1, (prodE kd ng sc fr kd' ng' sc' fr').2.2.2.2.1, (prodE kd ng sc fr kd' ng' sc' fr').2.2.2.2.2, none) := by
    refine evs ?_
    simp only [prod_Exact.j0]
    unfold prodE
    by_cases hk : kd = 2 ∨ kd' = 2
    ·simp only [if_pos hk, decide_eq_true hk, if_true]
     exact Ev.now _
    ·simp only [if_neg hk, decide_eq_false hk, Bool.false_eq_true, if_false]
     have j2 : Ev (fun k => prod_Exact.j1 k (decide (kd = 0 ∨ kd' = 0)) ng sc (fr : Int) ng' sc' (fr' : Int)) (if kd = 0 ∨ kd' = 0 then (0, false, 0, 0, 0, false, none) else makeV (ng != ng') (fr * fr') (sc + sc' - 126) false) := by
      refine evs ?_
      simp only [prod_Exact.j1]
      by_cases h0 : kd = 0 ∨ kd' = 0
      ·simp only [if_pos h0, decide_eq_true h0, if_true]
       exact Ev.now _
      ·simp only [if_neg h0, decide_eq_false h0, Bool.false_eq_true, if_false]
       have ew : wrap64 (wrap64 (sc + sc') - 126) = sc + sc' - 126 := by
        rw [w64 (n := sc + sc') (by omega) (by omega), w64 (by omega) (by omega)]
       rw [ew, twin_Mul_eq hf hf']
       simp only [Option.bind_some]
       have := round_Make_eq (ng != ng') (fr * fr') (sc + sc' - 126) false (mul_lt128 hf hf')
       simp only [Bool.false_eq_true, false_and, if_false] at this
       refine Ev.bind this ?_
       exact Ev.now _
     have key : ((if kd = 0 ∨ kd' = 0 then (0, false, 0, 0, 0, false, none) else makeV (ng != ng') (fr * fr') (sc + sc' - 126) false) : Int × Bool × Int × Int × Int × Bool × Option Int) = ((if kd = 0 ∨ kd' = 0 then (0, false, 0, 0, 0, false) else exactE (ng != ng') (fr * fr') (sc + sc' - 126) false).1, (if kd = 0 ∨ kd' = 0 then (0, false, 0, 0, 0, false) else exactE (ng != ng') (fr * fr') (sc + sc' - 126) false).2.1, (if kd = 0 ∨ kd' = 0 then (0, false, 0, 0, 0, false) else exactE (ng != ng') (fr * fr') (sc + sc' - 126) false).2.2.1, (if kd = 0 ∨ kd' = 0 then (0, false, 0, 0, 0, false) else exactE (ng != ng') (fr * fr') (sc + sc' - 126) false).2.2.2.1, (if kd = 0 ∨ kd' = 0 then (0, false, 0, 0, 0, false) else exactE (ng != ng') (fr * fr') (sc + sc' - 126) false).2.2.2.2.1, (if kd = 0 ∨ kd' = 0 then (0, false, 0, 0, 0, false) else exactE (ng != ng') (fr * fr') (sc + sc' - 126) false).2.2.2.2.2, none) := by
      by_cases h0 : kd = 0 ∨ kd' = 0
      ·simp only [if_pos h0]
      ·simp only [if_neg h0]
       exact makeV_exactE (mul_lt128 hf hf') (by omega) (by omega)
     rw [← key]
     by_cases hk0 : kd = 0
     ·have hd : (kd == 0) = decide (kd = 0 ∨ kd' = 0) := by rw [decide_eq_true (.inl hk0)]; simp [hk0]
      simp only [if_pos hk0, hd]
      exact j2
     ·have hd : (kd' == 0) = decide (kd = 0 ∨ kd' = 0) := by rw [beq_dec]; simp [hk0]
      simp only [if_neg hk0, hd]
      exact j2
   by_cases hk2 : kd = 2
   ·have hd : (kd == 2) = decide (kd = 2 ∨ kd' = 2) := by simp [hk2]
    simp only [if_pos hk2, hd]
    exact j1
   ·have hd : (kd' == 2) = decide (kd = 2 ∨ kd' = 2) := by rw [beq_dec]; simp [hk2]
    simp only [if_neg hk2, hd]
    exact j1
  ·simp only [if_neg h2]
   exact Ev.now _
 ·simp only [if_neg h1, if_neg (show ¬ (soundN kd ng sc fr = true ∧ soundN kd' ng' sc' fr' = true) from fun h => h1 h.1)]
  exact Ev.now _
def prodX (a b : NM) : EX := if a.kd = 2 ∨ b.kd = 2 then EX.nar else if a.kd = 0 ∨ b.kd = 0 then EX.zero else natX (a.ng != b.ng) (a.fr * b.fr) (a.sc + b.sc - 126) false
theorem prodX_ok (a b : NM) : (prodX a b).ok := by
 unfold prodX
 split
 ·exact .inr (.inl rfl)
 ·split
  ·exact .inl rfl
  ·exact natX_ok _ _ _ _
theorem prodE_X (a b : NM) : prodE a.kd a.ng a.sc a.fr b.kd b.ng b.sc b.fr = ((prodX a b).kd, (prodX a b).ng, (prodX a b).sc, TH (prodX a b).V, TL (prodX a b).V, (prodX a b).R) := by
 unfold prodE prodX
 by_cases h2 : a.kd = 2 ∨ b.kd = 2
 ·rw [if_pos h2, if_pos h2]; rfl
 ·rw [if_neg h2, if_neg h2]
  by_cases h0 : a.kd = 0 ∨ b.kd = 0
  ·rw [if_pos h0, if_pos h0]; rfl
  ·rw [if_neg h0, if_neg h0, exactE_natX]
theorem prod_Exact_X {a b : NM} (ha : a.ok) (hb : b.ok) : Ev (fun k => prod_Exact.f k a.kd a.ng a.sc (a.fr : Int) b.kd b.ng b.sc (b.fr : Int)) ((prodX a b).kd, (prodX a b).ng, (prodX a b).sc, TH (prodX a b).V, TL (prodX a b).V, (prodX a b).R, none) := by
 have := prod_Exact_eq a.kd a.ng a.sc a.fr b.kd b.ng b.sc b.fr ha.2 hb.2
 rw [if_pos ⟨ha.1, hb.1⟩, prodE_X] at this
 exact this
end Go.Proofs.Ytfbbnpliaokmbaa.V
namespace Go.Proofs.Ytfbbnpliaokmbaa.V
open Go Go.RowKit Go.Proofs.Ytfbbnpliaokmbaa.Ab Go.Proofs.Ytfbbnpliaokmbaa.Fn
set_option linter.unusedVariables false
set_option linter.unusedSimpArgs false
def sumE (a b d : Nat) (g h : Bool) (e : Int) : EX := if g = h then natX g (a * 2 ^ d + b) e false else if b ≤ a * 2 ^ d then natX g (a * 2 ^ d - b) e false else natX h (b - a * 2 ^ d) e false
theorem EX.real {x : EX} (hx : x.ok) (kx : x.kd = 1) : 2 ^ 127 ≤ x.V ∧ x.V < 2 ^ 128 ∧ -1099511627776 ≤ x.sc ∧ x.sc ≤ 1099511627776 := by
 rcases hx with rfl | rfl | hx
 ·exact absurd kx (by decide)
 ·exact absurd kx (by decide)
 ·exact hx.2
theorem sumX_E {x y : EX} (hx : x.kd = 1) (hy : y.kd = 1) (h : y.sc ≤ x.sc) {d : Nat} (hd : (x.sc - y.sc).toNat = d) : sumX x y = sumE x.V y.V d x.ng y.ng (y.sc - 127) := by
 unfold sumE
 by_cases hs : x.ng = y.ng
 ·rw [if_pos hs, sumX_same hx hy h hd hs]
 ·rw [if_neg hs]
  by_cases hle : y.V ≤ x.V * 2 ^ d
  ·rw [if_pos hle, sumX_ge hx hy h hd hs hle]
  ·rw [if_neg hle, sumX_lt hx hy h hd hs (Nat.le_of_not_le hle)]
theorem far_add (g : Bool) {a b t : Nat} (e : Int) (ha : 2 ^ 127 ≤ a) (h0 : 0 < b) (h1 : b < 2 ^ t) : natX g (a * 2 ^ (200 + t) + b) e false = natX g (a * 2 ^ 200) (e + t) true := by
 have ea : a * 2 ^ (200 + t) + b = 2 ^ t * (a * 2 ^ 200) + b := by rw [Nat.pow_add]; grind
 have hT : (a * 2 ^ (200 + t) + b) / 2 ^ t = a * 2 ^ 200 := by rw [ea, Nat.mul_add_div (two_pos t), Nat.div_eq_of_lt h1, Nat.add_zero]
 have hm : (a * 2 ^ (200 + t) + b) % 2 ^ t = b := by rw [ea, Nat.mul_add_mod, Nat.mod_eq_of_lt h1]
 rw [natX_trunc g e false hT (Nat.le_trans ha (Nat.le_mul_of_pos_right a (two_pos 200))), hm, decide_eq_true (by omega), Bool.false_or]
theorem sub_form {P A b : Nat} (hA : 1 ≤ A) (hb : b < P) : P * A - b = P * (A - 1) + (P - b) := by
 obtain ⟨c, rfl⟩ : ∃ c, A = c + 1 := ⟨A - 1, by omega⟩
 rw [Nat.add_sub_cancel, Nat.mul_add, Nat.mul_one]
 omega
theorem far_sub (g : Bool) {a b t : Nat} (e : Int) (ha : 2 ^ 127 ≤ a) (h0 : 0 < b) (h1 : b < 2 ^ t) : natX g (a * 2 ^ (200 + t) - b) e false = natX g (a * 2 ^ 200 - 1) (e + t) true := by
 have p2 := two_pos 200
 have hA : 2 ^ 127 * 2 ^ 200 ≤ a * 2 ^ 200 := Nat.mul_le_mul_right _ ha
 have hA2 : 2 ^ 127 ≤ a * 2 ^ 200 - 1 := by
  have : (2 : Nat) ^ 127 + 1 ≤ 2 ^ 127 * 2 ^ 200 := by decide +kernel
  exact Nat.le_sub_of_add_le (Nat.le_trans this hA)
 have hA1 : 1 ≤ a * 2 ^ 200 := Nat.le_trans (two_pos 127) (Nat.le_trans hA2 (Nat.sub_le _ _))
 have ea : a * 2 ^ (200 + t) - b = 2 ^ t * (a * 2 ^ 200 - 1) + (2 ^ t - b) := by
  rw [Nat.pow_add, show a * (2 ^ 200 * 2 ^ t) = 2 ^ t * (a * 2 ^ 200) by grind]
  exact sub_form hA1 h1
 have hl : 2 ^ t - b < 2 ^ t := by omega
 have hT : (a * 2 ^ (200 + t) - b) / 2 ^ t = a * 2 ^ 200 - 1 := by rw [ea, Nat.mul_add_div (two_pos t), Nat.div_eq_of_lt hl, Nat.add_zero]
 have hm : (a * 2 ^ (200 + t) - b) % 2 ^ t = 2 ^ t - b := by rw [ea, Nat.mul_add_mod, Nat.mod_eq_of_lt hl]
 rw [natX_trunc g e false hT hA2, hm, decide_eq_true (by omega), Bool.false_or]
theorem sumE_far {a b d : Nat} {g h : Bool} {e : Int} (hd : 400 < d) (ha : 2 ^ 127 ≤ a) (h0 : 0 < b) (h1 : b < 2 ^ 128) : sumE a b d g h e = sumE a 1 400 g h (e + ((d : Int) - 400)) := by
 obtain ⟨t, rfl⟩ : ∃ t, d = 200 + t := ⟨d - 200, by omega⟩
 have hb : b < 2 ^ t := Nat.lt_trans h1 (pow_lt (by omega))
 obtain ⟨u, hu⟩ : ∃ u : Nat, u = 200 := ⟨_, rfl⟩
 have h2 : (1 : Nat) < 2 ^ u := pow_lt (a := 0) (by omega)
 have c1 : b ≤ a * 2 ^ (200 + t) := by
  have : 2 ^ t ≤ 2 ^ (200 + t) := pow_le (by omega)
  exact Nat.le_trans (Nat.le_of_lt hb) (Nat.le_trans this (Nat.le_mul_of_pos_left _ (Nat.lt_of_lt_of_le (two_pos 127) ha)))
 have c2 : 1 ≤ a * 2 ^ (200 + u) := Nat.le_trans (two_pos _) (Nat.le_mul_of_pos_left _ (Nat.lt_of_lt_of_le (two_pos 127) ha))
 have ee : e + (((200 + t : Nat) : Int) - 400) + (u : Int) = e + (t : Int) := by omega
 unfold sumE
 rw [if_pos c1]
 rw [show (400 : Nat) = 200 + u by omega, if_pos c2, far_add g e ha h0 hb, far_sub g e ha h0 hb, far_add g _ ha (by decide) h2, far_sub g _ ha (by decide) h2, ee]
theorem wide_W {x a b i : Nat} (h : x < 2 ^ a * 2 ^ b) (hi : a + b ≤ 24 * i) : x < W i := by
 rw [← Nat.pow_add] at h
 exact Nat.lt_of_lt_of_le h (pow_le hi)
theorem wide_add {x y a b : Nat} (h : x < 2 ^ a * 2 ^ b) (hy : y < 2 ^ a) : x + y < 2 ^ a * 2 ^ (b + 1) := by
 have h1 : 2 ^ a ≤ 2 ^ a * 2 ^ b := Nat.le_mul_of_pos_right _ (two_pos b)
 rw [Nat.pow_succ, ← Nat.mul_assoc]
 omega
theorem cmpN_ge {A B : Nat} : cmpN A B ≥ 0 ↔ B ≤ A := by
 unfold cmpN
 repeat' split
 all_goals omega
theorem ref_Exactly_tup {x : List Int} {m : Nat} {e : Int} {ng R : Bool} (hx : DL x m) (hn : x.length ≤ 800) (h0 : -2305843009213693952 ≤ e) (h1 : e ≤ 2305843009213693952) :
  Ev (fun k => vernierref07_Exactly.f k ng x e R) (natX ng m e R).tup := by
 have := ref_Exactly_eq (ng := ng) (R := R) hx hn h0 h1
 rw [exactE_natX] at this
 exact this
theorem ref09_Sum_0_j1 {a b : List Int} {A B d : Nat} (ha : DL a A) (hb : DL b B) (lA : A < 2 ^ 128) (lB : B < 2 ^ 128) (hd : d ≤ 400) {g h : Bool} {s : Int} (s0 : -1099511627776 ≤ s) (s1 : s ≤ 1099511627776) :
  Ev (fun k => vernierref09_Sum_0.j1 k a b (d : Int) g s h) (sumE A B d g h (s - 127 - d)).tup := by
 refine evs ?_
 simp only [vernierref09_Sum_0.j1]
 have la : a.length ≤ 6 := ha.len_le (Nat.lt_of_lt_of_le lA (by decide))
 have lb : b.length ≤ 6 := hb.len_le (Nat.lt_of_lt_of_le lB (by decide))
 obtain ⟨c, c1, c2⟩ := r4_Shl ha (k := d) (by omega) (by omega)
 obtain ⟨n, hn⟩ : ∃ n : Nat, n = 400 := ⟨_, rfl⟩
 have hAd : A * 2 ^ d < 2 ^ 128 * 2 ^ n := Nat.lt_of_lt_of_le (Nat.mul_lt_mul_of_pos_right lA (two_pos d)) (Nat.mul_le_mul_left _ (pow_le (by omega)))
 have lc : c.length ≤ 22 := c2.len_le (wide_W hAd (by omega))
 have he : wrap64 (wrap64 (s - 127) - (d : Int)) = s - 127 - d := by rw [w64 (n := s - 127) (by omega) (by omega), w64 (by omega) (by omega)]
 refine Ev.bind c1 ?_
 rw [he]
 unfold sumE
 by_cases hg : g = h
 ·simp only [if_pos (beq_iff_eq.2 hg), if_pos hg]
  obtain ⟨r, r1, r2⟩ := r4_Add c2 hb (by omega) (by omega)
  have hs : A * 2 ^ d + B < 2 ^ 128 * 2 ^ (n + 1) := wide_add hAd lB
  have lr : r.length ≤ 23 := r2.len_le (wide_W hs (by omega))
  refine Ev.bind r1 (Ev.bind (ref_Exactly_tup r2 (by omega) (by omega) (by omega)) (Ev.now _))
 ·simp only [if_neg (fun h => hg (beq_iff_eq.1 h) : ¬ (g == h) = true), if_neg hg]
  refine Ev.bind (r4_Cmp c2 hb (by omega) (by omega)) ?_
  have hc := @cmpN_ge (A * 2 ^ d) B
  by_cases hle : B ≤ A * 2 ^ d
  ·simp only [if_pos (hc.2 hle), if_pos hle]
   obtain ⟨r, r1, r2⟩ := r4_Sub c2 hb hle (by omega)
   have lr : r.length ≤ 22 := r2.len_le (wide_W (Nat.lt_of_le_of_lt (Nat.sub_le _ _) hAd) (by omega))
   refine Ev.bind r1 (Ev.bind (ref_Exactly_tup r2 (by omega) (by omega) (by omega)) (Ev.now _))
  ·simp only [if_neg (fun h => hle (hc.1 h)), if_neg hle]
   obtain ⟨r, r1, r2⟩ := r4_Sub hb c2 (Nat.le_of_not_le hle) (by omega)
   have lr : r.length ≤ 6 := r2.len_le (Nat.lt_of_le_of_lt (Nat.sub_le _ _) (Nat.lt_of_lt_of_le lB (by decide)))
   refine Ev.bind r1 (Ev.bind (ref_Exactly_tup r2 (by omega) (by omega) (by omega)) (Ev.now _))
theorem ref09_Sum_0_real {x y : EX} (hx : x.ok) (hy : y.ok) (kx : x.kd = 1) (ky : y.kd = 1) (h : y.sc ≤ x.sc) :
  Ev (fun k => vernierref09_Sum_0.j0 k false x.kd x.ng x.sc (TH x.V) (TL x.V) x.R y.kd y.ng y.sc (TH y.V) (TL y.V) y.R) (sumX x y).tup := by
 obtain ⟨vx, lx, s0, s1⟩ := EX.real hx kx
 obtain ⟨vy, ly, t0, t1⟩ := EX.real hy ky
 obtain ⟨d, hd⟩ : ∃ d, (x.sc - y.sc).toNat = d := ⟨_, rfl⟩
 have hd' : x.sc - y.sc = (d : Int) := by omega
 have hw : wrap64 (x.sc - y.sc) = (d : Int) := by rw [w64 (by omega) (by omega)]; exact hd'
 refine evs ?_
 simp only [vernierref09_Sum_0.j0]
 simp only [if_neg (show ¬ (false = true) by decide), if_neg (show ¬ x.kd = 0 by omega), if_neg (show ¬ y.kd = 0 by omega), if_neg (show ¬ x.sc < y.sc by omega), hw]
 obtain ⟨a, a1, a2⟩ := ref02_Of_eq lx
 obtain ⟨b, b1, b2⟩ := ref02_Of_eq ly
 refine Ev.bind a1 (Ev.bind b1 ?_)
 rw [sumX_E kx ky h hd]
 by_cases h4 : (d : Int) > 400
 ·simp only [if_pos h4]
  rw [sumE_far (by omega) vx (Nat.lt_of_lt_of_le (two_pos 127) vy) ly, show y.sc - 127 + ((d : Int) - 400) = x.sc - 127 - ((400 : Nat) : Int) by omega]
  exact ref09_Sum_0_j1 a2 one_DL lx (by decide) (by decide) s0 s1
 ·simp only [if_neg h4]
  rw [show y.sc - 127 = x.sc - 127 - (d : Int) by omega]
  exact ref09_Sum_0_j1 a2 b2 lx ly (by omega) s0 s1
theorem ref09_Sum_j1 {a b : List Int} {A B d : Nat} (ha : DL a A) (hb : DL b B) (lA : A < 2 ^ 128) (lB : B < 2 ^ 128) (hd : d ≤ 400) {g h : Bool} {s : Int} (s0 : -1099511627776 ≤ s) (s1 : s ≤ 1099511627776) :
  Ev (fun k => vernierref09_Sum.j1 k a b (d : Int) g s h) (sumE A B d g h (s - 127 - d)).tup := by
 refine evs ?_
 simp only [vernierref09_Sum.j1]
 have la : a.length ≤ 6 := ha.len_le (Nat.lt_of_lt_of_le lA (by decide))
 have lb : b.length ≤ 6 := hb.len_le (Nat.lt_of_lt_of_le lB (by decide))
 obtain ⟨c, c1, c2⟩ := r4_Shl ha (k := d) (by omega) (by omega)
 obtain ⟨n, hn⟩ : ∃ n : Nat, n = 400 := ⟨_, rfl⟩
 have hAd : A * 2 ^ d < 2 ^ 128 * 2 ^ n := Nat.lt_of_lt_of_le (Nat.mul_lt_mul_of_pos_right lA (two_pos d)) (Nat.mul_le_mul_left _ (pow_le (by omega)))
 have lc : c.length ≤ 22 := c2.len_le (wide_W hAd (by omega))
 have he : wrap64 (wrap64 (s - 127) - (d : Int)) = s - 127 - d := by rw [w64 (n := s - 127) (by omega) (by omega), w64 (by omega) (by omega)]
 refine Ev.bind c1 ?_
 rw [he]
 unfold sumE
 by_cases hg : g = h
 ·simp only [if_pos (beq_iff_eq.2 hg), if_pos hg]
  obtain ⟨r, r1, r2⟩ := r4_Add c2 hb (by omega) (by omega)
  have hs : A * 2 ^ d + B < 2 ^ 128 * 2 ^ (n + 1) := wide_add hAd lB
  have lr : r.length ≤ 23 := r2.len_le (wide_W hs (by omega))
  refine Ev.bind r1 (Ev.bind (ref_Exactly_tup r2 (by omega) (by omega) (by omega)) (Ev.now _))
 ·simp only [if_neg (fun h => hg (beq_iff_eq.1 h) : ¬ (g == h) = true), if_neg hg]
  refine Ev.bind (r4_Cmp c2 hb (by omega) (by omega)) ?_
  have hc := @cmpN_ge (A * 2 ^ d) B
  by_cases hle : B ≤ A * 2 ^ d
  ·simp only [if_pos (hc.2 hle), if_pos hle]
   obtain ⟨r, r1, r2⟩ := r4_Sub c2 hb hle (by omega)
   have lr : r.length ≤ 22 := r2.len_le (wide_W (Nat.lt_of_le_of_lt (Nat.sub_le _ _) hAd) (by omega))
   refine Ev.bind r1 (Ev.bind (ref_Exactly_tup r2 (by omega) (by omega) (by omega)) (Ev.now _))
  ·simp only [if_neg (fun h => hle (hc.1 h)), if_neg hle]
   obtain ⟨r, r1, r2⟩ := r4_Sub hb c2 (Nat.le_of_not_le hle) (by omega)
   have lr : r.length ≤ 6 := r2.len_le (Nat.lt_of_le_of_lt (Nat.sub_le _ _) (Nat.lt_of_lt_of_le lB (by decide)))
   refine Ev.bind r1 (Ev.bind (ref_Exactly_tup r2 (by omega) (by omega) (by omega)) (Ev.now _))
theorem ref09_Sum_real {x y : EX} (hx : x.ok) (hy : y.ok) (kx : x.kd = 1) (ky : y.kd = 1) (h : y.sc ≤ x.sc) :
  Ev (fun k => vernierref09_Sum.j0 k false x.kd x.ng x.sc (TH x.V) (TL x.V) x.R y.kd y.ng y.sc (TH y.V) (TL y.V) y.R) (sumX x y).tup := by
 obtain ⟨vx, lx, s0, s1⟩ := EX.real hx kx
 obtain ⟨vy, ly, t0, t1⟩ := EX.real hy ky
 obtain ⟨d, hd⟩ : ∃ d, (x.sc - y.sc).toNat = d := ⟨_, rfl⟩
 have hd' : x.sc - y.sc = (d : Int) := by omega
 have hw : wrap64 (x.sc - y.sc) = (d : Int) := by rw [w64 (by omega) (by omega)]; exact hd'
 refine evs ?_
 simp only [vernierref09_Sum.j0]
 simp only [if_neg (show ¬ (false = true) by decide), if_neg (show ¬ x.kd = 0 by omega), if_neg (show ¬ y.kd = 0 by omega), if_neg (show ¬ x.sc < y.sc by omega), hw]
 obtain ⟨a, a1, a2⟩ := ref02_Of_eq lx
 obtain ⟨b, b1, b2⟩ := ref02_Of_eq ly
 refine Ev.bind a1 (Ev.bind b1 ?_)
 rw [sumX_E kx ky h hd]
 by_cases h4 : (d : Int) > 400
 ·simp only [if_pos h4]
  rw [sumE_far (by omega) vx (Nat.lt_of_lt_of_le (two_pos 127) vy) ly, show y.sc - 127 + ((d : Int) - 400) = x.sc - 127 - ((400 : Nat) : Int) by omega]
  exact ref09_Sum_j1 a2 one_DL lx (by decide) (by decide) s0 s1
 ·simp only [if_neg h4]
  rw [show y.sc - 127 = x.sc - 127 - (d : Int) by omega]
  exact ref09_Sum_j1 a2 b2 lx ly (by omega) s0 s1
end Go.Proofs.Ytfbbnpliaokmbaa.V
namespace Go.Proofs.Ytfbbnpliaokmbaa.V
open Go Go.RowKit Go.Proofs.Ytfbbnpliaokmbaa.Ab Go.Proofs.Ytfbbnpliaokmbaa.Fn
set_option linter.unusedVariables false
set_option linter.unusedSimpArgs false
theorem Of_X {x : NM} (h : x.ok) : Ev (fun k => round_Of.f k x.kd x.ng x.sc (x.fr : Int)) (x.ex.kd, x.ex.ng, x.ex.sc, TH x.ex.V, TL x.ex.V, x.ex.R, none) := by
 have := round_Of_eq x.kd x.ng x.sc (x.fr : Int) (by have := h.2; omega) (by omega)
 rw [if_pos h.1] at this
 rw [(NM.ex_tup x h).1, (NM.ex_tup x h).2]
 exact this
end Go.Proofs.Ytfbbnpliaokmbaa.V
namespace Go.Proofs.Ytfbbnpliaokmbaa.V
open Go Go.RowKit Go.Proofs.Ytfbbnpliaokmbaa.Ab Go.Proofs.Ytfbbnpliaokmbaa.Fn
set_option linter.unusedVariables false
set_option linter.unusedSimpArgs false
theorem EX.ok_kd {x : EX} (hx : x.ok) : x.kd = 0 ∨ x.kd = 1 ∨ x.kd = 2 := by
 rcases hx with rfl | rfl | hx
 ·exact .inl rfl
 ·exact .inr (.inr rfl)
 ·exact .inr (.inl hx.1)
theorem sumX_nar {x y : EX} (h : x.kd = 2 ∨ y.kd = 2) : sumX x y = EX.nar := by unfold sumX; rw [if_pos h]
theorem sumX_z1 {x y : EX} (h : ¬ (x.kd = 2 ∨ y.kd = 2)) (h1 : x.kd = 0) : sumX x y = y := by unfold sumX; rw [if_neg h, if_pos h1]
theorem sumX_z2 {x y : EX} (h : ¬ (x.kd = 2 ∨ y.kd = 2)) (h1 : ¬ x.kd = 0) (h2 : y.kd = 0) : sumX x y = x := by unfold sumX; rw [if_neg h, if_neg h1, if_pos h2]
theorem broad_Sum_j0 {x y : EX} (hx : x.ok) (hy : y.ok) : Ev (fun k => broad_Sum.j0 k (decide (x.kd = 2 ∨ y.kd = 2)) x.kd x.ng x.sc (TH x.V) (TL x.V) x.R y.kd y.ng y.sc (TH y.V) (TL y.V) y.R) (sumX x y).tup := by
 refine evs ?_
 simp only [broad_Sum.j0]
 by_cases h : x.kd = 2 ∨ y.kd = 2
 ·simp only [if_pos (decide_eq_true h)]
  rw [sumX_nar h]
  exact Ev.now _
 ·simp only [if_neg (fun h' => h (of_decide_eq_true h') : ¬ decide (x.kd = 2 ∨ y.kd = 2) = true)]
  by_cases a : x.kd = 0
  ·simp only [if_pos a]
   rw [sumX_z1 h a]
   exact Ev.now _
  ·simp only [if_neg a]
   by_cases b : y.kd = 0
   ·simp only [if_pos b]
    rw [sumX_z2 h a b]
    exact Ev.now _
   ·simp only [if_neg b]
    have kx : x.kd = 1 := by have := EX.ok_kd hx; omega
    have ky : y.kd = 1 := by have := EX.ok_kd hy; omega
    by_cases c : x.sc < y.sc
    ·simp only [if_pos c]
     rw [sumX_comm hx hy]
     exact Sum_j1 hy hx ky kx (Int.le_of_lt c)
    ·simp only [if_neg c]
     exact Sum_j1 hx hy kx ky (Int.not_lt.1 c)
theorem broad_Sum_X {x y : EX} (hx : x.ok) (hy : y.ok) : Ev (fun k => broad_Sum.f k x.kd x.ng x.sc (TH x.V) (TL x.V) x.R y.kd y.ng y.sc (TH y.V) (TL y.V) y.R) (sumX x y).tup := by
 have h := broad_Sum_j0 hx hy
 unfold broad_Sum.f
 by_cases a : x.kd = 2
 ·simp only [if_pos a]
  rw [decide_eq_true (Or.inl a)] at h
  exact h
 ·simp only [if_neg a]
  rw [show decide (x.kd = 2 ∨ y.kd = 2) = (y.kd == 2) by rw [Bool.eq_iff_iff]; simp [a]] at h
  exact h
theorem ref09_Sum_0_X {x y : EX} (hx : x.ok) (hy : y.ok) (kx : x.kd = 1) (ky : y.kd = 1) (h : y.sc ≤ x.sc) : Ev (fun k => vernierref09_Sum_0.f k x.kd x.ng x.sc (TH x.V) (TL x.V) x.R y.kd y.ng y.sc (TH y.V) (TL y.V) y.R) (sumX x y).tup := by
 unfold vernierref09_Sum_0.f
 simp only [if_neg (show ¬ x.kd = 2 by omega)]
 rw [show (y.kd == 2) = false by rw [ky]; rfl]
 exact ref09_Sum_0_real hx hy kx ky h
theorem ref09_Sum_j0 {x y : EX} (hx : x.ok) (hy : y.ok) : Ev (fun k => vernierref09_Sum.j0 k (decide (x.kd = 2 ∨ y.kd = 2)) x.kd x.ng x.sc (TH x.V) (TL x.V) x.R y.kd y.ng y.sc (TH y.V) (TL y.V) y.R) (sumX x y).tup := by
 have main := ref09_Sum_real hx hy
 by_cases h : x.kd = 2 ∨ y.kd = 2
 ·refine evs ?_
  simp only [vernierref09_Sum.j0]
  simp only [if_pos (decide_eq_true h)]
  rw [sumX_nar h]
  exact Ev.now _
 ·have hf : decide (x.kd = 2 ∨ y.kd = 2) = false := decide_eq_false h
  by_cases a : x.kd = 0
  ·refine evs ?_
   simp only [vernierref09_Sum.j0]
   simp only [hf, if_neg (show ¬ (false = true) by decide), if_pos a]
   rw [sumX_z1 h a]
   exact Ev.now _
  ·by_cases b : y.kd = 0
   ·refine evs ?_
    simp only [vernierref09_Sum.j0]
    simp only [hf, if_neg (show ¬ (false = true) by decide), if_neg a, if_pos b]
    rw [sumX_z2 h a b]
    exact Ev.now _
   ·have kx : x.kd = 1 := by have := EX.ok_kd hx; omega
    have ky : y.kd = 1 := by have := EX.ok_kd hy; omega
    by_cases c : x.sc < y.sc
    ·refine evs ?_
     simp only [vernierref09_Sum.j0]
     simp only [hf, if_neg (show ¬ (false = true) by decide), if_neg a, if_neg b, if_pos c]
     rw [sumX_comm hx hy]
     exact Ev.bind (ref09_Sum_0_X hy hx ky kx (Int.le_of_lt c)) (Ev.now _)
    ·rw [hf]
     exact main kx ky (Int.not_lt.1 c)
theorem ref09_Sum_X {x y : EX} (hx : x.ok) (hy : y.ok) : Ev (fun k => vernierref09_Sum.f k x.kd x.ng x.sc (TH x.V) (TL x.V) x.R y.kd y.ng y.sc (TH y.V) (TL y.V) y.R) (sumX x y).tup := by
 have h := ref09_Sum_j0 hx hy
 unfold vernierref09_Sum.f
 by_cases a : x.kd = 2
 ·simp only [if_pos a]
  rw [decide_eq_true (Or.inl a)] at h
  exact h
 ·simp only [if_neg a]
  rw [show decide (x.kd = 2 ∨ y.kd = 2) = (y.kd == 2) by rw [Bool.eq_iff_iff]; simp [a]] at h
  exact h
end Go.Proofs.Ytfbbnpliaokmbaa.V
namespace Go.Proofs.Ytfbbnpliaokmbaa.V
open Go Go.RowKit Go.Proofs.Ytfbbnpliaokmbaa.Ab Go.Proofs.Ytfbbnpliaokmbaa.Fn
set_option linter.unusedVariables false
set_option linter.unusedSimpArgs false
def prdX (n x y : Nat) : EX := prodX (decN n x) (decN n y)
theorem prdX_ok (n x y : Nat) : (prdX n x y).ok := prodX_ok _ _
def fmaN (n x y z : Nat) : Nat := (sumX (prdX n x y) (decN n z).ex).rnd n
theorem fuse_product_eq {n a b : Nat} (h : isW (n : Int) = true) (ha : a < 18446744073709551616) (hb : b < 18446744073709551616) : Ev (fun k => fuse_product.f k (n : Int) (a : Int) (b : Int)) ((prdX n (a % 2 ^ n) (b % 2 ^ n)).kd, (prdX n (a % 2 ^ n) (b % 2 ^ n)).ng, (prdX n (a % 2 ^ n) (b % 2 ^ n)).sc, TH (prdX n (a % 2 ^ n) (b % 2 ^ n)).V, TL (prdX n (a % 2 ^ n) (b % 2 ^ n)).V, (prdX n (a % 2 ^ n) (b % 2 ^ n)).R, none) := by
 obtain ⟨b64, b8⟩ := pow64 h
 have oa := decN_ok b8 b64 (Nat.mod_lt a (two_pos n))
 have ob := decN_ok b8 b64 (Nat.mod_lt b (two_pos n))
 unfold fuse_product.f
 refine Ev.bind (Decode_N h ha) ?_
 simp only [Option.isNone_none, if_true]
 exact Ev.bind (Decode_N h hb) (Ev.bind (prod_Exact_X oa ob) (Ev.now _))
theorem fuse_Fma_eq {n a b c : Nat} (h : isW (n : Int) = true) (ha : a < 18446744073709551616) (hb : b < 18446744073709551616) (hc : c < 18446744073709551616) : Ev (fun k => fuse_Fma.f k (n : Int) (a : Int) (b : Int) (c : Int)) (((fmaN n (a % 2 ^ n) (b % 2 ^ n) (c % 2 ^ n) : Nat) : Int), none) := by
 obtain ⟨b64, b8⟩ := pow64 h
 have oc := decN_ok b8 b64 (Nat.mod_lt c (two_pos n))
 have op := prdX_ok n (a % 2 ^ n) (b % 2 ^ n)
 unfold fuse_Fma.f
 refine Ev.bind (fuse_product_eq h ha hb) ?_
 simp only [Option.isNone_none, if_true]
 exact Ev.bind (Decode_N h hc) (Ev.bind (Of_X oc) (Ev.bind (broad_Sum_X op (NM.ex_ok oc)) (Ev.bind (Round_X h (sumX_ok op (NM.ex_ok oc))) (Ev.now _))))
theorem up13 : Ev (fun k => vernierlaw13_up.f k) true := by
 unfold vernierlaw13_up.f
 have a := fuse_Fma_eq (n := 8) (a := 72) (b := 72) (c := 192) (by decide) (by decide) (by decide) (by decide)
 have b := fuse_Fma_eq (n := 8) (a := 127) (b := 1) (c := 192) (by decide) (by decide) (by decide) (by decide)
 rw [show fmaN 8 (72 % 2 ^ 8) (72 % 2 ^ 8) (192 % 2 ^ 8) = 76 by decide +kernel] at a
 rw [show fmaN 8 (127 % 2 ^ 8) (1 % 2 ^ 8) (192 % 2 ^ 8) = 0 by decide +kernel] at b
 exact Ev.bind a (Ev.bind b (Ev.now _))
end Go.Proofs.Ytfbbnpliaokmbaa.V
namespace Go.Proofs.Ytfbbnpliaokmbaa.Pure
open Go Go.RowKit Go.Proofs.Ytfbbnpliaokmbaa.Ab Go.Proofs.Ytfbbnpliaokmbaa.Fn Go.Proofs.Ytfbbnpliaokmbaa.V
set_option linter.unusedSimpArgs false
theorem FuseExacts : vernierlaw13_FuseExacts.Pure := by
 intro kd ng sc hi lo rs kd' ng' sc' hi' lo' rs' w0 w2 w3 w4 w5 w6 w7 w8
 obtain ⟨hi, rfl, hh⟩ := u64_nat w3
 obtain ⟨lo, rfl, hl⟩ := u64_nat w4
 obtain ⟨hi', rfl, hh'⟩ := u64_nat w7
 obtain ⟨lo', rfl, hl'⟩ := u64_nat w8
 refine Ev.rounds (g := fun k => vernierlaw13_FuseExacts.f k kd ng sc (hi : Int) (lo : Int) rs kd' ng' sc' (hi' : Int) (lo' : Int) rs') ?_
 unfold vernierlaw13_FuseExacts.f
 refine Ev.bind up13 ?_
 have both : Ev (fun k => fuse_Exact.f k kd ng sc (hi : Int) (lo : Int) rs kd' ng' sc' (hi' : Int) (lo' : Int) rs') (0, false, 0, 0, 0, false, some 1) → Ev (fun k => vernierref13_Exact.f k kd ng sc (hi : Int) (lo : Int) rs kd' ng' sc' (hi' : Int) (lo' : Int) rs') (0, false, 0, 0, 0, false, 1) →
   Ev (fun k => (fuse_Exact.f k kd ng sc (hi : Int) (lo : Int) rs kd' ng' sc' (hi' : Int) (lo' : Int) rs').bind fun t101 => ((vernierref13_Exact.f k kd ng sc (hi : Int) (lo : Int) rs kd' ng' sc' (hi' : Int) (lo' : Int) rs').bind fun t102 => (if ((t101.1 == t102.1) && ((t101.2.1 == t102.2.1) && ((t101.2.2.1 == t102.2.2.1) && ((t101.2.2.2.1 == t102.2.2.2.1) && ((t101.2.2.2.2.1 == t102.2.2.2.2.1) && (t101.2.2.2.2.2.1 == t102.2.2.2.2.2.1)))))) = true then ((vernierlaw00_Code.f t101.2.2.2.2.2.2).bind fun t103 => (some (t103 == t102.2.2.2.2.2.2))) else (some false))))
    true := fun h1 h2 => Ev.bind h1 (Ev.bind h2 (evn (by simp [code_1])))
 simp only [if_true]
 by_cases h : soundE kd ng sc (hi : Int) (lo : Int) rs = true
 ·by_cases h' : soundE kd' ng' sc' (hi' : Int) (lo' : Int) rs' = true
  ·cases hr : rs
   ·cases hr' : rs'
    ·subst hr hr'
     obtain ⟨x, hx, rfl, rfl, rfl, e1, e2, er⟩ := EX.of_sound hh hl h
     obtain ⟨y, hy, rfl, rfl, rfl, e1', e2', er'⟩ := EX.of_sound hh' hl' h'
     rw [e1, e2, e1', e2']
     have p1 : Ev (fun k => fuse_Exact.f k x.kd x.ng x.sc (TH x.V) (TL x.V) false y.kd y.ng y.sc (TH y.V) (TL y.V) false) ((sumX x y).kd, (sumX x y).ng, (sumX x y).sc, TH (sumX x y).V, TL (sumX x y).V, (sumX x y).R, none) := by
      have s := broad_Sum_X hx hy
      have r1 := Round_X (n := 8) (by decide) hx
      have r2 := Round_X (n := 8) (by decide) hy
      rw [er] at s r1
      rw [er'] at s r2
      unfold fuse_Exact.f
      refine Ev.bind r1 ?_
      simp only [Option.isNone_none, if_true, Bool.false_eq_true, if_false]
      refine Ev.bind r2 ?_
      simp only [Option.isNone_none, if_true]
      exact Ev.bind s (Ev.now _)
     have p2 : Ev (fun k => vernierref13_Exact.f k x.kd x.ng x.sc (TH x.V) (TL x.V) false y.kd y.ng y.sc (TH y.V) (TL y.V) false) ((sumX x y).kd, (sumX x y).ng, (sumX x y).sc, TH (sumX x y).V, TL (sumX x y).V, (sumX x y).R, 0) := by
      have s := ref09_Sum_X hx hy
      rw [er, er'] at s
      rw [e1, e2] at h
      rw [e1', e2'] at h'
      unfold vernierref13_Exact.f
      rw [ref_Sound_eq, ref_Sound_eq, h, h']
      simp only [Option.bind_some, if_true, Bool.false_eq_true, if_false]
      exact Ev.bind s (Ev.now _)
     generalize sumX x y = S at p1 p2
     exact Ev.bind p1 (Ev.bind p2 (evn (by simp [code_none])))
    ·subst hr hr'
     refine both ?_ ?_
     ·unfold fuse_Exact.f
      refine Ev.bind (round_Round_eq (n := 8) (by decide) hh hl h) ?_
      simp only [Option.isNone_none, if_true, Bool.false_eq_true, if_false]
      refine Ev.bind (round_Round_eq (n := 8) (by decide) hh' hl' h') ?_
      simp only [Option.isNone_none, if_true]
      exact Ev.now _
     ·unfold vernierref13_Exact.f
      rw [ref_Sound_eq, ref_Sound_eq, h, h']
      simp only [Option.bind_some, if_true, Bool.false_eq_true, if_false]
      exact Ev.now _
   ·subst hr
    refine both ?_ ?_
    ·unfold fuse_Exact.f
     refine Ev.bind (round_Round_eq (n := 8) (by decide) hh hl h) ?_
     simp only [Option.isNone_none, if_true]
     exact Ev.now _
    ·unfold vernierref13_Exact.f
     rw [ref_Sound_eq, ref_Sound_eq, h, h']
     simp only [Option.bind_some, if_true]
     exact Ev.now _
  ·have h' : soundE kd' ng' sc' (hi' : Int) (lo' : Int) rs' = false := by simpa using h'
   refine both ?_ ?_
   ·unfold fuse_Exact.f
    refine Ev.bind (round_Round_eq (n := 8) (by decide) hh hl h) ?_
    simp only [Option.isNone_none, if_true]
    cases rs
    ·simp only [Bool.false_eq_true, if_false]
     exact Ev.bind (round_Round_bad (n := 8) (by decide) (by omega) (by omega) h') (Ev.now _)
    ·simp only [if_true]
     exact Ev.now _
   ·unfold vernierref13_Exact.f
    rw [ref_Sound_eq, ref_Sound_eq, h, h']
    simp only [Option.bind_some, if_true, Bool.false_eq_true, if_false]
    exact Ev.now _
 ·have h : soundE kd ng sc (hi : Int) (lo : Int) rs = false := by simpa using h
  refine both ?_ ?_
  ·unfold fuse_Exact.f
   exact Ev.bind (round_Round_bad (n := 8) (by decide) (by omega) (by omega) h) (Ev.now _)
  ·unfold vernierref13_Exact.f
   rw [ref_Sound_eq, ref_Sound_eq, h]
   simp only [Option.bind_some, Bool.false_eq_true, if_false]
   exact Ev.now _
end Go.Proofs.Ytfbbnpliaokmbaa.Pure
