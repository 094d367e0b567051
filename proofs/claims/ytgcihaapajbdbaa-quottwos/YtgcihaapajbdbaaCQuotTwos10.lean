-- Written by a program of this session out of its own texts (wip/tools/link.py).
import Derived.Below
import Derived.ChangeKeysEq
import Derived.Deep.MidRow
import Derived.Deep.RegionHeld3
import Derived.Great.BuildSlice
import Derived.IntWalk
import Derived.KernelRfl
import Derived.LaidEql
import Derived.Laws.Bits64
import Derived.Laws.BitsLemmas
import Derived.Laws.BytesArg
import Derived.Laws.IdiomCopy
import Derived.Laws.OwnMore
import Derived.Laws.Rows
import Derived.Laws.Slices
import Derived.Laws.Strings
import Derived.Laws.StructEq
import Derived.Laws.Tables
import Derived.Lib.BitFns
import Derived.Lib.Mul64
import Derived.Lib.Slices
import Derived.Lib.Small
import Derived.Lib.Strings
import Derived.Lib.Walk
import Derived.Maps.AppendAt
import Derived.OrdersHeld
import Derived.RowKit
import Derived.Test.YtgcihaapajbdbaaProg
import Derived.Test.YtgcihaapajbdbaaCQuotTwos6
import Derived.Test.YtgcihaapajbdbaaCQuotTwos8
import Derived.Test.YtgcihaapajbdbaaCQuotTwos9
namespace Go.Proofs.Ytgcihaapajbdbaa.V
open Go Go.RowKit Go.Proofs.Ytgcihaapajbdbaa.Ab Go.Proofs.Ytgcihaapajbdbaa.Fn
set_option linter.unusedVariables false
set_option linter.unusedSimpArgs false
theorem beq_dec (a b : Int) : (a == b) = decide (a = b) := by by_cases h : a = b <;> simp [h]
theorem mask32 (a : Nat) (ha : a < 18446744073709551616) : Go.bits .and .u64 (a : Int) 4294967295 = ((a % 4294967296 : Nat) : Int) := and_mask a 32 ha (by decide)
theorem div32 (a : Nat) : (a : Int) / 4294967296 = ((a / 4294967296 : Nat) : Int) := by omega
theorem mulC (a b : Nat) : (a : Int) * (b : Int) = ((a * b : Nat) : Int) := (Int.natCast_mul a b).symm
theorem addC (a b : Nat) : (a : Int) + (b : Int) = ((a + b : Nat) : Int) := (Int.natCast_add a b).symm
theorem wrapN (a : Nat) (ha : a < 18446744073709551616) : IntKind.u64.wrap (a : Int) = (a : Int) := u64_of (by omega) (by omega)
theorem bits_Mul64_eq {x y : Nat} (hx : x < 18446744073709551616) (hy : y < 18446744073709551616) : bits_Mul64.f (x : Int) (y : Int) = some (TH (x * y), TL (x * y)) := by
 obtain ⟨bd, bt, bw, hhi⟩ := Lib.mul64_hi x y hx hy
 have ba := Lib.half_mul_le (a := x / 4294967296) (b := y / 4294967296) (by omega) (by omega)
 have bb := Lib.half_mul_le (a := x / 4294967296) (b := y % 4294967296) (by omega) (by omega)
 have bc := Lib.half_mul_le (a := x % 4294967296) (b := y / 4294967296) (by omega) (by omega)
 have ba' : x / 4294967296 * (y / 4294967296) < 18446744073709551616 := by omega
 have bb' : x / 4294967296 * (y % 4294967296) < 18446744073709551616 := by omega
 have bc' : x % 4294967296 * (y / 4294967296) < 18446744073709551616 := by omega
 have bh1 : x / 4294967296 * (y / 4294967296) + (x / 4294967296 * (y % 4294967296) + x % 4294967296 * (y % 4294967296) / 4294967296) / 4294967296 < 18446744073709551616 := by omega
 have bh : x / 4294967296 * (y / 4294967296) + (x / 4294967296 * (y % 4294967296) + x % 4294967296 * (y % 4294967296) / 4294967296) / 4294967296 + ((x / 4294967296 * (y % 4294967296) + x % 4294967296 * (y % 4294967296) / 4294967296) % 4294967296 + x % 4294967296 * (y / 4294967296)) / 4294967296 < 18446744073709551616 := by omega
 unfold bits_Mul64.f
 simp only [mask32 x hx, mask32 y hy, div32, mulC, addC, wrapN _ bd, wrapN _ bb', wrapN _ bt, mask32 _ bt, wrapN _ bc', wrapN _ bw, wrapN _ ba', wrapN _ bh1, wrapN _ bh, u64_nat_wrap (x * y)]
 rw [hhi]
 rfl
theorem twin_Mul_eq {x y : Nat} (hx : x < 18446744073709551616) (hy : y < 18446744073709551616) : twin_Mul.f (x : Int) (y : Int) = some (TH (x * y), TL (x * y)) := by
 unfold twin_Mul.f
 rw [bits_Mul64_eq hx hy]; rfl
theorem mul_lt128 {x y : Nat} (hx : x < 18446744073709551616) (hy : y < 18446744073709551616) : x * y < 2 ^ 128 := by
 have := Nat.mul_le_mul (show x ≤ 18446744073709551615 by omega) (show y ≤ 18446744073709551615 by omega)
 rw [p128]
 omega
def prodE (kd : Int) (ng : Bool) (sc : Int) (fr : Nat) (kd' : Int) (ng' : Bool) (sc' : Int) (fr' : Nat) : Int × Bool × Int × Int × Int × Bool :=
 if kd = 2 ∨ kd' = 2 then (2, false, 0, 0, 0, false) else if kd = 0 ∨ kd' = 0 then (0, false, 0, 0, 0, false)
 else exactE (ng != ng') (fr * fr') (sc + sc' - 126) false
theorem soundN_cases {kd sc fr : Int} {ng : Bool} (h : soundN kd ng sc fr = true) : (kd = 0 ∧ ng = false ∧ sc = 0 ∧ fr = 0) ∨ (kd = 2 ∧ ng = false ∧ sc = 0 ∧ fr = 0) ∨ (kd = 1 ∧ 9223372036854775808 ≤ fr ∧ -1073741824 ≤ sc ∧ sc ≤ 1073741824) := by
 unfold soundN at h
 split at h
 ·rename_i hk
  have : ng = false ∧ sc = 0 ∧ fr = 0 := by simpa using h
  rcases hk with hk | hk
  ·exact .inl ⟨hk, this⟩
  ·exact .inr (.inl ⟨hk, this⟩)
 ·exact .inr (.inr (of_decide_eq_true h))
theorem makeV_exactE {ng R : Bool} {V : Nat} {e : Int} (hV : V < 2 ^ 128) (h0 : -4398046511104 ≤ e) (h1 : e ≤ 4398046511104) :
  makeV ng V e R = ((exactE ng V e R).1, (exactE ng V e R).2.1, (exactE ng V e R).2.2.1, (exactE ng V e R).2.2.2.1, (exactE ng V e R).2.2.2.2.1, (exactE ng V e R).2.2.2.2.2, none) := by
 unfold makeV exactE
 by_cases hz : V = 0
 ·rw [if_pos hz, if_pos hz]
 ·rw [if_neg hz, if_neg hz]
  have hb := bl_le_of_lt hV
  have hr : mkR V R = R := by unfold mkR; rw [show bl V - 128 = 0 by omega, Nat.pow_zero, Nat.mod_one]; simp
  have hf : farI e = e := by unfold farI; rw [if_neg (by omega), if_neg (by omega)]
  rw [hr, hf]
theorem prod_Exact_eq (kd : Int) (ng : Bool) (sc : Int) (fr : Nat) (kd' : Int) (ng' : Bool) (sc' : Int) (fr' : Nat) (hf : fr < 18446744073709551616) (hf' : fr' < 18446744073709551616) :
  Ev (fun k => prod_Exact.f k kd ng sc (fr : Int) kd' ng' sc' (fr' : Int)) (if soundN kd ng sc fr = true ∧ soundN kd' ng' sc' fr' = true then
   ((prodE kd ng sc fr kd' ng' sc' fr').1, (prodE kd ng sc fr kd' ng' sc' fr').2.1, (prodE kd ng sc fr kd' ng' sc' fr').2.2.1, (prodE kd ng sc fr kd' ng' sc' fr').2.2.2.1, (prodE kd ng sc fr kd' ng' sc' fr').2.2.2.2.1, (prodE kd ng sc fr kd' ng' sc' fr').2.2.2.2.2, none)
   else (0, false, 0, 0, 0, false, some 1)) := by
 unfold prod_Exact.f
 refine Ev.bind (round_Of_eq kd ng sc fr (by omega) (by omega)) ?_
 by_cases h1 : soundN kd ng sc fr = true
 ·simp only [h1, if_true, Option.isNone_none, true_and]
  refine Ev.bind (round_Of_eq kd' ng' sc' fr' (by omega) (by omega)) ?_
  by_cases h2 : soundN kd' ng' sc' fr' = true
  ·simp only [h2, if_true, Option.isNone_none]
   have c1 := soundN_cases h1
   have c2 := soundN_cases h2
   have j1 : Ev (fun k => prod_Exact.j0 k (decide (kd = 2 ∨ kd' = 2)) kd ng sc (fr : Int) kd' ng' sc' (fr' : Int)) ((prodE kd ng sc fr kd' ng' sc' fr').1, (prodE kd ng sc fr kd' ng' sc' fr').2.1, (prodE kd ng sc fr kd' ng' sc' fr').2.2.1, (prodE kd ng sc fr kd' ng' sc' fr').2.2.2.1, (prodE kd ng sc fr kd' ng' sc' fr').2.2.2.2.1, (prodE kd ng sc fr kd' ng' sc' fr').2.2.2.2.2, none) := by
    refine evs ?_
    simp only [prod_Exact.j0]
    unfold prodE
    by_cases hk : kd = 2 ∨ kd' = 2
    ·simp only [if_pos hk, decide_eq_true hk, if_true]
     exact Ev.now _
    ·simp only [if_neg hk, decide_eq_false hk, Bool.false_eq_true, if_false]
     have j2 : Ev (fun k => prod_Exact.j1 k (decide (kd = 0 ∨ kd' = 0)) ng sc (fr : Int) ng' sc' (fr' : Int)) (if kd = 0 ∨ kd' = 0 then (0, false, 0, 0, 0, false, none) else makeV (ng != ng') (fr * fr') (sc + sc' - 126) false) := by
      refine evs ?_
      simp only [prod_Exact.j1]
      by_cases h0 : kd = 0 ∨ kd' = 0
      ·simp only [if_pos h0, decide_eq_true h0, if_true]
       exact Ev.now _
      ·simp only [if_neg h0, decide_eq_false h0, Bool.false_eq_true, if_false]
       have ew : wrap64 (wrap64 (sc + sc') - 126) = sc + sc' - 126 := by
        rw [w64 (n := sc + sc') (by omega) (by omega), w64 (by omega) (by omega)]
       rw [ew, twin_Mul_eq hf hf']
       simp only [Option.bind_some]
       have := round_Make_eq (ng != ng') (fr * fr') (sc + sc' - 126) false (mul_lt128 hf hf')
       simp only [Bool.false_eq_true, false_and, if_false] at this
       refine Ev.bind this ?_
       exact Ev.now _
     have key : ((if kd = 0 ∨ kd' = 0 then (0, false, 0, 0, 0, false, none) else makeV (ng != ng') (fr * fr') (sc + sc' - 126) false) : Int × Bool × Int × Int × Int × Bool × Option Int) = ((if kd = 0 ∨ kd' = 0 then (0, false, 0, 0, 0, false) else exactE (ng != ng') (fr * fr') (sc + sc' - 126) false).1, (if kd = 0 ∨ kd' = 0 then (0, false, 0, 0, 0, false) else exactE (ng != ng') (fr * fr') (sc + sc' - 126) false).2.1, (if kd = 0 ∨ kd' = 0 then (0, false, 0, 0, 0, false) else exactE (ng != ng') (fr * fr') (sc + sc' - 126) false).2.2.1, (if kd = 0 ∨ kd' = 0 then (0, false, 0, 0, 0, false) else exactE (ng != ng') (fr * fr') (sc + sc' - 126) false).2.2.2.1, (if kd = 0 ∨ kd' = 0 then (0, false, 0, 0, 0, false) else exactE (ng != ng') (fr * fr') (sc + sc' - 126) false).2.2.2.2.1, (if kd = 0 ∨ kd' = 0 then (0, false, 0, 0, 0, false) else exactE (ng != ng') (fr * fr') (sc + sc' - 126) false).2.2.2.2.2, none) := by
      by_cases h0 : kd = 0 ∨ kd' = 0
      ·simp only [if_pos h0]
      ·simp only [if_neg h0]
       exact makeV_exactE (mul_lt128 hf hf') (by omega) (by omega)
     rw [← key]
     by_cases hk0 : kd = 0
     ·have hd : (kd == 0) = decide (kd = 0 ∨ kd' = 0) := by rw [decide_eq_true (.inl hk0)]; simp [hk0]
      simp only [if_pos hk0, hd]
      exact j2
     ·have hd : (kd' == 0) = decide (kd = 0 ∨ kd' = 0) := by rw [beq_dec]; simp [hk0]
      simp only [if_neg hk0, hd]
      exact j2
   by_cases hk2 : kd = 2
   ·have hd : (kd == 2) = decide (kd = 2 ∨ kd' = 2) := by simp [hk2]
    simp only [if_pos hk2, hd]
    exact j1
   ·have hd : (kd' == 2) = decide (kd = 2 ∨ kd' = 2) := by rw [beq_dec]; simp [hk2]
    simp only [if_neg hk2, hd]
    exact j1
  ·simp only [if_neg h2]
   exact Ev.now _
 ·simp only [if_neg h1, if_neg (show ¬ (soundN kd ng sc fr = true ∧ soundN kd' ng' sc' fr' = true) from fun h => h1 h.1)]
  exact Ev.now _
theorem ref_sound (kd : Int) (ng : Bool) (sc fr : Int) : vernierref06_Sound.f kd ng sc fr = some (soundN kd ng sc fr) := by
 unfold vernierref06_Sound.f soundN
 by_cases h0 : kd = 0
 ·simp [h0]
 ·by_cases h2 : kd = 2
  ·simp [h2]
  ·rw [if_neg h0, if_neg h2, if_neg (show ¬ (kd = 0 ∨ kd = 2) by omega)]
   by_cases h1 : kd = 1
   ·rw [if_pos h1]
    by_cases h3 : fr ≥ 9223372036854775808
    ·rw [if_pos h3]
     by_cases h4 : sc ≥ -1073741824
     ·rw [if_pos h4]
      congr 1
      rw [decide_eq_decide]
      omega
     ·rw [if_neg h4, decide_eq_false (by omega)]
    ·rw [if_neg h3, decide_eq_false (by omega)]
   ·rw [if_neg h1, decide_eq_false (by omega)]
def prodX (a b : NM) : EX := if a.kd = 2 ∨ b.kd = 2 then EX.nar else if a.kd = 0 ∨ b.kd = 0 then EX.zero else natX (a.ng != b.ng) (a.fr * b.fr) (a.sc + b.sc - 126) false
theorem prodX_ok (a b : NM) : (prodX a b).ok := by
 unfold prodX
 split
 ·exact .inr (.inl rfl)
 ·split
  ·exact .inl rfl
  ·exact natX_ok _ _ _ _
theorem prodE_X (a b : NM) : prodE a.kd a.ng a.sc a.fr b.kd b.ng b.sc b.fr = ((prodX a b).kd, (prodX a b).ng, (prodX a b).sc, TH (prodX a b).V, TL (prodX a b).V, (prodX a b).R) := by
 unfold prodE prodX
 by_cases h2 : a.kd = 2 ∨ b.kd = 2
 ·rw [if_pos h2, if_pos h2]; rfl
 ·rw [if_neg h2, if_neg h2]
  by_cases h0 : a.kd = 0 ∨ b.kd = 0
  ·rw [if_pos h0, if_pos h0]; rfl
  ·rw [if_neg h0, if_neg h0, exactE_natX]
theorem prod_Exact_X {a b : NM} (ha : a.ok) (hb : b.ok) : Ev (fun k => prod_Exact.f k a.kd a.ng a.sc (a.fr : Int) b.kd b.ng b.sc (b.fr : Int)) ((prodX a b).kd, (prodX a b).ng, (prodX a b).sc, TH (prodX a b).V, TL (prodX a b).V, (prodX a b).R, none) := by
 have := prod_Exact_eq a.kd a.ng a.sc a.fr b.kd b.ng b.sc b.fr ha.2 hb.2
 rw [if_pos ⟨ha.1, hb.1⟩, prodE_X] at this
 exact this
def mulN (n x y : Nat) : Nat := (prodX (decN n x) (decN n y)).rnd n
theorem prod_Mul_eq {n a b : Nat} (h : isW (n : Int) = true) (ha : a < 18446744073709551616) (hb : b < 18446744073709551616) : Ev (fun k => prod_Mul.f k (n : Int) (a : Int) (b : Int)) (((mulN n (a % 2 ^ n) (b % 2 ^ n) : Nat) : Int), none) := by
 obtain ⟨b64, b8⟩ := pow64 h
 unfold prod_Mul.f
 refine Ev.bind (Decode_N h ha) ?_
 simp only [Option.isNone_none, if_true]
 refine Ev.bind (Decode_N h hb) ?_
 refine Ev.bind (prod_Exact_X (decN_ok b8 b64 (Nat.mod_lt a (two_pos n))) (decN_ok b8 b64 (Nat.mod_lt b (two_pos n)))) ?_
 refine Ev.bind (Round_X h (prodX_ok _ _)) ?_
 exact Ev.now _
end Go.Proofs.Ytgcihaapajbdbaa.V
namespace Go.Proofs.Ytgcihaapajbdbaa.V
open Go Go.RowKit Go.Proofs.Ytgcihaapajbdbaa.Ab Go.Proofs.Ytgcihaapajbdbaa.Fn
set_option linter.unusedVariables false
set_option linter.unusedSimpArgs false
theorem dig_test {y1 y0 u d g r : Nat} (hy1 : 2147483648 ≤ y1) (hy1' : y1 < 4294967296) (hy0 : y0 < 4294967296) (hu : u < y1 * 4294967296 + y0) (hd : d < 4294967296) (hg : u = g * y1 + r) (hr : r < 4294967296) :
  (¬ (4294967296 ≤ g ∨ 4294967296 * r + d < g * y0) → g ≤ (u * 4294967296 + d) / (y1 * 4294967296 + y0)) ∧ ((4294967296 ≤ g ∨ 4294967296 * r + d < g * y0) → (u * 4294967296 + d) / (y1 * 4294967296 + y0) < g) := by
 have hpos : 0 < y1 * 4294967296 + y0 := by omega
 have e : g * (y1 * 4294967296 + y0) = g * y1 * 4294967296 + g * y0 := by rw [Nat.mul_add, Nat.mul_assoc]
 have eu : u * 4294967296 = g * y1 * 4294967296 + r * 4294967296 := by rw [hg, Nat.add_mul]
 constructor
 ·intro h
  rw [Nat.le_div_iff_mul_le hpos, e]
  omega
 ·rintro (h | h)
  ·refine Nat.lt_of_lt_of_le ?_ h
   rw [Nat.div_lt_iff_lt_mul hpos]
   omega
  ·rw [Nat.div_lt_iff_lt_mul hpos, e]
   omega
theorem dig_break {y1 y0 u d g r : Nat} (hy1 : 2147483648 ≤ y1) (hy0 : y0 < 4294967296) (hg : u = g * y1 + r) (hr : 4294967296 ≤ r) (hb : g ≤ 4294967296) : g ≤ (u * 4294967296 + d) / (y1 * 4294967296 + y0) := by
 have hpos : 0 < y1 * 4294967296 + y0 := by omega
 have e : g * (y1 * 4294967296 + y0) = g * y1 * 4294967296 + g * y0 := by rw [Nat.mul_add, Nat.mul_assoc]
 have eu : u * 4294967296 = g * y1 * 4294967296 + r * 4294967296 := by rw [hg, Nat.add_mul]
 have h0 : g * y0 ≤ 4294967296 * 4294967295 := Nat.mul_le_mul hb (by omega)
 rw [Nat.le_div_iff_mul_le hpos, e]
 omega
theorem dig_down {y1 u g r : Nat} (hg : u = (g + 1) * y1 + r) : u = g * y1 + (r + y1) := by rw [hg, Nat.add_mul]; omega
theorem dig_first {y1 y0 u : Nat} (hy1 : 2147483648 ≤ y1) (hy0 : y0 < 4294967296) (hu : u < y1 * 4294967296 + y0) : u / y1 ≤ 4294967297 := by
 have : u / y1 < 4294967298 := by rw [Nat.div_lt_iff_lt_mul (by omega)]; omega
 omega
theorem dig_below {y1 y0 u d : Nat} (hy1 : 2147483648 ≤ y1) (hd : d < 4294967296) : (u * 4294967296 + d) / (y1 * 4294967296 + y0) ≤ u / y1 := by
 rw [Nat.le_div_iff_mul_le (by omega)]
 have h := Nat.div_mul_le_self (u * 4294967296 + d) (y1 * 4294967296 + y0)
 generalize (u * 4294967296 + d) / (y1 * 4294967296 + y0) = q at *
 have e : q * (y1 * 4294967296 + y0) = q * y1 * 4294967296 + q * y0 := by rw [Nat.mul_add, Nat.mul_assoc]
 omega
theorem wN {n : Nat} (h : n < 18446744073709551616) : IntKind.u64.wrap (n : Int) = (n : Int) := u64_of (by omega) (by omega)
theorem wMul {a b : Nat} (h : a * b < 18446744073709551616) : IntKind.u64.wrap ((a : Int) * (b : Int)) = ((a * b : Nat) : Int) := by rw [mulC, wN h]
theorem wAdd {a b : Nat} (h : a + b < 18446744073709551616) : IntKind.u64.wrap ((a : Int) + (b : Int)) = ((a + b : Nat) : Int) := by rw [addC, wN h]
theorem wPred {a : Nat} (h : a < 18446744073709551616) (h0 : 0 < a) : IntKind.u64.wrap ((a : Int) - 1) = ((a - 1 : Nat) : Int) := by rw [show (a : Int) - 1 = ((a - 1 : Nat) : Int) by omega, wN (by omega)]
theorem wRest {u d g y : Nat} (h : g * y ≤ u * 4294967296 + d) (hl : u * 4294967296 + d - g * y < 18446744073709551616) : IntKind.u64.wrap (IntKind.u64.wrap (IntKind.u64.wrap ((u : Int) * 4294967296) + (d : Int)) - IntKind.u64.wrap ((g : Int) * (y : Int))) = ((u * 4294967296 + d - g * y : Nat) : Int) := by
 rw [mulC g y]
 generalize g * y = z at *
 simp only [u64_wrap]
 omega
theorem div_test_mul {a b : Nat} (ha : a ≤ 4294967297) (hb : b < 4294967296) : a * b < 18446744073709551616 := by
 have := Nat.mul_le_mul ha (show b ≤ 4294967295 by omega)
 omega
structure Dig (y1 y0 u d q : Nat) : Prop where
 y1lo : 2147483648 ≤ y1
 y1hi : y1 < 4294967296
 y0hi : y0 < 4294967296
 dhi : d < 4294967296
 test : ∀ g r, u = g * y1 + r → r < 4294967296 → (¬ (4294967296 ≤ g ∨ 4294967296 * r + d < g * y0) → g ≤ q) ∧ ((4294967296 ≤ g ∨ 4294967296 * r + d < g * y0) → q < g)
 stop : ∀ g r, u = g * y1 + r → 4294967296 ≤ r → g ≤ 4294967296 → g ≤ q
theorem Dig.mk' {y1 y0 u d : Nat} (hy1 : 2147483648 ≤ y1) (hy1' : y1 < 4294967296) (hy0 : y0 < 4294967296) (hu : u < y1 * 4294967296 + y0) (hd : d < 4294967296) : Dig y1 y0 u d ((u * 4294967296 + d) / (y1 * 4294967296 + y0)) :=
 ⟨hy1, hy1', hy0, hd, fun g r h1 h2 => dig_test hy1 hy1' hy0 hu hd h1 h2, fun g r h1 h2 h3 => dig_break hy1 hy0 h1 h2 h3⟩
theorem wB {r : Nat} (h : r < 4294967296) : IntKind.u64.wrap (4294967296 * (r : Int)) = ((4294967296 * r : Nat) : Int) := by rw [show (4294967296 : Int) * (r : Int) = ((4294967296 * r : Nat) : Int) by omega, wN (by omega)]
theorem wB' {r : Nat} (h : r < 4294967296) : IntKind.u64.wrap ((r : Int) * 4294967296) = ((r * 4294967296 : Nat) : Int) := by rw [show (r : Int) * 4294967296 = ((r * 4294967296 : Nat) : Int) by omega, wN (by omega)]
theorem Div64_l0 {y s y1 y0 u d v q : Nat} {res : Int × Int} (D : Dig y1 y0 u d q)
  (H : Ev (fun k => bits_Div64.j2 k (y : Int) (s : Int) (y1 : Int) (y0 : Int) (u : Int) (d : Int) (v : Int) (q : Int)) res) :
  ∀ (m g r : Nat), g ≤ q + m → q ≤ g → u = g * y1 + r → r < 4294967296 → g ≤ 4294967297 →
   Ev (fun k => bits_Div64.l0 k (y : Int) (s : Int) (y1 : Int) (y0 : Int) (u : Int) (d : Int) (v : Int) (g : Int) (r : Int)) res := by
 have hd := D.dhi
 have hy1 := D.y1hi
 intro m
 induction m with
 | zero =>
  intro g r h1 h2 h3 h4 h5
  obtain ⟨t1, t2⟩ := D.test g r h3 h4
  have hno : ¬ (4294967296 ≤ g ∨ 4294967296 * r + d < g * y0) := fun h => by have := t2 h; omega
  have hm := div_test_mul h5 D.y0hi
  refine evs ?_
  simp only [bits_Div64.l0, if_neg (show ¬ (g : Int) ≥ 4294967296 by omega), wMul hm, wB h4, wAdd (show 4294967296 * r + d < 18446744073709551616 by omega), decide_eq_false (show ¬ ((g * y0 : Nat) : Int) > ((4294967296 * r + d : Nat) : Int) by omega)]
  refine evs ?_
  simp only [bits_Div64.j1, Bool.false_eq_true, if_false]
  rw [show g = q by omega]
  exact H
 | succ m ih =>
  intro g r h1 h2 h3 h4 h5
  obtain ⟨t1, t2⟩ := D.test g r h3 h4
  have hm := div_test_mul h5 D.y0hi
  have go : ∀ b : Bool, (b = true ↔ (4294967296 ≤ g ∨ 4294967296 * r + d < g * y0)) → Ev (fun k => bits_Div64.j1 k (y : Int) (s : Int) (y1 : Int) (y0 : Int) (u : Int) (d : Int) (v : Int) (g : Int) (r : Int) b) res := by
   intro b hb
   refine evs ?_
   simp only [bits_Div64.j1]
   by_cases c : b = true
   ·have c' := hb.mp c
    have hlt := t2 c'
    obtain ⟨g', rfl⟩ : ∃ g', g = g' + 1 := ⟨g - 1, by omega⟩
    have h3' := dig_down h3
    clear h3
    simp only [if_pos c, wPred (show g' + 1 < 18446744073709551616 by omega) (Nat.succ_pos _), Nat.add_sub_cancel, wAdd (show r + y1 < 18446744073709551616 by omega)]
    by_cases hbr : 4294967296 ≤ r + y1
    ·simp only [if_pos (show ((r + y1 : Nat) : Int) ≥ 4294967296 by omega)]
     have := D.stop g' (r + y1) h3' hbr (by omega)
     rw [show g' = q by omega]
     exact H
    ·simp only [if_neg (show ¬ ((r + y1 : Nat) : Int) ≥ 4294967296 by omega)]
     exact ih g' (r + y1) (by omega) (by omega) h3' (by omega) (by omega)
   ·have c' : ¬ (4294967296 ≤ g ∨ 4294967296 * r + d < g * y0) := fun h => c (hb.mpr h)
    have := t1 c'
    simp only [if_neg c]
    rw [show g = q by omega]
    exact H
  refine evs ?_
  by_cases c : 4294967296 ≤ g
  ·simp only [bits_Div64.l0, if_pos (show (g : Int) ≥ 4294967296 by omega)]
   exact go true (by simp [c])
  ·simp only [bits_Div64.l0, if_neg (show ¬ (g : Int) ≥ 4294967296 by omega), wMul hm, wB h4, wAdd (show 4294967296 * r + d < 18446744073709551616 by omega)]
   exact go _ (by simp only [decide_eq_true_eq]; omega)
theorem Div64_l1 {y y1 y0 q1 u d q : Nat} {res : Int × Int} (D : Dig y1 y0 u d q)
  (fin : (some (IntKind.u64.wrap (IntKind.u64.wrap ((q1 : Int) * 4294967296) + (q : Int)), shr .u64 (IntKind.u64.wrap (IntKind.u64.wrap (IntKind.u64.wrap ((u : Int) * 4294967296) + (d : Int)) - IntKind.u64.wrap ((q : Int) * (y : Int)))) 0) : Option (Int × Int)) = some res) :
  ∀ (m g r : Nat), g ≤ q + m → q ≤ g → u = g * y1 + r → r < 4294967296 → g ≤ 4294967297 →
   Ev (fun k => bits_Div64.l1 k (y : Int) 0 (y1 : Int) (y0 : Int) (d : Int) (q1 : Int) (r : Int) (u : Int) (g : Int)) res := by
 have hd := D.dhi
 have hy1 := D.y1hi
 intro m
 induction m with
 | zero =>
  intro g r h1 h2 h3 h4 h5
  obtain ⟨t1, t2⟩ := D.test g r h3 h4
  have hno : ¬ (4294967296 ≤ g ∨ 4294967296 * r + d < g * y0) := fun h => by have := t2 h; omega
  have hm := div_test_mul h5 D.y0hi
  refine evs ?_
  simp only [bits_Div64.l1, if_neg (show ¬ (g : Int) ≥ 4294967296 by omega), wMul hm, wB h4, wAdd (show 4294967296 * r + d < 18446744073709551616 by omega), decide_eq_false (show ¬ ((g * y0 : Nat) : Int) > ((4294967296 * r + d : Nat) : Int) by omega)]
  refine evs ?_
  simp only [bits_Div64.j4, Bool.false_eq_true, if_false, Int.le_refl, if_true]
  rw [show g = q by omega]
  exact evn fin
 | succ m ih =>
  intro g r h1 h2 h3 h4 h5
  obtain ⟨t1, t2⟩ := D.test g r h3 h4
  have hm := div_test_mul h5 D.y0hi
  have go : ∀ b : Bool, (b = true ↔ (4294967296 ≤ g ∨ 4294967296 * r + d < g * y0)) → Ev (fun k => bits_Div64.j4 k (y : Int) 0 (y1 : Int) (y0 : Int) (d : Int) (q1 : Int) (r : Int) (u : Int) (g : Int) b) res := by
   intro b hb
   refine evs ?_
   simp only [bits_Div64.j4, Int.le_refl, if_true]
   by_cases c : b = true
   ·have c' := hb.mp c
    have hlt := t2 c'
    obtain ⟨g', rfl⟩ : ∃ g', g = g' + 1 := ⟨g - 1, by omega⟩
    have h3' := dig_down h3
    clear h3
    simp only [if_pos c, wPred (show g' + 1 < 18446744073709551616 by omega) (Nat.succ_pos _), Nat.add_sub_cancel, wAdd (show r + y1 < 18446744073709551616 by omega)]
    by_cases hbr : 4294967296 ≤ r + y1
    ·simp only [if_pos (show ((r + y1 : Nat) : Int) ≥ 4294967296 by omega)]
     have := D.stop g' (r + y1) h3' hbr (by omega)
     rw [show g' = q by omega]
     exact evn fin
    ·simp only [if_neg (show ¬ ((r + y1 : Nat) : Int) ≥ 4294967296 by omega)]
     exact ih g' (r + y1) (by omega) (by omega) h3' (by omega) (by omega)
   ·have c' : ¬ (4294967296 ≤ g ∨ 4294967296 * r + d < g * y0) := fun h => c (hb.mpr h)
    have := t1 c'
    simp only [if_neg c]
    rw [show g = q by omega]
    exact evn fin
  refine evs ?_
  by_cases c : 4294967296 ≤ g
  ·simp only [bits_Div64.l1, if_pos (show (g : Int) ≥ 4294967296 by omega)]
   exact go true (by simp [c])
  ·simp only [bits_Div64.l1, if_neg (show ¬ (g : Int) ≥ 4294967296 by omega), wMul hm, wB h4, wAdd (show 4294967296 * r + d < 18446744073709551616 by omega)]
   exact go _ (by simp only [decide_eq_true_eq]; omega)
theorem Div64_fin {q1 u d q z y : Nat} (h1 : q1 * 4294967296 + q < 18446744073709551616) (h2 : q1 < 4294967296) (h3 : q * y ≤ u * 4294967296 + d) (h4 : u * 4294967296 + d - q * y = z) (h5 : z < 18446744073709551616) :
  (some (IntKind.u64.wrap (IntKind.u64.wrap ((q1 : Int) * 4294967296) + (q : Int)), shr .u64 (IntKind.u64.wrap (IntKind.u64.wrap (IntKind.u64.wrap ((u : Int) * 4294967296) + (d : Int)) - IntKind.u64.wrap ((q : Int) * (y : Int)))) 0) : Option (Int × Int)) = some (((q1 * 4294967296 + q : Nat) : Int), (z : Int)) := by
 rw [wRest h3 (by omega), h4]
 rw [wB' h2, wAdd h1]
 have := shr_nat z 0 (by decide)
 rw [Nat.pow_zero, Nat.div_one] at this
 rw [show (0 : Int) = ((0 : Nat) : Int) from rfl, this]
theorem div_of_eq {V y q z : Nat} (h : V = q * y + z) (hz : z < y) : V / y = q ∧ V % y = z := by
 subst h
 rw [Nat.add_comm, Nat.add_mul_div_right _ _ (by omega), Nat.div_eq_of_lt hz, Nat.add_mul_mod_self_right, Nat.mod_eq_of_lt hz]
 exact ⟨by omega, rfl⟩
theorem dig_ex {y y1 y0 u d : Nat} (hy : y = y1 * 4294967296 + y0) (hy1 : 2147483648 ≤ y1) (hy1' : y1 < 4294967296) (hy0 : y0 < 4294967296) (hu : u < y) (hd : d < 4294967296) :
  ∃ q z, Dig y1 y0 u d q ∧ q ≤ u / y1 ∧ u / y1 ≤ 4294967297 ∧ u * 4294967296 + d = q * y + z ∧ z < y ∧ q < 4294967296 := by
 subst hy
 have hpos : 0 < y1 * 4294967296 + y0 := by omega
 refine ⟨(u * 4294967296 + d) / (y1 * 4294967296 + y0), (u * 4294967296 + d) % (y1 * 4294967296 + y0), Dig.mk' hy1 hy1' hy0 hu hd, dig_below hy1 hd, dig_first hy1 hy0 hu, ?_, Nat.mod_lt _ hpos, ?_⟩
 ·rw [Nat.mul_comm ((u * 4294967296 + d) / (y1 * 4294967296 + y0))]; exact (Nat.div_add_mod _ _).symm
 ·rw [Nat.div_lt_iff_lt_mul hpos]; omega
theorem dig_both' {B h l l1 l0 a b u z V : Nat} (h1 : V = h * (B * B) + l) (h2 : l = l1 * B + l0) (h3 : h * B + l1 = a + u) (h4 : u * B + l0 = b + z) : V = a * B + b + z := by
 have e : (h * B + l1) * B = (a + u) * B := by rw [h3]
 rw [Nat.add_mul, Nat.add_mul, Nat.mul_assoc] at e
 omega
theorem dig_both {h l l1 l0 q1 q2 y u z V : Nat} (h1 : V = h * 18446744073709551616 + l) (h2 : l = l1 * 4294967296 + l0) (h3 : h * 4294967296 + l1 = q1 * y + u) (h4 : u * 4294967296 + l0 = q2 * y + z) : V = (q1 * 4294967296 + q2) * y + z := by
 have e5 : (q1 * 4294967296 + q2) * y = q1 * y * 4294967296 + q2 * y := by rw [Nat.add_mul, Nat.mul_assoc, Nat.mul_comm 4294967296, ← Nat.mul_assoc]
 rw [e5]
 have e6 : (18446744073709551616 : Nat) = 4294967296 * 4294967296 := by decide
 rw [e6] at h1
 exact dig_both' h1 h2 h3 h4
theorem dig_guess {u y1 : Nat} (h : 2147483648 ≤ y1) (hu : u < 18446744073709551616) : IntKind.u64.wrap (Int.tdiv (u : Int) (y1 : Int)) = ((u / y1 : Nat) : Int) ∧ IntKind.u64.wrap ((u : Int) - IntKind.u64.wrap (((u / y1 : Nat) : Int) * (y1 : Int))) = ((u % y1 : Nat) : Int) ∧ u = u / y1 * y1 + u % y1 ∧ u % y1 < y1 := by
 have hdm := Nat.div_add_mod u y1
 have hml := Nat.mod_lt u (show 0 < y1 by omega)
 have hq : u / y1 ≤ u := Nat.div_le_self _ _
 rw [Nat.mul_comm] at hdm
 rw [tdivN]
 generalize u / y1 = q at *
 generalize u % y1 = r at *
 refine ⟨wN (by omega), ?_, by omega, hml⟩
 rw [wMul (by omega), show (u : Int) - ((q * y1 : Nat) : Int) = (r : Int) by omega, wN (by omega)]
theorem Div64_eq {h l y V : Nat} (hy : 9223372036854775808 ≤ y) (hy' : y < 18446744073709551616) (hh : h < y) (hl : l < 18446744073709551616) (hV : V = h * 18446744073709551616 + l) :
  Ev (fun k => bits_Div64.f k (h : Int) (l : Int) (y : Int)) (((V / y : Nat) : Int), ((V % y : Nat) : Int)) := by
 unfold bits_Div64.f
 simp only [if_neg (show ¬ (y : Int) = 0 by omega), if_neg (show ¬ (y : Int) ≤ (h : Int) by omega)]
 by_cases h0 : h = 0
 ·have hVl : V = l := by omega
  subst h0 hVl
  have hq : V / y < 18446744073709551616 := Nat.lt_of_le_of_lt (Nat.div_le_self _ _) hl
  simp only [show (((0 : Nat) : Int) = 0) = True from by simp, if_true, tdivN, tmodN, wN hq]
  exact Ev.now _
 ·simp only [if_neg (show ¬ (h : Int) = 0 by omega)]
  have hlz : bits_LeadingZeros64.f (y : Int) = some 0 := by
   have := Lead0_eq (x := y) hy'
   rw [bl_unique (n := 64) (by decide) (by rw [show (2 : Nat) ^ (64 - 1) = 9223372036854775808 by decide]; exact hy) (by rw [p64]; exact hy')] at this
   exact this
  have w0 : IntKind.u64.wrap 0 = 0 := by decide
  have w64' : IntKind.u64.wrap (64 - 0) = 64 := by decide
  have s0 : ∀ a : Nat, a < 18446744073709551616 → shl .u64 (a : Int) 0 = (a : Int) := fun a ha => by
   have := shl_nat a 0 (by decide)
   rw [Nat.pow_zero, Nat.mul_one, Nat.mod_eq_of_lt ha] at this
   exact this
  have s1 : shr .u64 (l : Int) 64 = 0 := by
   have := shr_nat l 64 (by decide)
   rw [p64, Nat.div_eq_of_lt hl] at this
   exact this
  have o0 : Go.bits .or .u64 (h : Int) 0 = (h : Int) := by
   have := or_nat h 0 (by omega) (by decide)
   rw [Nat.or_zero] at this
   exact this
  refine Ev.bind (evn hlz) ?_
  have hlh : h < 18446744073709551616 := by omega
  have hy1 : 2147483648 ≤ y / 4294967296 := by omega
  have hy1' : y / 4294967296 < 4294967296 := by omega
  have hy0 : y % 4294967296 < 4294967296 := by omega
  have hye : y = y / 4294967296 * 4294967296 + y % 4294967296 := by omega
  have hyi : (y : Int) / 4294967296 = ((y / 4294967296 : Nat) : Int) := by omega
  have hli : (l : Int) / 4294967296 = ((l / 4294967296 : Nat) : Int) := by omega
  obtain ⟨g1, g2, g3, g4⟩ := dig_guess hy1 hlh
  simp only [w0, w64', Int.le_refl, if_true, if_pos (show (0 : Int) ≤ 64 by decide), s0 y hy', s0 h hlh, s0 l hl, s1, o0, hyi, hli, if_neg (show ¬ ((y / 4294967296 : Nat) : Int) = 0 by omega), mask32 y hy', mask32 l hl, g1, g2]
  obtain ⟨q1, u, D1, b1, b2, b3, b4, b5⟩ := dig_ex hye hy1 hy1' hy0 hh (show l / 4294967296 < 4294967296 by omega)
  refine Div64_l0 (v := l % 4294967296) D1 ?_ (h / (y / 4294967296)) (h / (y / 4294967296)) (h % (y / 4294967296)) (Nat.le_add_left _ _) b1 g3 (Nat.lt_trans g4 hy1') b2
  obtain ⟨e1, e2, e3, e4⟩ := dig_guess hy1 (show u < 18446744073709551616 by omega)
  obtain ⟨q2, z, D2, c1, c2, c3, c4, c5⟩ := dig_ex hye hy1 hy1' hy0 b4 (show l % 4294967296 < 4294967296 by omega)
  have hwr := wRest (u := h) (d := l / 4294967296) (g := q1) (y := y) (by omega) (by omega)
  rw [show h * 4294967296 + l / 4294967296 - q1 * y = u by omega] at hwr
  have hfin := Div64_fin (q1 := q1) (u := u) (d := l % 4294967296) (q := q2) (z := z) (y := y) (by omega) b5 (by omega) (by omega) (by omega)
  have hVe := dig_both hV (show l = l / 4294967296 * 4294967296 + l % 4294967296 by omega) b3 c3
  obtain ⟨v1, v2⟩ := div_of_eq hVe c4
  rw [v1, v2]
  refine evs ?_
  simp only [bits_Div64.j2, if_neg (show ¬ ((y / 4294967296 : Nat) : Int) = 0 by omega), hwr, e1, e2]
  exact Div64_l1 D2 hfin (u / (y / 4294967296)) (u / (y / 4294967296)) (u % (y / 4294967296)) (Nat.le_add_left _ _) c1 e3 (Nat.lt_trans e4 hy1') c2
theorem part_Div_eq {V y : Nat} (hy : 9223372036854775808 ≤ y) (hy' : y < 18446744073709551616) (hV : V / 18446744073709551616 < y) : Ev (fun k => part_Div.f k (TH V) (TL V) (y : Int)) (((V / y : Nat) : Int), ((V % y : Nat) : Int), none) := by
 unfold part_Div.f
 have h1 : TH V < (y : Int) := by unfold TH; omega
 simp only [if_neg (show ¬ (y : Int) = 0 by omega), if_neg (show ¬ TH V ≥ (y : Int) by omega)]
 have := Div64_eq (V := V) (h := V / 18446744073709551616) (l := V % 18446744073709551616) hy hy' hV (Nat.mod_lt _ (by decide)) (by omega)
 exact Ev.bind this (Ev.now _)
end Go.Proofs.Ytgcihaapajbdbaa.V
namespace Go.Proofs.Ytgcihaapajbdbaa.V
open Go Go.RowKit Go.Proofs.Ytgcihaapajbdbaa.Ab Go.Proofs.Ytgcihaapajbdbaa.Fn
set_option linter.unusedVariables false
set_option linter.unusedSimpArgs false
def qtJ (a b : NM) : Nat := if b.fr ≤ a.fr then 63 else 64
def quotX (a b : NM) : EX := if a.kd = 2 ∨ b.kd ≠ 1 then EX.nar else if a.kd = 0 then EX.zero else
 ⟨1, a.ng != b.ng, a.sc - b.sc + 63 - (qtJ a b : Int), a.fr * 2 ^ qtJ a b / b.fr * 18446744073709551616, decide (a.fr * 2 ^ qtJ a b % b.fr ≠ 0)⟩
theorem qt_range {x y j : Nat} (h1 : 2 ^ 63 ≤ x) (h2 : x < 2 ^ 64) (h3 : 2 ^ 63 ≤ y) (h4 : y < 2 ^ 64) (hj : j = if y ≤ x then 63 else 64) : 2 ^ 63 ≤ x * 2 ^ j / y ∧ x * 2 ^ j / y < 2 ^ 64 := by
 have hy : 0 < y := Nat.lt_of_lt_of_le (two_pos 63) h3
 rw [Nat.le_div_iff_mul_le hy, Nat.div_lt_iff_lt_mul hy]
 rw [p63] at *
 rw [p64] at *
 by_cases h : y ≤ x
 ·rw [if_pos h] at hj
  subst hj
  rw [p63]; omega
 ·rw [if_neg h] at hj
  subst hj
  rw [p64]; omega
theorem quotX_ok {a b : NM} (ha : a.ok) (hb : b.ok) : (quotX a b).ok := by
 unfold quotX
 by_cases h : a.kd = 2 ∨ b.kd ≠ 1
 ·rw [if_pos h]; exact .inr (.inl rfl)
 ·rw [if_neg h]
  by_cases h0 : a.kd = 0
  ·rw [if_pos h0]; exact .inl rfl
  ·rw [if_neg h0]
   rcases NM.cases ha with rfl | rfl | ⟨a1, a2, a3, a4, a5⟩
   ·exact absurd rfl h0
   ·exact absurd (.inl rfl) h
   ·rcases NM.cases hb with rfl | rfl | ⟨b1, b2, b3, b4, b5⟩
    ·exact absurd (.inr (by decide)) h
    ·exact absurd (.inr (by decide)) h
    ·obtain ⟨r1, r2⟩ := qt_range a2 a3 b2 b3 rfl
     have hj : (if b.fr ≤ a.fr then 63 else 64) = qtJ a b := rfl
     rw [hj] at r1 r2
     have hj2 : qtJ a b = 63 ∨ qtJ a b = 64 := by unfold qtJ; split <;> omega
     rw [p63] at r1
     rw [p64] at r2
     refine .inr (.inr ⟨rfl, ?_, ?_, ?_, ?_⟩)
     ·show 2 ^ 127 ≤ a.fr * 2 ^ qtJ a b / b.fr * 18446744073709551616
      rw [p127]; omega
     ·show a.fr * 2 ^ qtJ a b / b.fr * 18446744073709551616 < 2 ^ 128
      rw [p128]; omega
     ·show -1099511627776 ≤ a.sc - b.sc + 63 - (qtJ a b : Int)
      omega
     ·show a.sc - b.sc + 63 - (qtJ a b : Int) ≤ 1099511627776
      omega
end Go.Proofs.Ytgcihaapajbdbaa.V
namespace Go.Proofs.Ytgcihaapajbdbaa.V
open Go Go.RowKit Go.Proofs.Ytgcihaapajbdbaa.Ab Go.Proofs.Ytgcihaapajbdbaa.Fn
set_option linter.unusedVariables false
set_option linter.unusedSimpArgs false
theorem T_hi (r : Nat) : TH (r * 18446744073709551616) = (r : Int) ∧ TL (r * 18446744073709551616) = 0 := by
 unfold TH TL; omega
theorem Of_X {x : NM} (h : x.ok) : Ev (fun k => round_Of.f k x.kd x.ng x.sc (x.fr : Int)) (x.ex.kd, x.ex.ng, x.ex.sc, TH x.ex.V, TL x.ex.V, x.ex.R, none) := by
 have := round_Of_eq x.kd x.ng x.sc (x.fr : Int) (by have := h.2; omega) (by omega)
 rw [if_pos h.1] at this
 rw [(NM.ex_tup x h).1, (NM.ex_tup x h).2]
 exact this
end Go.Proofs.Ytgcihaapajbdbaa.V
namespace Go.Proofs.Ytgcihaapajbdbaa.V
open Go Go.RowKit Go.Proofs.Ytgcihaapajbdbaa.Ab Go.Proofs.Ytgcihaapajbdbaa.Fn
set_option linter.unusedVariables false
set_option linter.unusedSimpArgs false
theorem enc8 (k : Nat) : codec_Encode.f (k + 20) 8 1 false 0 9223372036854775808 = some (64, none) := by kernel_rfl
theorem enc16 (k : Nat) : codec_Encode.f (k + 20) 16 1 false 0 9223372036854775808 = some (16384, none) := by kernel_rfl
theorem enc32 (k : Nat) : codec_Encode.f (k + 20) 32 1 false 0 9223372036854775808 = some (1073741824, none) := by kernel_rfl
theorem enc64 (k : Nat) : codec_Encode.f (k + 20) 64 1 false 0 9223372036854775808 = some (4611686018427387904, none) := by kernel_rfl
theorem Encode_one {n : Nat} (h : isW (n : Int) = true) : Ev (fun k => codec_Encode.f k (n : Int) 1 false 0 9223372036854775808) (((2 ^ (n - 2) : Nat) : Int), none) := by
 have key : ∀ (m : Int) (p : Int), (∀ k, codec_Encode.f (k + 20) m 1 false 0 9223372036854775808 = some (p, none)) → Ev (fun k => codec_Encode.f k m 1 false 0 9223372036854775808) (p, none) := fun m p hk =>
  ⟨20, fun k hl => Nat.sub_add_cancel hl ▸ hk (k - 20)⟩
 obtain ⟨m, e, h⟩ := isW_nat h
 have : n = m := by omega
 subst this
 rcases h with rfl | rfl | rfl | rfl
 ·exact key _ _ enc8
 ·exact key _ _ enc16
 ·exact key _ _ enc32
 ·exact key _ _ enc64
theorem ref_Encode_X {n : Nat} {x : NM} (h : isW (n : Int) = true) (hx : x.ok) (h1 : x.kd = 1) :
  ∃ p bad, Ev (fun k => vernierref06_Encode.f k (n : Int) x.kd x.ng x.sc (x.fr : Int)) (p, bad) ∧ (bad = 0 → ∃ q : Nat, p = q ∧ q < 2 ^ n ∧ decN n q = x) := by
 obtain ⟨b64, b8⟩ := pow64 h
 have hfr : x.fr < 18446744073709551616 := hx.2
 have et : wrap64 (wrap64 (4 * (n : Int)) - 8) = 4 * (n : Int) - 8 := by rw [w64 (n := 4 * (n : Int)) (by omega) (by omega), w64 (by omega) (by omega)]
 have em : wrap64 (8 - wrap64 (4 * (n : Int))) = 8 - 4 * (n : Int) := by rw [w64 (n := 4 * (n : Int)) (by omega) (by omega), w64 (by omega) (by omega)]
 have ew : wrap64 ((n : Int) - 1) = ((n - 1 : Nat) : Int) := by rw [w64 (by omega) (by omega)]; omega
 have bad8 : Ev (fun k => vernierref06_Encode.j0 k (n : Int) true x.kd x.ng x.sc (x.fr : Int)) (0, 8) := by
  refine evs ?_
  simp only [vernierref06_Encode.j0, if_true]
  exact Ev.now _
 unfold vernierref06_Encode.f
 simp only [ref_Is_eq, ref_sound, h, hx.1, Option.bind_some, if_true, if_neg (show ¬ x.kd = 0 by omega), if_neg (show ¬ x.kd = 2 by omega), et, em]
 by_cases c1 : x.sc < 8 - 4 * (n : Int)
 ·simp only [if_pos c1]
  exact ⟨0, 8, bad8, fun h => absurd h (by decide)⟩
 ·simp only [if_neg c1]
  by_cases c2 : x.sc > 4 * (n : Int) - 8
  ·simp only [decide_eq_true c2]
   exact ⟨0, 8, bad8, fun h => absurd h (by decide)⟩
  ·simp only [decide_eq_false c2]
   obtain ⟨t, L, X, ht, hX, hL, hL0⟩ : ∃ (t : ByteArray) (L X : Nat), Ev (fun k => vernierref06_Head.f k x.sc) t ∧ BT t L X ∧ L ≤ 100 ∧ 0 < L := by
    rcases scale_cases x.sc with ⟨q, e, hs, he⟩ | ⟨q, e, hs, hq, he⟩
    ·obtain ⟨t, t1, t2⟩ := ref_Head_pos hs he (by omega)
     exact ⟨t, _, _, t1, t2, by omega, by omega⟩
    ·obtain ⟨t, t1, t2⟩ := ref_Head_neg hs hq he (by omega)
     exact ⟨t, _, _, t1, t2, by omega, by omega⟩
   obtain ⟨y, y1, y2⟩ := Text_eq x.fr 64 hfr (by decide)
   have yp := (y2.parts 1 (by decide)).2
   have g := hX.append yp
   have hp := (g.parts (n - 1) (by omega)).1
   have s1 := hX.size
   have s2 := y2.size
   have s3 := yp.size
   have s4 := g.size
   have hlt : (X * 2 ^ (64 - 1) + x.fr % 2 ^ 64 % 2 ^ (64 - 1)) / 2 ^ (L + (64 - 1) - (n - 1)) < 2 ^ (n - 1) := hp.lt
   generalize hz : (X * 2 ^ (64 - 1) + x.fr % 2 ^ 64 % 2 ^ (64 - 1)) / 2 ^ (L + (64 - 1) - (n - 1)) = z at hp hlt
   have h2 := two_halves (n := n) (by omega)
   have h2n : 2 ^ n ≤ 18446744073709551616 := by rw [← p64]; exact pow_le b64
   -- the pattern p that is tried
   have fin : ∀ q : Nat, q < 2 ^ n → ∃ p bad, Ev (fun k => (vernierref06_Decode.f k (n : Int) (q : Int)).bind fun t107 => (if ((t107.1 == x.kd) && ((t107.2.1 == x.ng) && ((t107.2.2.1 == x.sc) && (t107.2.2.2 == (x.fr : Int))))) = true then some ((q : Int), (0 : Int)) else some (0, 8))) (p, bad) ∧ (bad = 0 → ∃ q : Nat, p = q ∧ q < 2 ^ n ∧ decN n q = x) := by
    intro q hq
    have hd := ref_Decode_N h (p := q) (by omega)
    rw [Nat.mod_eq_of_lt hq] at hd
    by_cases hc : (((decN n q).kd == x.kd) && (((decN n q).ng == x.ng) && (((decN n q).sc == x.sc) && (((decN n q).fr : Int) == (x.fr : Int))))) = true
    ·refine ⟨q, 0, Ev.bind hd ?_, fun _ => ⟨q, rfl, hq, ?_⟩⟩
     ·simp only [if_pos hc]; exact Ev.now _
     ·simp only [Bool.and_eq_true, beq_iff_eq] at hc
      obtain ⟨e1, e2, e3, e4⟩ := hc
      cases hx' : decN n q
      cases hx2 : x
      rw [hx', hx2] at e1 e2 e3 e4
      simp only at e1 e2 e3 e4
      have e4' := Int.ofNat.inj e4
      subst e1 e2 e3 e4'
      rfl
    ·refine ⟨0, 8, Ev.bind hd ?_, fun h => absurd h (by decide)⟩
     simp only [if_neg hc]; exact Ev.now _
   have run : ∀ (p bad : Int), (x.ng = true → Ev (fun k => (vernierref06_Decode.f k (n : Int) ((negN n z : Nat) : Int)).bind fun t107 => (if ((t107.1 == x.kd) && ((t107.2.1 == x.ng) && ((t107.2.2.1 == x.sc) && (t107.2.2.2 == (x.fr : Int))))) = true then some (((negN n z : Nat) : Int), (0 : Int)) else some (0, 8))) (p, bad)) →
     (¬ x.ng = true → Ev (fun k => (vernierref06_Decode.f k (n : Int) (z : Int)).bind fun t107 => (if ((t107.1 == x.kd) && ((t107.2.1 == x.ng) && ((t107.2.2.1 == x.sc) && (t107.2.2.2 == (x.fr : Int))))) = true then some ((z : Int), (0 : Int)) else some (0, 8))) (p, bad)) →
     Ev (fun k => vernierref06_Encode.j0 k (n : Int) false x.kd x.ng x.sc (x.fr : Int)) (p, bad) := by
    intro p bad r1 r2
    refine evs ?_
    simp only [vernierref06_Encode.j0, nI_eq, Bool.false_eq_true, if_false]
    refine Ev.bind ht (Ev.bind y1 ?_)
    have s4' : (t ++ y.extract 1 y.size).size = L + (64 - 1) := s4
    simp only [if_pos (show (1 : Int) ≤ (y.size : Int) by omega), if_pos (show t.size + (y.extract 1 y.size).size ≤ 9223372036854775807 by omega), ew, if_pos (show (0 : Int) ≤ ((n - 1 : Nat) : Int) by omega), if_pos (show ((n - 1 : Nat) : Int) ≤ ((t ++ y.extract 1 y.size).size : Int) by omega), Int.toNat_natCast]
    refine Ev.bind (Number_eq hp (by omega)) ?_
    by_cases hg : x.ng = true
    ·simp only [if_pos hg]
     exact Ev.bind (ref_Neg_eq h (by omega)) (r1 hg)
    ·simp only [if_neg hg]
     exact r2 hg
   by_cases hg : x.ng = true
   ·obtain ⟨p, bad, e1, e2⟩ := fin (negN n z) (by unfold negN; exact Nat.mod_lt _ (two_pos n))
    exact ⟨p, bad, run p bad (fun _ => e1) (fun h => absurd hg h), e2⟩
   ·obtain ⟨p, bad, e1, e2⟩ := fin z (by omega)
    exact ⟨p, bad, run p bad (fun h => absurd h hg) (fun _ => e1), e2⟩
def twoN (s : Int) : NM := ⟨1, false, s, 9223372036854775808⟩
theorem twoN_ok {s : Int} (h0 : -1073741824 ≤ s) (h1 : s ≤ 1073741824) : (twoN s).ok := by
 refine ⟨?_, show (9223372036854775808 : Nat) < 18446744073709551616 by decide⟩
 show soundN 1 false s 9223372036854775808 = true
 unfold soundN
 rw [if_neg (show ¬ ((1 : Int) = 0 ∨ (1 : Int) = 2) by decide)]
 exact decide_eq_true ⟨rfl, by decide, h0, h1⟩
theorem prodX_two {a : NM} {t : Int} (h1 : a.kd = 1) (h2 : 2 ^ 63 ≤ a.fr) (h3 : a.fr < 2 ^ 64) (h4 : -1073741824 ≤ a.sc) (h5 : a.sc ≤ 1073741824) (h6 : -1073741824 ≤ t) (h7 : t ≤ 1073741824) :
  prodX a (twoN t) = ⟨1, a.ng, a.sc + t, a.fr * 18446744073709551616, false⟩ := by
 unfold prodX
 rw [if_neg (by unfold twoN; simp only; omega), if_neg (by unfold twoN; simp only; omega)]
 unfold twoN natX
 simp only
 have hp : a.fr * 9223372036854775808 ≠ 0 := by rw [p63] at h2; omega
 have hf : bl a.fr = 64 := bl_unique (by decide) h2 h3
 have hb : bl (a.fr * 9223372036854775808) = 127 := by
  rw [show (9223372036854775808 : Nat) = 2 ^ 63 from p63.symm, bl_mul_pow 63 (by rw [p63] at h2; omega), hf]
 rw [if_neg hp, hb]
 refine EX.ext' rfl ?_ ?_ ?_ ?_
 ·simp
 ·simp only
  unfold heldI
  rw [if_neg (by omega), if_neg (by omega)]
  omega
 ·simp only
  unfold mkV
  rw [hb, if_pos (by decide), Nat.mul_assoc]
 ·simp only
  unfold mkR
  rw [hb, Nat.pow_zero, Nat.mod_one]; rfl
end Go.Proofs.Ytgcihaapajbdbaa.V
namespace Go.Proofs.Ytgcihaapajbdbaa.V
open Go Go.RowKit Go.Proofs.Ytgcihaapajbdbaa.Ab Go.Proofs.Ytgcihaapajbdbaa.Fn
set_option linter.unusedVariables false
set_option linter.unusedSimpArgs false
theorem quotX_real {a b : NM} (h1 : a.kd = 1) (h2 : b.kd = 1) : quotX a b = ⟨1, a.ng != b.ng, a.sc - b.sc + 63 - (qtJ a b : Int), a.fr * 2 ^ qtJ a b / b.fr * 18446744073709551616, decide (a.fr * 2 ^ qtJ a b % b.fr ≠ 0)⟩ := by
 unfold quotX
 rw [if_neg (by omega), if_neg (by omega)]
theorem pos_ne (n : Nat) : decide ((n : Int) > 0) = decide (n ≠ 0) := by
 rw [decide_eq_decide]; omega
theorem quot_Exact_X {a b : NM} (ha : a.ok) (hb : b.ok) : Ev (fun k => quot_Exact.f k a.kd a.ng a.sc (a.fr : Int) b.kd b.ng b.sc (b.fr : Int)) ((quotX a b).kd, (quotX a b).ng, (quotX a b).sc, TH (quotX a b).V, TL (quotX a b).V, (quotX a b).R, none) := by
 unfold quot_Exact.f
 refine Ev.bind (Of_X ha) ?_
 simp only [Option.isNone_none, if_true]
 refine Ev.bind (Of_X hb) ?_
 simp only [Option.isNone_none, if_true]
 have j0 : Ev (fun k => quot_Exact.j0 k (decide (a.kd = 2 ∨ b.kd ≠ 1)) a.kd a.ng a.sc (a.fr : Int) b.ng b.sc (b.fr : Int)) ((quotX a b).kd, (quotX a b).ng, (quotX a b).sc, TH (quotX a b).V, TL (quotX a b).V, (quotX a b).R, none) := by
  refine evs ?_
  simp only [quot_Exact.j0]
  by_cases c1 : a.kd = 2 ∨ b.kd ≠ 1
  ·have e : quotX a b = EX.nar := by unfold quotX; rw [if_pos c1]
   simp only [decide_eq_true c1, if_true, e]
   exact Ev.now _
  ·simp only [decide_eq_false c1, Bool.false_eq_true, if_false]
   by_cases c0 : a.kd = 0
   ·have e : quotX a b = EX.zero := by unfold quotX; rw [if_neg c1, if_pos c0]
    simp only [if_pos c0, e]
    exact Ev.now _
   ·simp only [if_neg c0]
    have ca := (NM.cases ha).resolve_left (fun h => c0 (by rw [h]))
    have ca := ca.resolve_left (fun h => c1 (.inl (by rw [h])))
    have hb1 : b.kd = 1 := Decidable.byContradiction fun h => c1 (.inr h)
    have cb := (NM.cases hb).resolve_left (fun h => by rw [h] at hb1; cases hb1)
    have cb := cb.resolve_left (fun h => by rw [h] at hb1; cases hb1)
    obtain ⟨a1, a2, a3, a4, a5⟩ := ca
    obtain ⟨b1, b2, b3, b4, b5⟩ := cb
    rw [quotX_real a1 b1]
    rw [p63] at a2 b2
    rw [p64] at a3 b3
    simp only [(T_hi _).1, (T_hi _).2]
    by_cases hc : b.fr ≤ a.fr
    ·have hj : qtJ a b = 63 := by unfold qtJ; rw [if_pos hc]
     have h1 : TH (a.fr * 2 ^ 63) = (a.fr : Int) / 2 := by unfold TH; rw [p63]; omega
     have h2 : TL (a.fr * 2 ^ 63) = IntKind.u64.wrap ((a.fr : Int) * 9223372036854775808) := by unfold TL; rw [p63, u64_wrap]; omega
     have h3 : a.fr * 2 ^ 63 / 18446744073709551616 < b.fr := by rw [p63]; omega
     have hd := part_Div_eq b2 b3 h3
     rw [h1, h2] at hd
     have es : wrap64 (wrap64 (wrap64 (a.sc - b.sc) - 1) + 1) = a.sc - b.sc + 63 - ((63 : Nat) : Int) := by
      rw [w64 (n := a.sc - b.sc) (by omega) (by omega), w64 (n := a.sc - b.sc - 1) (by omega) (by omega), w64 (by omega) (by omega)]; omega
     simp only [if_pos (show (a.fr : Int) ≥ (b.fr : Int) by omega), hj, es]
     refine Ev.bind hd (evn ?_)
     rw [pos_ne]
     rfl
    ·have hj : qtJ a b = 64 := by unfold qtJ; rw [if_neg hc]
     have h1 : TH (a.fr * 2 ^ 64) = (a.fr : Int) := by unfold TH; rw [p64]; omega
     have h2 : TL (a.fr * 2 ^ 64) = 0 := by unfold TL; rw [p64]; omega
     have h3 : a.fr * 2 ^ 64 / 18446744073709551616 < b.fr := by rw [p64]; omega
     have hd := part_Div_eq b2 b3 h3
     rw [h1, h2] at hd
     have es : wrap64 (wrap64 (a.sc - b.sc) - 1) = a.sc - b.sc + 63 - ((64 : Nat) : Int) := by
      rw [w64 (n := a.sc - b.sc) (by omega) (by omega), w64 (by omega) (by omega)]; omega
     simp only [if_neg (show ¬ (a.fr : Int) ≥ (b.fr : Int) by omega), hj, es]
     refine Ev.bind hd (evn ?_)
     rw [pos_ne]
     rfl
 by_cases c : a.kd = 2
 ·have hd : (a.kd == 2) = decide (a.kd = 2 ∨ b.kd ≠ 1) := by simp [c]
  simp only [if_pos c, hd]
  exact j0
 ·have hd : (b.kd != 1) = decide (a.kd = 2 ∨ b.kd ≠ 1) := by
   rw [Bool.eq_iff_iff]; simp [c]
  simp only [if_neg c, hd]
  exact j0
def divN (n x y : Nat) : Nat := (quotX (decN n x) (decN n y)).rnd n
theorem quot_Div_eq {n a b : Nat} (h : isW (n : Int) = true) (ha : a < 18446744073709551616) (hb : b < 18446744073709551616) : Ev (fun k => quot_Div.f k (n : Int) (a : Int) (b : Int)) (((divN n (a % 2 ^ n) (b % 2 ^ n) : Nat) : Int), none) := by
 obtain ⟨b64, b8⟩ := pow64 h
 have oa := decN_ok b8 b64 (Nat.mod_lt a (two_pos n))
 have ob := decN_ok b8 b64 (Nat.mod_lt b (two_pos n))
 unfold quot_Div.f
 refine Ev.bind (Decode_N h ha) ?_
 simp only [Option.isNone_none, if_true]
 refine Ev.bind (Decode_N h hb) (Ev.bind (quot_Exact_X oa ob) ?_)
 simp only [Option.isNone_none, if_true]
 exact Ev.bind (Round_X h (quotX_ok oa ob)) (Ev.now _)
theorem quot_Inv_eq {n a : Nat} (h : isW (n : Int) = true) (ha : a < 18446744073709551616) : Ev (fun k => quot_Inv.f k (n : Int) (a : Int)) (((divN n (2 ^ (n - 2)) (a % 2 ^ n) : Nat) : Int), none) := by
 obtain ⟨b64, b8⟩ := pow64 h
 unfold quot_Inv.f
 refine Ev.bind (Encode_one h) ?_
 simp only [Option.isNone_none, if_true]
 have hd := quot_Div_eq h (a := 2 ^ (n - 2)) (b := a) (by rw [← p64]; exact pow_lt (by omega)) ha
 rw [Nat.mod_eq_of_lt (pow_lt (by omega))] at hd
 exact Ev.bind hd (Ev.now _)
theorem up11 : Ev (fun k => vernierlaw11_up.f k) true := by
 unfold vernierlaw11_up.f
 have a := quot_Div_eq (n := 8) (a := 64) (b := 72) (by decide) (by decide) (by decide)
 have b := quot_Div_eq (n := 8) (a := 64) (b := 0) (by decide) (by decide) (by decide)
 rw [show divN 8 (64 % 2 ^ 8) (72 % 2 ^ 8) = 56 by decide +kernel] at a
 rw [show divN 8 (64 % 2 ^ 8) (0 % 2 ^ 8) = 128 by decide +kernel] at b
 exact Ev.bind a (Ev.bind b (Ev.now _))
theorem quotX_two {a : NM} {t : Int} (h1 : a.kd = 1) (h2 : 2 ^ 63 ≤ a.fr) : quotX a (twoN t) = ⟨1, a.ng, a.sc - t, a.fr * 18446744073709551616, false⟩ := by
 rw [quotX_real h1 rfl]
 have hj : qtJ a (twoN t) = 63 := by unfold qtJ; rw [if_pos (by rw [p63] at h2; exact h2)]
 rw [hj]
 refine EX.ext' rfl ?_ ?_ ?_ ?_
 ·show (a.ng != false) = a.ng
  cases a.ng <;> rfl
 ·show a.sc - t + 63 - ((63 : Nat) : Int) = a.sc - t
  omega
 ·show a.fr * 2 ^ 63 / 9223372036854775808 * 18446744073709551616 = _
  rw [p63, Nat.mul_div_cancel _ (by decide)]
 ·show decide (a.fr * 2 ^ 63 % 9223372036854775808 ≠ 0) = false
  rw [p63, Nat.mul_mod_left]; rfl
end Go.Proofs.Ytgcihaapajbdbaa.V
namespace Go.Proofs.Ytgcihaapajbdbaa.Pure
open Go Go.RowKit Go.Proofs.Ytgcihaapajbdbaa.Ab Go.Proofs.Ytgcihaapajbdbaa.Fn Go.Proofs.Ytgcihaapajbdbaa.V
set_option linter.unusedSimpArgs false
theorem quot_mul {a : NM} {s : Int} (ha : a.ok) (h0 : -600 ≤ s) (h1 : s ≤ 600) : quotX a (twoN s) = prodX a (twoN (-s)) := by
 rcases NM.cases ha with rfl | rfl | ⟨h, h2, h3, h4, h5⟩
 ·rfl
 ·rfl
 ·rw [quotX_two h h2, prodX_two h h2 h3 h4 h5 (by omega) (by omega)]
  refine EX.ext' rfl rfl ?_ rfl rfl
  show a.sc - s = a.sc + -s
  omega
theorem quot_inv {s : Int} : quotX oneN (twoN s) = (twoN (-s)).ex := by
 rw [quotX_two (a := oneN) rfl (show 2 ^ 63 ≤ 9223372036854775808 by decide)]
 refine EX.ext' rfl rfl ?_ rfl rfl
 show (0 : Int) - s = -s
 omega
theorem QuotTwos : vernierlaw11_QuotTwos.Pure := by
 intro n a s w0 w1 w2
 obtain ⟨a, rfl, ha⟩ := u64_nat w1
 refine Ev.rounds (g := fun k => vernierlaw11_QuotTwos.f k n (a : Int) s) ?_
 unfold vernierlaw11_QuotTwos.f
 refine Ev.bind up11 (Ev.bind (evn (ref_Is_eq _)) ?_)
 have triv : Ev (fun k => vernierlaw11_QuotTwos.j0 k n (a : Int) s true true) true := by
  refine evs ?_
  simp only [vernierlaw11_QuotTwos.j0, if_true]
  exact Ev.now _
 by_cases hn : isW n = true
 ·simp only [if_pos hn]
  by_cases a1 : s < -300
  ·simp only [if_pos a1]; exact triv
  ·simp only [if_neg a1]
   by_cases a2 : s > 300
   ·simp only [decide_eq_true a2]; exact triv
   ·simp only [decide_eq_false a2]
    obtain ⟨n, rfl, _⟩ := isW_nat hn
    obtain ⟨b64, b8⟩ := pow64 hn
    have h2n : 2 ^ n ≤ 18446744073709551616 := by rw [← p64]; exact pow_le b64
    have hx := Nat.mod_lt a (two_pos n)
    obtain ⟨p, pb, p1, p2⟩ := ref_Encode_X hn (twoN_ok (s := s) (by omega) (by omega)) rfl
    obtain ⟨q, qb, q1, q2⟩ := ref_Encode_X hn (twoN_ok (s := -s) (by omega) (by omega)) rfl
    have es : wrap64 (-s) = -s := w64 (by omega) (by omega)
    have e63 : ((2 ^ 63 : Nat) : Int) = 9223372036854775808 := by decide
    have hpw := ref_Power_eq (n := 63) (by decide)
    have skip : Ev (fun k => vernierlaw11_QuotTwos.j1 k (n : Int) (a : Int) true p q true) true := by
     refine evs ?_
     simp only [vernierlaw11_QuotTwos.j1, if_true]
     exact Ev.now _
    refine evs ?_
    simp only [vernierlaw11_QuotTwos.j0, Bool.false_eq_true, if_false, es]
    rw [e63] at hpw
    refine Ev.bind hpw (Ev.bind p1 (Ev.bind hpw (Ev.bind q1 ?_)))
    by_cases c1 : pb = 0
    ·simp only [if_pos c1]
     by_cases c2 : qb = 0
     ·obtain ⟨x, rfl, hbx, dx⟩ := p2 c1
      obtain ⟨y, rfl, hby, dy⟩ := q2 c2
      rw [show (qb != 0) = false by simp [c2]]
      refine evs ?_
      simp only [vernierlaw11_QuotTwos.j1, Bool.false_eq_true, if_false]
      have d1 := quot_Div_eq hn (a := a) (b := x) ha (by omega)
      have d2 := prod_Mul_eq hn (a := a) (b := y) ha (by omega)
      have d3 := quot_Inv_eq hn (a := x) (by omega)
      rw [Nat.mod_eq_of_lt hbx] at d1 d3
      rw [Nat.mod_eq_of_lt hby] at d2
      have r1 : divN n (a % 2 ^ n) x = mulN n (a % 2 ^ n) y := by
       unfold divN mulN
       rw [dx, dy, quot_mul (decN_ok b8 b64 hx) (by omega) (by omega)]
      have r2 : divN n (2 ^ (n - 2)) x = y := by
       unfold divN
       rw [dx, decN_one hn, quot_inv, ← dy, dec_rnd b8 b64 hby]
      rw [r1] at d1
      rw [r2] at d3
      exact Ev.bind d1 (Ev.bind d2 (Ev.bind d3 (evn (by simp))))
     ·rw [show (qb != 0) = true by simp [c2]]
      exact skip
    ·simp only [if_neg c1]
     exact skip
 ·simp only [if_neg hn]; exact triv
end Go.Proofs.Ytgcihaapajbdbaa.Pure
