-- Written by a program of this session out of its own texts (wip/tools/link.py).
import Derived.Below
import Derived.ChangeKeysEq
import Derived.Deep.MidRow
import Derived.Deep.RegionHeld3
import Derived.Great.BuildSlice
import Derived.IntWalk
import Derived.KernelRfl
import Derived.LaidEql
import Derived.Laws.Bits64
import Derived.Laws.BitsLemmas
import Derived.Laws.BytesArg
import Derived.Laws.IdiomCopy
import Derived.Laws.OwnMore
import Derived.Laws.Rows
import Derived.Laws.Slices
import Derived.Laws.Strings
import Derived.Laws.StructEq
import Derived.Laws.Tables
import Derived.Lib.BitFns
import Derived.Lib.Mul64
import Derived.Lib.Slices
import Derived.Lib.Small
import Derived.Lib.Strings
import Derived.Lib.Walk
import Derived.Maps.AppendAt
import Derived.OrdersHeld
import Derived.RowKit
import Derived.Test.YtgcihaapajbdbaaProg
import Derived.Test.YtgcihaapajbdbaaCQuotLaws6
import Derived.Test.YtgcihaapajbdbaaCQuotLaws8
import Derived.Test.YtgcihaapajbdbaaCQuotLaws9
namespace Go.Proofs.Ytgcihaapajbdbaa.V
open Go Go.RowKit Go.Proofs.Ytgcihaapajbdbaa.Ab Go.Proofs.Ytgcihaapajbdbaa.Fn
set_option linter.unusedVariables false
set_option linter.unusedSimpArgs false
theorem mask32 (a : Nat) (ha : a < 18446744073709551616) : Go.bits .and .u64 (a : Int) 4294967295 = ((a % 4294967296 : Nat) : Int) := and_mask a 32 ha (by decide)
theorem mulC (a b : Nat) : (a : Int) * (b : Int) = ((a * b : Nat) : Int) := (Int.natCast_mul a b).symm
theorem addC (a b : Nat) : (a : Int) + (b : Int) = ((a + b : Nat) : Int) := (Int.natCast_add a b).symm
end Go.Proofs.Ytgcihaapajbdbaa.V
namespace Go.Proofs.Ytgcihaapajbdbaa.V
open Go Go.RowKit Go.Proofs.Ytgcihaapajbdbaa.Ab Go.Proofs.Ytgcihaapajbdbaa.Fn
set_option linter.unusedVariables false
set_option linter.unusedSimpArgs false
theorem dig_test {y1 y0 u d g r : Nat} (hy1 : 2147483648 ≤ y1) (hy1' : y1 < 4294967296) (hy0 : y0 < 4294967296) (hu : u < y1 * 4294967296 + y0) (hd : d < 4294967296) (hg : u = g * y1 + r) (hr : r < 4294967296) :
  (¬ (4294967296 ≤ g ∨ 4294967296 * r + d < g * y0) → g ≤ (u * 4294967296 + d) / (y1 * 4294967296 + y0)) ∧ ((4294967296 ≤ g ∨ 4294967296 * r + d < g * y0) → (u * 4294967296 + d) / (y1 * 4294967296 + y0) < g) := by
 have hpos : 0 < y1 * 4294967296 + y0 := by omega
 have e : g * (y1 * 4294967296 + y0) = g * y1 * 4294967296 + g * y0 := by rw [Nat.mul_add, Nat.mul_assoc]
 have eu : u * 4294967296 = g * y1 * 4294967296 + r * 4294967296 := by rw [hg, Nat.add_mul]
 constructor
 ·intro h
  rw [Nat.le_div_iff_mul_le hpos, e]
  omega
 ·rintro (h | h)
  ·refine Nat.lt_of_lt_of_le ?_ h
   rw [Nat.div_lt_iff_lt_mul hpos]
   omega
  ·rw [Nat.div_lt_iff_lt_mul hpos, e]
   omega
theorem dig_break {y1 y0 u d g r : Nat} (hy1 : 2147483648 ≤ y1) (hy0 : y0 < 4294967296) (hg : u = g * y1 + r) (hr : 4294967296 ≤ r) (hb : g ≤ 4294967296) : g ≤ (u * 4294967296 + d) / (y1 * 4294967296 + y0) := by
 have hpos : 0 < y1 * 4294967296 + y0 := by omega
 have e : g * (y1 * 4294967296 + y0) = g * y1 * 4294967296 + g * y0 := by rw [Nat.mul_add, Nat.mul_assoc]
 have eu : u * 4294967296 = g * y1 * 4294967296 + r * 4294967296 := by rw [hg, Nat.add_mul]
 have h0 : g * y0 ≤ 4294967296 * 4294967295 := Nat.mul_le_mul hb (by omega)
 rw [Nat.le_div_iff_mul_le hpos, e]
 omega
theorem dig_down {y1 u g r : Nat} (hg : u = (g + 1) * y1 + r) : u = g * y1 + (r + y1) := by rw [hg, Nat.add_mul]; omega
theorem dig_first {y1 y0 u : Nat} (hy1 : 2147483648 ≤ y1) (hy0 : y0 < 4294967296) (hu : u < y1 * 4294967296 + y0) : u / y1 ≤ 4294967297 := by
 have : u / y1 < 4294967298 := by rw [Nat.div_lt_iff_lt_mul (by omega)]; omega
 omega
theorem dig_below {y1 y0 u d : Nat} (hy1 : 2147483648 ≤ y1) (hd : d < 4294967296) : (u * 4294967296 + d) / (y1 * 4294967296 + y0) ≤ u / y1 := by
 rw [Nat.le_div_iff_mul_le (by omega)]
 have h := Nat.div_mul_le_self (u * 4294967296 + d) (y1 * 4294967296 + y0)
 generalize (u * 4294967296 + d) / (y1 * 4294967296 + y0) = q at *
 have e : q * (y1 * 4294967296 + y0) = q * y1 * 4294967296 + q * y0 := by rw [Nat.mul_add, Nat.mul_assoc]
 omega
theorem wN {n : Nat} (h : n < 18446744073709551616) : IntKind.u64.wrap (n : Int) = (n : Int) := u64_of (by omega) (by omega)
theorem wMul {a b : Nat} (h : a * b < 18446744073709551616) : IntKind.u64.wrap ((a : Int) * (b : Int)) = ((a * b : Nat) : Int) := by rw [mulC, wN h]
theorem wAdd {a b : Nat} (h : a + b < 18446744073709551616) : IntKind.u64.wrap ((a : Int) + (b : Int)) = ((a + b : Nat) : Int) := by rw [addC, wN h]
theorem wPred {a : Nat} (h : a < 18446744073709551616) (h0 : 0 < a) : IntKind.u64.wrap ((a : Int) - 1) = ((a - 1 : Nat) : Int) := by rw [show (a : Int) - 1 = ((a - 1 : Nat) : Int) by omega, wN (by omega)]
theorem wRest {u d g y : Nat} (h : g * y ≤ u * 4294967296 + d) (hl : u * 4294967296 + d - g * y < 18446744073709551616) : IntKind.u64.wrap (IntKind.u64.wrap (IntKind.u64.wrap ((u : Int) * 4294967296) + (d : Int)) - IntKind.u64.wrap ((g : Int) * (y : Int))) = ((u * 4294967296 + d - g * y : Nat) : Int) := by
 rw [mulC g y]
 generalize g * y = z at *
 simp only [u64_wrap]
 omega
theorem div_test_mul {a b : Nat} (ha : a ≤ 4294967297) (hb : b < 4294967296) : a * b < 18446744073709551616 := by
 have := Nat.mul_le_mul ha (show b ≤ 4294967295 by omega)
 omega
structure Dig (y1 y0 u d q : Nat) : Prop where
 y1lo : 2147483648 ≤ y1
 y1hi : y1 < 4294967296
 y0hi : y0 < 4294967296
 dhi : d < 4294967296
 test : ∀ g r, u = g * y1 + r → r < 4294967296 → (¬ (4294967296 ≤ g ∨ 4294967296 * r + d < g * y0) → g ≤ q) ∧ ((4294967296 ≤ g ∨ 4294967296 * r + d < g * y0) → q < g)
 stop : ∀ g r, u = g * y1 + r → 4294967296 ≤ r → g ≤ 4294967296 → g ≤ q
theorem Dig.mk' {y1 y0 u d : Nat} (hy1 : 2147483648 ≤ y1) (hy1' : y1 < 4294967296) (hy0 : y0 < 4294967296) (hu : u < y1 * 4294967296 + y0) (hd : d < 4294967296) : Dig y1 y0 u d ((u * 4294967296 + d) / (y1 * 4294967296 + y0)) :=
 ⟨hy1, hy1', hy0, hd, fun g r h1 h2 => dig_test hy1 hy1' hy0 hu hd h1 h2, fun g r h1 h2 h3 => dig_break hy1 hy0 h1 h2 h3⟩
theorem wB {r : Nat} (h : r < 4294967296) : IntKind.u64.wrap (4294967296 * (r : Int)) = ((4294967296 * r : Nat) : Int) := by rw [show (4294967296 : Int) * (r : Int) = ((4294967296 * r : Nat) : Int) by omega, wN (by omega)]
theorem wB' {r : Nat} (h : r < 4294967296) : IntKind.u64.wrap ((r : Int) * 4294967296) = ((r * 4294967296 : Nat) : Int) := by rw [show (r : Int) * 4294967296 = ((r * 4294967296 : Nat) : Int) by omega, wN (by omega)]
theorem Div64_l0 {y s y1 y0 u d v q : Nat} {res : Int × Int} (D : Dig y1 y0 u d q)
  (H : Ev (fun k => bits_Div64.j2 k (y : Int) (s : Int) (y1 : Int) (y0 : Int) (u : Int) (d : Int) (v : Int) (q : Int)) res) :
  ∀ (m g r : Nat), g ≤ q + m → q ≤ g → u = g * y1 + r → r < 4294967296 → g ≤ 4294967297 →
   Ev (fun k => bits_Div64.l0 k (y : Int) (s : Int) (y1 : Int) (y0 : Int) (u : Int) (d : Int) (v : Int) (g : Int) (r : Int)) res := by
 have hd := D.dhi
 have hy1 := D.y1hi
 intro m
 induction m with
 | zero =>
  intro g r h1 h2 h3 h4 h5
  obtain ⟨t1, t2⟩ := D.test g r h3 h4
  have hno : ¬ (4294967296 ≤ g ∨ 4294967296 * r + d < g * y0) := fun h => by have := t2 h; omega
  have hm := div_test_mul h5 D.y0hi
  refine evs ?_
  simp only [bits_Div64.l0, if_neg (show ¬ (g : Int) ≥ 4294967296 by omega), wMul hm, wB h4, wAdd (show 4294967296 * r + d < 18446744073709551616 by omega), decide_eq_false (show ¬ ((g * y0 : Nat) : Int) > ((4294967296 * r + d : Nat) : Int) by omega)]
  refine evs ?_
  simp only [bits_Div64.j1, Bool.false_eq_true, if_false]
  rw [show g = q by omega]
  exact H
 | succ m ih =>
  intro g r h1 h2 h3 h4 h5
  obtain ⟨t1, t2⟩ := D.test g r h3 h4
  have hm := div_test_mul h5 D.y0hi
  have go : ∀ b : Bool, (b = true ↔ (4294967296 ≤ g ∨ 4294967296 * r + d < g * y0)) → Ev (fun k => bits_Div64.j1 k (y : Int) (s : Int) (y1 : Int) (y0 : Int) (u : Int) (d : Int) (v : Int) (g : Int) (r : Int) b) res := by
   intro b hb
   refine evs ?_
   simp only [bits_Div64.j1]
   by_cases c : b = true
   ·have c' := hb.mp c
    have hlt := t2 c'
    obtain ⟨g', rfl⟩ : ∃ g', g = g' + 1 := ⟨g - 1, by omega⟩
    have h3' := dig_down h3
    clear h3
    simp only [if_pos c, wPred (show g' + 1 < 18446744073709551616 by omega) (Nat.succ_pos _), Nat.add_sub_cancel, wAdd (show r + y1 < 18446744073709551616 by omega)]
    by_cases hbr : 4294967296 ≤ r + y1
    ·simp only [if_pos (show ((r + y1 : Nat) : Int) ≥ 4294967296 by omega)]
     have := D.stop g' (r + y1) h3' hbr (by omega)
     rw [show g' = q by omega]
     exact H
    ·simp only [if_neg (show ¬ ((r + y1 : Nat) : Int) ≥ 4294967296 by omega)]
     exact ih g' (r + y1) (by omega) (by omega) h3' (by omega) (by omega)
   ·have c' : ¬ (4294967296 ≤ g ∨ 4294967296 * r + d < g * y0) := fun h => c (hb.mpr h)
    have := t1 c'
    simp only [if_neg c]
    rw [show g = q by omega]
    exact H
  refine evs ?_
  by_cases c : 4294967296 ≤ g
  ·simp only [bits_Div64.l0, if_pos (show (g : Int) ≥ 4294967296 by omega)]
   exact go true (by simp [c])
  ·simp only [bits_Div64.l0, if_neg (show ¬ (g : Int) ≥ 4294967296 by omega), wMul hm, wB h4, wAdd (show 4294967296 * r + d < 18446744073709551616 by omega)]
   exact go _ (by simp only [decide_eq_true_eq]; omega)
theorem Div64_l1 {y y1 y0 q1 u d q : Nat} {res : Int × Int} (D : Dig y1 y0 u d q)
  (fin : (some (IntKind.u64.wrap (IntKind.u64.wrap ((q1 : Int) * 4294967296) + (q : Int)), shr .u64 (IntKind.u64.wrap (IntKind.u64.wrap (IntKind.u64.wrap ((u : Int) * 4294967296) + (d : Int)) - IntKind.u64.wrap ((q : Int) * (y : Int)))) 0) : Option (Int × Int)) = some res) :
  ∀ (m g r : Nat), g ≤ q + m → q ≤ g → u = g * y1 + r → r < 4294967296 → g ≤ 4294967297 →
   Ev (fun k => bits_Div64.l1 k (y : Int) 0 (y1 : Int) (y0 : Int) (d : Int) (q1 : Int) (r : Int) (u : Int) (g : Int)) res := by
 have hd := D.dhi
 have hy1 := D.y1hi
 intro m
 induction m with
 | zero =>
  intro g r h1 h2 h3 h4 h5
  obtain ⟨t1, t2⟩ := D.test g r h3 h4
  have hno : ¬ (4294967296 ≤ g ∨ 4294967296 * r + d < g * y0) := fun h => by have := t2 h; omega
  have hm := div_test_mul h5 D.y0hi
  refine evs ?_
  simp only [bits_Div64.l1, if_neg (show ¬ (g : Int) ≥ 4294967296 by omega), wMul hm, wB h4, wAdd (show 4294967296 * r + d < 18446744073709551616 by omega), decide_eq_false (show ¬ ((g * y0 : Nat) : Int) > ((4294967296 * r + d : Nat) : Int) by omega)]
  refine evs ?_
  simp only [bits_Div64.j4, Bool.false_eq_true, if_false, Int.le_refl, if_true]
  rw [show g = q by omega]
  exact evn fin
 | succ m ih =>
  intro g r h1 h2 h3 h4 h5
  obtain ⟨t1, t2⟩ := D.test g r h3 h4
  have hm := div_test_mul h5 D.y0hi
  have go : ∀ b : Bool, (b = true ↔ (4294967296 ≤ g ∨ 4294967296 * r + d < g * y0)) → Ev (fun k => bits_Div64.j4 k (y : Int) 0 (y1 : Int) (y0 : Int) (d : Int) (q1 : Int) (r : Int) (u : Int) (g : Int) b) res := by
   intro b hb
   refine evs ?_
   simp only [bits_Div64.j4, Int.le_refl, if_true]
   by_cases c : b = true
   ·have c' := hb.mp c
    have hlt := t2 c'
    obtain ⟨g', rfl⟩ : ∃ g', g = g' + 1 := ⟨g - 1, by omega⟩
    have h3' := dig_down h3
    clear h3
    simp only [if_pos c, wPred (show g' + 1 < 18446744073709551616 by omega) (Nat.succ_pos _), Nat.add_sub_cancel, wAdd (show r + y1 < 18446744073709551616 by omega)]
    by_cases hbr : 4294967296 ≤ r + y1
    ·simp only [if_pos (show ((r + y1 : Nat) : Int) ≥ 4294967296 by omega)]
     have := D.stop g' (r + y1) h3' hbr (by omega)
     rw [show g' = q by omega]
     exact evn fin
    ·simp only [if_neg (show ¬ ((r + y1 : Nat) : Int) ≥ 4294967296 by omega)]
     exact ih g' (r + y1) (by omega) (by omega) h3' (by omega) (by omega)
   ·have c' : ¬ (4294967296 ≤ g ∨ 4294967296 * r + d < g * y0) := fun h => c (hb.mpr h)
    have := t1 c'
    simp only [if_neg c]
    rw [show g = q by omega]
    exact evn fin
  refine evs ?_
  by_cases c : 4294967296 ≤ g
  ·simp only [bits_Div64.l1, if_pos (show (g : Int) ≥ 4294967296 by omega)]
   exact go true (by simp [c])
  ·simp only [bits_Div64.l1, if_neg (show ¬ (g : Int) ≥ 4294967296 by omega), wMul hm, wB h4, wAdd (show 4294967296 * r + d < 18446744073709551616 by omega)]
   exact go _ (by simp only [decide_eq_true_eq]; omega)
theorem Div64_fin {q1 u d q z y : Nat} (h1 : q1 * 4294967296 + q < 18446744073709551616) (h2 : q1 < 4294967296) (h3 : q * y ≤ u * 4294967296 + d) (h4 : u * 4294967296 + d - q * y = z) (h5 : z < 18446744073709551616) :
  (some (IntKind.u64.wrap (IntKind.u64.wrap ((q1 : Int) * 4294967296) + (q : Int)), shr .u64 (IntKind.u64.wrap (IntKind.u64.wrap (IntKind.u64.wrap ((u : Int) * 4294967296) + (d : Int)) - IntKind.u64.wrap ((q : Int) * (y : Int)))) 0) : Option (Int × Int)) = some (((q1 * 4294967296 + q : Nat) : Int), (z : Int)) := by
 rw [wRest h3 (by omega), h4]
 rw [wB' h2, wAdd h1]
 have := shr_nat z 0 (by decide)
 rw [Nat.pow_zero, Nat.div_one] at this
 rw [show (0 : Int) = ((0 : Nat) : Int) from rfl, this]
theorem div_of_eq {V y q z : Nat} (h : V = q * y + z) (hz : z < y) : V / y = q ∧ V % y = z := by
 subst h
 rw [Nat.add_comm, Nat.add_mul_div_right _ _ (by omega), Nat.div_eq_of_lt hz, Nat.add_mul_mod_self_right, Nat.mod_eq_of_lt hz]
 exact ⟨by omega, rfl⟩
theorem dig_ex {y y1 y0 u d : Nat} (hy : y = y1 * 4294967296 + y0) (hy1 : 2147483648 ≤ y1) (hy1' : y1 < 4294967296) (hy0 : y0 < 4294967296) (hu : u < y) (hd : d < 4294967296) :
  ∃ q z, Dig y1 y0 u d q ∧ q ≤ u / y1 ∧ u / y1 ≤ 4294967297 ∧ u * 4294967296 + d = q * y + z ∧ z < y ∧ q < 4294967296 := by
 subst hy
 have hpos : 0 < y1 * 4294967296 + y0 := by omega
 refine ⟨(u * 4294967296 + d) / (y1 * 4294967296 + y0), (u * 4294967296 + d) % (y1 * 4294967296 + y0), Dig.mk' hy1 hy1' hy0 hu hd, dig_below hy1 hd, dig_first hy1 hy0 hu, ?_, Nat.mod_lt _ hpos, ?_⟩
 ·rw [Nat.mul_comm ((u * 4294967296 + d) / (y1 * 4294967296 + y0))]; exact (Nat.div_add_mod _ _).symm
 ·rw [Nat.div_lt_iff_lt_mul hpos]; omega
theorem dig_both' {B h l l1 l0 a b u z V : Nat} (h1 : V = h * (B * B) + l) (h2 : l = l1 * B + l0) (h3 : h * B + l1 = a + u) (h4 : u * B + l0 = b + z) : V = a * B + b + z := by
 have e : (h * B + l1) * B = (a + u) * B := by rw [h3]
 rw [Nat.add_mul, Nat.add_mul, Nat.mul_assoc] at e
 omega
theorem dig_both {h l l1 l0 q1 q2 y u z V : Nat} (h1 : V = h * 18446744073709551616 + l) (h2 : l = l1 * 4294967296 + l0) (h3 : h * 4294967296 + l1 = q1 * y + u) (h4 : u * 4294967296 + l0 = q2 * y + z) : V = (q1 * 4294967296 + q2) * y + z := by
 have e5 : (q1 * 4294967296 + q2) * y = q1 * y * 4294967296 + q2 * y := by rw [Nat.add_mul, Nat.mul_assoc, Nat.mul_comm 4294967296, ← Nat.mul_assoc]
 rw [e5]
 have e6 : (18446744073709551616 : Nat) = 4294967296 * 4294967296 := by decide
 rw [e6] at h1
 exact dig_both' h1 h2 h3 h4
theorem dig_guess {u y1 : Nat} (h : 2147483648 ≤ y1) (hu : u < 18446744073709551616) : IntKind.u64.wrap (Int.tdiv (u : Int) (y1 : Int)) = ((u / y1 : Nat) : Int) ∧ IntKind.u64.wrap ((u : Int) - IntKind.u64.wrap (((u / y1 : Nat) : Int) * (y1 : Int))) = ((u % y1 : Nat) : Int) ∧ u = u / y1 * y1 + u % y1 ∧ u % y1 < y1 := by
 have hdm := Nat.div_add_mod u y1
 have hml := Nat.mod_lt u (show 0 < y1 by omega)
 have hq : u / y1 ≤ u := Nat.div_le_self _ _
 rw [Nat.mul_comm] at hdm
 rw [tdivN]
 generalize u / y1 = q at *
 generalize u % y1 = r at *
 refine ⟨wN (by omega), ?_, by omega, hml⟩
 rw [wMul (by omega), show (u : Int) - ((q * y1 : Nat) : Int) = (r : Int) by omega, wN (by omega)]
theorem Div64_eq {h l y V : Nat} (hy : 9223372036854775808 ≤ y) (hy' : y < 18446744073709551616) (hh : h < y) (hl : l < 18446744073709551616) (hV : V = h * 18446744073709551616 + l) :
  Ev (fun k => bits_Div64.f k (h : Int) (l : Int) (y : Int)) (((V / y : Nat) : Int), ((V % y : Nat) : Int)) := by
 unfold bits_Div64.f
 simp only [if_neg (show ¬ (y : Int) = 0 by omega), if_neg (show ¬ (y : Int) ≤ (h : Int) by omega)]
 by_cases h0 : h = 0
 ·have hVl : V = l := by omega
  subst h0 hVl
  have hq : V / y < 18446744073709551616 := Nat.lt_of_le_of_lt (Nat.div_le_self _ _) hl
  simp only [show (((0 : Nat) : Int) = 0) = True from by simp, if_true, tdivN, tmodN, wN hq]
  exact Ev.now _
 ·simp only [if_neg (show ¬ (h : Int) = 0 by omega)]
  have hlz : bits_LeadingZeros64.f (y : Int) = some 0 := by
   have := Lead0_eq (x := y) hy'
   rw [bl_unique (n := 64) (by decide) (by rw [show (2 : Nat) ^ (64 - 1) = 9223372036854775808 by decide]; exact hy) (by rw [p64]; exact hy')] at this
   exact this
  have w0 : IntKind.u64.wrap 0 = 0 := by decide
  have w64' : IntKind.u64.wrap (64 - 0) = 64 := by decide
  have s0 : ∀ a : Nat, a < 18446744073709551616 → shl .u64 (a : Int) 0 = (a : Int) := fun a ha => by
   have := shl_nat a 0 (by decide)
   rw [Nat.pow_zero, Nat.mul_one, Nat.mod_eq_of_lt ha] at this
   exact this
  have s1 : shr .u64 (l : Int) 64 = 0 := by
   have := shr_nat l 64 (by decide)
   rw [p64, Nat.div_eq_of_lt hl] at this
   exact this
  have o0 : Go.bits .or .u64 (h : Int) 0 = (h : Int) := by
   have := or_nat h 0 (by omega) (by decide)
   rw [Nat.or_zero] at this
   exact this
  refine Ev.bind (evn hlz) ?_
  have hlh : h < 18446744073709551616 := by omega
  have hy1 : 2147483648 ≤ y / 4294967296 := by omega
  have hy1' : y / 4294967296 < 4294967296 := by omega
  have hy0 : y % 4294967296 < 4294967296 := by omega
  have hye : y = y / 4294967296 * 4294967296 + y % 4294967296 := by omega
  have hyi : (y : Int) / 4294967296 = ((y / 4294967296 : Nat) : Int) := by omega
  have hli : (l : Int) / 4294967296 = ((l / 4294967296 : Nat) : Int) := by omega
  obtain ⟨g1, g2, g3, g4⟩ := dig_guess hy1 hlh
  simp only [w0, w64', Int.le_refl, if_true, if_pos (show (0 : Int) ≤ 64 by decide), s0 y hy', s0 h hlh, s0 l hl, s1, o0, hyi, hli, if_neg (show ¬ ((y / 4294967296 : Nat) : Int) = 0 by omega), mask32 y hy', mask32 l hl, g1, g2]
  obtain ⟨q1, u, D1, b1, b2, b3, b4, b5⟩ := dig_ex hye hy1 hy1' hy0 hh (show l / 4294967296 < 4294967296 by omega)
  refine Div64_l0 (v := l % 4294967296) D1 ?_ (h / (y / 4294967296)) (h / (y / 4294967296)) (h % (y / 4294967296)) (Nat.le_add_left _ _) b1 g3 (Nat.lt_trans g4 hy1') b2
  obtain ⟨e1, e2, e3, e4⟩ := dig_guess hy1 (show u < 18446744073709551616 by omega)
  obtain ⟨q2, z, D2, c1, c2, c3, c4, c5⟩ := dig_ex hye hy1 hy1' hy0 b4 (show l % 4294967296 < 4294967296 by omega)
  have hwr := wRest (u := h) (d := l / 4294967296) (g := q1) (y := y) (by omega) (by omega)
  rw [show h * 4294967296 + l / 4294967296 - q1 * y = u by omega] at hwr
  have hfin := Div64_fin (q1 := q1) (u := u) (d := l % 4294967296) (q := q2) (z := z) (y := y) (by omega) b5 (by omega) (by omega) (by omega)
  have hVe := dig_both hV (show l = l / 4294967296 * 4294967296 + l % 4294967296 by omega) b3 c3
  obtain ⟨v1, v2⟩ := div_of_eq hVe c4
  rw [v1, v2]
  refine evs ?_
  simp only [bits_Div64.j2, if_neg (show ¬ ((y / 4294967296 : Nat) : Int) = 0 by omega), hwr, e1, e2]
  exact Div64_l1 D2 hfin (u / (y / 4294967296)) (u / (y / 4294967296)) (u % (y / 4294967296)) (Nat.le_add_left _ _) c1 e3 (Nat.lt_trans e4 hy1') c2
theorem part_Div_eq {V y : Nat} (hy : 9223372036854775808 ≤ y) (hy' : y < 18446744073709551616) (hV : V / 18446744073709551616 < y) : Ev (fun k => part_Div.f k (TH V) (TL V) (y : Int)) (((V / y : Nat) : Int), ((V % y : Nat) : Int), none) := by
 unfold part_Div.f
 have h1 : TH V < (y : Int) := by unfold TH; omega
 simp only [if_neg (show ¬ (y : Int) = 0 by omega), if_neg (show ¬ TH V ≥ (y : Int) by omega)]
 have := Div64_eq (V := V) (h := V / 18446744073709551616) (l := V % 18446744073709551616) hy hy' hV (Nat.mod_lt _ (by decide)) (by omega)
 exact Ev.bind this (Ev.now _)
end Go.Proofs.Ytgcihaapajbdbaa.V
namespace Go.Proofs.Ytgcihaapajbdbaa.V
open Go Go.RowKit Go.Proofs.Ytgcihaapajbdbaa.Ab
theorem decN_nar (n : Nat) : decN n (2 ^ (n - 1)) = ⟨2, false, 0, 0⟩ := by
 unfold decN
 rw [if_neg (Nat.ne_of_gt (two_pos (n - 1))), if_pos rfl]
end Go.Proofs.Ytgcihaapajbdbaa.V
namespace Go.Proofs.Ytgcihaapajbdbaa.V
open Go Go.RowKit Go.Proofs.Ytgcihaapajbdbaa.Ab Go.Proofs.Ytgcihaapajbdbaa.Fn
set_option linter.unusedVariables false
set_option linter.unusedSimpArgs false
def qtJ (a b : NM) : Nat := if b.fr ≤ a.fr then 63 else 64
def quotX (a b : NM) : EX := if a.kd = 2 ∨ b.kd ≠ 1 then EX.nar else if a.kd = 0 then EX.zero else
 ⟨1, a.ng != b.ng, a.sc - b.sc + 63 - (qtJ a b : Int), a.fr * 2 ^ qtJ a b / b.fr * 18446744073709551616, decide (a.fr * 2 ^ qtJ a b % b.fr ≠ 0)⟩
theorem qt_range {x y j : Nat} (h1 : 2 ^ 63 ≤ x) (h2 : x < 2 ^ 64) (h3 : 2 ^ 63 ≤ y) (h4 : y < 2 ^ 64) (hj : j = if y ≤ x then 63 else 64) : 2 ^ 63 ≤ x * 2 ^ j / y ∧ x * 2 ^ j / y < 2 ^ 64 := by
 have hy : 0 < y := Nat.lt_of_lt_of_le (two_pos 63) h3
 rw [Nat.le_div_iff_mul_le hy, Nat.div_lt_iff_lt_mul hy]
 rw [p63] at *
 rw [p64] at *
 by_cases h : y ≤ x
 ·rw [if_pos h] at hj
  subst hj
  rw [p63]; omega
 ·rw [if_neg h] at hj
  subst hj
  rw [p64]; omega
theorem quotX_ok {a b : NM} (ha : a.ok) (hb : b.ok) : (quotX a b).ok := by
 unfold quotX
 by_cases h : a.kd = 2 ∨ b.kd ≠ 1
 ·rw [if_pos h]; exact .inr (.inl rfl)
 ·rw [if_neg h]
  by_cases h0 : a.kd = 0
  ·rw [if_pos h0]; exact .inl rfl
  ·rw [if_neg h0]
   rcases NM.cases ha with rfl | rfl | ⟨a1, a2, a3, a4, a5⟩
   ·exact absurd rfl h0
   ·exact absurd (.inl rfl) h
   ·rcases NM.cases hb with rfl | rfl | ⟨b1, b2, b3, b4, b5⟩
    ·exact absurd (.inr (by decide)) h
    ·exact absurd (.inr (by decide)) h
    ·obtain ⟨r1, r2⟩ := qt_range a2 a3 b2 b3 rfl
     have hj : (if b.fr ≤ a.fr then 63 else 64) = qtJ a b := rfl
     rw [hj] at r1 r2
     have hj2 : qtJ a b = 63 ∨ qtJ a b = 64 := by unfold qtJ; split <;> omega
     rw [p63] at r1
     rw [p64] at r2
     refine .inr (.inr ⟨rfl, ?_, ?_, ?_, ?_⟩)
     ·show 2 ^ 127 ≤ a.fr * 2 ^ qtJ a b / b.fr * 18446744073709551616
      rw [p127]; omega
     ·show a.fr * 2 ^ qtJ a b / b.fr * 18446744073709551616 < 2 ^ 128
      rw [p128]; omega
     ·show -1099511627776 ≤ a.sc - b.sc + 63 - (qtJ a b : Int)
      omega
     ·show a.sc - b.sc + 63 - (qtJ a b : Int) ≤ 1099511627776
      omega
end Go.Proofs.Ytgcihaapajbdbaa.V
namespace Go.Proofs.Ytgcihaapajbdbaa.V
open Go Go.RowKit Go.Proofs.Ytgcihaapajbdbaa.Ab Go.Proofs.Ytgcihaapajbdbaa.Fn
set_option linter.unusedVariables false
set_option linter.unusedSimpArgs false
theorem T_hi (r : Nat) : TH (r * 18446744073709551616) = (r : Int) ∧ TL (r * 18446744073709551616) = 0 := by
 unfold TH TL; omega
theorem Of_X {x : NM} (h : x.ok) : Ev (fun k => round_Of.f k x.kd x.ng x.sc (x.fr : Int)) (x.ex.kd, x.ex.ng, x.ex.sc, TH x.ex.V, TL x.ex.V, x.ex.R, none) := by
 have := round_Of_eq x.kd x.ng x.sc (x.fr : Int) (by have := h.2; omega) (by omega)
 rw [if_pos h.1] at this
 rw [(NM.ex_tup x h).1, (NM.ex_tup x h).2]
 exact this
end Go.Proofs.Ytgcihaapajbdbaa.V
namespace Go.Proofs.Ytgcihaapajbdbaa.V
open Go Go.RowKit Go.Proofs.Ytgcihaapajbdbaa.Ab Go.Proofs.Ytgcihaapajbdbaa.Fn
set_option linter.unusedVariables false
set_option linter.unusedSimpArgs false
def twoN (s : Int) : NM := ⟨1, false, s, 9223372036854775808⟩
end Go.Proofs.Ytgcihaapajbdbaa.V
namespace Go.Proofs.Ytgcihaapajbdbaa.V
open Go Go.RowKit Go.Proofs.Ytgcihaapajbdbaa.Ab Go.Proofs.Ytgcihaapajbdbaa.Fn
set_option linter.unusedVariables false
set_option linter.unusedSimpArgs false
theorem quotX_real {a b : NM} (h1 : a.kd = 1) (h2 : b.kd = 1) : quotX a b = ⟨1, a.ng != b.ng, a.sc - b.sc + 63 - (qtJ a b : Int), a.fr * 2 ^ qtJ a b / b.fr * 18446744073709551616, decide (a.fr * 2 ^ qtJ a b % b.fr ≠ 0)⟩ := by
 unfold quotX
 rw [if_neg (by omega), if_neg (by omega)]
theorem pos_ne (n : Nat) : decide ((n : Int) > 0) = decide (n ≠ 0) := by
 rw [decide_eq_decide]; omega
theorem quot_Exact_X {a b : NM} (ha : a.ok) (hb : b.ok) : Ev (fun k => quot_Exact.f k a.kd a.ng a.sc (a.fr : Int) b.kd b.ng b.sc (b.fr : Int)) ((quotX a b).kd, (quotX a b).ng, (quotX a b).sc, TH (quotX a b).V, TL (quotX a b).V, (quotX a b).R, none) := by
 unfold quot_Exact.f
 refine Ev.bind (Of_X ha) ?_
 simp only [Option.isNone_none, if_true]
 refine Ev.bind (Of_X hb) ?_
 simp only [Option.isNone_none, if_true]
 have j0 : Ev (fun k => quot_Exact.j0 k (decide (a.kd = 2 ∨ b.kd ≠ 1)) a.kd a.ng a.sc (a.fr : Int) b.ng b.sc (b.fr : Int)) ((quotX a b).kd, (quotX a b).ng, (quotX a b).sc, TH (quotX a b).V, TL (quotX a b).V, (quotX a b).R, none) := by
  refine evs ?_
  simp only [quot_Exact.j0]
  by_cases c1 : a.kd = 2 ∨ b.kd ≠ 1
  ·have e : quotX a b = EX.nar := by unfold quotX; rw [if_pos c1]
   simp only [decide_eq_true c1, if_true, e]
   exact Ev.now _
  ·simp only [decide_eq_false c1, Bool.false_eq_true, if_false]
   by_cases c0 : a.kd = 0
   ·have e : quotX a b = EX.zero := by unfold quotX; rw [if_neg c1, if_pos c0]
    simp only [if_pos c0, e]
    exact Ev.now _
   ·simp only [if_neg c0]
    have ca := (NM.cases ha).resolve_left (fun h => c0 (by rw [h]))
    have ca := ca.resolve_left (fun h => c1 (.inl (by rw [h])))
    have hb1 : b.kd = 1 := Decidable.byContradiction fun h => c1 (.inr h)
    have cb := (NM.cases hb).resolve_left (fun h => by rw [h] at hb1; cases hb1)
    have cb := cb.resolve_left (fun h => by rw [h] at hb1; cases hb1)
    obtain ⟨a1, a2, a3, a4, a5⟩ := ca
    obtain ⟨b1, b2, b3, b4, b5⟩ := cb
    rw [quotX_real a1 b1]
    rw [p63] at a2 b2
    rw [p64] at a3 b3
    simp only [(T_hi _).1, (T_hi _).2]
    by_cases hc : b.fr ≤ a.fr
    ·have hj : qtJ a b = 63 := by unfold qtJ; rw [if_pos hc]
     have h1 : TH (a.fr * 2 ^ 63) = (a.fr : Int) / 2 := by unfold TH; rw [p63]; omega
     have h2 : TL (a.fr * 2 ^ 63) = IntKind.u64.wrap ((a.fr : Int) * 9223372036854775808) := by unfold TL; rw [p63, u64_wrap]; omega
     have h3 : a.fr * 2 ^ 63 / 18446744073709551616 < b.fr := by rw [p63]; omega
     have hd := part_Div_eq b2 b3 h3
     rw [h1, h2] at hd
     have es : wrap64 (wrap64 (wrap64 (a.sc - b.sc) - 1) + 1) = a.sc - b.sc + 63 - ((63 : Nat) : Int) := by
      rw [w64 (n := a.sc - b.sc) (by omega) (by omega), w64 (n := a.sc - b.sc - 1) (by omega) (by omega), w64 (by omega) (by omega)]; omega
     simp only [if_pos (show (a.fr : Int) ≥ (b.fr : Int) by omega), hj, es]
     refine Ev.bind hd (evn ?_)
     rw [pos_ne]
     rfl
    ·have hj : qtJ a b = 64 := by unfold qtJ; rw [if_neg hc]
     have h1 : TH (a.fr * 2 ^ 64) = (a.fr : Int) := by unfold TH; rw [p64]; omega
     have h2 : TL (a.fr * 2 ^ 64) = 0 := by unfold TL; rw [p64]; omega
     have h3 : a.fr * 2 ^ 64 / 18446744073709551616 < b.fr := by rw [p64]; omega
     have hd := part_Div_eq b2 b3 h3
     rw [h1, h2] at hd
     have es : wrap64 (wrap64 (a.sc - b.sc) - 1) = a.sc - b.sc + 63 - ((64 : Nat) : Int) := by
      rw [w64 (n := a.sc - b.sc) (by omega) (by omega), w64 (by omega) (by omega)]; omega
     simp only [if_neg (show ¬ (a.fr : Int) ≥ (b.fr : Int) by omega), hj, es]
     refine Ev.bind hd (evn ?_)
     rw [pos_ne]
     rfl
 by_cases c : a.kd = 2
 ·have hd : (a.kd == 2) = decide (a.kd = 2 ∨ b.kd ≠ 1) := by simp [c]
  simp only [if_pos c, hd]
  exact j0
 ·have hd : (b.kd != 1) = decide (a.kd = 2 ∨ b.kd ≠ 1) := by
   rw [Bool.eq_iff_iff]; simp [c]
  simp only [if_neg c, hd]
  exact j0
def divN (n x y : Nat) : Nat := (quotX (decN n x) (decN n y)).rnd n
theorem divN_lt {n x y : Nat} (h8 : 8 ≤ n) (hn : n ≤ 64) (hx : x < 2 ^ n) (hy : y < 2 ^ n) : divN n x y < 2 ^ n := EX.rnd_lt h8 hn (quotX_ok (decN_ok h8 hn hx) (decN_ok h8 hn hy))
theorem quot_Div_eq {n a b : Nat} (h : isW (n : Int) = true) (ha : a < 18446744073709551616) (hb : b < 18446744073709551616) : Ev (fun k => quot_Div.f k (n : Int) (a : Int) (b : Int)) (((divN n (a % 2 ^ n) (b % 2 ^ n) : Nat) : Int), none) := by
 obtain ⟨b64, b8⟩ := pow64 h
 have oa := decN_ok b8 b64 (Nat.mod_lt a (two_pos n))
 have ob := decN_ok b8 b64 (Nat.mod_lt b (two_pos n))
 unfold quot_Div.f
 refine Ev.bind (Decode_N h ha) ?_
 simp only [Option.isNone_none, if_true]
 refine Ev.bind (Decode_N h hb) (Ev.bind (quot_Exact_X oa ob) ?_)
 simp only [Option.isNone_none, if_true]
 exact Ev.bind (Round_X h (quotX_ok oa ob)) (Ev.now _)
theorem quot_Div_no {n : Int} (h : isW n = false) (a b : Int) : Ev (fun k => quot_Div.f k n a b) (0, some 2) := by
 unfold quot_Div.f
 exact Ev.bind (Decode_no h a) (Ev.now _)
theorem up11 : Ev (fun k => vernierlaw11_up.f k) true := by
 unfold vernierlaw11_up.f
 have a := quot_Div_eq (n := 8) (a := 64) (b := 72) (by decide) (by decide) (by decide)
 have b := quot_Div_eq (n := 8) (a := 64) (b := 0) (by decide) (by decide) (by decide)
 rw [show divN 8 (64 % 2 ^ 8) (72 % 2 ^ 8) = 56 by decide +kernel] at a
 rw [show divN 8 (64 % 2 ^ 8) (0 % 2 ^ 8) = 128 by decide +kernel] at b
 exact Ev.bind a (Ev.bind b (Ev.now _))
theorem quotX_neg_l {a : NM} (ha : a.ok) (b : NM) : quotX a.neg b = (quotX a b).neg := by
 rcases NM.cases ha with rfl | rfl | ⟨h, h2, h3, h4, h5⟩
 ·rw [show (⟨0, false, 0, 0⟩ : NM).neg = ⟨0, false, 0, 0⟩ from rfl]
  unfold quotX
  split
  ·rfl
  ·rfl
 ·rw [show (⟨2, false, 0, 0⟩ : NM).neg = ⟨2, false, 0, 0⟩ from rfl]
  unfold quotX
  rw [if_pos (.inl rfl)]; rfl
 ·have hn : a.neg = ⟨a.kd, !a.ng, a.sc, a.fr⟩ := by unfold NM.neg; rw [if_pos h]
  by_cases hb : b.kd = 1
  ·rw [hn, quotX_real h hb, quotX_real (a := ⟨a.kd, !a.ng, a.sc, a.fr⟩) h hb]
   unfold EX.neg
   rw [if_pos rfl]
   refine EX.ext' rfl ?_ rfl rfl rfl
   show ((!a.ng) != b.ng) = !(a.ng != b.ng)
   cases a.ng <;> cases b.ng <;> rfl
  ·rw [hn]
   unfold quotX
   rw [if_pos (.inr hb), if_pos (.inr hb)]; rfl
theorem NM.neg_kd (a : NM) : a.neg.kd = a.kd := by unfold NM.neg; split <;> rfl
theorem quotX_neg_r {a : NM} (ha : a.ok) (b : NM) : quotX a b.neg = (quotX a b).neg := by
 by_cases hb : b.kd = 1
 ·have hn : b.neg = ⟨b.kd, !b.ng, b.sc, b.fr⟩ := by unfold NM.neg; rw [if_pos hb]
  rcases NM.cases ha with rfl | rfl | ⟨h, h2, h3, h4, h5⟩
  ·have e : ∀ c : NM, c.kd = 1 → quotX ⟨0, false, 0, 0⟩ c = EX.zero := by
    intro c hc
    unfold quotX
    rw [if_neg (show ¬ ((0 : Int) = 2 ∨ c.kd ≠ 1) by omega), if_pos rfl]
   rw [e b hb, e b.neg (by rw [NM.neg_kd, hb])]
   rfl
  ·unfold quotX
   rw [if_pos (.inl rfl), if_pos (.inl rfl)]; rfl
  ·rw [hn, quotX_real h hb, quotX_real (b := ⟨b.kd, !b.ng, b.sc, b.fr⟩) h hb]
   unfold EX.neg
   rw [if_pos rfl]
   refine EX.ext' rfl ?_ rfl rfl rfl
   show (a.ng != !b.ng) = !(a.ng != b.ng)
   cases a.ng <;> cases b.ng <;> rfl
 ·unfold quotX
  rw [NM.neg_kd, if_pos (.inr hb), if_pos (.inr hb)]; rfl
theorem quotX_two {a : NM} {t : Int} (h1 : a.kd = 1) (h2 : 2 ^ 63 ≤ a.fr) : quotX a (twoN t) = ⟨1, a.ng, a.sc - t, a.fr * 18446744073709551616, false⟩ := by
 rw [quotX_real h1 rfl]
 have hj : qtJ a (twoN t) = 63 := by unfold qtJ; rw [if_pos (by rw [p63] at h2; exact h2)]
 rw [hj]
 refine EX.ext' rfl ?_ ?_ ?_ ?_
 ·show (a.ng != false) = a.ng
  cases a.ng <;> rfl
 ·show a.sc - t + 63 - ((63 : Nat) : Int) = a.sc - t
  omega
 ·show a.fr * 2 ^ 63 / 9223372036854775808 * 18446744073709551616 = _
  rw [p63, Nat.mul_div_cancel _ (by decide)]
 ·show decide (a.fr * 2 ^ 63 % 9223372036854775808 ≠ 0) = false
  rw [p63, Nat.mul_mod_left]; rfl
theorem quotX_one {a : NM} (ha : a.ok) : quotX a oneN = a.ex := by
 rcases NM.cases ha with rfl | rfl | ⟨h, h2, h3, h4, h5⟩
 ·rfl
 ·rfl
 ·have e : oneN = twoN 0 := rfl
  rw [e, quotX_two h h2]
  unfold NM.ex
  exact EX.ext' h.symm rfl (by show a.sc - 0 = a.sc; omega) rfl rfl
theorem quotX_self {a : NM} (h : a.kd = 1) (h0 : 0 < a.fr) : quotX a a = oneN.ex := by
 rw [quotX_real h h]
 have hj : qtJ a a = 63 := by unfold qtJ; rw [if_pos (Nat.le_refl _)]
 rw [hj]
 refine EX.ext' rfl ?_ ?_ ?_ ?_
 ·show (a.ng != a.ng) = false
  cases a.ng <;> rfl
 ·show a.sc - a.sc + 63 - ((63 : Nat) : Int) = 0
  omega
 ·show a.fr * 2 ^ 63 / a.fr * 18446744073709551616 = 9223372036854775808 * 18446744073709551616
  rw [Nat.mul_div_cancel_left _ h0, p63]
 ·show decide (a.fr * 2 ^ 63 % a.fr ≠ 0) = false
  rw [Nat.mul_mod_right]; rfl
end Go.Proofs.Ytgcihaapajbdbaa.V
namespace Go.Proofs.Ytgcihaapajbdbaa.Pure
open Go Go.RowKit Go.Proofs.Ytgcihaapajbdbaa.Ab Go.Proofs.Ytgcihaapajbdbaa.Fn Go.Proofs.Ytgcihaapajbdbaa.V
set_option linter.unusedSimpArgs false
theorem div_one {n x : Nat} (h : isW (n : Int) = true) (h8 : 8 ≤ n) (hn : n ≤ 64) (hx : x < 2 ^ n) : divN n x (2 ^ (n - 2)) = x := by
 unfold divN
 rw [decN_one h, quotX_one (decN_ok h8 hn hx), dec_rnd h8 hn hx]
theorem div_neg_r {n x y : Nat} (h8 : 8 ≤ n) (hn : n ≤ 64) (hx : x < 2 ^ n) (hy : y < 2 ^ n) : divN n x (negP n y) = negP n (divN n x y) := by
 unfold divN
 rw [decN_neg (by omega) hy, quotX_neg_r (decN_ok h8 hn hx), EX.rnd_neg h8 hn (quotX_ok (decN_ok h8 hn hx) (decN_ok h8 hn hy))]
theorem div_neg_l {n x y : Nat} (h8 : 8 ≤ n) (hn : n ≤ 64) (hx : x < 2 ^ n) (hy : y < 2 ^ n) : divN n (negP n x) y = negP n (divN n x y) := by
 unfold divN
 rw [decN_neg (by omega) hx, quotX_neg_l (decN_ok h8 hn hx), EX.rnd_neg h8 hn (quotX_ok (decN_ok h8 hn hx) (decN_ok h8 hn hy))]
theorem div_bad {n x y : Nat} (h : (decN n y).kd ≠ 1) : divN n x y = 2 ^ (n - 1) := by
 unfold divN quotX
 rw [if_pos (.inr h), EX.rnd_nar]
theorem div_nar {n y : Nat} : divN n (2 ^ (n - 1)) y = 2 ^ (n - 1) := by
 unfold divN quotX
 rw [decN_nar, if_pos (.inl rfl), EX.rnd_nar]
theorem dec_kd1 {n x : Nat} (h0 : x ≠ 0) (h1 : x ≠ 2 ^ (n - 1)) : (decN n x).kd = 1 := by
 unfold decN
 rw [if_neg h0, if_neg h1]
theorem div_self {n x : Nat} (h : isW (n : Int) = true) (h8 : 8 ≤ n) (hn : n ≤ 64) (hx : x < 2 ^ n) (h0 : x ≠ 0) (h1 : x ≠ 2 ^ (n - 1)) : divN n x x = 2 ^ (n - 2) := by
 have hk := dec_kd1 h0 h1
 have hok := decN_ok h8 hn hx
 have hf : 0 < (decN n x).fr := by
  rcases NM.cases hok with e | e | ⟨_, e, _⟩
  ·rw [e] at hk; cases hk
  ·rw [e] at hk; cases hk
  ·exact Nat.lt_of_lt_of_le (two_pos 63) e
 unfold divN
 rw [quotX_self hk hf, ← decN_one h, dec_rnd h8 hn (pow_lt (by omega))]
theorem QuotLaws : vernierlaw11_QuotLaws.Pure := by
 intro n a b w0 w1 w2
 obtain ⟨a, rfl, ha⟩ := u64_nat w1
 obtain ⟨b, rfl, hb⟩ := u64_nat w2
 refine Ev.rounds (g := fun k => vernierlaw11_QuotLaws.f k n (a : Int) (b : Int)) ?_
 unfold vernierlaw11_QuotLaws.f
 refine Ev.bind up11 (Ev.bind (evn (ref_Is_eq _)) ?_)
 by_cases hn : isW n = true
 ·obtain ⟨n, rfl, _⟩ := isW_nat hn
  obtain ⟨b64, b8⟩ := pow64 hn
  have e2 : wrap64 ((n : Int) - 2) = ((n - 2 : Nat) : Int) := by rw [w64 (by omega) (by omega)]; omega
  have e1 : wrap64 ((n : Int) - 1) = ((n - 1 : Nat) : Int) := by rw [w64 (by omega) (by omega)]; omega
  have h2n : 2 ^ n ≤ 18446744073709551616 := by rw [← p64]; exact pow_le b64
  have hp2 : 2 ^ (n - 2) < 18446744073709551616 := by rw [← p64]; exact pow_lt (by omega)
  have hp2n : 2 ^ (n - 2) < 2 ^ n := pow_lt (by omega)
  have hx := Nat.mod_lt a (two_pos n)
  have hy := Nat.mod_lt b (two_pos n)
  have hh := two_halves (n := n) (by omega)
  have hpp := two_pos (n - 1)
  rw [hn, e1, e2]
  clear e1 e2
  have g1 : (18446744073709551616 - 2 ^ (n - 2)) % 18446744073709551616 % 2 ^ n = negP n (2 ^ (n - 2)) := by
   have := negN_mod b64 hp2
   rw [Nat.mod_eq_of_lt hp2n] at this
   exact this
  have g2 : (18446744073709551616 - a) % 18446744073709551616 % 2 ^ n = negP n (a % 2 ^ n) := negN_mod b64 ha
  have g3 : (18446744073709551616 - b) % 18446744073709551616 % 2 ^ n = negP n (b % 2 ^ n) := negN_mod b64 hb
  have q1 := quot_Div_eq hn ha hp2
  have q2 := quot_Div_eq hn ha (Nat.mod_lt (18446744073709551616 - 2 ^ (n - 2)) (show 0 < 18446744073709551616 by decide))
  have q3 := quot_Div_eq hn ha ha
  have q4 := quot_Div_eq hn (Nat.mod_lt (18446744073709551616 - a) (show 0 < 18446744073709551616 by decide)) hb
  have q5 := quot_Div_eq hn ha (Nat.mod_lt (18446744073709551616 - b) (show 0 < 18446744073709551616 by decide))
  have q6 := quot_Div_eq hn ha (show 0 < 18446744073709551616 by decide)
  rw [Nat.mod_eq_of_lt hp2n, div_one hn b8 b64 hx] at q1
  rw [g1, div_neg_r b8 b64 hx hp2n, div_one hn b8 b64 hx] at q2
  rw [g2, div_neg_l b8 b64 hx hy] at q4
  rw [g3, div_neg_r b8 b64 hx hy] at q5
  rw [Nat.zero_mod, div_bad (show (decN n 0).kd ≠ 1 by rw [show decN n 0 = ⟨0, false, 0, 0⟩ from rfl]; decide)] at q6
  rw [← neg_wrap hp2] at q2
  rw [← neg_wrap ha] at q4
  rw [← neg_wrap hb] at q5
  have hnA := ref_Neg_eq hn ha
  rw [negN_mod b64 ha] at hnA
  have hpl := divN_lt b8 b64 hx hy
  have hnP := ref_Neg_eq hn (x := divN n (a % 2 ^ n) (b % 2 ^ n)) (by omega)
  rw [negN_mod b64 (by omega), Nat.mod_eq_of_lt hpl] at hnP
  refine Ev.bind (quot_Div_eq hn ha hb) ?_
  simp only [if_true]
  refine Ev.bind (ref_Power_eq (by omega)) (Ev.bind (ref_Power_eq (by omega)) (Ev.bind q1 (Ev.bind q2 (Ev.bind q3 (Ev.bind q4 (Ev.bind q5 (Ev.bind q6 (Ev.bind (ref_Fold_eq hn ha) ?_))))))))
  simp only [Option.isNone_none, if_true]
  refine evs ?_
  simp only [vernierlaw11_QuotLaws.j1, bne_self_eq_false, Bool.false_eq_true, if_false]
  by_cases c1 : a % 2 ^ n = 2 ^ (n - 1)
  ·simp only [if_pos (show ((a % 2 ^ n : Nat) : Int) = ((2 ^ (n - 1) : Nat) : Int) by rw [c1])]
   refine evs ?_
   simp only [vernierlaw11_QuotLaws.j2, if_true]
   have n1 : negP n (2 ^ (n - 1)) = 2 ^ (n - 1) := by unfold negP; rw [if_neg (by omega)]; omega
   rw [c1, n1, div_nar, div_nar]
   refine evn ?_
   simp
  ·simp only [if_neg (show ¬ ((a % 2 ^ n : Nat) : Int) = ((2 ^ (n - 1) : Nat) : Int) from fun h => c1 (Int.ofNat.inj h))]
   by_cases c0 : a % 2 ^ n = 0
   ·refine evs ?_
    have hz : (((a % 2 ^ n : Nat) : Int) == 0) = true := by rw [c0]; rfl
    simp only [vernierlaw11_QuotLaws.j2, hz, if_true]
    have n1 : negP n 0 = 0 := by unfold negP; rw [if_pos rfl]
    rw [c0, n1, div_bad (show (decN n 0).kd ≠ 1 by rw [show decN n 0 = ⟨0, false, 0, 0⟩ from rfl]; decide)]
    refine evn ?_
    simp
   ·refine evs ?_
    have hz : (((a % 2 ^ n : Nat) : Int) == 0) = false := by rw [beq_eq_false_iff_ne]; omega
    simp only [vernierlaw11_QuotLaws.j2, hz, Bool.false_eq_true, if_false, if_true]
    rw [div_self hn b8 b64 hx c0 c1]
    refine Ev.bind hnA ?_
    simp only [if_true]
    refine Ev.bind hnP ?_
    simp only [if_true]
    exact Ev.bind hnP (evn (by simp))
 ·have hn : isW n = false := by simpa using hn
  refine Ev.bind (quot_Div_no hn _ _) ?_
  rw [hn]
  exact evs (Ev.now _)
end Go.Proofs.Ytgcihaapajbdbaa.Pure
