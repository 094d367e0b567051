-- Written by a program of this session out of its own texts (wip/tools/link.py).
import Derived.Below
import Derived.ChangeKeysEq
import Derived.Deep.MidRow
import Derived.Deep.RegionHeld3
import Derived.Great.BuildSlice
import Derived.IntWalk
import Derived.KernelRfl
import Derived.LaidEql
import Derived.Laws.Bits64
import Derived.Laws.BitsLemmas
import Derived.Laws.BytesArg
import Derived.Laws.IdiomCopy
import Derived.Laws.OwnMore
import Derived.Laws.Rows
import Derived.Laws.Slices
import Derived.Laws.StructEq
import Derived.Laws.Tables
import Derived.Lib.BitFns
import Derived.Lib.Slices
import Derived.Lib.Small
import Derived.Lib.Strings
import Derived.Lib.Walk
import Derived.Maps.AppendAt
import Derived.OrdersHeld
import Derived.RowKit
import Derived.Scope
import Derived.Shelf.Spec.BitsCarry
import Derived.Test.YtgjhjgacojlbmaaProg
import Derived.Test.YtgjhjgacojlbmaaCAccumOnce11
namespace Go.Proofs.Ytgjhjgacojlbmaa.V
open Go Go.RowKit Go.Proofs.Ytgjhjgacojlbmaa.Ab Go.Proofs.Ytgjhjgacojlbmaa.Fn
set_option linter.unusedVariables false
set_option linter.unusedSimpArgs false
def n4 (a b c d : Nat) : Nat := ((a * 18446744073709551616 + b) * 18446744073709551616 + c) * 18446744073709551616 + d
structure W4 (a b c d W : Nat) : Prop where
 ha : a < 18446744073709551616
 hb : b < 18446744073709551616
 hc : c < 18446744073709551616
 hd : d < 18446744073709551616
 e : n4 a b c d = W
theorem W4.zero : W4 0 0 0 0 0 := ⟨by decide, by decide, by decide, by decide, rfl⟩
theorem W4.of {V : Nat} (h : V < 2 ^ 128) : W4 (V / 18446744073709551616) (V % 18446744073709551616) 0 0 (V * 2 ^ 128) := by
 rw [p128] at *
 refine ⟨by omega, by omega, by decide, by decide, ?_⟩
 unfold n4
 omega
theorem W4.lt {a b c d W : Nat} (h : W4 a b c d W) : W < 2 ^ 256 := by
 obtain ⟨ha, hb, hc, hd, e⟩ := h
 unfold n4 at e
 rw [show (2 : Nat) ^ 256 = 18446744073709551616 * 18446744073709551616 * 18446744073709551616 * 18446744073709551616 by decide]
 omega
theorem W4.eq0 {a b c d W : Nat} (h : W4 a b c d W) : W = 0 ↔ a = 0 ∧ b = 0 ∧ c = 0 ∧ d = 0 := by
 obtain ⟨ha, hb, hc, hd, e⟩ := h
 unfold n4 at e
 omega
theorem W4.parts {a b c d W : Nat} (h : W4 a b c d W) : 2 ^ 128 * (a * 18446744073709551616 + b) + (c * 18446744073709551616 + d) = W := by
 have e := h.e
 unfold n4 at e
 rw [p128]
 omega
theorem W4.lowlt {a b c d W : Nat} (h : W4 a b c d W) : c * 18446744073709551616 + d < 2 ^ 128 := by
 have e := h.hc
 have e := h.hd
 rw [p128]
 omega
theorem W4.top {a b c d W : Nat} (h : W4 a b c d W) : a * 18446744073709551616 + b = W / 2 ^ 128 := by
 have h2 := h.parts
 have h3 := h.lowlt
 rw [← h2, Nat.mul_add_div (two_pos 128), Nat.div_eq_of_lt h3, Nat.add_zero]
theorem W4.low {a b c d W : Nat} (h : W4 a b c d W) : W % 2 ^ 128 = c * 18446744073709551616 + d := by
 have h2 := h.parts
 have h3 := h.lowlt
 rw [← h2, Nat.mul_add_mod, Nat.mod_eq_of_lt h3]
theorem W4.hi {a b c d W : Nat} (h : W4 a b c d W) : (a : Int) = TH (W / 2 ^ 128) ∧ (b : Int) = TL (W / 2 ^ 128) := by
 rw [← h.top]
 have := h.hb
 exact ⟨(TH_of this).symm, (TL_of this).symm⟩
theorem n4_shift {B p q a b c d : Nat} (hB : p * q = B) (hp : 0 < p) (hq : 0 < q) (ha : a < B) (hb : b < B) (hc : c < B) (hd : d < B) :
  a / p < B ∧ b / p + a % p * q < B ∧ c / p + b % p * q < B ∧ d / p + c % p * q < B ∧
  (((a * B + b) * B + c) * B + d) / p = (((a / p) * B + (b / p + a % p * q)) * B + (c / p + b % p * q)) * B + (d / p + c % p * q) ∧
  (((a * B + b) * B + c) * B + d) % p = d % p := by
 have key : ∀ x y, x < B → x / p + y % p * q < B := by
  intro x y hx
  have h1 : x / p < q := by rw [Nat.div_lt_iff_lt_mul hp, Nat.mul_comm, hB]; exact hx
  have h2 := Nat.mul_le_mul_right q (show y % p + 1 ≤ p from Nat.mod_lt _ hp)
  rw [hB, Nat.add_mul] at h2
  omega
 have e : ((a * B + b) * B + c) * B + d = p * ((((a / p) * B + (b / p + a % p * q)) * B + (c / p + b % p * q)) * B + (d / p + c % p * q)) + d % p := by
  have da := Nat.div_add_mod a p
  have db := Nat.div_add_mod b p
  have dc := Nat.div_add_mod c p
  have dd := Nat.div_add_mod d p
  generalize a / p = a1 at *
  generalize a % p = a0 at *
  generalize b / p = b1 at *
  generalize b % p = b0 at *
  generalize c / p = c1 at *
  generalize c % p = c0 at *
  generalize d / p = d1 at *
  generalize d % p = d0 at *
  subst hB
  subst da db dc dd
  grind
 refine ⟨Nat.lt_of_le_of_lt (Nat.div_le_self _ _) ha, key b a hb, key c b hc, key d c hd, ?_, ?_⟩
 ·rw [e, Nat.mul_add_div hp, Nat.div_eq_of_lt (Nat.mod_lt _ hp), Nat.add_zero]
 ·rw [e, Nat.mul_add_mod, Nat.mod_mod]
theorem or_shift {x y s : Nat} (hs : s ≤ 64) (hx : x < 18446744073709551616) : Go.bits .or .u64 (shr .u64 (x : Int) (s : Int)) (shl .u64 (y : Int) ((64 - s : Nat) : Int)) = ((x / 2 ^ s + y % 2 ^ s * 2 ^ (64 - s) : Nat) : Int) := by
 have hq := pow_split hs
 have e : y * 2 ^ (64 - s) % 18446744073709551616 = y % 2 ^ s * 2 ^ (64 - s) := by
  rw [← p64, ← hq, Nat.mul_mod_mul_right]
 have h1 : x / 2 ^ s < 2 ^ (64 - s) := by
  rw [Nat.div_lt_iff_lt_mul (two_pos s), Nat.mul_comm, hq, p64]; exact hx
 rw [shr_nat x s hs, shl_nat y (64 - s) (by omega), e, or_nat _ _ (Nat.lt_of_le_of_lt (Nat.div_le_self _ _) hx) (by rw [← e]; exact Nat.mod_lt _ (by decide)), Nat.or_comm, or_parts h1, Nat.add_comm]
theorem under_l0 : ∀ (m s : Nat) (a b c d : Nat) (L : Bool), s / 64 = m → s < 4294967296 → a < 18446744073709551616 → b < 18446744073709551616 → c < 18446744073709551616 → d < 18446744073709551616 →
  ∃ a' b' c' d' : Nat, W4 a' b' c' d' (n4 a b c d / 2 ^ s) ∧ Ev (fun k => broad_wide_under.l0 k (s : Int) L (a : Int) (b : Int) (c : Int) (d : Int)) ((a' : Int), (b' : Int), (c' : Int), (d' : Int), L || decide (n4 a b c d % 2 ^ s ≠ 0))
 | 0, s, a, b, c, d, L, hm, hs, ha, hb, hc, hd => by
  have h64 : s < 64 := by omega
  have sp := pow_split (Nat.le_of_lt h64)
  rw [p64] at sp
  have e64 : wrap64 (64 - (s : Int)) = ((64 - s : Nat) : Int) := by rw [w64 (by omega) (by omega)]; omega
  have c1 : ¬ (s : Int) ≥ 64 := by omega
  have c2 : (0 : Int) ≤ (s : Int) := by omega
  have c3 : (0 : Int) ≤ ((64 - s : Nat) : Int) := by omega
  obtain ⟨k1, k2, k3, k4, k5, k6⟩ := n4_shift sp (two_pos s) (two_pos _) ha hb hc hd
  refine ⟨_, _, _, _, ⟨k1, k2, k3, k4, k5.symm⟩, evs ?_⟩
  rw [show n4 a b c d % 2 ^ s = d % 2 ^ s from k6]
  simp only [broad_wide_under.l0]
  simp only [if_neg c1]
  by_cases h0 : s = 0
  ·subst h0
   rw [if_pos (show ((0 : Nat) : Int) = 0 from rfl)]
   refine evn ?_
   simp only [Nat.pow_zero, Nat.div_one, Nat.mod_one, Nat.zero_mul, Nat.add_zero]
   cases L <;> rfl
  ·rw [if_neg (show ¬ (s : Int) = 0 from fun h => h0 (Int.ofNat.inj h)), e64]
   have hz : (shl .u64 (d : Int) ((64 - s : Nat) : Int) != 0) = decide (d % 2 ^ s ≠ 0) := by
    rw [shl_nat d (64 - s) (Nat.sub_le _ _), ← p64, ← pow_split (Nat.le_of_lt h64), Nat.mul_mod_mul_right]
    have := two_pos (64 - s)
    rw [Bool.eq_iff_iff]
    simp only [bne_iff_ne, decide_eq_true_eq, ne_eq, Int.natCast_eq_zero, Nat.mul_eq_zero]
    constructor
    ·intro h h'; exact h (.inl h')
    ·rintro h (h' | h')
     ·exact h h'
     ·omega
   rw [or_shift (Nat.le_of_lt h64) hb, or_shift (Nat.le_of_lt h64) hc, or_shift (Nat.le_of_lt h64) hd, shr_nat a s (Nat.le_of_lt h64), hz]
   cases L
   ·simp only [Bool.false_or]
    rw [if_neg (by decide), if_pos c3, if_pos c2]
    exact Ev.now _
   ·simp only [Bool.true_or]
    rw [if_pos trivial, if_pos c2, if_pos c3]
    exact Ev.now _
 | m + 1, s, a, b, c, d, L, hm, hs, ha, hb, hc, hd => by
  have h64 : 64 ≤ s := by omega
  have e64 : wrap64 ((s : Int) - 64) = ((s - 64 : Nat) : Int) := by rw [w64 (by omega) (by omega)]; omega
  obtain ⟨a', b', c', d', hw, hE⟩ := under_l0 m (s - 64) 0 a b c (L || decide (d ≠ 0)) (by omega) (by omega) (by decide) ha hb hc
  have hn : n4 0 a b c = n4 a b c d / 2 ^ 64 := by unfold n4; rw [p64]; omega
  have hd0 : n4 a b c d % 2 ^ 64 = d := by unfold n4; rw [p64]; omega
  have hsp : (2 : Nat) ^ s = 2 ^ 64 * 2 ^ (s - 64) := by rw [← Nat.pow_add]; congr 1; omega
  have e1 : n4 0 a b c / 2 ^ (s - 64) = n4 a b c d / 2 ^ s := by rw [hn, hsp, Nat.div_div_eq_div_mul]
  have e2 : (L || decide (d ≠ 0) || decide (n4 0 a b c % 2 ^ (s - 64) ≠ 0)) = (L || decide (n4 a b c d % 2 ^ s ≠ 0)) := by
   rw [hsp, Nat.mod_mul, hd0, ← hn, Bool.or_assoc]
   congr 1
   have := two_pos 64
   rw [Bool.eq_iff_iff]
   simp only [Bool.or_eq_true, decide_eq_true_eq, ne_eq, Nat.add_eq_zero_iff, Nat.mul_eq_zero]
   generalize n4 0 a b c % 2 ^ (s - 64) = r
   have : (2 : Nat) ^ 64 ≠ 0 := by omega
   constructor
   ·rintro (h | h) ⟨h1, h2⟩
    ·exact h h1
    ·rcases h2 with h2 | h2
     ·exact this h2
     ·exact h h2
   ·intro h
    by_cases h1 : d = 0
    ·exact .inr fun h2 => h ⟨h1, .inr h2⟩
    ·exact .inl h1
  rw [e1] at hw
  rw [e2] at hE
  refine ⟨a', b', c', d', hw, evs ?_⟩
  simp only [broad_wide_under.l0]
  simp only [if_pos (show (s : Int) ≥ 64 by omega), e64]
  have hne : ((d : Int) != 0) = decide (d ≠ 0) := by
   rw [Bool.eq_iff_iff]; simp
  simp only [hne]
  cases L
  ·simp only [if_neg (show ¬ (false = true) by decide)]; exact hE
  ·simp only [if_pos]; exact hE
theorem under_eq {a b c d W s : Nat} (h : W4 a b c d W) (hs : s < 9223372036854775808) : ∃ a' b' c' d' : Nat, W4 a' b' c' d' (W / 2 ^ s) ∧
  Ev (fun k => broad_wide_under.f k (a : Int) (b : Int) (c : Int) (d : Int) (s : Int)) ((a' : Int), (b' : Int), (c' : Int), (d' : Int), decide (W % 2 ^ s ≠ 0)) := by
 unfold broad_wide_under.f
 by_cases h2 : 256 ≤ s
 ·have hlt : W < 2 ^ s := Nat.lt_of_lt_of_le h.lt (pow_le h2)
  refine ⟨0, 0, 0, 0, by rw [Nat.div_eq_of_lt hlt]; exact W4.zero, ?_⟩
  simp only [if_pos (show (s : Int) ≥ 256 by omega)]
  rw [Nat.mod_eq_of_lt hlt]
  refine evn ?_
  have hb : (!(((a : Int) == 0) && (((b : Int) == 0) && (((c : Int) == 0) && ((d : Int) == 0))))) = decide (W ≠ 0) := by
   have := h.eq0
   rw [Bool.eq_iff_iff]
   simp only [Bool.not_eq_true', decide_eq_true_eq, ne_eq, this, Bool.and_eq_false_iff, beq_eq_false_iff_ne, Int.natCast_eq_zero]
   omega
  rw [hb]; rfl
 ·simp only [if_neg (show ¬ (s : Int) ≥ 256 by omega)]
  obtain ⟨a', b', c', d', hw, hE⟩ := under_l0 (s / 64) s a b c d false rfl (by omega) h.ha h.hb h.hc h.hd
  rw [h.e, Bool.false_or] at hE
  rw [h.e] at hw
  exact ⟨a', b', c', d', hw, hE⟩
theorem Ob {α β : Type} {o : Option α} {v : α} {f : α → Option β} {r : Option β} (h : o = some v) (h2 : f v = r) : o.bind f = r := by subst h; exact h2
theorem add64_nat {x y r : Nat} (hx : x < 18446744073709551616) (hy : y < 18446744073709551616) (hr : r ≤ 1) : ∃ m q : Nat, m < 18446744073709551616 ∧ q ≤ 1 ∧ x + y + r = 18446744073709551616 * q + m ∧ bits_Add64.f (x : Int) (y : Int) (r : Int) = some ((m : Int), (q : Int)) := by
 refine ⟨(x + y + r) % 18446744073709551616, (x + y + r) / 18446744073709551616, Nat.mod_lt _ (by decide), by omega, (Nat.div_add_mod _ _).symm, ?_⟩
 unfold bits_Add64.f
 rw [if_pos (by omega)]
 rfl
theorem p256 : (2 : Nat) ^ 256 = 18446744073709551616 * 18446744073709551616 * 18446744073709551616 * 18446744073709551616 := by decide
theorem sum4 {B a b c d a' b' c' d' q0 q1 q2 q3 w z y x : Nat} (w3 : d + d' + 0 = B * q0 + w) (z3 : c + c' + q0 = B * q1 + z) (y3 : b + b' + q1 = B * q2 + y) (x3 : a + a' + q2 = B * q3 + x) :
  (((a * B + b) * B + c) * B + d) + (((a' * B + b') * B + c') * B + d') = B * B * B * B * q3 + (((x * B + y) * B + z) * B + w) := by
 have e1 : (((a * B + b) * B + c) * B + d) + (((a' * B + b') * B + c') * B + d') = (((a + a') * B + (b + b')) * B + (c + c')) * B + (d + d' + 0) := by grind
 have e2 : (((a + a') * B + (b + b')) * B + (c + c')) * B + (B * q0 + w) = (((a + a') * B + (b + b')) * B + (c + c' + q0)) * B + w := by grind
 have e3 : (((a + a') * B + (b + b')) * B + (B * q1 + z)) * B + w = (((a + a') * B + (b + b' + q1)) * B + z) * B + w := by grind
 have e4 : (((a + a') * B + (B * q2 + y)) * B + z) * B + w = (((a + a' + q2) * B + y) * B + z) * B + w := by grind
 rw [e1, w3, e2, z3, e3, y3, e4, x3]
 grind
theorem dif4 {B a b c d a' b' c' d' q0 q1 q2 q3 w z y x r : Nat} (w3 : d + B * q0 = d' + r + w) (z3 : c + B * q1 = c' + q0 + z) (y3 : b + B * q2 = b' + q1 + y) (x3 : a + B * q3 = a' + q2 + x) :
  (((a * B + b) * B + c) * B + d) + B * B * B * B * q3 = (((a' * B + b') * B + c') * B + d') + r + (((x * B + y) * B + z) * B + w) := by
 have a1 := congrArg (fun t => t * (B * B * B)) x3
 have a2 := congrArg (fun t => t * (B * B)) y3
 have a3 := congrArg (fun t => t * B) z3
 grind
theorem plus_eq {a b c d W a' b' c' d' X : Nat} (h : W4 a b c d W) (h' : W4 a' b' c' d' X) : ∃ x y z w q : Nat, W4 x y z w ((W + X) % 2 ^ 256) ∧ q = (W + X) / 2 ^ 256 ∧
  broad_wide_plus.f (a : Int) (b : Int) (c : Int) (d : Int) (a' : Int) (b' : Int) (c' : Int) (d' : Int) = some ((x : Int), (y : Int), (z : Int), (w : Int), (q : Int)) := by
 obtain ⟨ha, hb, hc, hd, e⟩ := h
 obtain ⟨ga, gb, gc, gd, g⟩ := h'
 obtain ⟨w, q0, w1, w2, w3, w4⟩ := add64_nat (r := 0) hd gd (by decide)
 obtain ⟨z, q1, z1, z2, z3, z4⟩ := add64_nat hc gc w2
 obtain ⟨y, q2, y1, y2, y3, y4⟩ := add64_nat hb gb z2
 obtain ⟨x, q3, x1, x2, x3, x4⟩ := add64_nat ha ga y2
 have hw : W4 x y z w (n4 x y z w) := ⟨x1, y1, z1, w1, rfl⟩
 have hs : W + X = 2 ^ 256 * q3 + n4 x y z w := by
  have t := sum4 w3 z3 y3 x3
  rw [← p256] at t
  subst e g
  exact t
 refine ⟨x, y, z, w, q3, ?_, ?_, ?_⟩
 ·rw [hs, Nat.mul_add_mod, Nat.mod_eq_of_lt hw.lt]; exact hw
 ·rw [hs, Nat.mul_add_div (two_pos 256), Nat.div_eq_of_lt hw.lt]; rfl
 ·unfold broad_wide_plus.f
  rw [show (0 : Int) = ((0 : Nat) : Int) from rfl]
  exact Ob w4 (Ob z4 (Ob y4 (Ob x4 rfl)))
theorem sub64_nat {x y r : Nat} (hx : x < 18446744073709551616) (hy : y < 18446744073709551616) (hr : r ≤ 1) : ∃ m q : Nat, m < 18446744073709551616 ∧ q ≤ 1 ∧ x + 18446744073709551616 * q = y + r + m ∧ bits_Sub64.f (x : Int) (y : Int) (r : Int) = some ((m : Int), (q : Int)) := by
 by_cases h : x < y + r
 ·refine ⟨x + 18446744073709551616 - y - r, 1, by omega, by omega, by omega, ?_⟩
  unfold bits_Sub64.f
  rw [if_pos (by omega), if_pos (by omega)]
  congr 2
  omega
 ·refine ⟨x - y - r, 0, by omega, by omega, by omega, ?_⟩
  unfold bits_Sub64.f
  rw [if_pos (by omega), if_neg (by omega)]
  congr 2
  omega
theorem less_eq {a b c d W a' b' c' d' X r : Nat} (h : W4 a b c d W) (h' : W4 a' b' c' d' X) (hr : r ≤ 1) : ∃ x y z w q : Nat, W4 x y z w (n4 x y z w) ∧ q ≤ 1 ∧ W + 2 ^ 256 * q = X + r + n4 x y z w ∧
  broad_wide_less.f (a : Int) (b : Int) (c : Int) (d : Int) (a' : Int) (b' : Int) (c' : Int) (d' : Int) (r : Int) = some ((x : Int), (y : Int), (z : Int), (w : Int), (q : Int)) := by
 obtain ⟨ha, hb, hc, hd, e⟩ := h
 obtain ⟨ga, gb, gc, gd, g⟩ := h'
 obtain ⟨w, q0, w1, w2, w3, w4⟩ := sub64_nat hd gd hr
 obtain ⟨z, q1, z1, z2, z3, z4⟩ := sub64_nat hc gc w2
 obtain ⟨y, q2, y1, y2, y3, y4⟩ := sub64_nat hb gb z2
 obtain ⟨x, q3, x1, x2, x3, x4⟩ := sub64_nat ha ga y2
 refine ⟨x, y, z, w, q3, ⟨x1, y1, z1, w1, rfl⟩, x2, ?_, ?_⟩
 ·have t := dif4 w3 z3 y3 x3
  rw [← p256] at t
  subst e g
  exact t
 ·unfold broad_wide_less.f
  exact Ob w4 (Ob z4 (Ob y4 (Ob x4 rfl)))
theorem n4_up {B p q a b c d : Nat} (hB : p * q = B) (hp : 0 < p) (hq : 0 < q) (ha : a < q) (hb : b < B) (hc : c < B) (hd : d < B) :
  a * p + b / q < B ∧ b % q * p + c / q < B ∧ c % q * p + d / q < B ∧ d % q * p < B ∧
  (((a * p + b / q) * B + (b % q * p + c / q)) * B + (c % q * p + d / q)) * B + d % q * p = (((a * B + b) * B + c) * B + d) * p := by
 have key : ∀ x y, y < q → x < B → y * p + x / q < B := by
  intro x y hy hx
  have h1 : x / q < p := by rw [Nat.div_lt_iff_lt_mul hq, hB]; exact hx
  have h2 := Nat.mul_le_mul_right p (show y + 1 ≤ q from hy)
  rw [Nat.mul_comm q, hB, Nat.add_mul] at h2
  omega
 have k0 := key 0 (d % q) (Nat.mod_lt _ hq) (by omega)
 rw [Nat.zero_div, Nat.add_zero] at k0
 refine ⟨key b a ha hb, key c _ (Nat.mod_lt _ hq) hc, key d _ (Nat.mod_lt _ hq) hd, k0, ?_⟩
 have db := Nat.div_add_mod b q
 have dc := Nat.div_add_mod c q
 have dd := Nat.div_add_mod d q
 generalize b / q = b1 at *
 generalize b % q = b0 at *
 generalize c / q = c1 at *
 generalize c % q = c0 at *
 generalize d / q = d1 at *
 generalize d % q = d0 at *
 subst hB
 subst db dc dd
 grind
theorem or_up {x y s : Nat} (hs : s ≤ 64) (hy : y < 18446744073709551616) : Go.bits .or .u64 (shl .u64 (x : Int) (s : Int)) (shr .u64 (y : Int) ((64 - s : Nat) : Int)) = ((x % 2 ^ (64 - s) * 2 ^ s + y / 2 ^ (64 - s) : Nat) : Int) := by
 have hq := pow_split hs
 have e : x * 2 ^ s % 18446744073709551616 = x % 2 ^ (64 - s) * 2 ^ s := by
  rw [← p64, ← hq, Nat.mul_comm (2 ^ s), Nat.mul_mod_mul_right]
 have h1 : y / 2 ^ (64 - s) < 2 ^ s := by
  rw [Nat.div_lt_iff_lt_mul (two_pos _), hq, p64]; exact hy
 rw [shl_nat x s hs, shr_nat y (64 - s) (Nat.sub_le _ _), e, or_nat _ _ (by rw [← e]; exact Nat.mod_lt _ (by decide)) (Nat.lt_of_le_of_lt (Nat.div_le_self _ _) hy), or_parts h1]
theorem shl_up {x s : Nat} (hs : s ≤ 64) : shl .u64 (x : Int) (s : Int) = ((x % 2 ^ (64 - s) * 2 ^ s : Nat) : Int) := by
 have hq := pow_split hs
 rw [shl_nat x s hs, ← p64, ← hq, Nat.mul_comm (2 ^ s), Nat.mul_mod_mul_right]
theorem n4_bl {a b c d : Nat} (h0 : 0 < a) (hb : b < 18446744073709551616) (hc : c < 18446744073709551616) (hd : d < 18446744073709551616) : bl (n4 a b c d) = bl a + 192 := by
 have c0 := bl_pos h0
 have c1 := bl_le h0
 have c2 := bl_lt a
 have p192 : (2 : Nat) ^ 192 = 18446744073709551616 * 18446744073709551616 * 18446744073709551616 := by decide
 have lo : 18446744073709551616 * 18446744073709551616 * 18446744073709551616 * a ≤ n4 a b c d := by unfold n4; omega
 have hi : n4 a b c d < 18446744073709551616 * 18446744073709551616 * 18446744073709551616 * (a + 1) := by unfold n4; omega
 rw [← p192] at lo hi
 refine bl_unique (by omega) ?_ ?_
 ·rw [show bl a + 192 - 1 = 192 + (bl a - 1) by omega, Nat.pow_add]
  exact Nat.le_trans (Nat.mul_le_mul_left _ c1) lo
 ·rw [Nat.add_comm, Nat.pow_add]
  exact Nat.lt_of_lt_of_le hi (Nat.mul_le_mul_left _ c2)
def RaisedP (a b c d k : Nat) : Prop := ∃ a' b' c' d' : Nat, W4 a' b' c' d' (n4 a b c d * 2 ^ (256 - bl (n4 a b c d))) ∧
  Ev (fun n => broad_wide_raised.l0 n (k : Int) (a : Int) (b : Int) (c : Int) (d : Int)) ((a' : Int), (b' : Int), (c' : Int), (d' : Int), ((k + (256 - bl (n4 a b c d)) : Nat) : Int))
theorem raised_base {a b c d k : Nat} (h0 : 0 < a) (ha : a < 18446744073709551616) (hb : b < 18446744073709551616) (hc : c < 18446744073709551616) (hd : d < 18446744073709551616) (hk : k < 4294967296) : RaisedP a b c d k := by
 have hbl := n4_bl h0 hb hc hd
 have g0 := bl_pos h0
 have g1 := bl_le_of_lt (show a < 2 ^ 64 by rw [p64]; exact ha)
 have g2 := bl_lt a
 obtain ⟨s, hs⟩ : ∃ s, s = 64 - bl a := ⟨_, rfl⟩
 have s1 : 256 - bl (n4 a b c d) = s := by omega
 have s2 : 64 - s = bl a := by omega
 have s3 : s ≤ 64 := by omega
 have s4 : wrap64 (64 - (bl a : Int)) = (s : Int) := by rw [w64 (by omega) (by omega)]; omega
 have s5 : wrap64 (64 - (s : Int)) = ((64 - s : Nat) : Int) := by rw [w64 (by omega) (by omega)]; omega
 have s6 : wrap64 ((k : Int) + (s : Int)) = ((k + s : Nat) : Int) := by rw [w64 (by omega) (by omega)]; omega
 have s7 : ¬ (a : Int) = 0 := by omega
 have s8 : (0 : Int) ≤ (s : Int) := by omega
 have s9 : (0 : Int) ≤ ((64 - s : Nat) : Int) := by omega
 have sp := pow_split s3
 rw [p64] at sp
 obtain ⟨k1, k2, k3, k4, k5⟩ := n4_up sp (two_pos s) (two_pos _) (by rw [s2]; exact g2) hb hc hd
 have L : bits_LeadingZeros64.f (a : Int) = some (s : Int) := by
  unfold bits_LeadingZeros64.f bits_Len64.f
  rw [if_pos (by omega)]
  simp only [Option.bind_some]
  rw [Int.toNat_natCast, bitLen_bl (by rw [p64]; exact ha), s4]
 unfold RaisedP
 rw [s1]
 refine ⟨_, _, _, _, ⟨k1, k2, k3, k4, k5⟩, evs ?_⟩
 simp only [broad_wide_raised.l0]
 simp only [if_neg s7]
 refine Ev.bind (evn L) ?_
 by_cases z : s = 0
 ·rw [if_pos (by omega)]
  refine evn ?_
  subst z
  have e : ∀ x, x < 18446744073709551616 → x / 2 ^ (64 - 0) = 0 ∧ x % 2 ^ (64 - 0) = x := by
   intro x hx
   rw [← p64] at hx
   exact ⟨Nat.div_eq_of_lt hx, Nat.mod_eq_of_lt hx⟩
  rw [(e b hb).1, (e b hb).2, (e c hc).1, (e c hc).2, (e d hd).1, (e d hd).2]
  simp only [Nat.pow_zero, Nat.mul_one, Nat.add_zero]
 ·rw [if_neg (by omega), s5, if_pos s8, if_pos s9]
  rw [or_up s3 hb, or_up s3 hc, or_up s3 hd, shl_up s3, s6, Nat.mod_eq_of_lt (show a < 2 ^ (64 - s) by rw [s2]; exact g2)]
  exact Ev.now _
theorem raised_step {b c d k : Nat} (h0 : b ≠ 0 ∨ c ≠ 0 ∨ d ≠ 0) (hb : b < 18446744073709551616) (hc : c < 18446744073709551616) (hd : d < 18446744073709551616) (hk : k < 4294967296) (h : RaisedP b c d 0 (k + 64)) : RaisedP 0 b c d k := by
 unfold RaisedP at *
 have e : n4 b c d 0 = n4 0 b c d * 2 ^ 64 := by unfold n4; rw [p64]; omega
 have hp : 0 < n4 0 b c d := by unfold n4; omega
 have hlt : n4 0 b c d < 2 ^ 192 := by
  rw [show (2 : Nat) ^ 192 = 18446744073709551616 * 18446744073709551616 * 18446744073709551616 by decide]
  unfold n4; omega
 have l := bl_le_of_lt hlt
 rw [e, bl_mul_pow 64 hp, Nat.mul_assoc, ← Nat.pow_add] at h
 generalize n4 0 b c d = W at *
 have e1 : 64 + (256 - (bl W + 64)) = 256 - bl W := by omega
 have e2 : k + 64 + (256 - (bl W + 64)) = k + (256 - bl W) := by omega
 rw [e1, e2] at h
 obtain ⟨a', b', c', d', hw, hE⟩ := h
 refine ⟨a', b', c', d', hw, evs ?_⟩
 simp only [broad_wide_raised.l0]
 simp only [if_pos (show ((0 : Nat) : Int) = 0 from rfl)]
 rw [show wrap64 ((k : Int) + 64) = ((k + 64 : Nat) : Int) by rw [w64 (by omega) (by omega)]; omega]
 exact hE
theorem raised_eq {a b c d W : Nat} (h : W4 a b c d W) (h0 : 0 < W) : ∃ a' b' c' d' : Nat, W4 a' b' c' d' (W * 2 ^ (256 - bl W)) ∧
  Ev (fun n => broad_wide_raised.f n (a : Int) (b : Int) (c : Int) (d : Int)) ((a' : Int), (b' : Int), (c' : Int), (d' : Int), ((256 - bl W : Nat) : Int)) := by
 obtain ⟨ha, hb, hc, hd, e⟩ := h
 have key : RaisedP a b c d 0 := by
  by_cases z : a = 0
  ·subst z
   have h1 : b ≠ 0 ∨ c ≠ 0 ∨ d ≠ 0 := by unfold n4 at e; omega
   refine raised_step h1 hb hc hd (by decide) ?_
   by_cases z : b = 0
   ·subst z
    have h2 : c ≠ 0 ∨ d ≠ 0 := by omega
    refine raised_step (by omega) hc hd (by decide) (by decide) ?_
    by_cases z : c = 0
    ·subst z
     have h3 : d ≠ 0 := by omega
     refine raised_step (by omega) hd (by decide) (by decide) (by decide) ?_
     exact raised_base (by omega) hd (by decide) (by decide) (by decide) (by decide)
    ·exact raised_base (by omega) hc hd (by decide) (by decide) (by decide)
   ·exact raised_base (by omega) hb hc hd (by decide) (by decide)
  ·exact raised_base (by omega) ha hb hc hd (by decide)
 unfold RaisedP at key
 rw [e, Nat.zero_add] at key
 exact key
end Go.Proofs.Ytgjhjgacojlbmaa.V
