-- Written by a program of this session out of its own texts (wip/tools/link.py).
import Derived.Below
import Derived.ChangeKeysEq
import Derived.Deep.MidRow
import Derived.Deep.RegionHeld3
import Derived.Great.BuildSlice
import Derived.IntWalk
import Derived.KernelRfl
import Derived.LaidEql
import Derived.Laws.Bits64
import Derived.Laws.BitsLemmas
import Derived.Laws.BytesArg
import Derived.Laws.IdiomCopy
import Derived.Laws.OwnMore
import Derived.Laws.Rows
import Derived.Laws.Slices
import Derived.Laws.StructEq
import Derived.Laws.Tables
import Derived.Lib.BitFns
import Derived.Lib.Slices
import Derived.Lib.Small
import Derived.Lib.Strings
import Derived.Lib.Walk
import Derived.Maps.AppendAt
import Derived.OrdersHeld
import Derived.RowKit
import Derived.Shelf.Spec.BitsCarry
import Derived.Test.YthofoolgbngobaaProg
import Derived.Test.YthofoolgbngobaaCTopNearest8
import Derived.Test.YthofoolgbngobaaCTopNearest9
namespace Go.Proofs.Ythofoolgbngobaa.V
open Go Go.RowKit Go.Proofs.Ythofoolgbngobaa.Ab Go.Proofs.Ythofoolgbngobaa.Fn
set_option linter.unusedVariables false
set_option linter.unusedSimpArgs false
def isW (n : Int) : Bool := n == 8 || n == 16 || n == 32 || n == 64
theorem isW_cases {n : Int} (h : isW n = true) : n = 8 ∨ n = 16 ∨ n = 32 ∨ n = 64 := by
  unfold isW at h; simp at h; omega
theorem isW_nat {n : Int} (h : isW n = true) : ∃ m : Nat, n = m ∧ (m = 8 ∨ m = 16 ∨ m = 32 ∨ m = 64) := by
  rcases isW_cases h with h | h | h | h
  · exact ⟨8, h, .inl rfl⟩
  · exact ⟨16, h, .inr (.inl rfl)⟩
  · exact ⟨32, h, .inr (.inr (.inl rfl))⟩
  · exact ⟨64, h, .inr (.inr (.inr rfl))⟩
theorem shape_is_eq (n : Int) : shape_is.f n = some (isW n) := by
  unfold shape_is.f isW
  by_cases h1 : n = 8
  · simp [h1]
  · by_cases h2 : n = 16
    · simp [h2]
    · by_cases h3 : n = 32
      · simp [h3]
      · by_cases h4 : n = 64
        · simp [h4]
        · simp [h1, h2, h3, h4]
theorem shape_Of_eq {n : Nat} (h : isW n = true) : shape_Of.f n = some ((n : Int), ((2 ^ (n - 1) - 1 : Nat) : Int), 1, ((2 ^ (n - 1) : Nat) : Int), 4 * (n : Int) - 8, none) := by
  unfold shape_Of.f
  rw [shape_is_eq, h]
  have h' : n = 8 ∨ n = 16 ∨ n = 32 ∨ n = 64 := by have := isW_cases h; omega
  rcases h' with rfl | rfl | rfl | rfl <;> decide +kernel
def soundE (kd : Int) (ng : Bool) (sc hi lo : Int) (rs : Bool) : Bool :=
  if kd = 0 ∨ kd = 2 then (!ng && (sc == 0 && (hi == 0 && (lo == 0 && !rs))))
  else decide (kd = 1 ∧ 9223372036854775808 ≤ hi ∧ -1099511627776 ≤ sc ∧ sc ≤ 1099511627776)
def heldI (s : Int) : Int := if s < -1099511627776 then -1099511627776 else if 1099511627776 < s then 1099511627776 else s
theorem round_held_eq (s : Int) : round_held.f s = some (heldI s) := by
  unfold round_held.f heldI mx mn
  congr 1
  repeat' split
  all_goals omega
theorem round_sound_eq (kd : Int) (ng : Bool) (sc hi lo : Int) (rs : Bool) (h : hi < 18446744073709551616) (h0 : 0 ≤ hi) :
    Ev (fun k => round_sound.f k kd ng sc hi lo rs) (soundE kd ng sc hi lo rs) := by
  unfold round_sound.f soundE
  by_cases h0 : kd = 0
  · simp only [if_pos h0, if_pos (Or.inl h0 : kd = 0 ∨ kd = 2)]
    refine Ev.step (f := fun _ => _) (fun k => by simp only [round_sound.j0, nI_eq]; rw [if_pos (by simp [h0])]; simp) (Ev.now _)
  · simp only [if_neg h0]
    by_cases h2 : kd = 2
    · simp only [if_pos (Or.inr h2 : kd = 0 ∨ kd = 2)]
      refine Ev.step (f := fun _ => _) (fun k => by simp only [round_sound.j0, nI_eq]; rw [if_pos (by simp [h2])]; simp) (Ev.now _)
    · simp only [if_neg (show ¬ (kd = 0 ∨ kd = 2) by omega)]
      refine Ev.step (f := fun _ => _) (fun k => by simp only [round_sound.j0, nI_eq]; rw [if_neg (by simp [h2])]) ?_
      simp only [round_held_eq, Option.bind_some]
      refine Ev.congr (f := fun _ => some _) (fun _ => ?_) (Ev.now _)
      by_cases h1 : kd = 1
      · rw [if_pos h1]
        by_cases h3 : hi / 9223372036854775808 = 1
        · rw [if_pos h3]
          congr 1
          rw [Bool.eq_iff_iff]
          simp only [beq_iff_eq, decide_eq_true_eq, heldI]
          split
          · omega
          · split <;> omega
        · rw [if_neg h3]
          congr 1
          symm
          rw [decide_eq_false_iff_not]
          omega
      · rw [if_neg h1]
        congr 1
        symm
        rw [decide_eq_false_iff_not]
        omega
theorem round_under_eq (X a b m : Nat) (R : Bool) (hX : X < 2 ^ (128 + a)) (hb : b < 2 ^ m) (hm : m ≤ 64) :
    round_under.f (TH (X / 2 ^ a)) (TL (X / 2 ^ a)) (b : Int) (m : Int) (R || decide (X % 2 ^ a ≠ 0)) =
      some (TH ((b * 2 ^ (128 + a) + X) / 2 ^ (a + m)), TL ((b * 2 ^ (128 + a) + X) / 2 ^ (a + m)), R || decide ((b * 2 ^ (128 + a) + X) % 2 ^ (a + m) ≠ 0)) := by
  unfold round_under.f
  have pa := two_pos a
  have pm := two_pos m
  have hw : X / 2 ^ a < 2 ^ 128 := by rw [Nat.div_lt_iff_lt_mul pa, ← Nat.pow_add]; exact hX
  rw [twin_Shr_eq _ m hw (by omega)]
  simp only [Option.bind_some]
  rw [w64 (by omega) (by omega), if_pos (by omega)]
  have e64 : (64 - (m : Int)) = ((64 - m : Nat) : Int) := by omega
  rw [e64, shl_nat _ _ (by omega)]
  -- the new string's upper bits
  have s := pow_split hm
  have hbl : b * 2 ^ (64 - m) < 2 ^ 64 := by rw [← s]; exact Nat.mul_lt_mul_of_pos_right hb (two_pos _)
  rw [Nat.mod_eq_of_lt (show b * 2 ^ (64 - m) < 18446744073709551616 by rw [← p64]; exact hbl)]
  generalize hw2 : X / 2 ^ a = w at hw
  have e1 : (b * 2 ^ (128 + a) + X) / 2 ^ (a + m) = b * 2 ^ (128 - m) + w / 2 ^ m := by
    have s1 : b * 2 ^ (128 + a) = b * 2 ^ (128 - m) * 2 ^ (a + m) := by
      rw [Nat.mul_assoc, ← Nat.pow_add]; congr 2; omega
    rw [s1, Nat.add_comm, Nat.add_mul_div_right _ _ (two_pos _), Nat.pow_add, ← Nat.div_div_eq_div_mul, hw2, Nat.add_comm]
  have hwm : w / 2 ^ m < 2 ^ (128 - m) := by
    rw [Nat.div_lt_iff_lt_mul pm, Nat.mul_comm, pow_split (by omega)]; exact hw
  have e2 : b * 2 ^ (128 - m) = b * 2 ^ (64 - m) * 18446744073709551616 := by
    rw [← p64, Nat.mul_assoc, ← Nat.pow_add]; congr 2; omega
  have hq : w / 2 ^ m / 18446744073709551616 < 2 ^ (64 - m) := by
    rw [← p64, Nat.div_lt_iff_lt_mul (two_pos 64), ← Nat.pow_add]
    exact Nat.lt_of_lt_of_eq hwm (by congr 1; omega)
  have hor : Go.bits .or .u64 (TH (w / 2 ^ m)) ((b * 2 ^ (64 - m) : Nat) : Int) = TH (b * 2 ^ (128 - m) + w / 2 ^ m) := by
    unfold TH
    have hlt : w / 2 ^ m / 18446744073709551616 < 18446744073709551616 := Nat.lt_of_lt_of_le hq (by rw [← p64]; exact pow_le (by omega))
    rw [or_nat _ _ hlt (by rw [← p64]; exact hbl), Nat.or_comm, or_parts hq, e2]
    congr 1
    omega
  have hlo : TL (w / 2 ^ m) = TL (b * 2 ^ (128 - m) + w / 2 ^ m) := by unfold TL; rw [e2]; congr 1; omega
  have e3 : decide ((b * 2 ^ (128 + a) + X) % 2 ^ (a + m) ≠ 0) = (decide (X % 2 ^ a ≠ 0) || decide (w % 2 ^ m ≠ 0)) := by
    have s1 : b * 2 ^ (128 + a) = b * 2 ^ (128 - m) * 2 ^ (a + m) := by
      rw [Nat.mul_assoc, ← Nat.pow_add]; congr 2; omega
    have s2 : (b * 2 ^ (128 + a) + X) % 2 ^ (a + m) = X % 2 ^ (a + m) := by rw [s1, Nat.mul_add_mod_self_right]
    have s3 : X % 2 ^ (a + m) = 2 ^ a * (w % 2 ^ m) + X % 2 ^ a := by
      rw [Nat.pow_add, Nat.mod_mul, hw2, Nat.add_comm]
    rw [s2, s3, Bool.eq_iff_iff]
    simp only [Bool.or_eq_true, decide_eq_true_eq]
    have hz : 2 ^ a * (w % 2 ^ m) = 0 ↔ w % 2 ^ m = 0 := by
      rw [Nat.mul_eq_zero]; constructor
      · rintro (h | h)
        · omega
        · exact h
      · exact .inr
    omega
  rw [hor, hlo, e1, e3]
  cases R <;> by_cases hd : X % 2 ^ a = 0 <;> simp [hd]
theorem round_left_eq (b : Nat) (R : Bool) (hb : b < 18446744073709551616) : Ev (fun k => round_left.f k (b : Int) R) (lft b 64 R) := by
  unfold round_left.f lft
  rw [p64]
  by_cases h1 : (b : Int) > 9223372036854775808
  · simp only [if_pos h1, if_pos (show 18446744073709551616 < 2 * b by omega)]
    exact Ev.step (f := fun _ => some 3) (fun k => by simp only [round_left.j0, nI_eq]; rw [if_pos (by simpa using h1)]) (Ev.now _)
  · simp only [if_neg h1, if_neg (show ¬ 18446744073709551616 < 2 * b by omega)]
    by_cases h2 : (b : Int) = 9223372036854775808
    · simp only [if_pos h2, if_pos (show 2 * b = 18446744073709551616 by omega)]
      refine evs ?_
      simp only [round_left.j0, nI_eq]
      refine evn ?_
      cases R
      · simp [h2]
      · simp
    · simp only [if_neg h2, if_neg (show ¬ 2 * b = 18446744073709551616 by omega)]
      refine evs ?_
      simp only [round_left.j0, nI_eq]
      refine evn ?_
      by_cases h3 : 0 < b
      · rw [if_neg (by simp), if_neg h2, if_pos (by omega), if_pos h3]
      · rw [if_neg (by simp), if_neg h2, if_neg (by omega), if_neg h3]
        cases R <;> simp
theorem round_Cut_j3 (n X a : Nat) (R : Bool) (h8 : 8 ≤ n) (h64 : n ≤ 64) (hX : X < 2 ^ (128 + a)) :
    Ev (fun k => round_Cut.j3 k (n : Int) (R || decide (X % 2 ^ a ≠ 0)) (TH (X / 2 ^ a)) (TL (X / 2 ^ a)))
      (((X / 2 ^ (129 - n + a) : Nat) : Int), lft (X % 2 ^ (129 - n + a)) (129 - n + a) R, none) := by
  have pa := two_pos a
  have hw : X / 2 ^ a < 2 ^ 128 := by rw [Nat.div_lt_iff_lt_mul pa, ← Nat.pow_add]; exact hX
  generalize hw2 : X / 2 ^ a = w at hw
  refine evs ?_
  simp only [round_Cut.j3, nI_eq]
  have e1 : wrap64 (65 - (n : Int)) = ((65 - n : Nat) : Int) := by rw [w64 (by omega) (by omega)]; omega
  have e2 : wrap64 ((n : Int) - 1) = ((n - 1 : Nat) : Int) := by rw [w64 (by omega) (by omega)]; omega
  simp only [e1, e2, if_pos (show (0 : Int) ≤ ((65 - n : Nat) : Int) by omega)]
  simp only [twin_Shl_eq w (n - 1) hw (by omega), Option.bind_some]
  -- what is behind
  have hsplit : w * 2 ^ (n - 1) % 2 ^ 128 = w % 2 ^ (129 - n) * 2 ^ (n - 1) := by
    have e : (2 : Nat) ^ 128 = 2 ^ (129 - n) * 2 ^ (n - 1) := by rw [← Nat.pow_add]; congr 1; omega
    rw [e, Nat.mul_mod_mul_right]
  generalize hb : w * 2 ^ (n - 1) % 2 ^ 128 = bh at hsplit
  have hbh : bh < 340282366920938463463374607431768211456 := by rw [← hb, ← p128]; exact Nat.mod_lt _ (two_pos 128)
  have hP : shr .u64 (TH w) ((65 - n : Nat) : Int) = ((X / 2 ^ (129 - n + a) : Nat) : Int) := by
    unfold TH
    rw [shr_nat _ _ (by omega), ← p64, div_div_pow, ← hw2, div_div_pow]
    congr 3; omega
  have hL : ∀ R' : Bool, R' = (R || decide (X % 2 ^ a ≠ 0)) → lft (bh / 18446744073709551616) 64 (R' || decide (bh % 18446744073709551616 ≠ 0)) = lft (X % 2 ^ (129 - n + a)) (129 - n + a) R := by
    intro R' hR
    have a1 := lft_split (bh / 18446744073709551616) (bh % 18446744073709551616) 64 64 R' (by rw [p64]; omega) (by omega)
    rw [p64, show bh / 18446744073709551616 * 18446744073709551616 + bh % 18446744073709551616 = bh by omega] at a1
    rw [← a1, hsplit, show 64 + 64 = (129 - n) + (n - 1) by omega, lft_scale _ _ _ _ (by omega), hR]
    have a2 := lft_split (w % 2 ^ (129 - n)) (X % 2 ^ a) a (129 - n) R (Nat.mod_lt _ pa) (by omega)
    rw [← a2]
    congr 1
    rw [Nat.add_comm (129 - n) a, Nat.pow_add, Nat.mod_mul, hw2, Nat.mul_comm, Nat.add_comm]
  by_cases h0 : TL bh = 0
  · simp only [if_pos h0]
    have hz : bh % 18446744073709551616 = 0 := by unfold TL at h0; omega
    have hl := hL _ rfl
    rw [hz] at hl
    simp only [ne_eq, not_true_eq_false, decide_false, Bool.or_false] at hl
    refine Ev.bind (a := lft (bh / 18446744073709551616) 64 (R || decide (X % 2 ^ a ≠ 0))) ?_ ?_
    · exact round_left_eq (bh / 18446744073709551616) _ (by omega)
    · rw [hP]
      simp only [ne_eq] at hl ⊢
      rw [hl]
      exact Ev.now _
  · simp only [if_neg h0]
    have hz : bh % 18446744073709551616 ≠ 0 := by unfold TL at h0; omega
    have hl := hL _ rfl
    rw [decide_eq_true hz, Bool.or_true] at hl
    refine Ev.bind (a := lft (bh / 18446744073709551616) 64 true) ?_ ?_
    · exact round_left_eq (bh / 18446744073709551616) _ (by omega)
    · rw [hP, hl]
      exact Ev.now _
theorem round_Cut_l0 (n : Nat) (R : Bool) (b : Nat) (h8 : 8 ≤ n) (h64 : n ≤ 64) (hb : b ≤ 64) : ∀ (d i X a : Nat), i + d = b → X < 2 ^ (128 + a) →
    Ev (fun k => round_Cut.l0 k (n : Int) (R || decide (X % 2 ^ a ≠ 0)) (b : Int) (i : Int) (TH (X / 2 ^ a)) (TL (X / 2 ^ a)))
      ((((((2 ^ d - 1) * 2 ^ (128 + a) + X) / 2 ^ (129 - n + (a + d)) : Nat)) : Int), lft (((2 ^ d - 1) * 2 ^ (128 + a) + X) % 2 ^ (129 - n + (a + d))) (129 - n + (a + d)) R, none)
  | 0, i, X, a, hi, hX => by
    refine evs ?_
    simp only [round_Cut.l0, nI_eq]
    simp only [if_neg (show ¬ (i : Int) < (b : Int) by omega)]
    have := round_Cut_j3 n X a R h8 h64 hX
    simpa using this
  | d + 1, i, X, a, hi, hX => by
    refine evs ?_
    simp only [round_Cut.l0, nI_eq]
    simp only [if_pos (show (i : Int) < (b : Int) by omega)]
    have u := round_under_eq X a 1 1 R hX (by decide) (by decide)
    simp only [Nat.one_mul] at u
    have u' : round_under.f (TH (X / 2 ^ a)) (TL (X / 2 ^ a)) 1 1 (R || decide (X % 2 ^ a ≠ 0)) = _ := u
    simp only [u', Option.bind_some]
    have e : wrap64 ((i : Int) + 1) = ((i + 1 : Nat) : Int) := by rw [w64 (by omega) (by omega)]; omega
    rw [e]
    have hX' : 2 ^ (128 + a) + X < 2 ^ (128 + (a + 1)) := by
      rw [show 128 + (a + 1) = 128 + a + 1 by omega, Nat.pow_succ]; omega
    have ih := round_Cut_l0 n R b h8 h64 hb d (i + 1) (2 ^ (128 + a) + X) (a + 1) (by omega) hX'
    have e2 : (2 ^ d - 1) * 2 ^ (128 + (a + 1)) + (2 ^ (128 + a) + X) = (2 ^ (d + 1) - 1) * 2 ^ (128 + a) + X := by
      have p := two_pos d
      obtain ⟨q, hq⟩ : ∃ q, 2 ^ d = q + 1 := ⟨2 ^ d - 1, by omega⟩
      rw [show 128 + (a + 1) = 128 + a + 1 by omega, Nat.pow_succ 2 (128 + a), Nat.pow_succ 2 d, hq]
      generalize 2 ^ (128 + a) = Z
      rw [show (q + 1) * 2 - 1 = 2 * q + 1 by omega, show q + 1 - 1 = q by omega]
      grind
    rw [e2, show a + 1 + d = a + (d + 1) by omega] at ih
    exact ih
theorem round_Cut_l1 (n : Nat) (R : Bool) (b : Nat) (h8 : 8 ≤ n) (h64 : n ≤ 64) (hb : b ≤ 64) : ∀ (d i X a : Nat), i + d = b → X < 2 ^ (128 + a) →
    Ev (fun k => round_Cut.l1 k (n : Int) (R || decide (X % 2 ^ a ≠ 0)) (b : Int) (i : Int) (TH (X / 2 ^ a)) (TL (X / 2 ^ a)))
      (((X / 2 ^ (129 - n + (a + d)) : Nat) : Int), lft (X % 2 ^ (129 - n + (a + d))) (129 - n + (a + d)) R, none)
  | 0, i, X, a, hi, hX => by
    refine evs ?_
    simp only [round_Cut.l1, nI_eq]
    simp only [if_neg (show ¬ (i : Int) < (b : Int) by omega)]
    exact round_Cut_j3 n X a R h8 h64 hX
  | d + 1, i, X, a, hi, hX => by
    refine evs ?_
    simp only [round_Cut.l1, nI_eq]
    simp only [if_pos (show (i : Int) < (b : Int) by omega)]
    have u := round_under_eq X a 0 1 R hX (by decide) (by decide)
    simp only [Nat.zero_mul, Nat.zero_add] at u
    have u' : round_under.f (TH (X / 2 ^ a)) (TL (X / 2 ^ a)) 0 1 (R || decide (X % 2 ^ a ≠ 0)) = _ := u
    simp only [u', Option.bind_some]
    have e : wrap64 ((i : Int) + 1) = ((i + 1 : Nat) : Int) := by rw [w64 (by omega) (by omega)]; omega
    rw [e]
    have hX' : X < 2 ^ (128 + (a + 1)) := Nat.lt_of_lt_of_le hX (pow_le (by omega))
    have ih := round_Cut_l1 n R b h8 h64 hb d (i + 1) X (a + 1) (by omega) hX'
    rw [show a + 1 + d = a + (d + 1) by omega] at ih
    exact ih
theorem round_Cut_j0_eq (n f : Nat) (kd : Int) (ng : Bool) (s : Int) (R : Bool) (hn : isW n = true) (h0 : -(4 * (n : Int) - 8) ≤ s) (h1 : s < 4 * (n : Int) - 8) (hf : f < 2 ^ 127) :
    Ev (fun k => round_Cut.j0 k (n : Int) s (TH (2 ^ 127 + f)) (TL (2 ^ 127 + f)) R) (((cutP n (sig s f) : Nat) : Int), cutL n (sig s f) R, none) := by
  have hn' : n = 8 ∨ n = 16 ∨ n = 32 ∨ n = 64 := by have := isW_cases hn; omega
  have h8 : 8 ≤ n := by omega
  have h64 : n ≤ 64 := by omega
  have hV : 2 ^ 127 + f < 2 ^ 128 := by rw [show (2 : Nat) ^ 128 = 2 * 2 ^ 127 by decide]; omega
  refine evs ?_
  simp only [round_Cut.j0, nI_eq]
  have s1 := twin_Shl_eq (2 ^ 127 + f) 1 hV (by decide)
  have m1 : (2 ^ 127 + f) * 2 ^ 1 % 2 ^ 128 = 2 * f := by rw [p127, p128] at *; omega
  rw [m1] at s1
  have s1' : twin_Shl.f (TH (2 ^ 127 + f)) (TL (2 ^ 127 + f)) 1 = _ := s1
  simp only [s1', Option.bind_some]
  have e4 : IntKind.u64.wrap (Go.bits .and .i64 s 3) = (((s % 4).toNat : Nat) : Int) := by rw [and_i64_3, u64_of (by omega) (by omega)]; omega
  rw [e4]
  generalize he : (s % 4).toNat = e
  have he4 : e < 2 ^ 2 := by have : (2 : Nat) ^ 2 = 4 := by decide
                             omega
  have hX0 : 2 * f < 2 ^ (128 + 0) := by rw [show (2 : Nat) ^ (128 + 0) = 2 * 2 ^ 127 by decide]; omega
  have u1 := round_under_eq (2 * f) 0 e 2 R hX0 he4 (by decide)
  simp only [Nat.pow_zero, Nat.div_one, Nat.mod_one, ne_eq, not_true_eq_false, decide_false, Bool.or_false, Nat.zero_add, Nat.add_zero] at u1
  have u1' : round_under.f (TH (2 * f)) (TL (2 * f)) (e : Int) 2 R = _ := u1
  simp only [u1', Option.bind_some]
  have hX1 : e * 2 ^ 128 + 2 * f < 2 ^ (128 + 2) := by
    have : (e + 1) * 2 ^ 128 ≤ 2 ^ 2 * 2 ^ 128 := Nat.mul_le_mul_right _ he4
    rw [Nat.add_mul] at this
    rw [show (2 : Nat) ^ (128 + 2) = 2 ^ 2 * 2 ^ 128 by decide]
    simp only [Nat.add_zero] at hX0
    omega
  by_cases hk : s / 4 ≥ 0
  · simp only [if_pos hk]
    have u2 := round_under_eq (e * 2 ^ 128 + 2 * f) 2 0 1 R hX1 (by decide) (by decide)
    simp only [Nat.zero_mul, Nat.zero_add] at u2
    have u2' : round_under.f (TH ((e * 2 ^ 128 + 2 * f) / 2 ^ 2)) (TL ((e * 2 ^ 128 + 2 * f) / 2 ^ 2)) 0 1 (R || decide (¬(e * 2 ^ 128 + 2 * f) % 2 ^ 2 = 0)) = _ := u2
    simp only [u2', Option.bind_some]
    generalize hq : (s / 4).toNat = q
    have hq61 : q ≤ 61 := by omega
    have ew : wrap64 (s / 4 + 1) = ((q + 1 : Nat) : Int) := by rw [w64 (by omega) (by omega)]; omega
    rw [ew]
    have l := round_Cut_l0 n R (q + 1) h8 h64 (by omega) (q + 1) 0 (e * 2 ^ 128 + 2 * f) 3 (by omega) (Nat.lt_of_lt_of_le hX1 (pow_le (by decide)))
    have c := cut_of n ((2 ^ (q + 1) - 1) * 2 ^ (128 + 3) + (e * 2 ^ 128 + 2 * f)) (129 - n + (3 + (q + 1))) (68 - q) R h64 (by omega) (by omega)
    have es : sig s f = ((2 ^ (q + 1) - 1) * 2 ^ (128 + 3) + (e * 2 ^ 128 + 2 * f)) * 2 ^ (68 - q) := by
      unfold sig
      rw [if_pos hk, hq, he, show 69 - q = 1 + (68 - q) by omega, Nat.pow_add 2 1, ← Nat.mul_assoc]
      congr 1
      rw [show (2 : Nat) ^ (128 + 3) = 2 ^ 130 * 2 by decide, show (2 : Nat) ^ 128 = 2 ^ 127 * 2 by decide]
      generalize 2 ^ (q + 1) - 1 = z
      grind
    rw [es, c.1, c.2]
    exact l
  · simp only [if_neg hk]
    have u2 := round_under_eq (e * 2 ^ 128 + 2 * f) 2 1 1 R hX1 (by decide) (by decide)
    simp only [Nat.one_mul] at u2
    have u2' : round_under.f (TH ((e * 2 ^ 128 + 2 * f) / 2 ^ 2)) (TL ((e * 2 ^ 128 + 2 * f) / 2 ^ 2)) 1 1 (R || decide (¬(e * 2 ^ 128 + 2 * f) % 2 ^ 2 = 0)) = _ := u2
    simp only [u2', Option.bind_some]
    generalize hq : (-(s / 4)).toNat = q
    have hq62 : q ≤ 62 := by omega
    have ew : wrap64 (-(s / 4)) = ((q : Nat) : Int) := by rw [w64 (by omega) (by omega)]; omega
    rw [ew]
    have hX2 : 2 ^ (128 + 2) + (e * 2 ^ 128 + 2 * f) < 2 ^ (128 + 3) := by
      rw [show (2 : Nat) ^ (128 + 3) = 2 ^ (128 + 2) + 2 ^ (128 + 2) by decide]; omega
    have l := round_Cut_l1 n R q h8 h64 (by omega) q 0 (2 ^ (128 + 2) + (e * 2 ^ 128 + 2 * f)) 3 (by omega) hX2
    have c := cut_of n (2 ^ (128 + 2) + (e * 2 ^ 128 + 2 * f)) (129 - n + (3 + q)) (69 - q) R h64 (by omega) (by omega)
    have es : sig s f = (2 ^ (128 + 2) + (e * 2 ^ 128 + 2 * f)) * 2 ^ (69 - q) := by
      unfold sig
      rw [if_neg (by omega), hq, he, show 70 - q = 1 + (69 - q) by omega, Nat.pow_add 2 1, ← Nat.mul_assoc]
      congr 1
      rw [show (2 : Nat) ^ (128 + 2) = 2 ^ 129 * 2 by decide, show (2 : Nat) ^ 128 = 2 ^ 127 * 2 by decide]
      grind
    rw [es, c.1, c.2]
    exact l
theorem sound_kinds {kd sc hi lo : Int} {ng rs : Bool} (h : soundE kd ng sc hi lo rs = true) : kd = 0 ∨ kd = 2 ∨ kd = 1 := by
  unfold soundE at h
  split at h
  · omega
  · have := of_decide_eq_true h; omega
theorem sound_real {sc hi lo : Int} {ng rs : Bool} (h : soundE 1 ng sc hi lo rs = true) : 9223372036854775808 ≤ hi ∧ -1099511627776 ≤ sc ∧ sc ≤ 1099511627776 := by
  unfold soundE at h
  rw [if_neg (by decide)] at h
  have := of_decide_eq_true h; omega
theorem round_Cut_eq {n hi lo : Nat} {kd sc : Int} {ng rs : Bool} (hn : isW n = true) (hh : hi < 18446744073709551616) (hl : lo < 18446744073709551616) (h : soundE kd ng sc hi lo rs = true) :
    Ev (fun k => round_Cut.f k n kd ng sc hi lo rs) ((cutE n kd sc (hi * 18446744073709551616 + lo) rs).1, (cutE n kd sc (hi * 18446744073709551616 + lo) rs).2, none) := by
  unfold round_Cut.f
  have hn' : n = 8 ∨ n = 16 ∨ n = 32 ∨ n = 64 := by have := isW_cases hn; omega
  simp only [shape_Of_eq hn, Option.bind_some, Option.isNone_none, if_true]
  refine Ev.bind (round_sound_eq _ _ _ _ _ _ (by omega) (by omega)) ?_
  simp only [h, if_true]
  unfold cutE
  by_cases k0 : kd = 0
  · simp only [if_pos k0]; exact Ev.now _
  · simp only [if_neg k0]
    by_cases k2 : kd = 2
    · simp only [if_pos k2]; exact Ev.now _
    · simp only [if_neg k2]
      have k1 : kd = 1 := by have := sound_kinds h; omega
      subst k1
      obtain ⟨b0, b1, b2⟩ := sound_real h
      have ew : wrap64 (-(4 * (n : Int) - 8)) = -(4 * (n : Int) - 8) := w64 (by omega) (by omega)
      by_cases c1 : sc ≥ 4 * (n : Int) - 8
      · simp only [if_pos c1, if_pos (show 4 * (n : Int) - 8 ≤ sc by omega)]; exact Ev.now _
      · simp only [if_neg c1, if_neg (show ¬ 4 * (n : Int) - 8 ≤ sc by omega), ew]
        by_cases c2 : sc < -(4 * (n : Int) - 8)
        · simp only [if_pos c2, if_pos (Or.inl c2 : sc < -(4 * (n : Int) - 8) ∨ (sc = -(4 * (n : Int) - 8) ∧ hi * 18446744073709551616 + lo = 2 ^ 127 ∧ rs = false))]; exact Ev.now _
        · simp only [if_neg c2]
          have key : ¬ (sc = -(4 * (n : Int) - 8) ∧ hi * 18446744073709551616 + lo = 2 ^ 127 ∧ rs = false) →
              Ev (fun k => round_Cut.j0 k (n : Int) sc (hi : Int) (lo : Int) rs)
                ((if sc < -(4 * (n : Int) - 8) ∨ (sc = -(4 * (n : Int) - 8) ∧ hi * 18446744073709551616 + lo = 2 ^ 127 ∧ rs = false) then ((1 : Int), (0 : Int)) else ((cutP n (sig sc (hi * 18446744073709551616 + lo - 2 ^ 127)) : Int), cutL n (sig sc (hi * 18446744073709551616 + lo - 2 ^ 127)) rs)).1,
                 (if sc < -(4 * (n : Int) - 8) ∨ (sc = -(4 * (n : Int) - 8) ∧ hi * 18446744073709551616 + lo = 2 ^ 127 ∧ rs = false) then ((1 : Int), (0 : Int)) else ((cutP n (sig sc (hi * 18446744073709551616 + lo - 2 ^ 127)) : Int), cutL n (sig sc (hi * 18446744073709551616 + lo - 2 ^ 127)) rs)).2, none) := by
            intro hno
            rw [if_neg (fun hh => hh.elim c2 hno)]
            have hf : 2 ^ 127 + (hi * 18446744073709551616 + lo - 2 ^ 127) = hi * 18446744073709551616 + lo := by rw [p127]; omega
            have j := round_Cut_j0_eq n (hi * 18446744073709551616 + lo - 2 ^ 127) 1 ng sc rs hn (by omega) (by omega) (by rw [p127]; omega)
            rw [hf, TH_of hl, TL_of hl] at j
            exact j
          by_cases c3 : sc = -(4 * (n : Int) - 8)
          · simp only [if_pos c3]
            by_cases c4 : (hi : Int) = 9223372036854775808
            · simp only [if_pos c4]
              by_cases c5 : (lo : Int) = 0
              · simp only [if_pos c5]
                cases rs
                · simp only [Bool.false_eq_true, if_false]
                  rw [if_pos (Or.inr ⟨c3, by rw [p127]; omega, trivial⟩)]
                  exact Ev.now _
                · simp only [if_true]
                  exact key (by simp)
              · simp only [if_neg c5]
                exact key (by rw [p127]; omega)
            · simp only [if_neg c4]
              exact key (by rw [p127]; omega)
          · simp only [if_neg c3]
            exact key (by omega)
theorem pow64 {n : Nat} (h : isW n = true) : n ≤ 64 ∧ 8 ≤ n := by have := isW_cases h; omega
theorem lead_ones_eq {n : Nat} (h : n ≤ 64) : lead_ones.f (n : Int) = some ((2 ^ n - 1 : Nat) : Int) := by
  unfold lead_ones.f
  by_cases h1 : n = 64
  · subst h1; rfl
  · rw [if_neg (by omega), if_pos (by omega)]
    have e := shl_nat 1 n h
    have e' : shl .u64 1 (n : Int) = _ := e
    have hp : 2 ^ n < 2 ^ 64 := pow_lt (by omega)
    have hp0 := two_pos n
    rw [p64] at hp
    rw [e', Nat.one_mul, Nat.mod_eq_of_lt hp, u64_of (by omega) (by omega)]
    congr 1
    omega
theorem shape_Fold_eq {n x : Nat} (h : isW n = true) (hx : x < 18446744073709551616) : shape_Fold.f (n : Int) (x : Int) = some (((x % 2 ^ n : Nat) : Int), none) := by
  have hb := pow64 h
  unfold shape_Fold.f lead_Mask.f
  simp only [shape_is_eq, h, if_true, Option.bind_some, if_neg (show ¬ (n : Int) < 0 by omega), if_neg (show ¬ (n : Int) > 64 by omega), lead_ones_eq hb.1]
  rw [and_mask x n hx hb.1]
theorem shape_Fold_no {n x : Int} (h : isW n = false) : shape_Fold.f n x = some (0, some 2) := by
  unfold shape_Fold.f
  simp [shape_is_eq, h]
theorem neg_wrap {p : Nat} (h : p < 18446744073709551616) : IntKind.u64.wrap (-(p : Int)) = (((18446744073709551616 - p) % 18446744073709551616 : Nat) : Int) := by
  rw [u64_wrap]; omega
theorem and_one {p : Nat} (h : p < 18446744073709551616) : Go.bits .and .u64 (p : Int) 1 = ((p % 2 : Nat) : Int) := by
  have := and_mask p 1 h (by decide)
  simpa using this
theorem round_Round_eq {n hi lo : Nat} {kd sc : Int} {ng rs : Bool} (hn : isW n = true) (hh : hi < 18446744073709551616) (hl : lo < 18446744073709551616) (h : soundE kd ng sc hi lo rs = true) :
    Ev (fun k => round_Round.f k n kd ng sc hi lo rs) (((rnd n kd ng sc (hi * 18446744073709551616 + lo) rs : Nat) : Int), none) := by
  obtain ⟨b64, b8⟩ := pow64 hn
  unfold round_Round.f
  refine Ev.bind (round_Cut_eq hn hh hl h) ?_
  have hV : hi * 18446744073709551616 + lo < 2 ^ 128 := by rw [p128]; omega
  have hb := cutE_bounds (kd := kd) (sc := sc) (R := rs) b64 b8 hV
  unfold rnd
  generalize cutE n kd sc (hi * 18446744073709551616 + lo) rs = c at hb
  obtain ⟨c1, c2⟩ := c
  simp only at hb
  obtain ⟨p, rfl⟩ := Int.eq_ofNat_of_zero_le hb.1
  have hp1 : p ≤ 2 ^ (n - 1) := by omega
  have hp2 : 2 ^ (n - 1) < 2 ^ 64 := pow_lt (by omega)
  have hp3 : 2 ^ (n - 1) + 1 < 2 ^ n := by
    have : 2 ^ n = 2 * 2 ^ (n - 1) := by rw [show n = n - 1 + 1 by omega, Nat.pow_succ]; simp; omega
    have : 2 ^ 1 ≤ 2 ^ (n - 1) := pow_le (by omega)
    omega
  have hp4 : (2 : Nat) ^ n ≤ 2 ^ 64 := pow_le b64
  rw [p64] at hp2 hp4
  have fo : ∀ x : Nat, x < 2 ^ n → shape_Fold.f (n : Int) (x : Int) = some ((x : Int), none) := fun x hx => by
    rw [shape_Fold_eq hn (by omega), Nat.mod_eq_of_lt hx]
  have fn : ∀ x : Nat, x < 2 ^ n → shape_Fold.f (n : Int) (IntKind.u64.wrap (-(x : Int))) = some (((negN n x : Nat) : Int), none) := fun x hx => by
    rw [neg_wrap (by omega), shape_Fold_eq hn (Nat.mod_lt _ (by decide))]; rfl
  have e1 : IntKind.u64.wrap ((p : Int) + 1) = ((p + 1 : Nat) : Int) := by rw [u64_of (by omega) (by omega)]; omega
  refine evn ?_
  simp only [Option.isNone_none, if_true, e1, fo p (by omega), fo (p + 1) (by omega), fn p (by omega), fn (p + 1) (by omega), Option.bind_some, and_one (show p < 18446744073709551616 by omega), Int.toNat_natCast]
  by_cases k2 : c2 = 2
  · subst k2
    by_cases hp : p % 2 = 0
    · simp only [if_true, if_pos (show ((p % 2 : Nat) : Int) = 0 by omega)]
      cases ng <;> simp [hp]
    · have hp' : p % 2 = 1 := by omega
      simp only [if_true, if_neg (show ¬ ((p % 2 : Nat) : Int) = 0 by omega)]
      cases ng <;> simp [hp']
  · by_cases k3 : c2 = 3
    · subst k3
      cases ng <;> simp
    · simp only [if_neg k2, if_neg k3]
      cases ng <;> simp [k2, k3]
def soundN (kd : Int) (ng : Bool) (sc fr : Int) : Bool :=
  if kd = 0 ∨ kd = 2 then (!ng && (sc == 0 && fr == 0))
  else decide (kd = 1 ∧ 9223372036854775808 ≤ fr ∧ -1073741824 ≤ sc ∧ sc ≤ 1073741824)
theorem round_Of_eq (kd : Int) (ng : Bool) (sc fr : Int) (h : fr < 18446744073709551616) (h0 : 0 ≤ fr) :
    Ev (fun k => round_Of.f k kd ng sc fr) (if soundN kd ng sc fr then (kd, ng, sc, fr, 0, false, none) else (0, false, 0, 0, 0, false, some 1)) := by
  unfold round_Of.f
  refine Ev.bind (round_sound_eq _ _ _ _ _ _ h h0) ?_
  refine evn ?_
  unfold soundE soundN
  by_cases hk : kd = 0 ∨ kd = 2
  · simp only [if_pos hk]
    cases ng
    · by_cases h1 : sc = 0
      · by_cases h2 : fr = 0
        · simp [h1, h2]
        · simp [h1, h2]
      · simp [h1]
    · simp
  · simp only [if_neg hk]
    by_cases h1 : kd = 1 ∧ 9223372036854775808 ≤ fr ∧ -1073741824 ≤ sc ∧ sc ≤ 1073741824
    · have h2 : kd = 1 ∧ 9223372036854775808 ≤ fr ∧ -1099511627776 ≤ sc ∧ sc ≤ 1099511627776 := by omega
      rw [decide_eq_true h1, decide_eq_true h2]
      simp only [if_true]
      rw [if_neg (by omega), if_neg (by omega)]
    · rw [decide_eq_false h1]
      simp only [Bool.false_eq_true, if_false]
      by_cases h2 : kd = 1 ∧ 9223372036854775808 ≤ fr ∧ -1099511627776 ≤ sc ∧ sc ≤ 1099511627776
      · rw [decide_eq_true h2]
        simp only [if_true]
        by_cases h3 : sc < -1073741824
        · rw [if_pos h3]
        · rw [if_neg h3, if_pos (by omega)]
      · rw [decide_eq_false h2]
        simp
def mkV (m : Nat) : Nat := if bl m ≤ 128 then m * 2 ^ (128 - bl m) else m / 2 ^ (bl m - 128)
def mkR (m : Nat) (R : Bool) : Bool := R || decide (m % 2 ^ (bl m - 128) ≠ 0)
def farI (e : Int) : Int := if e < -4398046511104 then -4398046511104 else if 4398046511104 < e then 4398046511104 else e
theorem farI_bounds (e : Int) : -4398046511104 ≤ farI e ∧ farI e ≤ 4398046511104 := by
  unfold farI
  repeat' split
  all_goals omega
theorem farI_mx (e : Int) : mx (-4398046511104) (mn e 4398046511104) = farI e := by
  unfold mx mn farI
  repeat' split
  all_goals omega
theorem T_zero {V : Nat} (h : V ≠ 0) : ¬ (TH V == 0 && TL V == 0) = true := by
  intro hc
  simp only [Bool.and_eq_true, beq_iff_eq] at hc
  unfold TH TL at hc; omega
def makeV (ng : Bool) (V : Nat) (e : Int) (R : Bool) : Int × Bool × Int × Int × Int × Bool × Option Int :=
  if V = 0 then (0, false, 0, 0, 0, false, none)
  else (1, ng, heldI (farI e + (bl V : Int) - 1), TH (mkV V), TL (mkV V), R, none)
theorem round_Make_j0 (ng : Bool) (V : Nat) (e : Int) (R : Bool) (hV : V < 2 ^ 128) : Ev (fun k => round_Make.j0 k ng (TH V) (TL V) e R false) (makeV ng V e R) := by
  refine evs ?_
  simp only [round_Make.j0, nI_eq, Bool.false_eq_true, if_false]
  unfold makeV
  by_cases h2 : V = 0
  · subst h2
    have t : twin_Norm.f (TH 0) (TL 0) = some (0, 0, 0) := twin_Norm_zero
    rw [if_pos rfl, t]
    exact Ev.now _
  · rw [if_neg h2]
    simp only [twin_Norm_eq V hV (by omega), Option.bind_some]
    have c1 := bl_le_of_lt hV
    have c2 := bl_pos (x := V) (by omega)
    have hm : mkV V = V * 2 ^ (128 - bl V) := by unfold mkV; rw [if_pos c1]
    rw [← hm]
    have hpos : mkV V ≠ 0 := by
      have : 0 < mkV V := by rw [hm]; exact Nat.mul_pos (by omega) (two_pos _)
      omega
    rw [if_neg (T_zero hpos), round_held_eq, Option.bind_some, farI_mx]
    have hfb := farI_bounds e
    rw [w64 (by omega) (by omega)]
    have ee : farI e + 127 - ((128 - bl V : Nat) : Int) = farI e + (bl V : Int) - 1 := by omega
    rw [ee]
    exact Ev.now _
theorem round_Make_bad (ng : Bool) (hi lo e : Int) (R : Bool) : Ev (fun k => round_Make.j0 k ng hi lo e R true) (0, false, 0, 0, 0, false, some 1) := by
  refine evs ?_
  simp only [round_Make.j0, nI_eq, if_true]
  exact Ev.now _
theorem round_Make_eq (ng : Bool) (V : Nat) (e : Int) (R : Bool) (hV : V < 2 ^ 128) :
    Ev (fun k => round_Make.f k ng (TH V) (TL V) e R) (if R = true ∧ V < 2 ^ 127 then (0, false, 0, 0, 0, false, some 1) else makeV ng V e R) := by
  unfold round_Make.f
  cases R
  · rw [if_neg (fun h => Bool.noConfusion h.1)]
    exact Ev.congr (f := fun k => round_Make.j0 k ng (TH V) (TL V) e false false) (fun _ => by rw [if_neg Bool.false_ne_true]) (round_Make_j0 ng V e false hV)
  · refine Ev.congr (f := fun k => round_Make.j0 k ng (TH V) (TL V) e true (TH V / 9223372036854775808 == 0)) (fun _ => by rw [if_pos rfl]) ?_
    by_cases h : V < 2 ^ 127
    · rw [if_pos ⟨rfl, h⟩]
      have hb : (TH V / 9223372036854775808 == 0) = true := by
        rw [beq_iff_eq]; unfold TH; rw [p127] at h; omega
      rw [hb]
      exact round_Make_bad ng _ _ e true
    · rw [if_neg (fun hh => h hh.2)]
      have hb : (TH V / 9223372036854775808 == 0) = false := by
        rw [beq_eq_false_iff_ne]; unfold TH; rw [p127] at h; omega
      rw [hb]
      exact round_Make_j0 ng V e true hV
end Go.Proofs.Ythofoolgbngobaa.V
namespace Go.Proofs.Ythofoolgbngobaa.V
open Go Go.RowKit Go.Proofs.Ythofoolgbngobaa.Ab Go.Proofs.Ythofoolgbngobaa.Fn
set_option linter.unusedVariables false
set_option linter.unusedSimpArgs false
def runO (m w : Nat) : Bool := decide (2 ^ (m - 1) ≤ w)
def runL (m w : Nat) : Nat := if runO m w then m - bl (2 ^ m - 1 - w) else m - bl w
def dL1 (m w : Nat) : Nat := m - runL m w - 1
def dEb (m w : Nat) : Nat := min (dL1 m w) 2
def dLf (m w : Nat) : Nat := dL1 m w - dEb m w
def decK (m w : Nat) : Int := if runO m w then (runL m w : Int) - 1 else -(runL m w : Int)
def decEx (m w : Nat) : Nat := w / 2 ^ dLf m w % 2 ^ dEb m w * 2 ^ (2 - dEb m w)
def decS (m w : Nat) : Int := 4 * decK m w + (decEx m w : Int)
def decFr (m w : Nat) : Nat := 2 ^ 63 + w % 2 ^ dLf m w * 2 ^ (63 - dLf m w)
theorem run_ones {m w : Nat} (h1 : 1 ≤ m) (hw : w < 2 ^ m) (ho : 2 ^ (m - 1) ≤ w) :
  ∃ r l A t, runL m w = r ∧ dL1 m w = l ∧ 1 ≤ r ∧ r ≤ m ∧ l = m - r - 1 ∧ w = A * 2 ^ l + t ∧ t < 2 ^ l ∧ ((r < m ∧ A = 2 * (2 ^ r - 1)) ∨ (r = m ∧ l = 0 ∧ A = 2 ^ m - 1 ∧ t = 0)) := by
 have e : runL m w = m - bl (2 ^ m - 1 - w) := by unfold runL runO; rw [if_pos (by simpa using ho)]
 have hm : (2 : Nat) ^ m = 2 * 2 ^ (m - 1) := by rw [show m = m - 1 + 1 by omega, Nat.pow_succ]; simp; omega
 have hz : 2 ^ m - 1 - w < 2 ^ (m - 1) := by omega
 have hb := bl_le_of_lt hz
 by_cases h0 : 2 ^ m - 1 - w = 0
 ·rw [h0, bl_zero, Nat.sub_zero] at e
  refine ⟨m, 0, w, 0, e, by unfold dL1; rw [e]; omega, h1, Nat.le_refl _, by omega, by simp, by decide, .inr ⟨rfl, rfl, by omega, rfl⟩⟩
 ·have b1 := bl_pos (x := 2 ^ m - 1 - w) (by omega)
  have b2 := bl_le (x := 2 ^ m - 1 - w) (by omega)
  have b3 := bl_lt (2 ^ m - 1 - w)
  generalize bl (2 ^ m - 1 - w) = b at *
  have e1 : dL1 m w = b - 1 := by unfold dL1; rw [e]; omega
  have q1 : (2 : Nat) ^ b = 2 * 2 ^ (b - 1) := by rw [show b = b - 1 + 1 by omega, Nat.pow_succ]; simp; omega
  have q2 : (2 : Nat) ^ m = 2 ^ (m - b) * 2 ^ b := by rw [← Nat.pow_add]; exact pow_congr (by omega)
  have p1 := two_pos (m - b)
  obtain ⟨a, ha⟩ : ∃ a, 2 ^ (m - b) = a + 1 := ⟨2 ^ (m - b) - 1, by omega⟩
  have q3 : 2 * (2 ^ (m - b) - 1) * 2 ^ (b - 1) = 2 ^ m - 2 ^ b := by
   rw [q2, ha, q1, Nat.add_sub_cancel, Nat.add_mul]
   have : 2 * a * 2 ^ (b - 1) = a * (2 * 2 ^ (b - 1)) := by grind
   omega
  have q4 : 2 ^ b ≤ 2 ^ m := pow_le (by omega)
  refine ⟨m - b, b - 1, 2 * (2 ^ (m - b) - 1), w - 2 * (2 ^ (m - b) - 1) * 2 ^ (b - 1), e, e1, by omega, by omega, by omega, ?_, ?_, .inl ⟨by omega, rfl⟩⟩
  ·rw [q3]; omega
  ·rw [q3]; omega
theorem run_noughts {m w : Nat} (h1 : 1 ≤ m) (hw0 : 0 < w) (ho : ¬ 2 ^ (m - 1) ≤ w) :
  ∃ r l t, runL m w = r ∧ dL1 m w = l ∧ 1 ≤ r ∧ r < m ∧ l = m - r - 1 ∧ w = 1 * 2 ^ l + t ∧ t < 2 ^ l := by
 have e : runL m w = m - bl w := by unfold runL runO; rw [if_neg (by simpa using ho)]
 have hb := bl_le_of_lt (show w < 2 ^ (m - 1) by omega)
 have b1 := bl_pos hw0
 have b2 := bl_le hw0
 have b3 := bl_lt w
 generalize bl w = b at *
 have q1 : (2 : Nat) ^ b = 2 * 2 ^ (b - 1) := by rw [show b = b - 1 + 1 by omega, Nat.pow_succ]; simp; omega
 exact ⟨m - b, b - 1, w - 2 ^ (b - 1), e, by unfold dL1; rw [e]; omega, by omega, by omega, by omega, by omega, by omega⟩
theorem tail_parts {m w l A t : Nat} (hl : dL1 m w = l) (hw : w = A * 2 ^ l + t) (ht : t < 2 ^ l) :
  t = w / 2 ^ dLf m w % 2 ^ dEb m w * 2 ^ dLf m w + w % 2 ^ dLf m w ∧ dEb m w + dLf m w = l ∧ dEb m w ≤ 2 ∧ (0 < dLf m w → dEb m w = 2) := by
 have hs : dEb m w + dLf m w = l := by unfold dLf dEb; omega
 refine ⟨?_, hs, by unfold dEb; omega, by unfold dLf dEb; omega⟩
 have h : w % 2 ^ l = t := by rw [hw, Nat.add_comm, Nat.add_mul_mod_self_right, Nat.mod_eq_of_lt ht]
 rw [← hs, Nat.add_comm, Nat.pow_add, Nat.mod_mul] at h
 have := Nat.mul_comm (2 ^ dLf m w) (w / 2 ^ dLf m w % 2 ^ dEb m w)
 omega
theorem tail_sig {m r l t eb lf er fr : Nat} (hm : m ≤ 64) (hr : r < m) (hl : l = m - r - 1) (ht : t = er * 2 ^ lf + fr) (hs : eb + lf = l) (he : eb ≤ 2) (hlf : 0 < lf → eb = 2) (hfr : fr < 2 ^ lf) :
  (er * 2 ^ (2 - eb) * 2 ^ 127 + fr * 2 ^ (63 - lf) * 2 ^ 64) * 2 ^ (70 - r) = t * 2 ^ (200 - m) := by
 rw [ht, Nat.add_mul, Nat.add_mul]
 have a1 : er * 2 ^ (2 - eb) * 2 ^ 127 * 2 ^ (70 - r) = er * 2 ^ lf * 2 ^ (200 - m) := by
  rw [Nat.mul_assoc, Nat.mul_assoc, ← Nat.pow_add, ← Nat.pow_add, Nat.mul_assoc, ← Nat.pow_add]
  rw [show 2 - eb + (127 + (70 - r)) = lf + (200 - m) by omega]
 have a2 : fr * 2 ^ (63 - lf) * 2 ^ 64 * 2 ^ (70 - r) = fr * 2 ^ (200 - m) := by
  by_cases h0 : lf = 0
  ·subst h0
   have : fr = 0 := by simpa using hfr
   simp [this]
  ·have := hlf (by omega)
   rw [Nat.mul_assoc, Nat.mul_assoc, ← Nat.pow_add, ← Nat.pow_add]
   rw [show 63 - lf + (64 + (70 - r)) = 200 - m by omega]
 rw [a1, a2]
theorem fr_back {m w : Nat} : (decFr m w - 2 ^ 63) * 2 ^ 64 = w % 2 ^ dLf m w * 2 ^ (63 - dLf m w) * 2 ^ 64 := by
 unfold decFr; rw [Nat.add_sub_cancel_left]
theorem decEx_lt {m w : Nat} : decEx m w < 4 := by
 unfold decEx
 have h1 := Nat.mod_lt (w / 2 ^ dLf m w) (two_pos (dEb m w))
 have he : dEb m w ≤ 2 := by unfold dEb; omega
 have : 2 ^ dEb m w * 2 ^ (2 - dEb m w) = 2 ^ 2 := pow_split he
 have := Nat.mul_lt_mul_of_pos_right h1 (two_pos (2 - dEb m w))
 omega
theorem decFr_range {m w : Nat} (h : dLf m w ≤ 63) : 2 ^ 63 ≤ decFr m w ∧ decFr m w < 2 ^ 64 := by
 unfold decFr
 have h1 := Nat.mod_lt w (two_pos (dLf m w))
 have h2 : 2 ^ dLf m w * 2 ^ (63 - dLf m w) = 2 ^ 63 := pow_split h
 have h3 := Nat.mul_lt_mul_of_pos_right h1 (two_pos (63 - dLf m w))
 rw [h2] at h3
 rw [p63] at *
 rw [p64]
 omega
theorem dec_sig {m w : Nat} (h1 : 7 ≤ m) (hm : m ≤ 64) (hw0 : 0 < w) (hw : w < 2 ^ m) :
  sig (decS m w) ((decFr m w - 2 ^ 63) * 2 ^ 64) = w * 2 ^ (200 - m) ∧ -(4 * (m : Int) - 4) ≤ decS m w ∧ decS m w ≤ 4 * (m : Int) - 4 ∧ 1 ≤ runL m w ∧ runL m w ≤ m := by
 have he := decEx_lt (m := m) (w := w)
 by_cases ho : 2 ^ (m - 1) ≤ w
 ·obtain ⟨r, l, A, t, e1, e2, r1, r2, hl, hA, ht, hc⟩ := run_ones (by omega) hw ho
  obtain ⟨t1, t2, t3, t4⟩ := tail_parts e2 hA ht
  have hk : decK m w = ((r - 1 : Nat) : Int) := by unfold decK runO; rw [if_pos (by simpa using ho), e1]; omega
  have hs : decS m w = 4 * ((r - 1 : Nat) : Int) + ((decEx m w : Nat) : Int) := by unfold decS; rw [hk]
  have hfr := Nat.mod_lt w (two_pos (dLf m w))
  rcases hc with ⟨c1, c2⟩ | ⟨c1, c2, c3, c4⟩
  ·refine ⟨?_, by omega, by omega, by omega, by omega⟩
   rw [sig_pos_eq hs he, fr_back, show 69 - (r - 1) = 70 - r by omega, show r - 1 + 1 = r by omega]
   have k := tail_sig hm c1 hl t1 t2 t3 t4 hfr
   have e3 : (2 ^ r - 1) * 2 ^ 130 * 2 ^ (70 - r) = A * 2 ^ l * 2 ^ (200 - m) := by
    rw [c2, Nat.mul_assoc, Nat.mul_comm 2, Nat.mul_assoc (2 ^ r - 1), Nat.mul_assoc (2 ^ r - 1)]
    congr 1
    have : (2 : Nat) * 2 ^ l * 2 ^ (200 - m) = 2 ^ (1 + l + (200 - m)) := by rw [Nat.pow_add, Nat.pow_add, Nat.pow_one]
    rw [this, ← Nat.pow_add]
    exact pow_congr (by omega)
   have e4 : w * 2 ^ (200 - m) = A * 2 ^ l * 2 ^ (200 - m) + t * 2 ^ (200 - m) := by
    rw [← Nat.add_mul, ← hA]
   rw [e4, ← k, ← e3, Nat.add_assoc, Nat.add_mul]
   rfl
  ·have hlf : dLf m w = 0 ∧ dEb m w = 0 := by omega
   have hex : decEx m w = 0 := by unfold decEx; rw [hlf.2, Nat.pow_zero, Nat.mod_one, Nat.zero_mul]
   refine ⟨?_, by omega, by omega, by omega, by omega⟩
   rw [sig_pos_eq hs he, fr_back, hlf.1, hex, show 69 - (r - 1) = 70 - m by omega, show r - 1 + 1 = m by omega]
   simp only [Nat.pow_zero, Nat.mod_one, Nat.zero_mul, Nat.add_zero]
   have : w = 2 ^ m - 1 := by rw [hA, c2, c4, c3]; simp
   rw [this, Nat.mul_assoc, ← Nat.pow_add]
   congr 1
   exact pow_congr (by omega)
 ·obtain ⟨r, l, t, e1, e2, r1, r2, hl, hA, ht⟩ := run_noughts (by omega) hw0 ho
  obtain ⟨t1, t2, t3, t4⟩ := tail_parts e2 hA ht
  have hk : decK m w = -(r : Int) := by unfold decK runO; rw [if_neg (by simpa using ho), e1]
  have hs : decS m w = -(4 * (r : Int)) + ((decEx m w : Nat) : Int) := by unfold decS; rw [hk]; omega
  have hfr := Nat.mod_lt w (two_pos (dLf m w))
  have k := tail_sig hm r2 hl t1 t2 t3 t4 hfr
  refine ⟨?_, by omega, by omega, by omega, by omega⟩
  rw [sig_neg_eq hs (by omega) he, fr_back]
  have e3 : 2 ^ 129 * 2 ^ (70 - r) = 1 * 2 ^ l * 2 ^ (200 - m) := by
   rw [Nat.one_mul, ← Nat.pow_add, ← Nat.pow_add]
   exact pow_congr (by omega)
  have e4 : w * 2 ^ (200 - m) = 1 * 2 ^ l * 2 ^ (200 - m) + t * 2 ^ (200 - m) := by
   rw [← Nat.add_mul, ← hA]
  rw [e4, ← k, ← e3, Nat.add_assoc, Nat.add_mul]
  rfl
theorem mn_min (a b : Nat) : mn (a : Int) (b : Int) = ((min a b : Nat) : Int) := by unfold mn; split <;> omega
theorem mx_zero (a : Int) : mx a 0 = ((a.toNat : Nat) : Int) := by unfold mx; split <;> omega
theorem lead_field_eq {a n : Nat} (h : a + n ≤ 64) : lead_field.f (a : Int) (n : Int) = some true := by
 unfold lead_field.f
 rw [if_pos (by omega), if_pos (by omega), if_pos (by omega), w64 (by omega) (by omega), decide_eq_true (by omega)]
theorem lead_Field_eq {x a n : Nat} (hx : x < 18446744073709551616) (h : a + n ≤ 64) : lead_Field.f (x : Int) (a : Int) (n : Int) = some (((x / 2 ^ a % 2 ^ n : Nat) : Int), none) := by
 unfold lead_Field.f
 rw [lead_field_eq h, Option.bind_some, if_pos rfl, if_pos (by omega), lead_ones_eq (by omega), Option.bind_some, shr_nat x a (by omega), and_mask _ _ (Nat.lt_of_le_of_lt (Nat.div_le_self _ _) hx) (by omega)]
theorem Len64_eq {x : Nat} (hx : x < 18446744073709551616) : bits_Len64.f (x : Int) = some ((bl x : Nat) : Int) := by
 unfold bits_Len64.f
 rw [if_pos ⟨by omega, by omega⟩, Int.toNat_natCast, bitLen_bl (by rw [p64]; exact hx)]
theorem Lead0_eq {x : Nat} (hx : x < 18446744073709551616) : bits_LeadingZeros64.f (x : Int) = some ((64 - bl x : Nat) : Int) := by
 have hb : bl x ≤ 64 := bl_le_of_lt (by rw [p64]; exact hx)
 unfold bits_LeadingZeros64.f
 rw [Len64_eq hx, Option.bind_some, w64 (by omega) (by omega)]
 congr 1; omega
theorem bl_add {z c k : Nat} (hz : 0 < z) (hc : c < 2 ^ k) : bl (z * 2 ^ k + c) = bl z + k := by
 have h1 := bl_le hz
 have h2 := bl_lt z
 have h0 := bl_pos hz
 refine bl_unique (by omega) ?_ ?_
 ·rw [show bl z + k - 1 = bl z - 1 + k by omega, Nat.pow_add]
  exact Nat.le_trans (Nat.mul_le_mul_right _ h1) (Nat.le_add_right _ _)
 ·rw [Nat.pow_add]
  have := Nat.mul_le_mul_right (2 ^ k) (show z + 1 ≤ 2 ^ bl z by omega)
  rw [Nat.add_mul] at this; omega
theorem lead_Run_eq {x m w : Nat} (h1 : 1 ≤ m) (hm : m ≤ 63) (hx : x < 18446744073709551616) (hw : x % 2 ^ m = w) (hw0 : 0 < w) :
  Ev (fun k => lead_Run.f k (x : Int) (m : Int)) (runO m w, ((runL m w : Nat) : Int), none) := by
 have hwl : w < 2 ^ m := by rw [← hw]; exact Nat.mod_lt _ (two_pos m)
 unfold lead_Run.f
 simp only [if_neg (show ¬ (m : Int) < 1 by omega), decide_eq_false (show ¬ (m : Int) > 64 by omega)]
 refine evs ?_
 have e1 : wrap64 (64 - (m : Int)) = ((64 - m : Nat) : Int) := by rw [w64 (by omega) (by omega)]; omega
 have hs : (2 : Nat) ^ m * 2 ^ (64 - m) = 18446744073709551616 := by rw [pow_split (by omega), p64]
 have e2 : shl .u64 (x : Int) ((64 - m : Nat) : Int) = ((w * 2 ^ (64 - m) : Nat) : Int) := by
  rw [shl_nat x _ (by omega), ← hs, Nat.mul_mod_mul_right, hw]
 simp only [lead_Run.j0, nI_eq, Bool.false_eq_true, if_false, e1, if_pos (show (0 : Int) ≤ ((64 - m : Nat) : Int) by omega), e2]
 clear e1 e2
 have hp := two_pos (64 - m)
 have hlt : w * 2 ^ (64 - m) < 18446744073709551616 := by rw [← hs]; exact Nat.mul_lt_mul_of_pos_right hwl hp
 have h63 : 2 ^ (m - 1) * 2 ^ (64 - m) = 9223372036854775808 := by rw [← Nat.pow_add, ← p63]; exact pow_congr (by omega)
 have htop : 2 ^ (m - 1) ≤ w ↔ 9223372036854775808 ≤ w * 2 ^ (64 - m) := by
  rw [← h63]
  exact ⟨fun h => Nat.mul_le_mul_right _ h, fun h => Nat.le_of_mul_le_mul_right h hp⟩
 have hbw := bl_le_of_lt hwl
 by_cases ho : 2 ^ (m - 1) ≤ w
 ·have eo : runO m w = true := by unfold runO; simpa using ho
  have h9 := htop.mp ho
  have el : runL m w = m - bl (2 ^ m - 1 - w) := by unfold runL; rw [if_pos eo]
  generalize hu : w * 2 ^ (64 - m) = u at *
  simp only [if_pos (show ((u : Nat) : Int) / 9223372036854775808 = 1 by omega), show (((u : Nat) : Int) / 9223372036854775808 == 1) = true by rw [beq_iff_eq]; omega, xor_all u hlt, Lead0_eq (show 18446744073709551615 - u < 18446744073709551616 by omega), Option.bind_some, eo]
  refine evn ?_
  have e3 : 18446744073709551615 - u = (2 ^ m - 1 - w) * 2 ^ (64 - m) + (2 ^ (64 - m) - 1) := by
   have hm1 : 1 ≤ 2 ^ m := two_pos m
   obtain ⟨z, hz⟩ : ∃ z, 2 ^ m = z + w + 1 := ⟨2 ^ m - 1 - w, by omega⟩
   have : 2 ^ m - 1 - w = z := by omega
   rw [this]
   rw [hz, Nat.add_mul, Nat.add_mul, hu, Nat.one_mul] at hs
   omega
  have hbl : bl (18446744073709551615 - u) = bl (2 ^ m - 1 - w) + (64 - m) := by
   rw [e3]
   by_cases h0 : 2 ^ m - 1 - w = 0
   ·rw [h0, Nat.zero_mul, Nat.zero_add, bl_zero, Nat.zero_add]
    refine bl_unique (by omega) ?_ (by omega)
    have : (2 : Nat) ^ (64 - m) = 2 * 2 ^ (64 - m - 1) := by rw [show 64 - m = 64 - m - 1 + 1 by omega, Nat.pow_succ]; simp; omega
    have := two_pos (64 - m - 1)
    omega
   ·exact bl_add (by omega) (by omega)
  have hb2 : bl (2 ^ m - 1 - w) ≤ m := bl_le_of_lt (by omega)
  rw [hbl, el]
  rw [mn_min]
  congr 3
  omega
 ·have eo : runO m w = false := by unfold runO; simpa using ho
  have h9 : ¬ 9223372036854775808 ≤ w * 2 ^ (64 - m) := fun h => ho (htop.mpr h)
  have el : runL m w = m - bl w := by unfold runL; rw [eo]; rfl
  have hbl := bl_mul_pow (64 - m) hw0
  generalize hu : w * 2 ^ (64 - m) = u at *
  simp only [if_neg (show ¬ ((u : Nat) : Int) / 9223372036854775808 = 1 by omega), show (((u : Nat) : Int) / 9223372036854775808 == 1) = false by rw [beq_eq_false_iff_ne]; omega, Lead0_eq hlt, Option.bind_some, eo]
  refine evn ?_
  rw [hbl, el]
  rw [mn_min]
  congr 3
  omega
theorem shape_Kind_no {n : Int} (h : isW n = false) (x : Int) : shape_Kind.f n x = some (0, some 2) := by
 unfold shape_Kind.f
 rw [shape_Fold_no h]; rfl
theorem shape_Kind_eq {n x : Nat} (h : isW (n : Int) = true) (hx : x < 18446744073709551616) : shape_Kind.f (n : Int) (x : Int) = some (if x % 2 ^ n = 0 then 0 else if x % 2 ^ n = 2 ^ (n - 1) then 2 else 1, none) := by
 obtain ⟨b64, b8⟩ := pow64 h
 have hp : (2 : Nat) ^ (n - 1) < 18446744073709551616 := by rw [← p64]; exact pow_lt (by omega)
 have e1 : wrap64 ((n : Int) - 1) = ((n - 1 : Nat) : Int) := by rw [w64 (by omega) (by omega)]; omega
 have e2 : shl .u64 1 ((n - 1 : Nat) : Int) = ((2 ^ (n - 1) : Nat) : Int) := by
  have := shl_nat 1 (n - 1) (by omega)
  rw [Nat.one_mul, Nat.mod_eq_of_lt hp] at this
  exact this
 unfold shape_Kind.f
 rw [shape_Fold_eq h hx, Option.bind_some]
 simp only [Option.isNone_none, if_true, e1, e2, if_pos (show (0 : Int) ≤ ((n - 1 : Nat) : Int) by omega)]
 generalize x % 2 ^ n = y
 by_cases h0 : y = 0
 ·rw [if_pos (by omega), if_pos h0]
 ·rw [if_neg (by omega), if_neg h0]
  by_cases h1 : y = 2 ^ (n - 1)
  ·rw [if_pos (by omega), if_pos h1]
  ·rw [if_neg (by omega), if_neg h1]
theorem rank_shift {z k : Nat} (n : Nat) (hn : n + k = 64) (h1 : 1 ≤ n) (hz : z < 2 ^ n) : wrap64 ((z * 2 ^ k : Nat) : Int) / 2 ^ k = rkN n z := by
 have hp := two_pos k
 have e : (2 : Nat) ^ n * 2 ^ k = 18446744073709551616 := by rw [← Nat.pow_add, hn, p64]
 have e1 : (2 : Nat) ^ (n - 1) * 2 ^ k = 9223372036854775808 := by rw [← Nat.pow_add, ← p63]; exact pow_congr (by omega)
 have hlt : z * 2 ^ k < 18446744073709551616 := by rw [← e]; exact Nat.mul_lt_mul_of_pos_right hz hp
 rw [pow_cast]
 unfold rkN
 by_cases h : 2 ^ (n - 1) ≤ z
 ·have h9 : 9223372036854775808 ≤ z * 2 ^ k := by rw [← e1]; exact Nat.mul_le_mul_right _ h
  rw [if_pos h]
  have w : wrap64 ((z * 2 ^ k : Nat) : Int) = ((z : Int) - ((2 ^ n : Nat) : Int)) * ((2 ^ k : Nat) : Int) := by
   have : ((z : Int) - ((2 ^ n : Nat) : Int)) * ((2 ^ k : Nat) : Int) = ((z * 2 ^ k : Nat) : Int) - ((2 ^ n * 2 ^ k : Nat) : Int) := by
    rw [Int.sub_mul, Int.natCast_mul, Int.natCast_mul]
   rw [this, e]
   generalize z * 2 ^ k = u at *
   unfold wrap64; omega
  rw [w]
  exact Int.mul_ediv_cancel _ (by generalize 2 ^ k = q at *; omega)
 ·have h9 : z * 2 ^ k < 9223372036854775808 := by rw [← e1]; exact Nat.mul_lt_mul_of_pos_right (by omega) hp
  rw [if_neg h, w64 (by omega) (by omega), Int.natCast_mul]
  exact Int.mul_ediv_cancel _ (by generalize 2 ^ k = q at *; omega)
theorem lead_Extend_eq {n x : Nat} (h1 : 1 ≤ n) (hn : n ≤ 64) (hx : x < 18446744073709551616) : lead_Extend.f (x : Int) (n : Int) = some (rkN n (x % 2 ^ n), none) := by
 unfold lead_Extend.f
 have e1 : wrap64 (64 - (n : Int)) = ((64 - n : Nat) : Int) := by rw [w64 (by omega) (by omega)]; omega
 have hs : (2 : Nat) ^ n * 2 ^ (64 - n) = 18446744073709551616 := by rw [pow_split (by omega), p64]
 have e2 : shl .u64 (x : Int) ((64 - n : Nat) : Int) = ((x % 2 ^ n * 2 ^ (64 - n) : Nat) : Int) := by
  rw [shl_nat x _ (by omega), ← hs, Nat.mul_mod_mul_right]
 rw [if_neg (by omega), if_neg (by omega), e1, if_pos (by omega), e2]
 have e3 : ∀ y : Int, shr .i64 y ((64 - n : Nat) : Int) = y / 2 ^ (64 - n) := fun y => by
  unfold shr
  rw [Int.toNat_natCast, Nat.min_eq_left (by simp [IntKind.bits])]
 rw [e3, rank_shift n (by omega) h1 (Nat.mod_lt _ (two_pos n))]
theorem shape_Rank_eq {n x : Nat} (h : isW (n : Int) = true) (hx : x < 18446744073709551616) : shape_Rank.f (n : Int) (x : Int) = some (rkN n (x % 2 ^ n), none) := by
 obtain ⟨b64, b8⟩ := pow64 h
 unfold shape_Rank.f
 rw [shape_is_eq, Option.bind_some, if_pos h, lead_Extend_eq (by omega) b64 hx]; rfl
def magN (n x : Nat) : Nat := if 2 ^ (n - 1) < x then 2 ^ n - x else x
theorem two_halves {n : Nat} (h : 1 ≤ n) : (2 : Nat) ^ n = 2 * 2 ^ (n - 1) := by
 rw [show n = n - 1 + 1 by omega, Nat.pow_succ]; simp; omega
theorem magN_bounds {n x : Nat} (h1 : 1 ≤ n) (hx : x < 2 ^ n) (h0 : x ≠ 0) (h2 : x ≠ 2 ^ (n - 1)) : 0 < magN n x ∧ magN n x < 2 ^ (n - 1) := by
 have e := two_halves h1
 unfold magN
 split <;> omega
theorem neg_mod {n p : Nat} (h1 : 1 ≤ n) (hn : n ≤ 64) (hp : p < 18446744073709551616) (h2 : 2 ^ (n - 1) < p % 2 ^ n) : (18446744073709551616 - p) % 18446744073709551616 % 2 ^ (n - 1) = 2 ^ n - p % 2 ^ n := by
 have e := two_halves h1
 have s : (18446744073709551616 : Nat) = 2 ^ n * 2 ^ (64 - n) := by rw [pow_split hn, p64]
 have hl := Nat.mod_lt p (two_pos n)
 have hd := Nat.div_add_mod p (2 ^ n)
 have hq : p / 2 ^ n < 2 ^ (64 - n) := by rw [Nat.div_lt_iff_lt_mul (two_pos n), Nat.mul_comm, ← s]; exact hp
 have hpp : 0 < p := by
  rcases Nat.eq_zero_or_pos p with h | h
  ·rw [h, Nat.zero_mod] at h2; omega
  ·exact h
 rw [Nat.mod_eq_of_lt (show 18446744073709551616 - p < 18446744073709551616 by omega)]
 generalize p % 2 ^ n = y at *
 generalize p / 2 ^ n = q at *
 obtain ⟨c, hc⟩ : ∃ c, 2 ^ (64 - n) = q + c + 1 := ⟨2 ^ (64 - n) - q - 1, by omega⟩
 have e2 : 18446744073709551616 - p = (2 ^ n - y) + 2 ^ (n - 1) * (2 * c) := by
  have : 2 ^ n * (q + c + 1) = 2 ^ n * q + 2 ^ (n - 1) * (2 * c) + 2 ^ n := by rw [e]; grind
  rw [s, hc, this, ← hd]
  omega
 rw [e2, Nat.add_mul_mod_self_left, Nat.mod_eq_of_lt (by omega)]
def splE (ng : Bool) (m w : Nat) : Bool × Bool × Int × Int × Int × Int × Int × Int × Option Int :=
 (ng, runO m w, ((runL m w : Nat) : Int), decK m w, ((dEb m w : Nat) : Int), ((decEx m w : Nat) : Int), ((dLf m w : Nat) : Int), ((w % 2 ^ dLf m w : Nat) : Int), none)
theorem Split_j1 {n x w : Nat} {ng : Bool} (h : isW (n : Int) = true) (hx : x < 18446744073709551616) (hw : x % 2 ^ (n - 1) = w) (hw0 : 0 < w) :
  Ev (fun k => codec_Split.j1 k (n : Int) (x : Int) ng) (splE ng (n - 1) w) := by
 obtain ⟨b64, b8⟩ := pow64 h
 have hwl : w < 2 ^ (n - 1) := by rw [← hw]; exact Nat.mod_lt _ (two_pos (n - 1))
 obtain ⟨m, rfl⟩ : ∃ m, n = m + 1 := ⟨n - 1, by omega⟩
 rw [Nat.add_sub_cancel] at *
 obtain ⟨_, _, _, r1, r2⟩ := dec_sig (m := m) (w := w) (by omega) (by omega) hw0 hwl
 have em : wrap64 (((m + 1 : Nat) : Int) - 1) = (m : Int) := by rw [w64 (by omega) (by omega)]; omega
 have hd1 : dL1 m w ≤ m := by unfold dL1; omega
 have hd2 : dEb m w ≤ dL1 m w := by unfold dEb; omega
 have hd3 : dEb m w ≤ 2 := by unfold dEb; omega
 have hlf : dLf m w + dEb m w ≤ 64 := by unfold dLf; omega
 have hlf0 : dLf m w ≤ 64 := by omega
 have hlm : dLf m w + dEb m w ≤ m := by unfold dLf; omega
 have hlm2 : dLf m w ≤ m := by omega
 have el1 : mx (wrap64 (wrap64 ((m : Int) - ((runL m w : Nat) : Int)) - 1)) 0 = ((dL1 m w : Nat) : Int) := by
  clear em
  rw [w64 (n := (m : Int) - ((runL m w : Nat) : Int)) (by omega) (by omega), w64 (by omega) (by omega), mx_zero]
  unfold dL1; congr 1; omega
 have eeb : mn ((dL1 m w : Nat) : Int) 2 = ((dEb m w : Nat) : Int) := by
  have := mn_min (dL1 m w) 2
  exact this
 have elf : wrap64 (((dL1 m w : Nat) : Int) - ((dEb m w : Nat) : Int)) = ((dLf m w : Nat) : Int) := by
  clear em el1 eeb
  rw [w64 (by omega) (by omega)]; unfold dLf; omega
 have f1 := lead_Field_eq (x := x) (a := dLf m w) (n := dEb m w) hx hlf
 have f2 : lead_Field.f (x : Int) 0 ((dLf m w : Nat) : Int) = _ := lead_Field_eq (x := x) (a := 0) (n := dLf m w) hx (by rw [Nat.zero_add]; exact hlf0)
 have g1 : x / 2 ^ dLf m w % 2 ^ dEb m w = w / 2 ^ dLf m w % 2 ^ dEb m w := by
  rw [← Nat.mod_mul_right_div_self x, ← Nat.mod_mul_right_div_self w, ← Nat.pow_add, ← hw, mod_pow_le (by rw [hw]; exact hlm), hw]
 have g2 : x / 2 ^ 0 % 2 ^ dLf m w = w % 2 ^ dLf m w := by
  rw [Nat.pow_zero, Nat.div_one, ← mod_pow_le (a := x) hlm2, hw]
 rw [g1] at f1
 rw [g2] at f2
 have hex : wrap64 (wrap64 ((w / 2 ^ dLf m w % 2 ^ dEb m w : Nat) : Int) * 2 ^ (2 - ((dEb m w : Nat) : Int)).toNat) = ((decEx m w : Nat) : Int) := by
  clear em el1 eeb elf f1 f2 g1 g2
  have hl := Nat.mod_lt (w / 2 ^ dLf m w) (two_pos (dEb m w))
  have hl2 : (2 : Nat) ^ dEb m w ≤ 2 ^ 2 := pow_le hd3
  have hx4 := decEx_lt (m := m) (w := w)
  unfold decEx at *
  have e3 : (2 : Int) - ((dEb m w : Nat) : Int) = ((2 - dEb m w : Nat) : Int) := by omega
  rw [e3]
  generalize w / 2 ^ dLf m w % 2 ^ dEb m w = u at *
  rw [w64 (n := (u : Int)) (by omega) (by omega), Int.toNat_natCast, pow_cast, ← Int.natCast_mul]
  generalize u * 2 ^ (2 - dEb m w) = v at *
  rw [w64 (by omega) (by omega)]
 have er1 : runO m w = true → wrap64 (((runL m w : Nat) : Int) - 1) = decK m w := fun ho => by
  clear em el1 eeb elf f1 f2 g1 g2 hex
  unfold decK; rw [if_pos ho, w64 (by omega) (by omega)]
 have er2 : runO m w = false → wrap64 (-((runL m w : Nat) : Int)) = decK m w := fun ho => by
  clear em el1 eeb elf f1 f2 g1 g2 hex
  unfold decK; rw [ho, w64 (by omega) (by omega)]; rfl
 refine evs ?_
 simp only [codec_Split.j1, nI_eq, em]
 have hm1 : 1 ≤ m := by clear em el1 eeb elf f1 f2 g1 g2 hex er1 er2; omega
 have hm2 : m ≤ 63 := by clear em el1 eeb elf f1 f2 g1 g2 hex er1 er2; omega
 refine Ev.bind (lead_Run_eq hm1 hm2 hx hw hw0) ?_
 refine evn ?_
 simp only [el1, eeb, elf, f1, f2, Option.bind_some, hex]
 unfold splE
 cases ho : runO m w
 ·simp [er2 ho]
 ·simp [er1 ho]
theorem Split_real {n p : Nat} (h : isW (n : Int) = true) (hp : p < 18446744073709551616) (h0 : p % 2 ^ n ≠ 0) (h1 : p % 2 ^ n ≠ 2 ^ (n - 1)) :
  Ev (fun k => codec_Split.f k (n : Int) (p : Int)) (splE (decide (2 ^ (n - 1) < p % 2 ^ n)) (n - 1) (magN n (p % 2 ^ n))) := by
 obtain ⟨b64, b8⟩ := pow64 h
 have hm := magN_bounds (n := n) (by omega) (Nat.mod_lt p (two_pos n)) h0 h1
 have hl := Nat.mod_lt p (two_pos n)
 have e := two_halves (n := n) (by omega)
 unfold codec_Split.f
 simp only [shape_Kind_eq h hp, if_neg h0, if_neg h1, Option.bind_some, Option.isNone_none, if_true]
 refine evs ?_
 simp only [codec_Split.j0, nI_eq, show ((1 : Int) != 1) = false from rfl, Bool.false_eq_true, if_false, shape_Rank_eq h hp, Option.bind_some]
 by_cases hs : 2 ^ (n - 1) < p % 2 ^ n
 ·have hr : rkN n (p % 2 ^ n) < 0 := by unfold rkN; rw [if_pos (by omega)]; omega
  simp only [if_pos hr, neg_wrap hp, decide_eq_true hs]
  refine Split_j1 h (Nat.mod_lt _ (by decide)) ?_ hm.1
  rw [neg_mod (by omega) b64 hp hs]
  unfold magN; rw [if_pos hs]
 ·have hr : ¬ rkN n (p % 2 ^ n) < 0 := by unfold rkN; rw [if_neg (by omega)]; omega
  simp only [if_neg hr, decide_eq_false hs]
  refine Split_j1 h hp ?_ hm.1
  have : magN n (p % 2 ^ n) = p % 2 ^ n := by unfold magN; rw [if_neg hs]
  rw [this, ← mod_pow_le (a := p) (show n - 1 ≤ n by omega), Nat.mod_eq_of_lt (by omega)]
theorem Decode_no {n : Int} (h : isW n = false) (x : Int) : Ev (fun k => codec_Decode.f k n x) (0, false, 0, 0, some 2) := by
 unfold codec_Decode.f
 simp only [shape_Kind_no h, Option.bind_some]
 exact Ev.now _
def decE (n x : Nat) : Int × Bool × Int × Int × Option Int :=
 if x = 0 then (0, false, 0, 0, none) else if x = 2 ^ (n - 1) then (2, false, 0, 0, none)
 else (1, decide (2 ^ (n - 1) < x), decS (n - 1) (magN n x), ((decFr (n - 1) (magN n x) : Nat) : Int), none)
theorem Decode_eq {n p : Nat} (h : isW (n : Int) = true) (hp : p < 18446744073709551616) : Ev (fun k => codec_Decode.f k (n : Int) (p : Int)) (decE n (p % 2 ^ n)) := by
 obtain ⟨b64, b8⟩ := pow64 h
 unfold codec_Decode.f decE
 simp only [shape_Kind_eq h hp, Option.bind_some, Option.isNone_none, if_true]
 by_cases h0 : p % 2 ^ n = 0
 ·simp only [if_pos h0]
  exact Ev.now _
 ·simp only [if_neg h0]
  by_cases h1 : p % 2 ^ n = 2 ^ (n - 1)
  ·simp only [if_pos h1]
   exact Ev.now _
  ·simp only [if_neg h1, if_true]
   refine Ev.bind (Split_real h hp h0 h1) ?_
   have hm := magN_bounds (n := n) (by omega) (Nat.mod_lt p (two_pos n)) h0 h1
   generalize hg : magN n (p % 2 ^ n) = w at *
   obtain ⟨m, rfl⟩ : ∃ m, n = m + 1 := ⟨n - 1, by omega⟩
   rw [Nat.add_sub_cancel] at *
   obtain ⟨_, s1, s2, r1, r2⟩ := dec_sig (m := m) (w := w) (by omega) (by omega) hm.1 hm.2
   have hx4 := decEx_lt (m := m) (w := w)
   have hlf : dLf m w ≤ 63 := by unfold dLf dL1; omega
   have hfr := decFr_range hlf
   have ew : wrap64 (63 - ((dLf m w : Nat) : Int)) = ((63 - dLf m w : Nat) : Int) := by rw [w64 (by omega) (by omega)]; omega
   have es : wrap64 (wrap64 (4 * decK m w) + ((decEx m w : Nat) : Int)) = decS m w := by
    clear ew
    unfold decS at *
    rw [w64 (n := 4 * decK m w) (by omega) (by omega), w64 (by omega) (by omega)]
   have ef : Go.bits .or .u64 9223372036854775808 (shl .u64 ((w % 2 ^ dLf m w : Nat) : Int) ((63 - dLf m w : Nat) : Int)) = ((decFr m w : Nat) : Int) := by
    clear ew es
    have hl := Nat.mod_lt w (two_pos (dLf m w))
    have hb : w % 2 ^ dLf m w * 2 ^ (63 - dLf m w) < 2 ^ 63 := by
     have h2 : 2 ^ dLf m w * 2 ^ (63 - dLf m w) = 2 ^ 63 := pow_split hlf
     rw [← h2]; exact Nat.mul_lt_mul_of_pos_right hl (two_pos _)
    have hb' := hb
    rw [p63] at hb'
    rw [shl_nat _ _ (by omega), Nat.mod_eq_of_lt (by omega)]
    have := or_add 9223372036854775808 (w % 2 ^ dLf m w * 2 ^ (63 - dLf m w)) 63 (by decide) (by decide) hb (by omega)
    unfold decFr
    rw [p63]
    exact this
   refine evn ?_
   unfold splE
   simp only [ew, es, ef, if_pos (show (0 : Int) ≤ ((63 - dLf m w : Nat) : Int) by clear ew es ef; omega)]
end Go.Proofs.Ythofoolgbngobaa.V
namespace Go.Proofs.Ythofoolgbngobaa.V
open Go Go.RowKit Go.Proofs.Ythofoolgbngobaa.Ab Go.Proofs.Ythofoolgbngobaa.Fn
set_option linter.unusedVariables false
set_option linter.unusedSimpArgs false
def decV (m w : Nat) : Nat := decFr m w * 18446744073709551616
theorem decV_sub {m w : Nat} (h : dLf m w ≤ 63) : decV m w - 2 ^ 127 = (decFr m w - 2 ^ 63) * 2 ^ 64 ∧ 2 ^ 127 ≤ decV m w ∧ decV m w < 2 ^ 128 := by
 have := decFr_range h
 unfold decV
 rw [p63, p64] at *
 rw [p127, p128]
 omega
theorem dLf_le {m w : Nat} (h : m ≤ 64) : dLf m w ≤ 63 := by unfold dLf dL1; omega
theorem decV_sig {m w : Nat} (h1 : 7 ≤ m) (hm : m ≤ 64) (hw0 : 0 < w) (hw : w < 2 ^ m) : sig (decS m w) (decV m w - 2 ^ 127) = w * 2 ^ (200 - m) := by
 rw [(decV_sub (dLf_le hm)).1]
 exact (dec_sig h1 hm hw0 hw).1
theorem dec_soundN {n w : Nat} {ng : Bool} (h8 : 8 ≤ n) (hn : n ≤ 64) (hw0 : 0 < w) (hw : w < 2 ^ (n - 1)) : soundN 1 ng (decS (n - 1) w) ((decFr (n - 1) w : Nat) : Int) = true := by
 obtain ⟨_, s1, s2, _, _⟩ := dec_sig (m := n - 1) (w := w) (by omega) (by omega) hw0 hw
 have := decFr_range (m := n - 1) (w := w) (dLf_le (by omega))
 rw [p63] at this
 unfold soundN
 rw [if_neg (by omega)]
 exact decide_eq_true (by omega)
theorem q4 {n : Nat} (hn : n ≤ 63) : (2 : Nat) ^ (202 - n) = 4 * 2 ^ (200 - n) ∧ (2 : Nat) ^ (201 - n) = 2 * 2 ^ (200 - n) := by
 rw [show 202 - n = 200 - n + 1 + 1 by omega, show 201 - n = 200 - n + 1 by omega, Nat.pow_succ, Nat.pow_succ]
 omega
end Go.Proofs.Ythofoolgbngobaa.V
namespace Go.Proofs.Ythofoolgbngobaa.V
open Go Go.RowKit Go.Proofs.Ythofoolgbngobaa.Ab Go.Proofs.Ythofoolgbngobaa.Fn
set_option linter.unusedVariables false
set_option linter.unusedSimpArgs false
def numL (l : List UInt8) : Nat := l.foldl (fun x b => 2 * x + (b.toNat - 48)) 0
def okL (l : List UInt8) : Prop := ∀ b ∈ l, b.toNat = 48 ∨ b.toNat = 49
theorem numL_acc (l : List UInt8) : ∀ x, l.foldl (fun x b => 2 * x + (b.toNat - 48)) x = x * 2 ^ l.length + numL l := by
 induction l with
 | nil => intro x; simp [numL]
 | cons b l ih =>
  intro x
  simp only [List.foldl_cons, List.length_cons, numL]
  rw [ih, ih (2 * 0 + (b.toNat - 48)), Nat.pow_succ]
  generalize 2 ^ l.length = z
  generalize numL l = y
  generalize b.toNat - 48 = w
  grind
theorem numL_append (a b : List UInt8) : numL (a ++ b) = numL a * 2 ^ b.length + numL b := by
 unfold numL
 rw [List.foldl_append, numL_acc]
 rfl
theorem numL_lt {l : List UInt8} (h : okL l) : numL l < 2 ^ l.length := by
 induction l with
 | nil => simp [numL]
 | cons b l ih =>
  have ih := ih (fun x hx => h x (List.mem_cons_of_mem _ hx))
  have hb := h b List.mem_cons_self
  rw [show b :: l = [b] ++ l from rfl, numL_append]
  have e : numL [b] = b.toNat - 48 := by simp [numL]
  rw [e, List.length_append, Nat.pow_add]
  simp only [List.length_singleton, Nat.pow_one]
  rcases hb with hb | hb <;> rw [hb] <;> omega
theorem okL_append {a b : List UInt8} (ha : okL a) (hb : okL b) : okL (a ++ b) := fun x hx => (List.mem_append.mp hx).elim (ha x) (hb x)
theorem okL_take {a : List UInt8} (m : Nat) (h : okL a) : okL (a.take m) := fun x hx => h x (List.mem_of_mem_take hx)
theorem okL_drop {a : List UInt8} (m : Nat) (h : okL a) : okL (a.drop m) := fun x hx => h x (List.mem_of_mem_drop hx)
structure BT (s : ByteArray) (L X : Nat) : Prop where
 ok : okL s.data.toList
 size : s.size = L
 num : numL s.data.toList = X
theorem lenB (s : ByteArray) : s.data.toList.length = s.size := Array.length_toList
theorem BT.len {s : ByteArray} {L X : Nat} (h : BT s L X) : s.data.toList.length = L := by rw [← h.size]; exact lenB s
theorem BT.lt {s : ByteArray} {L X : Nat} (h : BT s L X) : X < 2 ^ L := by have := numL_lt h.ok; rw [h.len, h.num] at this; exact this
theorem BT.append {s t : ByteArray} {L M X Y : Nat} (h : BT s L X) (k : BT t M Y) : BT (s ++ t) (L + M) (X * 2 ^ M + Y) := by
 refine ⟨?_, ?_, ?_⟩
 ·rw [ByteArray.data_append, Array.toList_append]; exact okL_append h.ok k.ok
 ·rw [ByteArray.size_append, h.size, k.size]
 ·rw [ByteArray.data_append, Array.toList_append, numL_append, h.num, k.num, k.len]
theorem BT.parts {s : ByteArray} {L X : Nat} (h : BT s L X) (m : Nat) (hm : m ≤ L) :
  BT (s.extract 0 m) m (X / 2 ^ (L - m)) ∧ BT (s.extract m s.size) (L - m) (X % 2 ^ (L - m)) := by
 have hl := h.len
 have e1 : (s.extract 0 m).data.toList = s.data.toList.take m := by
  rw [ByteArray.data_extract, Array.toList_extract]; simp [List.extract]
 have e2 : (s.extract m s.size).data.toList = s.data.toList.drop m := by
  rw [ByteArray.data_extract, Array.toList_extract, List.extract_eq_take_drop]
  rw [List.take_of_length_le]
  rw [List.length_drop, hl, h.size]; omega
 have hn : X = numL (s.data.toList.take m) * 2 ^ (L - m) + numL (s.data.toList.drop m) := by
  have := numL_append (s.data.toList.take m) (s.data.toList.drop m)
  rw [List.take_append_drop, h.num, List.length_drop, hl] at this
  exact this
 have hlt : numL (s.data.toList.drop m) < 2 ^ (L - m) := by
  have := numL_lt (okL_drop m h.ok)
  rw [List.length_drop, hl] at this
  exact this
 have p := two_pos (L - m)
 refine ⟨⟨by rw [e1]; exact okL_take m h.ok, ?_, ?_⟩, ⟨by rw [e2]; exact okL_drop m h.ok, ?_, ?_⟩⟩
 ·rw [ByteArray.size_extract, h.size]; omega
 ·rw [e1, hn, Nat.add_comm, Nat.add_mul_div_right _ _ p, Nat.div_eq_of_lt hlt, Nat.zero_add]
 ·rw [ByteArray.size_extract, h.size]; omega
 ·rw [e2, hn, Nat.add_comm, Nat.add_mul_mod_self_right, Nat.mod_eq_of_lt hlt]
theorem bt_of {s : ByteArray} {i : Nat} (h : i < s.size) : bt s (i : Int) = ((s.data.toList[i]'(by rw [lenB]; exact h)).toNat : Int) := by
 unfold bt
 rw [dif_pos (by simpa using h)]
 simp [ByteArray.getElem_eq_getElem_data]
theorem BT.bit {s : ByteArray} {L X i : Nat} (h : BT s L X) (hi : i < L) : bt s (i : Int) = 48 + ((X / 2 ^ (L - 1 - i) % 2 : Nat) : Int) := by
 have hs : i < s.size := by rw [h.size]; exact hi
 rw [bt_of hs]
 have hl := h.len
 have hi' : i < s.data.toList.length := by omega
 have hx := h.ok _ (List.getElem_mem hi')
 have e1 : X = numL (s.data.toList.take (i + 1)) * 2 ^ (L - 1 - i) + numL (s.data.toList.drop (i + 1)) := by
  have := numL_append (s.data.toList.take (i + 1)) (s.data.toList.drop (i + 1))
  rw [List.take_append_drop, h.num, List.length_drop, hl, show L - (i + 1) = L - 1 - i by omega] at this
  exact this
 have hlt : numL (s.data.toList.drop (i + 1)) < 2 ^ (L - 1 - i) := by
  have := numL_lt (okL_drop (i + 1) h.ok)
  rw [List.length_drop, hl, show L - (i + 1) = L - 1 - i by omega] at this
  exact this
 have e2 : X / 2 ^ (L - 1 - i) = numL (s.data.toList.take (i + 1)) := by
  rw [e1, Nat.add_comm, Nat.add_mul_div_right _ _ (two_pos _), Nat.div_eq_of_lt hlt, Nat.zero_add]
 have e3 : numL (s.data.toList.take (i + 1)) = 2 * numL (s.data.toList.take i) + ((s.data.toList[i]'hi').toNat - 48) := by
  rw [List.take_succ_eq_append_getElem hi', numL_append]
  simp [numL]; omega
 rw [e2, e3]
 rcases hx with hx | hx <;> rw [hx] <;> omega
theorem BT.nil : BT ByteArray.empty 0 0 := ⟨by intro b hb; simp at hb, rfl, rfl⟩
structure BN (l : List Int) (L X : Nat) : Prop where
 len : l.length = L
 bt : BT (strOfNums l) L X
theorem BN.nil : BN [] 0 0 := ⟨rfl, ⟨by intro b hb; simp [strOfNums_data] at hb, rfl, rfl⟩⟩
theorem BN.snoc {l : List Int} {L X : Nat} (h : BN l L X) (b : Nat) (hb : b < 2) : BN (l ++ [48 + (b : Int)]) (L + 1) (2 * X + b) := by
 have e : (strOfNums (l ++ [48 + (b : Int)])).data.toList = (strOfNums l).data.toList ++ [UInt8.ofNat (48 + b)] := by
  rw [strOfNums_data, strOfNums_data, List.map_append]
  have : (48 + (b : Int)).toNat = 48 + b := by omega
  simp [this]
 have hv : (UInt8.ofNat (48 + b)).toNat = 48 + b := by
  rw [UInt8.toNat_ofNat']; omega
 refine ⟨by simp [h.len], ⟨?_, ?_, ?_⟩⟩
 ·rw [e]
  refine okL_append h.bt.ok ?_
  intro x hx
  simp only [List.mem_singleton] at hx
  subst hx; rw [hv]; omega
 ·rw [strOfNums_size]; simp [h.len]
 ·rw [e, numL_append, h.bt.num]
  have : numL [UInt8.ofNat (48 + b)] = b := by unfold numL; simp only [List.foldl_cons, List.foldl_nil]; rw [hv]; omega
  rw [this]; simp; omega
theorem tmod2 (n : Nat) : Int.tmod (n : Int) 2 = ((n % 2 : Nat) : Int) := by
 rw [Int.tmod_eq_emod_of_nonneg (by omega)]; omega
theorem byte_bit (n : Nat) : (48 + Int.tmod (n : Int) 2 % 256) % 256 = 48 + ((n % 2 : Nat) : Int) := by rw [tmod2]; omega
theorem Text_l0 (x : Nat) (hx : x < 18446744073709551616) : ∀ (d : Nat) (l : List Int) (L : Nat), d ≤ 64 → L ≤ 64 → L + d ≤ 64 → BN l L (x % 2 ^ (L + d) / 2 ^ d) →
  ∃ s, Ev (fun k => vernierref01_Text.l0 k (x : Int) l ((d : Int) - 1)) s ∧ BT s (L + d) (x % 2 ^ (L + d))
 | 0, l, L, _, _, _, h => by
  refine ⟨strOfNums l, ?_, by simpa using h.bt⟩
  refine evs ?_
  simp only [vernierref01_Text.l0, nI_eq]
  simp only [if_neg (show ¬ ((0 : Nat) : Int) - 1 ≥ 0 by omega)]
  exact Ev.now _
 | d + 1, l, L, hd, hL, hs, h => by
  have hb := BN.snoc h (x / 2 ^ d % 2) (Nat.mod_lt _ (by decide))
  have e : 2 * (x % 2 ^ (L + (d + 1)) / 2 ^ (d + 1)) + x / 2 ^ d % 2 = x % 2 ^ (L + 1 + d) / 2 ^ d := by
   rw [show L + (d + 1) = L + 1 + d by omega, Nat.pow_succ 2 d, ← Nat.div_div_eq_div_mul]
   have e1 : x % 2 ^ (L + 1 + d) / 2 ^ d % 2 = x / 2 ^ d % 2 := by
    rw [show L + 1 + d = d + (L + 1) by omega, Nat.pow_add, Nat.mod_mul_right_div_self, Nat.pow_succ, Nat.mod_mul_left_mod]
   omega
  rw [e] at hb
  obtain ⟨s, h1, h2⟩ := Text_l0 x hx d _ (L + 1) (by omega) (by omega) (by omega) hb
  refine ⟨s, ?_, by rw [show L + (d + 1) = L + 1 + d by omega]; exact h2⟩
  refine evs ?_
  simp only [vernierref01_Text.l0, nI_eq]
  have ei : ((d + 1 : Nat) : Int) - 1 = (d : Int) := by omega
  rw [ei]
  have ew : wrap64 ((d : Int) - 1) = (d : Int) - 1 := w64 (by omega) (by omega)
  have hlen := h.len
  have esh := shr_nat x d (by omega)
  have eb := byte_bit (x / 2 ^ d)
  simp only [if_pos (show (d : Int) ≥ 0 by omega), if_pos (show (0 : Int) ≤ (d : Int) by omega), if_pos (show l.length < 140737488355328 by omega), ew, esh, eb]
  exact h1
theorem Text_eq (x n : Nat) (hx : x < 18446744073709551616) (hn : n ≤ 64) :
  ∃ s, Ev (fun k => vernierref01_Text.f k (x : Int) (n : Int)) s ∧ BT s n (x % 2 ^ n) := by
 have h0 : BN [] 0 (x % 2 ^ (0 + n) / 2 ^ n) := by
  rw [Nat.zero_add, Nat.div_eq_of_lt (Nat.mod_lt _ (two_pos n))]; exact BN.nil
 obtain ⟨s, h1, h2⟩ := Text_l0 x hx n [] 0 hn (by omega) (by omega) h0
 refine ⟨s, ?_, by rw [Nat.zero_add] at h2; exact h2⟩
 unfold vernierref01_Text.f
 rw [w64 (by omega) (by omega)]
 exact h1
theorem Number_l0 {s : ByteArray} {L X : Nat} (h : BT s L X) (hL : L ≤ 64) : ∀ (d i : Nat), i + d = L →
  Ev (fun k => vernierref01_Number.l0 k s ((X / 2 ^ d : Nat) : Int) (i : Int)) (X : Int)
 | 0, i, hi => by
  refine evs ?_
  simp only [vernierref01_Number.l0, nI_eq]
  simp only [if_neg (show ¬ (i : Int) < (s.size : Int) by rw [h.size]; omega)]
  simpa using Ev.now (X : Int)
 | d + 1, i, hi => by
  refine evs ?_
  simp only [vernierref01_Number.l0, nI_eq]
  have hb := h.bit (i := i) (by omega)
  have hlt := h.lt
  simp only [if_pos (show (i : Int) < (s.size : Int) by rw [h.size]; omega), if_pos (show (0 : Int) ≤ (i : Int) by omega), hb]
  have ed : L - 1 - i = d := by omega
  rw [ed]
  have ew : wrap64 ((i : Int) + 1) = ((i + 1 : Nat) : Int) := by rw [w64 (by omega) (by omega)]; omega
  have hq : X / 2 ^ d < 2 ^ 64 := Nat.lt_of_le_of_lt (Nat.div_le_self _ _) (Nat.lt_of_lt_of_le hlt (pow_le hL))
  rw [p64] at hq
  have e2 : X / 2 ^ (d + 1) = X / 2 ^ d / 2 := by rw [Nat.pow_succ, Nat.div_div_eq_div_mul]
  have e1 : IntKind.u64.wrap (IntKind.u64.wrap (2 * ((X / 2 ^ (d + 1) : Nat) : Int)) + (48 + ((X / 2 ^ d % 2 : Nat) : Int) - 48) % 256) = ((X / 2 ^ d : Nat) : Int) := by
   rw [e2]
   generalize X / 2 ^ d = q at hq
   rw [u64_of (n := 2 * ((q / 2 : Nat) : Int)) (by omega) (by omega), u64_of (by omega) (by omega)]; omega
  rw [ew, e1]
  exact Number_l0 h hL d (i + 1) (by omega)
theorem Number_eq {s : ByteArray} {L X : Nat} (h : BT s L X) (hL : L ≤ 64) : Ev (fun k => vernierref01_Number.f k s) (X : Int) := by
 have := Number_l0 h hL L 0 (by omega)
 rw [Nat.div_eq_of_lt h.lt] at this
 unfold vernierref01_Number.f
 exact this
end Go.Proofs.Ythofoolgbngobaa.V
namespace Go.Proofs.Ythofoolgbngobaa.V
open Go Go.RowKit Go.Proofs.Ythofoolgbngobaa.Ab Go.Proofs.Ythofoolgbngobaa.Fn
set_option linter.unusedVariables false
set_option linter.unusedSimpArgs false
theorem r4_digit {l : List Int} {m : Nat} (h : DL l m) (i : Nat) : vernierref04_digit.f l (i : Int) = some ((dg m i : Nat) : Int) := by
 unfold vernierref04_digit.f; rw [nI_eq]
 by_cases hi : i < l.length
 ·rw [if_pos (by omega), if_pos (by omega), h.rd]
 ·rw [if_neg (by omega), h.dg_out (by omega)]; rfl
theorem r4_two_l (n : Nat) (hn : n ≤ 24) : ∀ (d i : Nat), i + d = n → Ev (fun k => vernierref04_two.l0 k (n : Int) ((2 ^ i : Nat) : Int) (i : Int)) ((2 ^ n : Nat) : Int)
 | 0, i, h => by
  refine evs ?_
  simp only [vernierref04_two.l0, nI_eq, if_neg (show ¬ (i : Int) < (n : Int) by omega)]
  have : i = n := by omega
  subst this
  exact Ev.now _
 | d + 1, i, h => by
  refine evs ?_
  simp only [vernierref04_two.l0, nI_eq]
  have hp : 2 ^ i < 2 ^ 24 := pow_lt (by omega)
  have h24 : (2 : Nat) ^ 24 = 16777216 := by decide
  have e1 : wrap64 (2 * ((2 ^ i : Nat) : Int)) = ((2 ^ (i + 1) : Nat) : Int) := by
   rw [Nat.pow_succ]
   generalize 2 ^ i = z at *
   rw [w64 (by omega) (by omega)]; omega
  have e2 : wrap64 ((i : Int) + 1) = ((i + 1 : Nat) : Int) := by rw [w64 (by omega) (by omega)]; omega
  simp only [if_pos (show (i : Int) < (n : Int) by omega), e1, e2]
  exact r4_two_l n hn d (i + 1) (by omega)
theorem r4_two (n : Nat) (hn : n ≤ 24) : Ev (fun k => vernierref04_two.f k (n : Int)) ((2 ^ n : Nat) : Int) := by
 unfold vernierref04_two.f
 exact r4_two_l n hn n 0 (by omega)
theorem r4_Of_l (v : Nat) (hv : v < 18446744073709551616) : ∀ (d : Nat) (l : List Int), l.length + d = 3 → okD l → dv l + W l.length * (v / W l.length) = v → (l ≠ [] → W (l.length - 1) ≤ v) →
  ∃ r, Ev (fun k => vernierref04_Of.l0 k ((v / W l.length : Nat) : Int) l) r ∧ DL r v := by
 intro d
 induction d with
 | zero =>
  intro l hl hok hval hcan
  have h3 : v / W l.length = 0 := by
   rw [show l.length = 3 by omega, Nat.div_eq_of_lt (Nat.lt_of_lt_of_le hv (by decide))]
  refine ⟨l, ?_, hok, by rw [h3] at hval; simpa using hval, hcan⟩
  refine evs ?_
  simp only [vernierref04_Of.l0, nI_eq, h3, if_neg (show ¬ ((0 : Nat) : Int) > 0 by decide)]
  exact Ev.now _
 | succ d ih =>
  intro l hl hok hval hcan
  by_cases h0 : v / W l.length = 0
  ·refine ⟨l, ?_, hok, by rw [h0] at hval; simpa using hval, hcan⟩
   refine evs ?_
   simp only [vernierref04_Of.l0, nI_eq, h0, if_neg (show ¬ ((0 : Nat) : Int) > 0 by decide)]
   exact Ev.now _
  ·have hlt : v / W l.length < 18446744073709551616 := Nat.lt_of_le_of_lt (Nat.div_le_self _ _) hv
   have e1 : wrap64 (Int.tmod ((v / W l.length : Nat) : Int) 16777216) = ((dg v l.length : Nat) : Int) := by
    unfold dg
    generalize v / W l.length = q at *
    rw [tmodL, w64 (by omega) (by omega)]
   have e2 : IntKind.u64.wrap (Int.tdiv ((v / W l.length : Nat) : Int) 16777216) = ((v / W (l.length + 1) : Nat) : Int) := by
    rw [W_succ, Nat.mul_comm, ← Nat.div_div_eq_div_mul]
    generalize v / W l.length = q at *
    rw [tdivL, u64_of (by omega) (by omega)]
   have ev : dv (l ++ [((dg v l.length : Nat) : Int)]) = v % W (l.length + 1) := by
    rw [dv_snoc, mod_W_succ]
    have := Nat.div_add_mod v (W l.length)
    have := Nat.mul_comm (W l.length) (v / W l.length)
    omega
   have hW : W l.length ≤ v := by
    rcases Nat.lt_or_ge v (W l.length) with h | h
    ·exact absurd (Nat.div_eq_of_lt h) h0
    ·exact h
   obtain ⟨r, h1, h2⟩ := ih (l ++ [((dg v l.length : Nat) : Int)]) (by simp; omega) (okD_snoc hok (dg_lt _ _)) (by
    rw [ev, List.length_append, List.length_singleton]
    have := Nat.div_add_mod v (W (l.length + 1)); omega) (fun _ => by simpa using hW)
   refine ⟨r, ?_, h2⟩
   refine evs ?_
   simp only [vernierref04_Of.l0, nI_eq]
   rw [List.length_append, List.length_singleton] at h1
   have hq0 : ((v / W l.length : Nat) : Int) > 0 := by generalize v / W l.length = q at *; omega
   simp only [if_pos hq0, if_pos (show l.length < 17592186044416 by omega), e1, e2]
   exact h1
theorem r4_Of (v : Nat) (hv : v < 18446744073709551616) : ∃ r, Ev (fun k => vernierref04_Of.f k (v : Int)) r ∧ DL r v := by
 have := r4_Of_l v hv 3 [] rfl okD_nil (by simp [dv, W_zero]) (fun h => absurd rfl h)
 simpa [vernierref04_Of.f, W_zero] using this
theorem r4_Add_l {x y : List Int} {a b : Nat} (hx : DL x a) (hy : DL y b) (hn : x.length ≤ 1000) (hm : y.length ≤ 1000) : ∀ (d : Nat) (o : List Int) (c : Nat), o.length + d = max x.length y.length + 1 →
  okD o → c ≤ 1 → dv o + W o.length * c = a % W o.length + b % W o.length → (o.length = max x.length y.length + 1 → c = 0) → (o ≠ [] → W (o.length - 1) ≤ a + b) →
  ∃ r, Ev (fun k => vernierref04_Add.l0 k x y o (c : Int) (o.length : Int)) r ∧ DL r (a + b) := by
 intro d
 induction d with
 | zero =>
  intro o c hl hok hc hv hlast hcan
  have c0 := hlast (by omega)
  subst c0
  have ha := hx.mod_all (i := o.length) (by omega)
  have hb := hy.mod_all (i := o.length) (by omega)
  refine ⟨o, ?_, hok, by rw [ha, hb] at hv; simpa using hv, hcan⟩
  refine evs ?_
  simp only [vernierref04_Add.l0, nI_eq, if_neg (show ¬ (o.length : Int) < (x.length : Int) by omega), if_neg (show ¬ (o.length : Int) < (y.length : Int) by omega), decide_eq_false (show ¬ ((0 : Nat) : Int) > 0 by decide)]
  refine evs ?_
  simp only [vernierref04_Add.j1, nI_eq, Bool.false_eq_true, if_false]
  exact Ev.now _
 | succ d ih =>
  intro o c hl hok hc hv hlast hcan
  have stop : ¬ o.length < x.length → ¬ o.length < y.length → c = 0 → ∃ r, Ev (fun k => vernierref04_Add.l0 k x y o (c : Int) (o.length : Int)) r ∧ DL r (a + b) := by
   intro h1 h2 c0
   subst c0
   have ha := hx.mod_all (i := o.length) (by omega)
   have hb := hy.mod_all (i := o.length) (by omega)
   refine ⟨o, ?_, hok, by rw [ha, hb] at hv; simpa using hv, hcan⟩
   refine evs ?_
   simp only [vernierref04_Add.l0, nI_eq, if_neg (show ¬ (o.length : Int) < (x.length : Int) by omega), if_neg (show ¬ (o.length : Int) < (y.length : Int) by omega), decide_eq_false (show ¬ ((0 : Nat) : Int) > 0 by decide)]
   refine evs ?_
   simp only [vernierref04_Add.j1, nI_eq, Bool.false_eq_true, if_false]
   exact Ev.now _
  have go : (o.length < x.length ∨ o.length < y.length ∨ 0 < c) → ∃ r, Ev (fun k => vernierref04_Add.j1 k x y o (c : Int) (o.length : Int) true) r ∧ DL r (a + b) := by
   intro hg
   have da := dg_lt a o.length
   have db := dg_lt b o.length
   generalize ht : dg a o.length + dg b o.length + c = t
   have htb : t < 33554433 := by omega
   have ev : dv (o ++ [((t % 16777216 : Nat) : Int)]) + W (o.length + 1) * (t / 16777216) = a % W (o.length + 1) + b % W (o.length + 1) := by
    rw [dv_snoc, mod_W_succ, mod_W_succ, W_succ]
    exact add_step hv ht
   have hWl : W o.length ≤ a + b := by
    rcases hg with hg | hg | hg
    ·have := (hx.len_iff _).mp hg; omega
    ·have := (hy.len_iff _).mp hg; omega
    ·have : W o.length * 1 ≤ W o.length * c := Nat.mul_le_mul_left _ hg
     have h1 := Nat.mod_le a (W o.length)
     have h2 := Nat.mod_le b (W o.length)
     omega
   obtain ⟨r, h1, h2⟩ := ih (o ++ [((t % 16777216 : Nat) : Int)]) (t / 16777216) (by simp; omega) (okD_snoc hok (Nat.mod_lt _ (by decide))) (by omega) (by rw [List.length_append, List.length_singleton]; exact ev)
    (fun hlen => by
     rw [List.length_append, List.length_singleton] at hlen
     have := hx.dg_out (i := o.length) (by omega)
     have := hy.dg_out (i := o.length) (by omega)
     omega) (fun _ => by simpa using hWl)
   refine ⟨r, ?_, h2⟩
   refine evs ?_
   simp only [vernierref04_Add.j1, nI_eq, if_true]
   rw [List.length_append, List.length_singleton] at h1
   have hol : o.length < 4611686018427387904 := by omega
   have hol2 : o.length < 17592186044416 := by omega
   simp only [r4_digit hx, r4_digit hy, Option.bind_some, if_pos hol2, w_add3 ht (by omega), tmodL, w_div24 (show t < 4611686018427387904 by omega), w_succ hol]
   exact h1
  by_cases h1 : o.length < x.length
  ·obtain ⟨r, a1, a2⟩ := go (.inl h1)
   refine ⟨r, evs ?_, a2⟩
   simp only [vernierref04_Add.l0, nI_eq, if_pos (show (o.length : Int) < (x.length : Int) by omega)]
   exact a1
  ·by_cases h2 : o.length < y.length
   ·obtain ⟨r, a1, a2⟩ := go (.inr (.inl h2))
    refine ⟨r, evs ?_, a2⟩
    simp only [vernierref04_Add.l0, nI_eq, if_neg (show ¬ (o.length : Int) < (x.length : Int) by omega), if_pos (show (o.length : Int) < (y.length : Int) by omega)]
    exact a1
   ·by_cases h3 : c = 0
    ·exact stop h1 h2 h3
    ·obtain ⟨r, a1, a2⟩ := go (.inr (.inr (by omega)))
     refine ⟨r, evs ?_, a2⟩
     simp only [vernierref04_Add.l0, nI_eq, if_neg (show ¬ (o.length : Int) < (x.length : Int) by omega), if_neg (show ¬ (o.length : Int) < (y.length : Int) by omega), decide_eq_true (show (c : Int) > 0 by omega)]
     exact a1
theorem r4_Add {x y : List Int} {a b : Nat} (hx : DL x a) (hy : DL y b) (hn : x.length ≤ 1000) (hm : y.length ≤ 1000) : ∃ r, Ev (fun k => vernierref04_Add.f k x y) r ∧ DL r (a + b) := by
 have := r4_Add_l hx hy hn hm (max x.length y.length + 1) [] 0 (by simp) okD_nil (by omega) (by simp [dv, W_zero, Nat.mod_one]) (fun h => rfl) (fun h => absurd rfl h)
 simpa [vernierref04_Add.f] using this
theorem r4_times_l {x : List Int} {a q : Nat} (hx : DL x a) (hq : q ≤ 16777216) (hq0 : 0 < q) (hn : x.length ≤ 1000) : ∀ (d : Nat) (o : List Int) (c : Nat), o.length + d = x.length + 1 →
  okD o → c < q → dv o + W o.length * c = a % W o.length * q → (o.length = x.length + 1 → c = 0) → (o ≠ [] → W (o.length - 1) ≤ a * q) →
  ∃ r, Ev (fun k => vernierref04_times.l0 k x (q : Int) o (c : Int) (o.length : Int)) r ∧ DL r (a * q) := by
 intro d
 induction d with
 | zero =>
  intro o c hl hok hc hv hlast hcan
  have c0 := hlast (by omega)
  subst c0
  have ha := hx.mod_all (i := o.length) (by omega)
  refine ⟨o, ?_, hok, by rw [ha] at hv; simpa using hv, hcan⟩
  refine evs ?_
  simp only [vernierref04_times.l0, nI_eq, if_neg (show ¬ (o.length : Int) < (x.length : Int) by omega), if_neg (show ¬ ((0 : Nat) : Int) > 0 by decide)]
  exact Ev.now _
 | succ d ih =>
  intro o c hl hok hc hv hlast hcan
  have da := dg_lt a o.length
  have hmul : dg a o.length * q ≤ 16777215 * q := Nat.mul_le_mul_right _ (by omega)
  generalize ht : dg a o.length * q + c = t
  have htb : t < 16777216 * q := by omega
  have hb : t < 281474976710657 := by omega
  have hol : o.length < 4611686018427387904 := by omega
  have hol2 : o.length < 17592186044416 := by omega
  have hb2 : t < 4611686018427387904 := by omega
  have ev : dv (o ++ [((t % 16777216 : Nat) : Int)]) + W (o.length + 1) * (t / 16777216) = a % W (o.length + 1) * q := by
   rw [dv_snoc, mod_W_succ, W_succ]
   exact times_step hv ht
  have go : (o.length < x.length ∨ 0 < c) → ∃ r, Ev (fun k => vernierref04_times.l0 k x (q : Int) (o ++ [((t % 16777216 : Nat) : Int)]) ((t / 16777216 : Nat) : Int) ((o.length + 1 : Nat) : Int)) r ∧ DL r (a * q) := by
   intro hg
   have hWl : W o.length ≤ a * q := by
    rcases hg with hg | hg
    ·have := (hx.len_iff _).mp hg
     exact Nat.le_trans this (Nat.le_mul_of_pos_right _ hq0)
    ·have h1 : W o.length * 1 ≤ W o.length * c := Nat.mul_le_mul_left _ hg
     have h2 := Nat.mul_le_mul_right q (Nat.mod_le a (W o.length))
     omega
   obtain ⟨r, h1, h2⟩ := ih (o ++ [((t % 16777216 : Nat) : Int)]) (t / 16777216) (by simp; omega) (okD_snoc hok (Nat.mod_lt _ (by decide))) (by omega) (by rw [List.length_append, List.length_singleton]; exact ev)
    (fun hlen => by
     rw [List.length_append, List.length_singleton] at hlen
     have h0 := hx.dg_out (i := o.length) (by omega)
     rw [h0] at ht
     omega) (fun _ => by simpa using hWl)
   rw [List.length_append, List.length_singleton] at h1
   exact ⟨r, h1, h2⟩
  by_cases h1 : o.length < x.length
  ·obtain ⟨r, a1, a2⟩ := go (.inl h1)
   refine ⟨r, evs ?_, a2⟩
   simp only [vernierref04_times.l0, nI_eq, if_pos (show (o.length : Int) < (x.length : Int) by omega), if_pos (show (q : Int) > 0 by omega), r4_digit hx, Option.bind_some, if_pos hol2, w_muladd ht hb2, tmodL, w_div24 hb2, w_succ hol]
   exact a1
  ·by_cases h3 : c = 0
   ·subst h3
    have ha := hx.mod_all (i := o.length) (by omega)
    refine ⟨o, evs ?_, hok, by rw [ha] at hv; simpa using hv, hcan⟩
    simp only [vernierref04_times.l0, nI_eq, if_neg (show ¬ (o.length : Int) < (x.length : Int) by omega), if_neg (show ¬ ((0 : Nat) : Int) > 0 by omega)]
    exact Ev.now _
   ·obtain ⟨r, a1, a2⟩ := go (.inr (by omega))
    refine ⟨r, evs ?_, a2⟩
    simp only [vernierref04_times.l0, nI_eq, if_neg (show ¬ (o.length : Int) < (x.length : Int) by omega), if_pos (show (c : Int) > 0 by omega), r4_digit hx, Option.bind_some, if_pos hol2, w_muladd ht hb2, tmodL, w_div24 hb2, w_succ hol]
    exact a1
theorem r4_times {x : List Int} {a q : Nat} (hx : DL x a) (hq : q ≤ 16777216) (hn : x.length ≤ 1000) : ∃ r, Ev (fun k => vernierref04_times.f k x (q : Int)) r ∧ DL r (a * q) := by
 by_cases hq0 : q = 0
 ·subst hq0
  refine ⟨[], ?_, by rw [Nat.mul_zero]; exact DL.nil⟩
  unfold vernierref04_times.f; try simp only [nI_eq]
  refine evs ?_
  simp only [vernierref04_times.l0, nI_eq, if_neg (show ¬ ((0 : Nat) : Int) > 0 by decide), if_neg (show ¬ (0 : Int) > 0 by decide), ite_self]
  exact Ev.now _
 ·have := r4_times_l hx hq (by omega) hn (x.length + 1) [] 0 (by simp) okD_nil (by omega) (by simp [dv, W_zero, Nat.mod_one]) (fun h => rfl) (fun h => absurd rfl h)
  simpa [vernierref04_times.f] using this
theorem r4_Shl {x : List Int} {a k : Nat} (hx : DL x a) (hk : k ≤ 20000) (hn : x.length ≤ 1000) : ∃ r, Ev (fun n => vernierref04_Shl.f n x (k : Int)) r ∧ DL r (a * 2 ^ k) := by
 by_cases h0 : a = 0
 ·subst h0
  have := hx.zero
  subst this
  refine ⟨[], ?_, by rw [Nat.zero_mul]; exact DL.nil⟩
  unfold vernierref04_Shl.f; try simp only [nI_eq]
  exact evn rfl
 ·have hpos := hx.pos (by omega)
  have t := r4_two (k % 24) (by omega)
  have hp : (2 : Nat) ^ (k % 24) ≤ 2 ^ 24 := pow_le (by omega)
  obtain ⟨s, s1, s2⟩ := r4_times hx (q := 2 ^ (k % 24)) hp hn
  have hs : 0 < a * 2 ^ (k % 24) := Nat.mul_pos (by omega) (two_pos _)
  have hsl := s2.pos hs
  have hsl2 : s.length ≤ x.length + 1 := by
   refine s2.len_le ?_
   rw [W_succ, Nat.mul_comm 16777216]
   have hp' : 2 ^ (k % 24) < 16777216 := by
    have : (2 : Nat) ^ (k % 24) < 2 ^ 24 := pow_lt (by omega)
    exact this
   have h1 := hx.lt
   exact Nat.mul_lt_mul'' h1 hp'
  have ev : dv (List.replicate (k / 24) 0 ++ s) = a * 2 ^ k := by
   rw [dv_append, dv_zeros, s2.val, List.length_replicate]
   unfold W
   have e1 : (2 : Nat) ^ k = 2 ^ (24 * (k / 24)) * 2 ^ (k % 24) := by rw [← Nat.pow_add]; congr 1; omega
   rw [e1]; grind
  refine ⟨List.replicate (k / 24) 0 ++ s, ?_, ?_, ev, ?_⟩
  ·unfold vernierref04_Shl.f; try simp only [nI_eq]
   simp only [if_neg (show ¬ (x.length : Int) = 0 by omega), w_q24 hk, w_r24, if_pos (show (0 : Int) ≤ ((k / 24 : Nat) : Int) by omega), Int.toNat_natCast, if_pos (show k / 24 ≤ 35184372088832 by omega), Option.bind_some]
   refine Ev.bind t (Ev.bind s1 ?_)
   simp only [List.length_replicate, if_pos (show k / 24 + s.length ≤ 17592186044416 by omega)]
   exact Ev.now _
  ·intro d hd
   rcases List.mem_append.mp hd with h | h
   ·exact okD_zeros _ d h
   ·exact s2.ok d h
  ·intro _
   rw [List.length_append, List.length_replicate, show k / 24 + s.length - 1 = k / 24 + (s.length - 1) by omega, W_add]
   have c := s2.can (by intro e; rw [e] at hsl; simp at hsl)
   have e1 : (2 : Nat) ^ k = W (k / 24) * 2 ^ (k % 24) := by unfold W; rw [← Nat.pow_add]; congr 1; omega
   rw [e1]
   have := Nat.mul_le_mul_left (W (k / 24)) c
   rw [show a * (W (k / 24) * 2 ^ (k % 24)) = W (k / 24) * (a * 2 ^ (k % 24)) by grind]
   exact this
theorem r4_Cut {x : List Int} (hok : okD x) (hn : x.length ≤ 1000) : ∃ r, Ev (fun k => vernierref04_Cut.f k x) r ∧ DL r (dv x) := by
 have key : ∀ (n : Nat), n ≤ x.length → dv x < W n → ∃ r, Ev (fun k => vernierref04_Cut.l0 k x (n : Int)) r ∧ DL r (dv x) := by
  intro n
  induction n with
  | zero =>
   intro _ h0
   rw [W_zero] at h0
   refine ⟨[], evs ?_, by rw [show dv x = 0 by omega]; exact DL.nil⟩
   simp only [vernierref04_Cut.l0, nI_eq]
   simp only [if_neg (show ¬ ((0 : Nat) : Int) > 0 by decide), if_pos (show (0 : Int) ≤ ((0 : Nat) : Int) by decide), if_pos (show ((0 : Nat) : Int) ≤ (x.length : Int) by omega)]
   exact evn rfl
  | succ n ih =>
   intro hl hW
   have hn4 : n + 1 < 4611686018427387904 := by omega
   have er := rd_dg hok n
   by_cases hz : dg (dv x) n = 0
   ·have hlt : dv x < W n := by
     have h1 := mod_W_succ (dv x) n
     rw [Nat.mod_eq_of_lt hW, hz, Nat.mul_zero, Nat.add_zero] at h1
     rw [h1]; exact Nat.mod_lt _ (W_pos n)
    obtain ⟨r, a1, a2⟩ := ih (by omega) hlt
    refine ⟨r, evs ?_, a2⟩
    simp only [vernierref04_Cut.l0, nI_eq, w_pred hn4 (Nat.succ_pos n), Nat.add_sub_cancel, if_pos (show ((n + 1 : Nat) : Int) > 0 by omega), if_pos (show (0 : Int) ≤ (n : Int) by omega), if_pos (show (n : Int) < (x.length : Int) by omega), er, hz]
    exact a1
   ·have ht := dv_take hok (n + 1) hl
    rw [Nat.mod_eq_of_lt hW] at ht
    refine ⟨x.take (n + 1), evs ?_, okD_take _ hok, ht, ?_⟩
    ·simp only [vernierref04_Cut.l0, nI_eq, w_pred hn4 (Nat.succ_pos n), Nat.add_sub_cancel, if_pos (show ((n + 1 : Nat) : Int) > 0 by omega), if_pos (show (0 : Int) ≤ (n : Int) by omega), if_pos (show (n : Int) < (x.length : Int) by omega), er, if_neg (show ¬ ((dg (dv x) n : Nat) : Int) = 0 by omega), if_pos (show (0 : Int) ≤ ((n + 1 : Nat) : Int) by omega), if_pos (show ((n + 1 : Nat) : Int) ≤ (x.length : Int) by omega), Int.toNat_natCast]
     exact Ev.now _
    ·intro _
     rw [List.length_take, Nat.min_eq_left hl, Nat.add_sub_cancel]
     rcases Nat.lt_or_ge (dv x) (W n) with h | h
     ·exact absurd (by unfold dg; rw [Nat.div_eq_of_lt h]) hz
     ·exact h
 unfold vernierref04_Cut.f; try simp only [nI_eq]
 exact key x.length (Nat.le_refl _) (dv_lt hok)
theorem r4_Mul_l1 {a b : List Int} {A B i P M : Nat} (ha : DL a A) (hb : DL b B) (hi : i < a.length) (hn : a.length + b.length ≤ 1000)
  (cont : ∀ (l : List Int), okD l → l.length = a.length + b.length → dv l = P + W i * dg A i * B → ∃ r, Ev (fun n => vernierref04_Mul.l0 n a b l ((i + 1 : Nat) : Int)) r ∧ DL r M) :
  ∀ (d k : Nat) (l : List Int) (c : Nat), k + d = b.length → okD l → l.length = a.length + b.length → c < 16777216 → dv l + W (i + k) * c = P + W i * dg A i * (B % W k) → l.getD (i + b.length) 0 = 0 →
   ∃ r, Ev (fun n => vernierref04_Mul.l1 n a b l (i : Int) (c : Int) (k : Int)) r ∧ DL r M
 | 0, k, l, c, h, hok, hl, hc, hv, hz => by
  have hk : k = b.length := by omega
  subst hk
  have hs := dv_set hok (n := i + b.length) (d := c) (by omega) hc
  have hz' : dg (dv l) (i + b.length) = 0 := by have := getD_dg hok (i + b.length); rw [hz] at this; omega
  rw [hz', Nat.mul_zero, Nat.add_zero, hv, hb.mod_all (Nat.le_refl _)] at hs
  obtain ⟨r, r1, r2⟩ := cont _ (okD_set hok hc) (by rw [List.length_set]; exact hl) hs
  refine ⟨r, evs ?_, r2⟩
  have h4 : i + b.length < 4611686018427387904 := by omega
  have h5 : i < 4611686018427387904 := by omega
  simp only [vernierref04_Mul.l1, nI_eq, if_neg (show ¬ (b.length : Int) < (b.length : Int) by omega), w_add rfl h4, w_succ h5, if_pos (show (0 : Int) ≤ ((i + b.length : Nat) : Int) by omega), if_pos (show ((i + b.length : Nat) : Int) < (l.length : Int) by omega), Int.toNat_natCast]
  exact r1
 | d + 1, k, l, c, h, hok, hl, hc, hv, hz => by
  have g0 := dg_lt (dv l) (i + k)
  have g1 := dg_lt A i
  have g2 := dg_lt B k
  have g3 : dg A i * dg B k ≤ 16777215 * 16777215 := Nat.mul_le_mul (by omega) (by omega)
  obtain ⟨p, hp⟩ : ∃ p, dg A i * dg B k = p := ⟨_, rfl⟩
  obtain ⟨t, ht⟩ : ∃ t, dg (dv l) (i + k) + p + c = t := ⟨_, rfl⟩
  have hst := mul_step hok (k := k) (by omega) hv rfl (t := t) (by rw [hp]; exact ht)
  rw [hp] at g3
  have htb : t < 281474976710656 := by omega
  obtain ⟨r, r1, r2⟩ := r4_Mul_l1 ha hb hi hn cont d (k + 1) (l.set (i + k) ((t % 16777216 : Nat) : Int)) (t / 16777216) (by omega) (okD_set hok (Nat.mod_lt _ (by decide))) (by rw [List.length_set]; exact hl) (by omega) hst
   (by rw [List.getD_eq_getElem?_getD, List.getElem?_set_ne (by omega), ← List.getD_eq_getElem?_getD]; exact hz)
  refine ⟨r, evs ?_, r2⟩
  have h4 : i + k < 4611686018427387904 := by omega
  have h5 : k < 4611686018427387904 := by omega
  simp only [vernierref04_Mul.l1, nI_eq, if_pos (show (k : Int) < (b.length : Int) by omega), w_add rfl h4, if_pos (show (0 : Int) ≤ ((i + k : Nat) : Int) by omega), if_pos (show ((i + k : Nat) : Int) < (l.length : Int) by omega), if_pos (show (0 : Int) ≤ (i : Int) by omega), if_pos (show (i : Int) < (a.length : Int) by omega), if_pos (show (0 : Int) ≤ (k : Int) by omega), rd_dg hok, ha.rd, hb.rd]
  simp only [w_mul hp (show p < 4611686018427387904 by omega), w_add3 ht (show t < 4611686018427387904 by omega), tmodL, w_div24 (show t < 4611686018427387904 by omega), w_succ h5, Int.toNat_natCast]
  exact r1
theorem r4_Mul_l0 {a b : List Int} {A B : Nat} (ha : DL a A) (hb : DL b B) (hn : a.length + b.length ≤ 1000) :
  ∀ (d i : Nat) (l : List Int), i + d = a.length → okD l → l.length = a.length + b.length → dv l = A % W i * B → ∃ r, Ev (fun n => vernierref04_Mul.l0 n a b l (i : Int)) r ∧ DL r (A * B)
 | 0, i, l, h, hok, hl, hv => by
  have hi : i = a.length := by omega
  subst hi
  rw [ha.mod_all (Nat.le_refl _)] at hv
  obtain ⟨r, r1, r2⟩ := r4_Cut hok (by omega)
  rw [hv] at r2
  refine ⟨r, evs ?_, r2⟩
  simp only [vernierref04_Mul.l0, nI_eq, if_neg (show ¬ (a.length : Int) < (a.length : Int) by omega)]
  exact Ev.bind r1 (Ev.now _)
 | d + 1, i, l, h, hok, hl, hv => by
  have hlt : dv l < W (i + b.length) := by
   rw [hv, W_add]
   exact Nat.mul_lt_mul'' (Nat.mod_lt _ (W_pos i)) hb.lt
  have hz : l.getD (i + b.length) 0 = 0 := by
   rw [getD_dg hok]; unfold dg; rw [Nat.div_eq_of_lt hlt]; rfl
  obtain ⟨r, r1, r2⟩ := r4_Mul_l1 (P := A % W i * B) (M := A * B) ha hb (i := i) (by omega) hn (fun l' o' e' v' => r4_Mul_l0 ha hb hn d (i + 1) l' (by omega) o' e' (by rw [v', mod_W_succ, Nat.add_mul]))
   b.length 0 l 0 (by omega) hok hl (by decide) (by rw [hv, W_zero, Nat.mod_one, Nat.mul_zero, Nat.mul_zero]) hz
  refine ⟨r, evs ?_, r2⟩
  simp only [vernierref04_Mul.l0, nI_eq, if_pos (show (i : Int) < (a.length : Int) by omega)]
  exact r1
theorem r4_Mul {a b : List Int} {A B : Nat} (ha : DL a A) (hb : DL b B) (hn : a.length + b.length ≤ 1000) : ∃ r, Ev (fun n => vernierref04_Mul.f n a b) r ∧ DL r (A * B) := by
 unfold vernierref04_Mul.f; try simp only [nI_eq]
 by_cases h0 : a.length = 0
 ·have : a = [] := List.eq_nil_of_length_eq_zero h0
  subst this
  have hA : A = 0 := by rw [← ha.val]; rfl
  subst hA
  refine ⟨[], ?_, by rw [Nat.zero_mul]; exact DL.nil⟩
  simp only [List.length_nil, if_pos (show ((0 : Nat) : Int) = 0 from rfl)]
  refine evs ?_
  simp only [vernierref04_Mul.j0, nI_eq, if_true]
  exact Ev.now _
 ·simp only [if_neg (show ¬ (a.length : Int) = 0 by omega)]
  by_cases h1 : b.length = 0
  ·have : b = [] := List.eq_nil_of_length_eq_zero h1
   subst this
   have hB : B = 0 := by rw [← hb.val]; rfl
   subst hB
   refine ⟨[], ?_, by rw [Nat.mul_zero]; exact DL.nil⟩
   refine evs ?_
   simp only [vernierref04_Mul.j0, nI_eq, List.length_nil, if_pos (show (((0 : Nat) : Int) == 0) = true from rfl)]
   exact Ev.now _
  ·obtain ⟨r, r1, r2⟩ := r4_Mul_l0 ha hb hn a.length 0 (List.replicate (a.length + b.length) 0) (by omega) (okD_zeros _) (by rw [List.length_replicate]) (by rw [dv_zeros, W_zero, Nat.mod_one, Nat.zero_mul])
   refine ⟨r, evs ?_, r2⟩
   have h4 : a.length + b.length < 4611686018427387904 := by omega
   have hb0 : ((b.length : Int) == 0) = false := by rw [beq_eq_false_iff_ne]; omega
   simp only [vernierref04_Mul.j0, nI_eq, hb0, Bool.false_eq_true, if_false, w_add rfl h4, if_pos (show (0 : Int) ≤ ((a.length + b.length : Nat) : Int) by omega), Int.toNat_natCast, if_pos (show a.length + b.length ≤ 35184372088832 by omega)]
   exact r1
theorem r4_Cmp_l0 {a b : List Int} {A B : Nat} (ha : DL a A) (hb : DL b B) (hl : a.length = b.length) (hn : a.length ≤ 1000) : ∀ (m : Nat), m ≤ a.length → A / W m = B / W m → Ev (fun k => vernierref04_Cmp.l0 k a b ((m : Int) - 1)) (cmpN A B) := by
 intro m
 induction m with
 | zero =>
  intro hm h
  rw [W_zero, Nat.div_one, Nat.div_one] at h
  refine evs ?_
  simp only [vernierref04_Cmp.l0, nI_eq, if_neg (show ¬ ((0 : Nat) : Int) - 1 ≥ 0 by decide)]
  refine evn ?_
  rw [h]; unfold cmpN; simp
 | succ m ih =>
  intro hm h
  obtain ⟨t1, t2⟩ := dg_top A B m h
  obtain ⟨_, t3⟩ := dg_top B A m h.symm
  have e : ((m + 1 : Nat) : Int) - 1 = (m : Int) := by omega
  have hm4 : m < 4611686018427387904 := by omega
  refine evs ?_
  simp only [vernierref04_Cmp.l0, nI_eq, e, if_pos (show (m : Int) ≥ 0 by omega), if_pos (show (0 : Int) ≤ (m : Int) by omega), if_pos (show (m : Int) < (a.length : Int) by omega), if_pos (show (m : Int) < (b.length : Int) by omega), ha.rd, hb.rd, w_less hm4]
  by_cases h1 : dg A m < dg B m
  ·have := t2.mpr h1
   have hlt : A < B := Nat.lt_of_not_le fun hc => absurd (Nat.div_le_div_right (c := W m) hc) (by omega)
   simp only [if_pos (show ((dg A m : Nat) : Int) < ((dg B m : Nat) : Int) by omega)]
   refine evn ?_
   unfold cmpN; rw [if_pos hlt]
  ·simp only [if_neg (show ¬ ((dg A m : Nat) : Int) < ((dg B m : Nat) : Int) by omega)]
   by_cases h2 : dg B m < dg A m
   ·have := t3.mpr h2
    have hlt : B < A := Nat.lt_of_not_le fun hc => absurd (Nat.div_le_div_right (c := W m) hc) (by omega)
    simp only [if_pos (show ((dg A m : Nat) : Int) > ((dg B m : Nat) : Int) by omega)]
    refine evn ?_
    unfold cmpN; rw [if_neg (by omega), if_neg (by omega)]
   ·simp only [if_neg (show ¬ ((dg A m : Nat) : Int) > ((dg B m : Nat) : Int) by omega)]
    exact ih (by omega) (t1.mpr (by omega))
theorem r4_Cmp {a b : List Int} {A B : Nat} (ha : DL a A) (hb : DL b B) (hn : a.length ≤ 1000) (hm : b.length ≤ 1000) : Ev (fun k => vernierref04_Cmp.f k a b) (cmpN A B) := by
 unfold vernierref04_Cmp.f; try simp only [nI_eq]
 by_cases hl : a.length = b.length
 ·have hn4 : a.length < 4611686018427387904 := by omega
  simp only [if_pos (show (a.length : Int) = (b.length : Int) by omega), w_less hn4]
  refine r4_Cmp_l0 ha hb hl hn a.length (Nat.le_refl _) ?_
  rw [Nat.div_eq_of_lt ha.lt, Nat.div_eq_of_lt (by rw [hl]; exact hb.lt)]
 ·simp only [if_neg (show ¬ (a.length : Int) = (b.length : Int) by omega)]
  rcases Nat.lt_or_ge a.length b.length with h | h
  ·have h1 := ha.lt
   have h2 := (hb.len_iff a.length).mp h
   simp only [if_pos (show (a.length : Int) < (b.length : Int) by omega)]
   refine evn ?_
   unfold cmpN; rw [if_pos (by omega)]
  ·have h1 := hb.lt
   have h2 := (ha.len_iff b.length).mp (by omega)
   simp only [if_neg (show ¬ (a.length : Int) < (b.length : Int) by omega)]
   refine evn ?_
   unfold cmpN; rw [if_neg (by omega), if_neg (by omega)]
theorem r4_Sub_l {x y : List Int} {a b : Nat} (hx : DL x a) (hy : DL y b) (hab : b ≤ a) (hn : x.length ≤ 1000) : ∀ (d : Nat) (o : List Int) (c : Nat), o.length + d = x.length → okD o → c ≤ 1 → dv o + b % W o.length = a % W o.length + W o.length * c →
  ∃ r, Ev (fun k => vernierref04_Sub.l0 k x y o (c : Int) (o.length : Int)) r ∧ DL r (a - b)
 | 0, o, c, hl, hok, hc, hv => by
  have hlt := hx.lt
  have hdo := dv_lt hok
  rw [show o.length = x.length by omega] at hv hdo
  rw [Nat.mod_eq_of_lt hlt, Nat.mod_eq_of_lt (show b < W x.length by omega)] at hv
  have hc0 : c = 0 := by
   rcases (show c = 0 ∨ c = 1 by omega) with h | h
   ·exact h
   ·rw [h, Nat.mul_one] at hv; omega
  rw [hc0, Nat.mul_zero, Nat.add_zero] at hv
  obtain ⟨r, s1, s2⟩ := r4_Cut hok (by omega)
  refine ⟨r, evs ?_, by rw [show a - b = dv o by omega]; exact s2⟩
  simp only [vernierref04_Sub.l0, nI_eq, if_neg (show ¬ (o.length : Int) < (x.length : Int) by omega)]
  exact Ev.bind s1 (Ev.now _)
 | d + 1, o, c, hl, hok, hc, hv => by
  have da := dg_lt a o.length
  have db := dg_lt b o.length
  have hol : o.length < 4611686018427387904 := by omega
  have hol2 : o.length < 17592186044416 := by omega
  have w1 : wrap64 (((dg a o.length : Nat) : Int) - ((dg b o.length : Nat) : Int)) = ((dg a o.length : Nat) : Int) - ((dg b o.length : Nat) : Int) := w64 (by omega) (by omega)
  have w2 : wrap64 (((dg a o.length : Nat) : Int) - ((dg b o.length : Nat) : Int) - (c : Int)) = ((dg a o.length : Nat) : Int) - ((dg b o.length : Nat) : Int) - (c : Int) := w64 (by omega) (by omega)
  have step : ∀ (u t : Nat), u < 16777216 → t ≤ 1 → dg a o.length + 16777216 * t = dg b o.length + c + u →
    ∃ r, Ev (fun k => vernierref04_Sub.l0 k x y (o ++ [(u : Int)]) (t : Int) ((o.length + 1 : Nat) : Int)) r ∧ DL r (a - b) := by
   intro u t hu ht he
   have ih := r4_Sub_l hx hy hab hn d (o ++ [(u : Int)]) t (by simp; omega) (okD_snoc hok hu) ht (by
    rw [List.length_append, List.length_singleton, dv_snoc, mod_W_succ, mod_W_succ, W_succ]
    have := sub_step hv he
    grind)
   rw [List.length_append, List.length_singleton] at ih
   exact ih
  by_cases h : dg a o.length < dg b o.length + c
  ·obtain ⟨r, r1, r2⟩ := step (dg a o.length + 16777216 - dg b o.length - c) 1 (by omega) (by omega) (by omega)
   refine ⟨r, evs ?_, r2⟩
   have w3 : wrap64 (((dg a o.length : Nat) : Int) - ((dg b o.length : Nat) : Int) - (c : Int) + 16777216) = ((dg a o.length + 16777216 - dg b o.length - c : Nat) : Int) := by rw [w64 (by omega) (by omega)]; omega
   simp only [vernierref04_Sub.l0, nI_eq, if_pos (show (o.length : Int) < (x.length : Int) by omega), if_pos (show (0 : Int) ≤ (o.length : Int) by omega), r4_digit hy, Option.bind_some, hx.rd, w1, w2, if_pos (show ((dg a o.length : Nat) : Int) - ((dg b o.length : Nat) : Int) - (c : Int) < 0 by omega), w3, if_pos hol2, w_succ hol]
   exact r1
  ·obtain ⟨r, r1, r2⟩ := step (dg a o.length - dg b o.length - c) 0 (by omega) (by omega) (by omega)
   refine ⟨r, evs ?_, r2⟩
   have w3 : wrap64 (((dg a o.length : Nat) : Int) - ((dg b o.length : Nat) : Int) - (c : Int)) = ((dg a o.length - dg b o.length - c : Nat) : Int) := by rw [w2]; omega
   simp only [vernierref04_Sub.l0, nI_eq, if_pos (show (o.length : Int) < (x.length : Int) by omega), if_pos (show (0 : Int) ≤ (o.length : Int) by omega), r4_digit hy, Option.bind_some, hx.rd, w1, w3, if_neg (show ¬ ((dg a o.length - dg b o.length - c : Nat) : Int) < 0 by omega), if_pos hol2, w_succ hol]
   exact r1
theorem r4_Sub {x y : List Int} {a b : Nat} (hx : DL x a) (hy : DL y b) (hab : b ≤ a) (hn : x.length ≤ 1000) : ∃ r, Ev (fun k => vernierref04_Sub.f k x y) r ∧ DL r (a - b) := by
 have := r4_Sub_l hx hy hab hn x.length [] 0 (by simp) okD_nil (by omega) (by simp [dv, W_zero, Nat.mod_one])
 simpa [vernierref04_Sub.f] using this
end Go.Proofs.Ythofoolgbngobaa.V
namespace Go.Proofs.Ythofoolgbngobaa.V
open Go Go.RowKit Go.Proofs.Ythofoolgbngobaa.Ab Go.Proofs.Ythofoolgbngobaa.Fn
set_option linter.unusedVariables false
set_option linter.unusedSimpArgs false
def n4 (a b c d : Nat) : Nat := ((a * 18446744073709551616 + b) * 18446744073709551616 + c) * 18446744073709551616 + d
structure W4 (a b c d W : Nat) : Prop where
 ha : a < 18446744073709551616
 hb : b < 18446744073709551616
 hc : c < 18446744073709551616
 hd : d < 18446744073709551616
 e : n4 a b c d = W
theorem W4.zero : W4 0 0 0 0 0 := ⟨by decide, by decide, by decide, by decide, rfl⟩
theorem W4.of {V : Nat} (h : V < 2 ^ 128) : W4 (V / 18446744073709551616) (V % 18446744073709551616) 0 0 (V * 2 ^ 128) := by
 rw [p128] at *
 refine ⟨by omega, by omega, by decide, by decide, ?_⟩
 unfold n4
 omega
theorem W4.lt {a b c d W : Nat} (h : W4 a b c d W) : W < 2 ^ 256 := by
 obtain ⟨ha, hb, hc, hd, e⟩ := h
 unfold n4 at e
 rw [show (2 : Nat) ^ 256 = 18446744073709551616 * 18446744073709551616 * 18446744073709551616 * 18446744073709551616 by decide]
 omega
theorem W4.eq0 {a b c d W : Nat} (h : W4 a b c d W) : W = 0 ↔ a = 0 ∧ b = 0 ∧ c = 0 ∧ d = 0 := by
 obtain ⟨ha, hb, hc, hd, e⟩ := h
 unfold n4 at e
 omega
theorem W4.parts {a b c d W : Nat} (h : W4 a b c d W) : 2 ^ 128 * (a * 18446744073709551616 + b) + (c * 18446744073709551616 + d) = W := by
 have e := h.e
 unfold n4 at e
 rw [p128]
 omega
theorem W4.lowlt {a b c d W : Nat} (h : W4 a b c d W) : c * 18446744073709551616 + d < 2 ^ 128 := by
 have e := h.hc
 have e := h.hd
 rw [p128]
 omega
theorem W4.top {a b c d W : Nat} (h : W4 a b c d W) : a * 18446744073709551616 + b = W / 2 ^ 128 := by
 have h2 := h.parts
 have h3 := h.lowlt
 rw [← h2, Nat.mul_add_div (two_pos 128), Nat.div_eq_of_lt h3, Nat.add_zero]
theorem W4.low {a b c d W : Nat} (h : W4 a b c d W) : W % 2 ^ 128 = c * 18446744073709551616 + d := by
 have h2 := h.parts
 have h3 := h.lowlt
 rw [← h2, Nat.mul_add_mod, Nat.mod_eq_of_lt h3]
theorem W4.hi {a b c d W : Nat} (h : W4 a b c d W) : (a : Int) = TH (W / 2 ^ 128) ∧ (b : Int) = TL (W / 2 ^ 128) := by
 rw [← h.top]
 have := h.hb
 exact ⟨(TH_of this).symm, (TL_of this).symm⟩
theorem n4_shift {B p q a b c d : Nat} (hB : p * q = B) (hp : 0 < p) (hq : 0 < q) (ha : a < B) (hb : b < B) (hc : c < B) (hd : d < B) :
  a / p < B ∧ b / p + a % p * q < B ∧ c / p + b % p * q < B ∧ d / p + c % p * q < B ∧
  (((a * B + b) * B + c) * B + d) / p = (((a / p) * B + (b / p + a % p * q)) * B + (c / p + b % p * q)) * B + (d / p + c % p * q) ∧
  (((a * B + b) * B + c) * B + d) % p = d % p := by
 have key : ∀ x y, x < B → x / p + y % p * q < B := by
  intro x y hx
  have h1 : x / p < q := by rw [Nat.div_lt_iff_lt_mul hp, Nat.mul_comm, hB]; exact hx
  have h2 := Nat.mul_le_mul_right q (show y % p + 1 ≤ p from Nat.mod_lt _ hp)
  rw [hB, Nat.add_mul] at h2
  omega
 have e : ((a * B + b) * B + c) * B + d = p * ((((a / p) * B + (b / p + a % p * q)) * B + (c / p + b % p * q)) * B + (d / p + c % p * q)) + d % p := by
  have da := Nat.div_add_mod a p
  have db := Nat.div_add_mod b p
  have dc := Nat.div_add_mod c p
  have dd := Nat.div_add_mod d p
  generalize a / p = a1 at *
  generalize a % p = a0 at *
  generalize b / p = b1 at *
  generalize b % p = b0 at *
  generalize c / p = c1 at *
  generalize c % p = c0 at *
  generalize d / p = d1 at *
  generalize d % p = d0 at *
  subst hB
  subst da db dc dd
  grind
 refine ⟨Nat.lt_of_le_of_lt (Nat.div_le_self _ _) ha, key b a hb, key c b hc, key d c hd, ?_, ?_⟩
 ·rw [e, Nat.mul_add_div hp, Nat.div_eq_of_lt (Nat.mod_lt _ hp), Nat.add_zero]
 ·rw [e, Nat.mul_add_mod, Nat.mod_mod]
theorem or_shift {x y s : Nat} (hs : s ≤ 64) (hx : x < 18446744073709551616) : Go.bits .or .u64 (shr .u64 (x : Int) (s : Int)) (shl .u64 (y : Int) ((64 - s : Nat) : Int)) = ((x / 2 ^ s + y % 2 ^ s * 2 ^ (64 - s) : Nat) : Int) := by
 have hq := pow_split hs
 have e : y * 2 ^ (64 - s) % 18446744073709551616 = y % 2 ^ s * 2 ^ (64 - s) := by
  rw [← p64, ← hq, Nat.mul_mod_mul_right]
 have h1 : x / 2 ^ s < 2 ^ (64 - s) := by
  rw [Nat.div_lt_iff_lt_mul (two_pos s), Nat.mul_comm, hq, p64]; exact hx
 rw [shr_nat x s hs, shl_nat y (64 - s) (by omega), e, or_nat _ _ (Nat.lt_of_le_of_lt (Nat.div_le_self _ _) hx) (by rw [← e]; exact Nat.mod_lt _ (by decide)), Nat.or_comm, or_parts h1, Nat.add_comm]
theorem under_l0 : ∀ (m s : Nat) (a b c d : Nat) (L : Bool), s / 64 = m → s < 4294967296 → a < 18446744073709551616 → b < 18446744073709551616 → c < 18446744073709551616 → d < 18446744073709551616 →
  ∃ a' b' c' d' : Nat, W4 a' b' c' d' (n4 a b c d / 2 ^ s) ∧ Ev (fun k => broad_wide_under.l0 k (s : Int) L (a : Int) (b : Int) (c : Int) (d : Int)) ((a' : Int), (b' : Int), (c' : Int), (d' : Int), L || decide (n4 a b c d % 2 ^ s ≠ 0))
 | 0, s, a, b, c, d, L, hm, hs, ha, hb, hc, hd => by
  have h64 : s < 64 := by omega
  have sp := pow_split (Nat.le_of_lt h64)
  rw [p64] at sp
  have e64 : wrap64 (64 - (s : Int)) = ((64 - s : Nat) : Int) := by rw [w64 (by omega) (by omega)]; omega
  have c1 : ¬ (s : Int) ≥ 64 := by omega
  have c2 : (0 : Int) ≤ (s : Int) := by omega
  have c3 : (0 : Int) ≤ ((64 - s : Nat) : Int) := by omega
  obtain ⟨k1, k2, k3, k4, k5, k6⟩ := n4_shift sp (two_pos s) (two_pos _) ha hb hc hd
  refine ⟨_, _, _, _, ⟨k1, k2, k3, k4, k5.symm⟩, evs ?_⟩
  rw [show n4 a b c d % 2 ^ s = d % 2 ^ s from k6]
  simp only [broad_wide_under.l0]
  simp only [if_neg c1]
  by_cases h0 : s = 0
  ·subst h0
   rw [if_pos (show ((0 : Nat) : Int) = 0 from rfl)]
   refine evn ?_
   simp only [Nat.pow_zero, Nat.div_one, Nat.mod_one, Nat.zero_mul, Nat.add_zero]
   cases L <;> rfl
  ·rw [if_neg (show ¬ (s : Int) = 0 from fun h => h0 (Int.ofNat.inj h)), e64]
   have hz : (shl .u64 (d : Int) ((64 - s : Nat) : Int) != 0) = decide (d % 2 ^ s ≠ 0) := by
    rw [shl_nat d (64 - s) (Nat.sub_le _ _), ← p64, ← pow_split (Nat.le_of_lt h64), Nat.mul_mod_mul_right]
    have := two_pos (64 - s)
    rw [Bool.eq_iff_iff]
    simp only [bne_iff_ne, decide_eq_true_eq, ne_eq, Int.natCast_eq_zero, Nat.mul_eq_zero]
    constructor
    ·intro h h'; exact h (.inl h')
    ·rintro h (h' | h')
     ·exact h h'
     ·omega
   rw [or_shift (Nat.le_of_lt h64) hb, or_shift (Nat.le_of_lt h64) hc, or_shift (Nat.le_of_lt h64) hd, shr_nat a s (Nat.le_of_lt h64), hz]
   cases L
   ·simp only [Bool.false_or]
    rw [if_neg (by decide), if_pos c3, if_pos c2]
    exact Ev.now _
   ·simp only [Bool.true_or]
    rw [if_pos trivial, if_pos c2, if_pos c3]
    exact Ev.now _
 | m + 1, s, a, b, c, d, L, hm, hs, ha, hb, hc, hd => by
  have h64 : 64 ≤ s := by omega
  have e64 : wrap64 ((s : Int) - 64) = ((s - 64 : Nat) : Int) := by rw [w64 (by omega) (by omega)]; omega
  obtain ⟨a', b', c', d', hw, hE⟩ := under_l0 m (s - 64) 0 a b c (L || decide (d ≠ 0)) (by omega) (by omega) (by decide) ha hb hc
  have hn : n4 0 a b c = n4 a b c d / 2 ^ 64 := by unfold n4; rw [p64]; omega
  have hd0 : n4 a b c d % 2 ^ 64 = d := by unfold n4; rw [p64]; omega
  have hsp : (2 : Nat) ^ s = 2 ^ 64 * 2 ^ (s - 64) := by rw [← Nat.pow_add]; congr 1; omega
  have e1 : n4 0 a b c / 2 ^ (s - 64) = n4 a b c d / 2 ^ s := by rw [hn, hsp, Nat.div_div_eq_div_mul]
  have e2 : (L || decide (d ≠ 0) || decide (n4 0 a b c % 2 ^ (s - 64) ≠ 0)) = (L || decide (n4 a b c d % 2 ^ s ≠ 0)) := by
   rw [hsp, Nat.mod_mul, hd0, ← hn, Bool.or_assoc]
   congr 1
   have := two_pos 64
   rw [Bool.eq_iff_iff]
   simp only [Bool.or_eq_true, decide_eq_true_eq, ne_eq, Nat.add_eq_zero_iff, Nat.mul_eq_zero]
   generalize n4 0 a b c % 2 ^ (s - 64) = r
   have : (2 : Nat) ^ 64 ≠ 0 := by omega
   constructor
   ·rintro (h | h) ⟨h1, h2⟩
    ·exact h h1
    ·rcases h2 with h2 | h2
     ·exact this h2
     ·exact h h2
   ·intro h
    by_cases h1 : d = 0
    ·exact .inr fun h2 => h ⟨h1, .inr h2⟩
    ·exact .inl h1
  rw [e1] at hw
  rw [e2] at hE
  refine ⟨a', b', c', d', hw, evs ?_⟩
  simp only [broad_wide_under.l0]
  simp only [if_pos (show (s : Int) ≥ 64 by omega), e64]
  have hne : ((d : Int) != 0) = decide (d ≠ 0) := by
   rw [Bool.eq_iff_iff]; simp
  simp only [hne]
  cases L
  ·simp only [if_neg (show ¬ (false = true) by decide)]; exact hE
  ·simp only [if_pos]; exact hE
theorem under_eq {a b c d W s : Nat} (h : W4 a b c d W) (hs : s < 9223372036854775808) : ∃ a' b' c' d' : Nat, W4 a' b' c' d' (W / 2 ^ s) ∧
  Ev (fun k => broad_wide_under.f k (a : Int) (b : Int) (c : Int) (d : Int) (s : Int)) ((a' : Int), (b' : Int), (c' : Int), (d' : Int), decide (W % 2 ^ s ≠ 0)) := by
 unfold broad_wide_under.f
 by_cases h2 : 256 ≤ s
 ·have hlt : W < 2 ^ s := Nat.lt_of_lt_of_le h.lt (pow_le h2)
  refine ⟨0, 0, 0, 0, by rw [Nat.div_eq_of_lt hlt]; exact W4.zero, ?_⟩
  simp only [if_pos (show (s : Int) ≥ 256 by omega)]
  rw [Nat.mod_eq_of_lt hlt]
  refine evn ?_
  have hb : (!(((a : Int) == 0) && (((b : Int) == 0) && (((c : Int) == 0) && ((d : Int) == 0))))) = decide (W ≠ 0) := by
   have := h.eq0
   rw [Bool.eq_iff_iff]
   simp only [Bool.not_eq_true', decide_eq_true_eq, ne_eq, this, Bool.and_eq_false_iff, beq_eq_false_iff_ne, Int.natCast_eq_zero]
   omega
  rw [hb]; rfl
 ·simp only [if_neg (show ¬ (s : Int) ≥ 256 by omega)]
  obtain ⟨a', b', c', d', hw, hE⟩ := under_l0 (s / 64) s a b c d false rfl (by omega) h.ha h.hb h.hc h.hd
  rw [h.e, Bool.false_or] at hE
  rw [h.e] at hw
  exact ⟨a', b', c', d', hw, hE⟩
theorem Ob {α β : Type} {o : Option α} {v : α} {f : α → Option β} {r : Option β} (h : o = some v) (h2 : f v = r) : o.bind f = r := by subst h; exact h2
theorem add64_nat {x y r : Nat} (hx : x < 18446744073709551616) (hy : y < 18446744073709551616) (hr : r ≤ 1) : ∃ m q : Nat, m < 18446744073709551616 ∧ q ≤ 1 ∧ x + y + r = 18446744073709551616 * q + m ∧ bits_Add64.f (x : Int) (y : Int) (r : Int) = some ((m : Int), (q : Int)) := by
 refine ⟨(x + y + r) % 18446744073709551616, (x + y + r) / 18446744073709551616, Nat.mod_lt _ (by decide), by omega, (Nat.div_add_mod _ _).symm, ?_⟩
 unfold bits_Add64.f
 rw [if_pos (by omega)]
 rfl
theorem p256 : (2 : Nat) ^ 256 = 18446744073709551616 * 18446744073709551616 * 18446744073709551616 * 18446744073709551616 := by decide
theorem sum4 {B a b c d a' b' c' d' q0 q1 q2 q3 w z y x : Nat} (w3 : d + d' + 0 = B * q0 + w) (z3 : c + c' + q0 = B * q1 + z) (y3 : b + b' + q1 = B * q2 + y) (x3 : a + a' + q2 = B * q3 + x) :
  (((a * B + b) * B + c) * B + d) + (((a' * B + b') * B + c') * B + d') = B * B * B * B * q3 + (((x * B + y) * B + z) * B + w) := by
 have e1 : (((a * B + b) * B + c) * B + d) + (((a' * B + b') * B + c') * B + d') = (((a + a') * B + (b + b')) * B + (c + c')) * B + (d + d' + 0) := by grind
 have e2 : (((a + a') * B + (b + b')) * B + (c + c')) * B + (B * q0 + w) = (((a + a') * B + (b + b')) * B + (c + c' + q0)) * B + w := by grind
 have e3 : (((a + a') * B + (b + b')) * B + (B * q1 + z)) * B + w = (((a + a') * B + (b + b' + q1)) * B + z) * B + w := by grind
 have e4 : (((a + a') * B + (B * q2 + y)) * B + z) * B + w = (((a + a' + q2) * B + y) * B + z) * B + w := by grind
 rw [e1, w3, e2, z3, e3, y3, e4, x3]
 grind
theorem dif4 {B a b c d a' b' c' d' q0 q1 q2 q3 w z y x r : Nat} (w3 : d + B * q0 = d' + r + w) (z3 : c + B * q1 = c' + q0 + z) (y3 : b + B * q2 = b' + q1 + y) (x3 : a + B * q3 = a' + q2 + x) :
  (((a * B + b) * B + c) * B + d) + B * B * B * B * q3 = (((a' * B + b') * B + c') * B + d') + r + (((x * B + y) * B + z) * B + w) := by
 have a1 := congrArg (fun t => t * (B * B * B)) x3
 have a2 := congrArg (fun t => t * (B * B)) y3
 have a3 := congrArg (fun t => t * B) z3
 grind
theorem plus_eq {a b c d W a' b' c' d' X : Nat} (h : W4 a b c d W) (h' : W4 a' b' c' d' X) : ∃ x y z w q : Nat, W4 x y z w ((W + X) % 2 ^ 256) ∧ q = (W + X) / 2 ^ 256 ∧
  broad_wide_plus.f (a : Int) (b : Int) (c : Int) (d : Int) (a' : Int) (b' : Int) (c' : Int) (d' : Int) = some ((x : Int), (y : Int), (z : Int), (w : Int), (q : Int)) := by
 obtain ⟨ha, hb, hc, hd, e⟩ := h
 obtain ⟨ga, gb, gc, gd, g⟩ := h'
 obtain ⟨w, q0, w1, w2, w3, w4⟩ := add64_nat (r := 0) hd gd (by decide)
 obtain ⟨z, q1, z1, z2, z3, z4⟩ := add64_nat hc gc w2
 obtain ⟨y, q2, y1, y2, y3, y4⟩ := add64_nat hb gb z2
 obtain ⟨x, q3, x1, x2, x3, x4⟩ := add64_nat ha ga y2
 have hw : W4 x y z w (n4 x y z w) := ⟨x1, y1, z1, w1, rfl⟩
 have hs : W + X = 2 ^ 256 * q3 + n4 x y z w := by
  have t := sum4 w3 z3 y3 x3
  rw [← p256] at t
  subst e g
  exact t
 refine ⟨x, y, z, w, q3, ?_, ?_, ?_⟩
 ·rw [hs, Nat.mul_add_mod, Nat.mod_eq_of_lt hw.lt]; exact hw
 ·rw [hs, Nat.mul_add_div (two_pos 256), Nat.div_eq_of_lt hw.lt]; rfl
 ·unfold broad_wide_plus.f
  rw [show (0 : Int) = ((0 : Nat) : Int) from rfl]
  exact Ob w4 (Ob z4 (Ob y4 (Ob x4 rfl)))
theorem sub64_nat {x y r : Nat} (hx : x < 18446744073709551616) (hy : y < 18446744073709551616) (hr : r ≤ 1) : ∃ m q : Nat, m < 18446744073709551616 ∧ q ≤ 1 ∧ x + 18446744073709551616 * q = y + r + m ∧ bits_Sub64.f (x : Int) (y : Int) (r : Int) = some ((m : Int), (q : Int)) := by
 by_cases h : x < y + r
 ·refine ⟨x + 18446744073709551616 - y - r, 1, by omega, by omega, by omega, ?_⟩
  unfold bits_Sub64.f
  rw [if_pos (by omega), if_pos (by omega)]
  congr 2
  omega
 ·refine ⟨x - y - r, 0, by omega, by omega, by omega, ?_⟩
  unfold bits_Sub64.f
  rw [if_pos (by omega), if_neg (by omega)]
  congr 2
  omega
theorem less_eq {a b c d W a' b' c' d' X r : Nat} (h : W4 a b c d W) (h' : W4 a' b' c' d' X) (hr : r ≤ 1) : ∃ x y z w q : Nat, W4 x y z w (n4 x y z w) ∧ q ≤ 1 ∧ W + 2 ^ 256 * q = X + r + n4 x y z w ∧
  broad_wide_less.f (a : Int) (b : Int) (c : Int) (d : Int) (a' : Int) (b' : Int) (c' : Int) (d' : Int) (r : Int) = some ((x : Int), (y : Int), (z : Int), (w : Int), (q : Int)) := by
 obtain ⟨ha, hb, hc, hd, e⟩ := h
 obtain ⟨ga, gb, gc, gd, g⟩ := h'
 obtain ⟨w, q0, w1, w2, w3, w4⟩ := sub64_nat hd gd hr
 obtain ⟨z, q1, z1, z2, z3, z4⟩ := sub64_nat hc gc w2
 obtain ⟨y, q2, y1, y2, y3, y4⟩ := sub64_nat hb gb z2
 obtain ⟨x, q3, x1, x2, x3, x4⟩ := sub64_nat ha ga y2
 refine ⟨x, y, z, w, q3, ⟨x1, y1, z1, w1, rfl⟩, x2, ?_, ?_⟩
 ·have t := dif4 w3 z3 y3 x3
  rw [← p256] at t
  subst e g
  exact t
 ·unfold broad_wide_less.f
  exact Ob w4 (Ob z4 (Ob y4 (Ob x4 rfl)))
theorem n4_up {B p q a b c d : Nat} (hB : p * q = B) (hp : 0 < p) (hq : 0 < q) (ha : a < q) (hb : b < B) (hc : c < B) (hd : d < B) :
  a * p + b / q < B ∧ b % q * p + c / q < B ∧ c % q * p + d / q < B ∧ d % q * p < B ∧
  (((a * p + b / q) * B + (b % q * p + c / q)) * B + (c % q * p + d / q)) * B + d % q * p = (((a * B + b) * B + c) * B + d) * p := by
 have key : ∀ x y, y < q → x < B → y * p + x / q < B := by
  intro x y hy hx
  have h1 : x / q < p := by rw [Nat.div_lt_iff_lt_mul hq, hB]; exact hx
  have h2 := Nat.mul_le_mul_right p (show y + 1 ≤ q from hy)
  rw [Nat.mul_comm q, hB, Nat.add_mul] at h2
  omega
 have k0 := key 0 (d % q) (Nat.mod_lt _ hq) (by omega)
 rw [Nat.zero_div, Nat.add_zero] at k0
 refine ⟨key b a ha hb, key c _ (Nat.mod_lt _ hq) hc, key d _ (Nat.mod_lt _ hq) hd, k0, ?_⟩
 have db := Nat.div_add_mod b q
 have dc := Nat.div_add_mod c q
 have dd := Nat.div_add_mod d q
 generalize b / q = b1 at *
 generalize b % q = b0 at *
 generalize c / q = c1 at *
 generalize c % q = c0 at *
 generalize d / q = d1 at *
 generalize d % q = d0 at *
 subst hB
 subst db dc dd
 grind
theorem or_up {x y s : Nat} (hs : s ≤ 64) (hy : y < 18446744073709551616) : Go.bits .or .u64 (shl .u64 (x : Int) (s : Int)) (shr .u64 (y : Int) ((64 - s : Nat) : Int)) = ((x % 2 ^ (64 - s) * 2 ^ s + y / 2 ^ (64 - s) : Nat) : Int) := by
 have hq := pow_split hs
 have e : x * 2 ^ s % 18446744073709551616 = x % 2 ^ (64 - s) * 2 ^ s := by
  rw [← p64, ← hq, Nat.mul_comm (2 ^ s), Nat.mul_mod_mul_right]
 have h1 : y / 2 ^ (64 - s) < 2 ^ s := by
  rw [Nat.div_lt_iff_lt_mul (two_pos _), hq, p64]; exact hy
 rw [shl_nat x s hs, shr_nat y (64 - s) (Nat.sub_le _ _), e, or_nat _ _ (by rw [← e]; exact Nat.mod_lt _ (by decide)) (Nat.lt_of_le_of_lt (Nat.div_le_self _ _) hy), or_parts h1]
theorem shl_up {x s : Nat} (hs : s ≤ 64) : shl .u64 (x : Int) (s : Int) = ((x % 2 ^ (64 - s) * 2 ^ s : Nat) : Int) := by
 have hq := pow_split hs
 rw [shl_nat x s hs, ← p64, ← hq, Nat.mul_comm (2 ^ s), Nat.mul_mod_mul_right]
theorem n4_bl {a b c d : Nat} (h0 : 0 < a) (hb : b < 18446744073709551616) (hc : c < 18446744073709551616) (hd : d < 18446744073709551616) : bl (n4 a b c d) = bl a + 192 := by
 have c0 := bl_pos h0
 have c1 := bl_le h0
 have c2 := bl_lt a
 have p192 : (2 : Nat) ^ 192 = 18446744073709551616 * 18446744073709551616 * 18446744073709551616 := by decide
 have lo : 18446744073709551616 * 18446744073709551616 * 18446744073709551616 * a ≤ n4 a b c d := by unfold n4; omega
 have hi : n4 a b c d < 18446744073709551616 * 18446744073709551616 * 18446744073709551616 * (a + 1) := by unfold n4; omega
 rw [← p192] at lo hi
 refine bl_unique (by omega) ?_ ?_
 ·rw [show bl a + 192 - 1 = 192 + (bl a - 1) by omega, Nat.pow_add]
  exact Nat.le_trans (Nat.mul_le_mul_left _ c1) lo
 ·rw [Nat.add_comm, Nat.pow_add]
  exact Nat.lt_of_lt_of_le hi (Nat.mul_le_mul_left _ c2)
def RaisedP (a b c d k : Nat) : Prop := ∃ a' b' c' d' : Nat, W4 a' b' c' d' (n4 a b c d * 2 ^ (256 - bl (n4 a b c d))) ∧
  Ev (fun n => broad_wide_raised.l0 n (k : Int) (a : Int) (b : Int) (c : Int) (d : Int)) ((a' : Int), (b' : Int), (c' : Int), (d' : Int), ((k + (256 - bl (n4 a b c d)) : Nat) : Int))
theorem raised_base {a b c d k : Nat} (h0 : 0 < a) (ha : a < 18446744073709551616) (hb : b < 18446744073709551616) (hc : c < 18446744073709551616) (hd : d < 18446744073709551616) (hk : k < 4294967296) : RaisedP a b c d k := by
 have hbl := n4_bl h0 hb hc hd
 have g0 := bl_pos h0
 have g1 := bl_le_of_lt (show a < 2 ^ 64 by rw [p64]; exact ha)
 have g2 := bl_lt a
 obtain ⟨s, hs⟩ : ∃ s, s = 64 - bl a := ⟨_, rfl⟩
 have s1 : 256 - bl (n4 a b c d) = s := by omega
 have s2 : 64 - s = bl a := by omega
 have s3 : s ≤ 64 := by omega
 have s4 : wrap64 (64 - (bl a : Int)) = (s : Int) := by rw [w64 (by omega) (by omega)]; omega
 have s5 : wrap64 (64 - (s : Int)) = ((64 - s : Nat) : Int) := by rw [w64 (by omega) (by omega)]; omega
 have s6 : wrap64 ((k : Int) + (s : Int)) = ((k + s : Nat) : Int) := by rw [w64 (by omega) (by omega)]; omega
 have s7 : ¬ (a : Int) = 0 := by omega
 have s8 : (0 : Int) ≤ (s : Int) := by omega
 have s9 : (0 : Int) ≤ ((64 - s : Nat) : Int) := by omega
 have sp := pow_split s3
 rw [p64] at sp
 obtain ⟨k1, k2, k3, k4, k5⟩ := n4_up sp (two_pos s) (two_pos _) (by rw [s2]; exact g2) hb hc hd
 have L : bits_LeadingZeros64.f (a : Int) = some (s : Int) := by
  unfold bits_LeadingZeros64.f bits_Len64.f
  rw [if_pos (by omega)]
  simp only [Option.bind_some]
  rw [Int.toNat_natCast, bitLen_bl (by rw [p64]; exact ha), s4]
 unfold RaisedP
 rw [s1]
 refine ⟨_, _, _, _, ⟨k1, k2, k3, k4, k5⟩, evs ?_⟩
 simp only [broad_wide_raised.l0]
 simp only [if_neg s7]
 refine Ev.bind (evn L) ?_
 by_cases z : s = 0
 ·rw [if_pos (by omega)]
  refine evn ?_
  subst z
  have e : ∀ x, x < 18446744073709551616 → x / 2 ^ (64 - 0) = 0 ∧ x % 2 ^ (64 - 0) = x := by
   intro x hx
   rw [← p64] at hx
   exact ⟨Nat.div_eq_of_lt hx, Nat.mod_eq_of_lt hx⟩
  rw [(e b hb).1, (e b hb).2, (e c hc).1, (e c hc).2, (e d hd).1, (e d hd).2]
  simp only [Nat.pow_zero, Nat.mul_one, Nat.add_zero]
 ·rw [if_neg (by omega), s5, if_pos s8, if_pos s9]
  rw [or_up s3 hb, or_up s3 hc, or_up s3 hd, shl_up s3, s6, Nat.mod_eq_of_lt (show a < 2 ^ (64 - s) by rw [s2]; exact g2)]
  exact Ev.now _
theorem raised_step {b c d k : Nat} (h0 : b ≠ 0 ∨ c ≠ 0 ∨ d ≠ 0) (hb : b < 18446744073709551616) (hc : c < 18446744073709551616) (hd : d < 18446744073709551616) (hk : k < 4294967296) (h : RaisedP b c d 0 (k + 64)) : RaisedP 0 b c d k := by
 unfold RaisedP at *
 have e : n4 b c d 0 = n4 0 b c d * 2 ^ 64 := by unfold n4; rw [p64]; omega
 have hp : 0 < n4 0 b c d := by unfold n4; omega
 have hlt : n4 0 b c d < 2 ^ 192 := by
  rw [show (2 : Nat) ^ 192 = 18446744073709551616 * 18446744073709551616 * 18446744073709551616 by decide]
  unfold n4; omega
 have l := bl_le_of_lt hlt
 rw [e, bl_mul_pow 64 hp, Nat.mul_assoc, ← Nat.pow_add] at h
 generalize n4 0 b c d = W at *
 have e1 : 64 + (256 - (bl W + 64)) = 256 - bl W := by omega
 have e2 : k + 64 + (256 - (bl W + 64)) = k + (256 - bl W) := by omega
 rw [e1, e2] at h
 obtain ⟨a', b', c', d', hw, hE⟩ := h
 refine ⟨a', b', c', d', hw, evs ?_⟩
 simp only [broad_wide_raised.l0]
 simp only [if_pos (show ((0 : Nat) : Int) = 0 from rfl)]
 rw [show wrap64 ((k : Int) + 64) = ((k + 64 : Nat) : Int) by rw [w64 (by omega) (by omega)]; omega]
 exact hE
theorem raised_eq {a b c d W : Nat} (h : W4 a b c d W) (h0 : 0 < W) : ∃ a' b' c' d' : Nat, W4 a' b' c' d' (W * 2 ^ (256 - bl W)) ∧
  Ev (fun n => broad_wide_raised.f n (a : Int) (b : Int) (c : Int) (d : Int)) ((a' : Int), (b' : Int), (c' : Int), (d' : Int), ((256 - bl W : Nat) : Int)) := by
 obtain ⟨ha, hb, hc, hd, e⟩ := h
 have key : RaisedP a b c d 0 := by
  by_cases z : a = 0
  ·subst z
   have h1 : b ≠ 0 ∨ c ≠ 0 ∨ d ≠ 0 := by unfold n4 at e; omega
   refine raised_step h1 hb hc hd (by decide) ?_
   by_cases z : b = 0
   ·subst z
    have h2 : c ≠ 0 ∨ d ≠ 0 := by omega
    refine raised_step (by omega) hc hd (by decide) (by decide) ?_
    by_cases z : c = 0
    ·subst z
     have h3 : d ≠ 0 := by omega
     refine raised_step (by omega) hd (by decide) (by decide) (by decide) ?_
     exact raised_base (by omega) hd (by decide) (by decide) (by decide) (by decide)
    ·exact raised_base (by omega) hc hd (by decide) (by decide) (by decide)
   ·exact raised_base (by omega) hb hc hd (by decide) (by decide)
  ·exact raised_base (by omega) ha hb hc hd (by decide)
 unfold RaisedP at key
 rw [e, Nat.zero_add] at key
 exact key
end Go.Proofs.Ythofoolgbngobaa.V
