-- Written by a program of this session out of its own texts (wip/tools/link.py).
import Derived.Below
import Derived.ChangeKeysEq
import Derived.Deep.MidRow
import Derived.Deep.RegionHeld3
import Derived.Great.BuildSlice
import Derived.IntWalk
import Derived.KernelRfl
import Derived.LaidEql
import Derived.Laws.Bits64
import Derived.Laws.BitsLemmas
import Derived.Laws.BytesArg
import Derived.Laws.IdiomCopy
import Derived.Laws.OwnMore
import Derived.Laws.Rows
import Derived.Laws.Slices
import Derived.Laws.Strings
import Derived.Laws.StructEq
import Derived.Laws.Tables
import Derived.Lib.BitFns
import Derived.Lib.Slices
import Derived.Lib.Small
import Derived.Lib.Strings
import Derived.Lib.Walk
import Derived.Maps.AppendAt
import Derived.OrdersHeld
import Derived.RowKit
import Derived.Scope
import Derived.Shelf.Spec.BitsCarry
import Derived.Test.YtgjhjgacojlbmaaProg
import Derived.Test.YtgjhjgacojlbmaaCAccumBack9
import Derived.Test.YtgjhjgacojlbmaaCAccumBack11
namespace Go.Proofs.Ytgjhjgacojlbmaa.V
open Go Go.RowKit Go.Proofs.Ytgjhjgacojlbmaa.Ab Go.Proofs.Ytgjhjgacojlbmaa.Fn
set_option linter.unusedVariables false
set_option linter.unusedSimpArgs false
def exactE (ng : Bool) (m : Nat) (e : Int) (R : Bool) : Int × Bool × Int × Int × Int × Bool :=
 if m = 0 then (0, false, 0, 0, 0, false) else (1, ng, heldI (e + (bl m : Int) - 1), TH (mkV m), TL (mkV m), mkR m R)
theorem pow_eq {a b : Nat} (h : a = b) : (2 : Nat) ^ a = 2 ^ b := by rw [h]
theorem mkV_lt {m : Nat} (hm : 0 < m) : mkV m < 2 ^ 128 := by
 have h1 := bl_lt m
 unfold mkV
 split
 ·rename_i h
  have : 2 ^ bl m * 2 ^ (128 - bl m) = 2 ^ 128 := pow_split h
  rw [← this]
  exact Nat.mul_lt_mul_of_pos_right h1 (two_pos _)
 ·rename_i h
  rw [Nat.div_lt_iff_lt_mul (two_pos _), ← Nat.pow_add]
  exact Nat.lt_of_lt_of_eq h1 (pow_eq (by omega))
theorem mkV_ge {m : Nat} (hm : 0 < m) : 2 ^ 127 ≤ mkV m := by
 have h1 := bl_le hm
 have h0 := bl_pos hm
 unfold mkV
 split
 ·rename_i h
  have : 2 ^ (bl m - 1) * 2 ^ (128 - bl m) = 2 ^ 127 := by rw [← Nat.pow_add]; congr 1; omega
  rw [← this]
  exact Nat.mul_le_mul_right _ h1
 ·rename_i h
  rw [Nat.le_div_iff_mul_le (two_pos _), ← Nat.pow_add]
  exact Nat.le_trans (Nat.le_of_eq (pow_eq (by omega))) h1
end Go.Proofs.Ytgjhjgacojlbmaa.V
namespace Go.Proofs.Ytgjhjgacojlbmaa.V
open Go Go.RowKit Go.Proofs.Ytgjhjgacojlbmaa.Ab Go.Proofs.Ytgjhjgacojlbmaa.Fn
set_option linter.unusedVariables false
set_option linter.unusedSimpArgs false
structure NM where
 kd : Int
 ng : Bool
 sc : Int
 fr : Nat
structure EX where
 kd : Int
 ng : Bool
 sc : Int
 V : Nat
 R : Bool
def NM.ok (x : NM) : Prop := soundN x.kd x.ng x.sc (x.fr : Int) = true ∧ x.fr < 18446744073709551616
def EX.zero : EX := ⟨0, false, 0, 0, false⟩
def EX.nar : EX := ⟨2, false, 0, 0, false⟩
def EX.ok (x : EX) : Prop := x = EX.zero ∨ x = EX.nar ∨ (x.kd = 1 ∧ 2 ^ 127 ≤ x.V ∧ x.V < 2 ^ 128 ∧ -1099511627776 ≤ x.sc ∧ x.sc ≤ 1099511627776)
theorem EX.ok_lt {x : EX} (h : x.ok) : x.V < 2 ^ 128 := by
 rcases h with rfl | rfl | h
 ·exact two_pos 128
 ·exact two_pos 128
 ·exact h.2.2.1
theorem EX.ok_sound {x : EX} (h : x.ok) : soundE x.kd x.ng x.sc (TH x.V) (TL x.V) x.R = true := by
 rcases h with rfl | rfl | ⟨h1, h2, h3, h4, h5⟩
 ·rfl
 ·rfl
 ·unfold soundE
  rw [if_neg (by omega)]
  refine decide_eq_true ⟨h1, ?_, h4, h5⟩
  unfold TH
  rw [p127] at h2
  omega
def EX.rnd (n : Nat) (x : EX) : Nat := V.rnd n x.kd x.ng x.sc x.V x.R
theorem heldI_bounds (s : Int) : -1099511627776 ≤ heldI s ∧ heldI s ≤ 1099511627776 := by
 unfold heldI
 repeat' split
 all_goals omega
def natX (ng : Bool) (m : Nat) (e : Int) (R : Bool) : EX := if m = 0 then EX.zero else ⟨1, ng, heldI (e + (bl m : Int) - 1), mkV m, mkR m R⟩
theorem natX_ok (ng : Bool) (m : Nat) (e : Int) (R : Bool) : (natX ng m e R).ok := by
 unfold natX
 by_cases h : m = 0
 ·rw [if_pos h]; exact .inl rfl
 ·rw [if_neg h]
  have hb := heldI_bounds (e + (bl m : Int) - 1)
  exact .inr (.inr ⟨rfl, mkV_ge (by omega), mkV_lt (by omega), hb.1, hb.2⟩)
theorem exactE_natX (ng : Bool) (m : Nat) (e : Int) (R : Bool) : exactE ng m e R = ((natX ng m e R).kd, (natX ng m e R).ng, (natX ng m e R).sc, TH (natX ng m e R).V, TL (natX ng m e R).V, (natX ng m e R).R) := by
 unfold exactE natX
 by_cases h : m = 0
 ·rw [if_pos h, if_pos h]; rfl
 ·rw [if_neg h, if_neg h]
def decN (n x : Nat) : NM := if x = 0 then ⟨0, false, 0, 0⟩ else if x = 2 ^ (n - 1) then ⟨2, false, 0, 0⟩ else ⟨1, decide (2 ^ (n - 1) < x), decS (n - 1) (magN n x), decFr (n - 1) (magN n x)⟩
theorem decE_N (n x : Nat) : decE n x = ((decN n x).kd, (decN n x).ng, (decN n x).sc, ((decN n x).fr : Int), none) := by
 unfold decE decN
 by_cases h0 : x = 0
 ·rw [if_pos h0, if_pos h0]; rfl
 ·rw [if_neg h0, if_neg h0]
  by_cases h1 : x = 2 ^ (n - 1)
  ·rw [if_pos h1, if_pos h1]; rfl
  ·rw [if_neg h1, if_neg h1]
theorem decN_ok {n x : Nat} (h8 : 8 ≤ n) (hn : n ≤ 64) (hx : x < 2 ^ n) : (decN n x).ok := by
 unfold decN
 by_cases h0 : x = 0
 ·rw [if_pos h0]; exact ⟨rfl, by decide⟩
 ·rw [if_neg h0]
  by_cases h1 : x = 2 ^ (n - 1)
  ·rw [if_pos h1]; exact ⟨rfl, by decide⟩
  ·rw [if_neg h1]
   have hm := magN_bounds (by omega) hx h0 h1
   refine ⟨dec_soundN h8 hn hm.1 hm.2, ?_⟩
   have := (decFr_range (dLf_le (m := n - 1) (w := magN n x) (by omega))).2
   rw [p64] at this
   exact this
def NM.ex (a : NM) : EX := ⟨a.kd, a.ng, a.sc, a.fr * 18446744073709551616, false⟩
theorem NM.cases {x : NM} (h : x.ok) : x = ⟨0, false, 0, 0⟩ ∨ x = ⟨2, false, 0, 0⟩ ∨ (x.kd = 1 ∧ 2 ^ 63 ≤ x.fr ∧ x.fr < 2 ^ 64 ∧ -1073741824 ≤ x.sc ∧ x.sc ≤ 1073741824) := by
 obtain ⟨h1, h2⟩ := h
 obtain ⟨kd, ng, sc, fr⟩ := x
 unfold soundN at h1
 simp only at h1 h2 ⊢
 split at h1
 ·rename_i hk
  have : ng = false ∧ sc = 0 ∧ fr = 0 := by simpa using h1
  obtain ⟨rfl, rfl, rfl⟩ := this
  rcases hk with rfl | rfl
  ·exact .inl rfl
  ·exact .inr (.inl rfl)
 ·have := of_decide_eq_true h1
  rw [p63, p64]
  exact .inr (.inr (by omega))
theorem Round_X {n : Nat} {x : EX} (h : isW (n : Int) = true) (hx : x.ok) : Ev (fun k => round_Round.f k (n : Int) x.kd x.ng x.sc (TH x.V) (TL x.V) x.R) (((x.rnd n : Nat) : Int), none) := by
 have hl := EX.ok_lt hx
 have hs := EX.ok_sound hx
 rw [p128] at hl
 have := round_Round_eq (n := n) (hi := x.V / 18446744073709551616) (lo := x.V % 18446744073709551616) h (by omega) (by omega) hs
 rw [show x.V / 18446744073709551616 * 18446744073709551616 + x.V % 18446744073709551616 = x.V by omega] at this
 exact this
theorem Decode_N {n p : Nat} (h : isW (n : Int) = true) (hp : p < 18446744073709551616) :
  Ev (fun k => codec_Decode.f k (n : Int) (p : Int)) ((decN n (p % 2 ^ n)).kd, (decN n (p % 2 ^ n)).ng, (decN n (p % 2 ^ n)).sc, ((decN n (p % 2 ^ n)).fr : Int), none) := by
 rw [← decE_N]; exact Decode_eq h hp
end Go.Proofs.Ytgjhjgacojlbmaa.V
namespace Go.Proofs.Ytgjhjgacojlbmaa.V
open Go Go.RowKit Go.Proofs.Ytgjhjgacojlbmaa.Ab Go.Proofs.Ytgjhjgacojlbmaa.Fn
set_option linter.unusedVariables false
set_option linter.unusedSimpArgs false
theorem mkV_ge128 {m : Nat} (h : 128 ≤ bl m) : mkV m = m / 2 ^ (bl m - 128) := by
 unfold mkV
 by_cases h2 : bl m ≤ 128
 ·have : bl m = 128 := by omega
  rw [if_pos h2, this, Nat.sub_self, Nat.pow_zero, Nat.mul_one, Nat.div_one]
 ·rw [if_neg h2]
theorem natX_zero (g : Bool) (e : Int) (R : Bool) : natX g 0 e R = EX.zero := by unfold natX; rw [if_pos rfl]
theorem natX_shift (g : Bool) (M t : Nat) (e : Int) (R : Bool) : natX g (M * 2 ^ t) e R = natX g M (e + t) R := by
 by_cases h : M = 0
 ·subst h; rw [Nat.zero_mul, natX_zero, natX_zero]
 ·have hM : 0 < M := by omega
  have p := two_pos t
  have hb := bl_mul_pow t hM
  have hne : ¬ M * 2 ^ t = 0 := by rw [Nat.mul_eq_zero]; omega
  unfold natX
  rw [if_neg h, if_neg hne]
  have e1 : mkV (M * 2 ^ t) = mkV M := by
   unfold mkV
   rw [hb]
   by_cases a : bl M + t ≤ 128
   ·rw [if_pos a, if_pos (by omega), Nat.mul_assoc, ← Nat.pow_add, show t + (128 - (bl M + t)) = 128 - bl M by omega]
   ·rw [if_neg a]
    by_cases c : bl M ≤ 128
    ·rw [if_pos c, mul_pow_div' M (by omega), show t - (bl M + t - 128) = 128 - bl M by omega]
    ·rw [if_neg c, mul_pow_div M (by omega), show bl M + t - 128 - t = bl M - 128 by omega]
  have e2 : mkR (M * 2 ^ t) R = mkR M R := by
   unfold mkR
   rw [hb]
   congr 1
   by_cases c : bl M ≤ 128
   ·rw [show bl M - 128 = 0 by omega, Nat.pow_zero, Nat.mod_one]
    have : M * 2 ^ t % 2 ^ (bl M + t - 128) = 0 := by
     rw [show t = (t - (bl M + t - 128)) + (bl M + t - 128) by omega, Nat.pow_add, ← Nat.mul_assoc]
     rw [show (t - (bl M + t - 128)) + (bl M + t - 128) = t by omega]
     exact Nat.mul_mod_left _ _
    rw [this]
   ·rw [show bl M + t - 128 = (bl M - 128) + t by omega, Nat.pow_add, Nat.mul_mod_mul_right]
    rw [Bool.eq_iff_iff]
    simp only [decide_eq_true_eq, ne_eq, Nat.mul_eq_zero]
    omega
  rw [e1, e2, hb]
  congr 2
  omega
theorem or_ne {u v q : Nat} (hq : 0 < q) : decide (u + q * v ≠ 0) = (decide (u ≠ 0) || decide (v ≠ 0)) := by
 rw [Bool.eq_iff_iff]
 simp only [decide_eq_true_eq, ne_eq, Bool.or_eq_true, Nat.add_eq_zero_iff, Nat.mul_eq_zero]
 omega
theorem natX_trunc (g : Bool) {M T t : Nat} (e : Int) (R : Bool) (hT : M / 2 ^ t = T) (h : 2 ^ 127 ≤ T) : natX g M e R = natX g T (e + t) (R || decide (M % 2 ^ t ≠ 0)) := by
 have p := two_pos t
 have T0 : 0 < T := Nat.lt_of_lt_of_le (two_pos 127) h
 have hbT : 128 ≤ bl T := le_bl_of_le h
 have d := Nat.div_add_mod M (2 ^ t)
 have r := Nat.mod_lt M p
 rw [hT] at d
 have c1 := bl_le T0
 have c2 := bl_lt T
 have hb : bl M = bl T + t := by
  refine bl_unique (by omega) ?_ ?_
  ·rw [show bl T + t - 1 = t + (bl T - 1) by omega, Nat.pow_add]
   exact Nat.le_trans (Nat.mul_le_mul_left _ c1) (by omega)
  ·rw [Nat.add_comm, Nat.pow_add]
   refine Nat.lt_of_lt_of_le ?_ (Nat.mul_le_mul_left (2 ^ t) c2)
   rw [Nat.mul_succ]
   omega
 have hM : ¬ M = 0 := by
  intro h0
  rw [h0, Nat.zero_div] at hT
  omega
 have h3 : 128 ≤ bl M := by omega
 have h4 : bl T + t - 128 = t + (bl T - 128) := by omega
 have h5 : e + ((bl T + t : Nat) : Int) - 1 = e + (t : Int) + (bl T : Int) - 1 := by omega
 unfold natX
 rw [if_neg hM, if_neg (by omega)]
 have e1 : mkV M = mkV T := by
  rw [mkV_ge128 h3, mkV_ge128 hbT, hb, h4, ← div_div_pow, hT]
 have e2 : mkR M R = mkR T (R || decide (M % 2 ^ t ≠ 0)) := by
  unfold mkR
  rw [hb, h4, Nat.pow_add, Nat.mod_mul, hT, Bool.or_assoc]
  rw [or_ne p]
 rw [e1, e2, hb, h5]
def intX (z : Int) (e : Int) : EX := natX (decide (z < 0)) z.natAbs e false
def EX.val (x : EX) (e : Int) : Int := if x.ng then -((x.V * 2 ^ (x.sc - e).toNat : Nat) : Int) else ((x.V * 2 ^ (x.sc - e).toNat : Nat) : Int)
end Go.Proofs.Ytgjhjgacojlbmaa.V
namespace Go.Proofs.Ytgjhjgacojlbmaa.V
open Go Go.RowKit Go.Proofs.Ytgjhjgacojlbmaa.Ab
set_option linter.unusedVariables false
set_option linter.unusedSimpArgs false
def NM.neg (a : NM) : NM := if a.kd = 1 then ⟨a.kd, !a.ng, a.sc, a.fr⟩ else a
def EX.neg (a : EX) : EX := if a.kd = 1 then ⟨a.kd, !a.ng, a.sc, a.V, a.R⟩ else a
end Go.Proofs.Ytgjhjgacojlbmaa.V
