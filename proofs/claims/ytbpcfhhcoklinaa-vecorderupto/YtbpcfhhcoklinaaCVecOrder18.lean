-- Written by a program of this session out of its own texts (wip/tools/link.py).
import Derived.Below
import Derived.ChangeKeysEq
import Derived.Deep.MidRow
import Derived.Deep.RegionHeld3
import Derived.Great.BuildSlice
import Derived.Ground.SlsfProg
import Derived.IntWalk
import Derived.KernelRfl
import Derived.LaidEql
import Derived.Laws.Bits64
import Derived.Laws.BitsLemmas
import Derived.Laws.BytesArg
import Derived.Laws.IdiomCopy
import Derived.Laws.OwnMore
import Derived.Laws.Rows
import Derived.Laws.Slices
import Derived.Laws.Strings
import Derived.Laws.StructEq
import Derived.Laws.Tables
import Derived.Lib.BitFns
import Derived.Lib.Slices
import Derived.Lib.Small
import Derived.Lib.Strings
import Derived.Lib.Walk
import Derived.LoopIn
import Derived.LoopNIn
import Derived.Maps.AppendAt
import Derived.OrdersHeld
import Derived.OwnWalkIn
import Derived.RangeFuncBound
import Derived.RangeFuncCalls
import Derived.RangeFuncLeaves
import Derived.RangeFuncNested
import Derived.RowKit
import Derived.Scope
import Derived.Shelf.Abstract
import Derived.Shelf.RegionOpen
import Derived.Shelf.SlGeneric
import Derived.Shelf.SlSortCmp.NoneTotal
import Derived.Shelf.Spec.BitsCarry
import Derived.TacticsInMore
import Derived.Test.YtbpcfhhcoklinaaProg
import Derived.WalkKit
import Derived.Test.YtbpcfhhcoklinaaCVecOrder10
import Derived.Test.YtbpcfhhcoklinaaCVecOrder15
import Derived.Test.YtbpcfhhcoklinaaCVecOrder17
namespace Go.Proofs.Ytbpcfhhcoklinaa.V
open Go Go.RowKit Go.Proofs.Ytbpcfhhcoklinaa.Ab Go.Proofs.Ytbpcfhhcoklinaa.Fn
set_option linter.unusedVariables false
set_option linter.unusedSimpArgs false
def exactE (ng : Bool) (m : Nat) (e : Int) (R : Bool) : Int × Bool × Int × Int × Int × Bool :=
 if m = 0 then (0, false, 0, 0, 0, false) else (1, ng, heldI (e + (bl m : Int) - 1), TH (mkV m), TL (mkV m), mkR m R)
theorem pow_eq {a b : Nat} (h : a = b) : (2 : Nat) ^ a = 2 ^ b := by rw [h]
theorem mkV_lt {m : Nat} (hm : 0 < m) : mkV m < 2 ^ 128 := by
 have h1 := bl_lt m
 unfold mkV
 split
 ·rename_i h
  have : 2 ^ bl m * 2 ^ (128 - bl m) = 2 ^ 128 := pow_split h
  rw [← this]
  exact Nat.mul_lt_mul_of_pos_right h1 (two_pos _)
 ·rename_i h
  rw [Nat.div_lt_iff_lt_mul (two_pos _), ← Nat.pow_add]
  exact Nat.lt_of_lt_of_eq h1 (pow_eq (by omega))
theorem mkV_ge {m : Nat} (hm : 0 < m) : 2 ^ 127 ≤ mkV m := by
 have h1 := bl_le hm
 have h0 := bl_pos hm
 unfold mkV
 split
 ·rename_i h
  have : 2 ^ (bl m - 1) * 2 ^ (128 - bl m) = 2 ^ 127 := by rw [← Nat.pow_add]; congr 1; omega
  rw [← this]
  exact Nat.mul_le_mul_right _ h1
 ·rename_i h
  rw [Nat.le_div_iff_mul_le (two_pos _), ← Nat.pow_add]
  exact Nat.le_trans (Nat.le_of_eq (pow_eq (by omega))) h1
end Go.Proofs.Ytbpcfhhcoklinaa.V
namespace Go.Proofs.Ytbpcfhhcoklinaa.V
open Go Go.RowKit Go.Proofs.Ytbpcfhhcoklinaa.Ab Go.Proofs.Ytbpcfhhcoklinaa.Fn
set_option linter.unusedVariables false
set_option linter.unusedSimpArgs false
structure NM where
 kd : Int
 ng : Bool
 sc : Int
 fr : Nat
structure EX where
 kd : Int
 ng : Bool
 sc : Int
 V : Nat
 R : Bool
def NM.ok (x : NM) : Prop := soundN x.kd x.ng x.sc (x.fr : Int) = true ∧ x.fr < 18446744073709551616
def EX.zero : EX := ⟨0, false, 0, 0, false⟩
def EX.nar : EX := ⟨2, false, 0, 0, false⟩
def EX.ok (x : EX) : Prop := x = EX.zero ∨ x = EX.nar ∨ (x.kd = 1 ∧ 2 ^ 127 ≤ x.V ∧ x.V < 2 ^ 128 ∧ -1099511627776 ≤ x.sc ∧ x.sc ≤ 1099511627776)
theorem EX.ok_lt {x : EX} (h : x.ok) : x.V < 2 ^ 128 := by
 rcases h with rfl | rfl | h
 ·exact two_pos 128
 ·exact two_pos 128
 ·exact h.2.2.1
theorem EX.ok_sound {x : EX} (h : x.ok) : soundE x.kd x.ng x.sc (TH x.V) (TL x.V) x.R = true := by
 rcases h with rfl | rfl | ⟨h1, h2, h3, h4, h5⟩
 ·rfl
 ·rfl
 ·unfold soundE
  rw [if_neg (by omega)]
  refine decide_eq_true ⟨h1, ?_, h4, h5⟩
  unfold TH
  rw [p127] at h2
  omega
def EX.rnd (n : Nat) (x : EX) : Nat := V.rnd n x.kd x.ng x.sc x.V x.R
theorem heldI_bounds (s : Int) : -1099511627776 ≤ heldI s ∧ heldI s ≤ 1099511627776 := by
 unfold heldI
 repeat' split
 all_goals omega
def natX (ng : Bool) (m : Nat) (e : Int) (R : Bool) : EX := if m = 0 then EX.zero else ⟨1, ng, heldI (e + (bl m : Int) - 1), mkV m, mkR m R⟩
theorem natX_ok (ng : Bool) (m : Nat) (e : Int) (R : Bool) : (natX ng m e R).ok := by
 unfold natX
 by_cases h : m = 0
 ·rw [if_pos h]; exact .inl rfl
 ·rw [if_neg h]
  have hb := heldI_bounds (e + (bl m : Int) - 1)
  exact .inr (.inr ⟨rfl, mkV_ge (by omega), mkV_lt (by omega), hb.1, hb.2⟩)
theorem exactE_natX (ng : Bool) (m : Nat) (e : Int) (R : Bool) : exactE ng m e R = ((natX ng m e R).kd, (natX ng m e R).ng, (natX ng m e R).sc, TH (natX ng m e R).V, TL (natX ng m e R).V, (natX ng m e R).R) := by
 unfold exactE natX
 by_cases h : m = 0
 ·rw [if_pos h, if_pos h]; rfl
 ·rw [if_neg h, if_neg h]
def decN (n x : Nat) : NM := if x = 0 then ⟨0, false, 0, 0⟩ else if x = 2 ^ (n - 1) then ⟨2, false, 0, 0⟩ else ⟨1, decide (2 ^ (n - 1) < x), decS (n - 1) (magN n x), decFr (n - 1) (magN n x)⟩
theorem decE_N (n x : Nat) : decE n x = ((decN n x).kd, (decN n x).ng, (decN n x).sc, ((decN n x).fr : Int), none) := by
 unfold decE decN
 by_cases h0 : x = 0
 ·rw [if_pos h0, if_pos h0]; rfl
 ·rw [if_neg h0, if_neg h0]
  by_cases h1 : x = 2 ^ (n - 1)
  ·rw [if_pos h1, if_pos h1]; rfl
  ·rw [if_neg h1, if_neg h1]
theorem decN_ok {n x : Nat} (h8 : 8 ≤ n) (hn : n ≤ 64) (hx : x < 2 ^ n) : (decN n x).ok := by
 unfold decN
 by_cases h0 : x = 0
 ·rw [if_pos h0]; exact ⟨rfl, by decide⟩
 ·rw [if_neg h0]
  by_cases h1 : x = 2 ^ (n - 1)
  ·rw [if_pos h1]; exact ⟨rfl, by decide⟩
  ·rw [if_neg h1]
   have hm := magN_bounds (by omega) hx h0 h1
   refine ⟨dec_soundN h8 hn hm.1 hm.2, ?_⟩
   have := (decFr_range (dLf_le (m := n - 1) (w := magN n x) (by omega))).2
   rw [p64] at this
   exact this
def NM.ex (a : NM) : EX := ⟨a.kd, a.ng, a.sc, a.fr * 18446744073709551616, false⟩
theorem NM.cases {x : NM} (h : x.ok) : x = ⟨0, false, 0, 0⟩ ∨ x = ⟨2, false, 0, 0⟩ ∨ (x.kd = 1 ∧ 2 ^ 63 ≤ x.fr ∧ x.fr < 2 ^ 64 ∧ -1073741824 ≤ x.sc ∧ x.sc ≤ 1073741824) := by
 obtain ⟨h1, h2⟩ := h
 obtain ⟨kd, ng, sc, fr⟩ := x
 unfold soundN at h1
 simp only at h1 h2 ⊢
 split at h1
 ·rename_i hk
  have : ng = false ∧ sc = 0 ∧ fr = 0 := by simpa using h1
  obtain ⟨rfl, rfl, rfl⟩ := this
  rcases hk with rfl | rfl
  ·exact .inl rfl
  ·exact .inr (.inl rfl)
 ·have := of_decide_eq_true h1
  rw [p63, p64]
  exact .inr (.inr (by omega))
theorem NM.ex_ok {x : NM} (h : x.ok) : x.ex.ok := by
 rcases NM.cases h with rfl | rfl | ⟨h1, h2, h3, h4, h5⟩
 ·exact .inl rfl
 ·exact .inr (.inl rfl)
 ·refine .inr (.inr ⟨h1, ?_, ?_, ?_, ?_⟩)
  ·show 2 ^ 127 ≤ x.fr * 18446744073709551616
   rw [p127]; rw [p63] at h2; omega
  ·show x.fr * 18446744073709551616 < 2 ^ 128
   rw [p128]; rw [p64] at h3; omega
  ·show -1099511627776 ≤ x.sc
   omega
  ·show x.sc ≤ 1099511627776
   omega
theorem NM.ex_tup (x : NM) (h : x.ok) : TH x.ex.V = (x.fr : Int) ∧ TL x.ex.V = 0 := by
 have := h.2
 unfold NM.ex TH TL
 simp only
 omega
theorem Round_X {n : Nat} {x : EX} (h : isW (n : Int) = true) (hx : x.ok) : Ev (fun k => round_Round.f k (n : Int) x.kd x.ng x.sc (TH x.V) (TL x.V) x.R) (((x.rnd n : Nat) : Int), none) := by
 have hl := EX.ok_lt hx
 have hs := EX.ok_sound hx
 rw [p128] at hl
 have := round_Round_eq (n := n) (hi := x.V / 18446744073709551616) (lo := x.V % 18446744073709551616) h (by omega) (by omega) hs
 rw [show x.V / 18446744073709551616 * 18446744073709551616 + x.V % 18446744073709551616 = x.V by omega] at this
 exact this
theorem EX.rnd_lt {n : Nat} {x : EX} (h8 : 8 ≤ n) (hn : n ≤ 64) (hx : x.ok) : x.rnd n < 2 ^ n := by
 have key : V.rnd n x.kd false x.sc x.V x.R ≤ 2 ^ (n - 1) := by
  rcases hx with rfl | rfl | ⟨h1, h2, h3, h4, h5⟩
  ·unfold V.rnd cutE EX.zero; simp
  ·unfold V.rnd cutE EX.nar; simp
  ·rw [h1, rnd_pos h8 hn h3 h2]
   exact Nat.le_trans (posP_bounds (n := n) (s := x.sc) (R := x.R) h8 hn h3).2 (Nat.sub_le _ _)
 have h2 := two_halves (n := n) (by omega)
 have hp := two_pos (n - 1)
 unfold EX.rnd
 cases hng : x.ng
 ·exact Nat.lt_of_le_of_lt key (pow_lt (by omega))
 ·rw [rnd_neg]
  unfold negN
  exact Nat.mod_lt _ (two_pos n)
theorem Decode_N {n p : Nat} (h : isW (n : Int) = true) (hp : p < 18446744073709551616) :
  Ev (fun k => codec_Decode.f k (n : Int) (p : Int)) ((decN n (p % 2 ^ n)).kd, (decN n (p % 2 ^ n)).ng, (decN n (p % 2 ^ n)).sc, ((decN n (p % 2 ^ n)).fr : Int), none) := by
 rw [← decE_N]; exact Decode_eq h hp
end Go.Proofs.Ytbpcfhhcoklinaa.V
namespace Go.Proofs.Ytbpcfhhcoklinaa.V
open Go Go.RowKit Go.Proofs.Ytbpcfhhcoklinaa.Ab
set_option linter.unusedVariables false
set_option linter.unusedSimpArgs false
def negP (n x : Nat) : Nat := if x = 0 then 0 else 2 ^ n - x
theorem negP_negP {n x : Nat} (hx : x < 2 ^ n) : negP n (negP n x) = x := by
 unfold negP
 by_cases h : x = 0
 ·simp [h]
 ·rw [if_neg h, if_neg (by omega)]; omega
theorem negN_mod {n p : Nat} (hn : n ≤ 64) (hp : p < 18446744073709551616) : negN n p = negP n (p % 2 ^ n) := by
 unfold negN negP
 have s : (18446744073709551616 : Nat) = 2 ^ n * 2 ^ (64 - n) := by rw [pow_split hn, p64]
 have hd := Nat.div_add_mod p (2 ^ n)
 have hl := Nat.mod_lt p (two_pos n)
 have hq : p / 2 ^ n < 2 ^ (64 - n) := by rw [Nat.div_lt_iff_lt_mul (two_pos n), Nat.mul_comm, ← s]; exact hp
 rw [show (18446744073709551616 - p) % 18446744073709551616 % 2 ^ n = (18446744073709551616 - p) % 2 ^ n by
  rw [s, Nat.mod_mul_right_mod]]
 generalize p % 2 ^ n = r at *
 generalize p / 2 ^ n = q at *
 obtain ⟨c, hc⟩ : ∃ c, 2 ^ (64 - n) = q + c + 1 := ⟨2 ^ (64 - n) - q - 1, by omega⟩
 by_cases h : r = 0
 ·rw [if_pos h]
  have : 18446744073709551616 - p = 2 ^ n * (c + 1) := by
   have : 2 ^ n * (q + c + 1) = 2 ^ n * q + 2 ^ n * (c + 1) := by grind
   rw [s, hc]; omega
  rw [this, Nat.mul_mod_right]
 ·rw [if_neg h]
  have : 18446744073709551616 - p = (2 ^ n - r) + 2 ^ n * c := by
   have : 2 ^ n * (q + c + 1) = 2 ^ n * q + 2 ^ n * c + 2 ^ n := by grind
   rw [s, hc]; omega
  rw [this, Nat.add_mul_mod_self_left, Nat.mod_eq_of_lt (by omega)]
def NM.neg (a : NM) : NM := if a.kd = 1 then ⟨a.kd, !a.ng, a.sc, a.fr⟩ else a
def EX.neg (a : EX) : EX := if a.kd = 1 then ⟨a.kd, !a.ng, a.sc, a.V, a.R⟩ else a
theorem EX.rnd_zero (n : Nat) : EX.zero.rnd n = 0 := by unfold EX.zero EX.rnd V.rnd cutE; simp
theorem EX.rnd_nar (n : Nat) : EX.nar.rnd n = 2 ^ (n - 1) := by
 unfold EX.nar EX.rnd V.rnd cutE; simp
 rw [pow_cast]; exact Int.toNat_natCast _
theorem EX.rnd_neg {n : Nat} {x : EX} (h8 : 8 ≤ n) (hn : n ≤ 64) (hx : x.ok) : x.neg.rnd n = negP n (x.rnd n) := by
 have h2 := two_halves (n := n) (by omega)
 have hp := two_pos (n - 1)
 have h64 : 2 ^ n ≤ 18446744073709551616 := by rw [← p64]; exact pow_le hn
 have hx' := hx
 rcases hx with rfl | rfl | ⟨h1, h2, h3, h4, h5⟩
 ·rw [show EX.zero.neg = EX.zero from rfl, EX.rnd_zero]; rfl
 ·rw [show EX.nar.neg = EX.nar from rfl, EX.rnd_nar]; unfold negP; rw [if_neg (by omega)]; omega
 ·obtain ⟨kd, ng, sc, U, R⟩ := x
  simp only at h1
  subst h1
  have hb : V.rnd n 1 false sc U R < 2 ^ n := EX.rnd_lt (x := ⟨1, false, sc, U, R⟩) h8 hn (.inr (.inr ⟨rfl, h2, h3, h4, h5⟩))
  have e : negN n (V.rnd n 1 false sc U R) = negP n (V.rnd n 1 false sc U R) := by
   rw [negN_mod hn (by omega), Nat.mod_eq_of_lt hb]
  cases ng
  ·show V.rnd n 1 true sc U R = negP n (V.rnd n 1 false sc U R)
   rw [V.rnd_neg, e]
  ·show V.rnd n 1 false sc U R = negP n (V.rnd n 1 true sc U R)
   rw [V.rnd_neg, e, negP_negP hb]
end Go.Proofs.Ytbpcfhhcoklinaa.V
namespace Go.Proofs.Ytbpcfhhcoklinaa.V
open Go Go.RowKit Go.Proofs.Ytbpcfhhcoklinaa.Ab
set_option linter.unusedVariables false
set_option linter.unusedSimpArgs false
def EX.sg (x : EX) : Int := if x.kd = 1 then (if x.ng then -1 else 1) else 0
def lmE (s : Int) (V : Nat) (R : Bool) (t : Int) (U : Nat) (Q : Bool) : Prop := s < t ∨ (s = t ∧ (V < U ∨ (V = U ∧ bR R ≤ bR Q)))
theorem lmE_refl (s : Int) (V : Nat) (R : Bool) : lmE s V R s V R := by unfold lmE; omega
def EX.le (x y : EX) : Prop := x.sg < y.sg ∨ (x.sg = y.sg ∧ ((x.sg = 1 → lmE x.sc x.V x.R y.sc y.V y.R) ∧ (x.sg = -1 → lmE y.sc y.V y.R x.sc x.V x.R)))
theorem EX.le_refl (x : EX) : x.le x := .inr ⟨rfl, fun _ => lmE_refl _ _ _, fun _ => lmE_refl _ _ _⟩
def EX.num (x : EX) : Prop := x = EX.zero ∨ (x.kd = 1 ∧ 2 ^ 127 ≤ x.V ∧ x.V < 2 ^ 128 ∧ -1099511627776 ≤ x.sc ∧ x.sc ≤ 1099511627776)
theorem EX.num.ok {x : EX} (h : x.num) : x.ok := h.elim .inl (fun h => .inr (.inr h))
theorem rkN_inj {n x y : Nat} (hx : x < 2 ^ n) (hy : y < 2 ^ n) (h : rkN n x = rkN n y) : x = y := by
 unfold rkN at h
 split at h <;> split at h <;> omega
end Go.Proofs.Ytbpcfhhcoklinaa.V
namespace Go.Proofs.Ytbpcfhhcoklinaa.V
open Go Go.RowKit Go.Proofs.Ytbpcfhhcoklinaa.Ab Go.Proofs.Ytbpcfhhcoklinaa.Fn
set_option linter.unusedVariables false
set_option linter.unusedSimpArgs false
theorem mkV_ge128 {m : Nat} (h : 128 ≤ bl m) : mkV m = m / 2 ^ (bl m - 128) := by
 unfold mkV
 by_cases h2 : bl m ≤ 128
 ·have : bl m = 128 := by omega
  rw [if_pos h2, this, Nat.sub_self, Nat.pow_zero, Nat.mul_one, Nat.div_one]
 ·rw [if_neg h2]
theorem natX_zero (g : Bool) (e : Int) (R : Bool) : natX g 0 e R = EX.zero := by unfold natX; rw [if_pos rfl]
theorem natX_shift (g : Bool) (M t : Nat) (e : Int) (R : Bool) : natX g (M * 2 ^ t) e R = natX g M (e + t) R := by
 by_cases h : M = 0
 ·subst h; rw [Nat.zero_mul, natX_zero, natX_zero]
 ·have hM : 0 < M := by omega
  have p := two_pos t
  have hb := bl_mul_pow t hM
  have hne : ¬ M * 2 ^ t = 0 := by rw [Nat.mul_eq_zero]; omega
  unfold natX
  rw [if_neg h, if_neg hne]
  have e1 : mkV (M * 2 ^ t) = mkV M := by
   unfold mkV
   rw [hb]
   by_cases a : bl M + t ≤ 128
   ·rw [if_pos a, if_pos (by omega), Nat.mul_assoc, ← Nat.pow_add, show t + (128 - (bl M + t)) = 128 - bl M by omega]
   ·rw [if_neg a]
    by_cases c : bl M ≤ 128
    ·rw [if_pos c, mul_pow_div' M (by omega), show t - (bl M + t - 128) = 128 - bl M by omega]
    ·rw [if_neg c, mul_pow_div M (by omega), show bl M + t - 128 - t = bl M - 128 by omega]
  have e2 : mkR (M * 2 ^ t) R = mkR M R := by
   unfold mkR
   rw [hb]
   congr 1
   by_cases c : bl M ≤ 128
   ·rw [show bl M - 128 = 0 by omega, Nat.pow_zero, Nat.mod_one]
    have : M * 2 ^ t % 2 ^ (bl M + t - 128) = 0 := by
     rw [show t = (t - (bl M + t - 128)) + (bl M + t - 128) by omega, Nat.pow_add, ← Nat.mul_assoc]
     rw [show (t - (bl M + t - 128)) + (bl M + t - 128) = t by omega]
     exact Nat.mul_mod_left _ _
    rw [this]
   ·rw [show bl M + t - 128 = (bl M - 128) + t by omega, Nat.pow_add, Nat.mul_mod_mul_right]
    rw [Bool.eq_iff_iff]
    simp only [decide_eq_true_eq, ne_eq, Nat.mul_eq_zero]
    omega
  rw [e1, e2, hb]
  congr 2
  omega
theorem or_ne {u v q : Nat} (hq : 0 < q) : decide (u + q * v ≠ 0) = (decide (u ≠ 0) || decide (v ≠ 0)) := by
 rw [Bool.eq_iff_iff]
 simp only [decide_eq_true_eq, ne_eq, Bool.or_eq_true, Nat.add_eq_zero_iff, Nat.mul_eq_zero]
 omega
theorem natX_trunc (g : Bool) {M T t : Nat} (e : Int) (R : Bool) (hT : M / 2 ^ t = T) (h : 2 ^ 127 ≤ T) : natX g M e R = natX g T (e + t) (R || decide (M % 2 ^ t ≠ 0)) := by
 have p := two_pos t
 have T0 : 0 < T := Nat.lt_of_lt_of_le (two_pos 127) h
 have hbT : 128 ≤ bl T := le_bl_of_le h
 have d := Nat.div_add_mod M (2 ^ t)
 have r := Nat.mod_lt M p
 rw [hT] at d
 have c1 := bl_le T0
 have c2 := bl_lt T
 have hb : bl M = bl T + t := by
  refine bl_unique (by omega) ?_ ?_
  ·rw [show bl T + t - 1 = t + (bl T - 1) by omega, Nat.pow_add]
   exact Nat.le_trans (Nat.mul_le_mul_left _ c1) (by omega)
  ·rw [Nat.add_comm, Nat.pow_add]
   refine Nat.lt_of_lt_of_le ?_ (Nat.mul_le_mul_left (2 ^ t) c2)
   rw [Nat.mul_succ]
   omega
 have hM : ¬ M = 0 := by
  intro h0
  rw [h0, Nat.zero_div] at hT
  omega
 have h3 : 128 ≤ bl M := by omega
 have h4 : bl T + t - 128 = t + (bl T - 128) := by omega
 have h5 : e + ((bl T + t : Nat) : Int) - 1 = e + (t : Int) + (bl T : Int) - 1 := by omega
 unfold natX
 rw [if_neg hM, if_neg (by omega)]
 have e1 : mkV M = mkV T := by
  rw [mkV_ge128 h3, mkV_ge128 hbT, hb, h4, ← div_div_pow, hT]
 have e2 : mkR M R = mkR T (R || decide (M % 2 ^ t ≠ 0)) := by
  unfold mkR
  rw [hb, h4, Nat.pow_add, Nat.mod_mul, hT, Bool.or_assoc]
  rw [or_ne p]
 rw [e1, e2, hb, h5]
theorem natX_256 (g : Bool) {S : Nat} (e : Int) (R : Bool) (h : bl S = 256) : natX g S e R = ⟨1, g, heldI (e + 255), S / 2 ^ 128, R || decide (S % 2 ^ 128 ≠ 0)⟩ := by
 unfold natX
 have h0 : ¬ S = 0 := by rintro rfl; rw [bl_zero] at h; omega
 rw [if_neg h0, mkV_ge128 (by omega)]
 unfold mkR
 rw [h]
 congr 2
 omega
theorem natX_257 (g : Bool) {S : Nat} (e : Int) (R : Bool) (h : bl S = 257) : natX g S e R = ⟨1, g, heldI (e + 256), S / 2 ^ 129, R || decide (S % 2 ^ 129 ≠ 0)⟩ := by
 unfold natX
 have h0 : ¬ S = 0 := by rintro rfl; rw [bl_zero] at h; omega
 rw [if_neg h0, mkV_ge128 (by omega)]
 unfold mkR
 rw [h]
 congr 2
 omega
def intX (z : Int) (e : Int) : EX := natX (decide (z < 0)) z.natAbs e false
theorem intX_nat (g : Bool) (M : Nat) (e : Int) : intX (if g then -(M : Int) else (M : Int)) e = natX g M e false := by
 unfold intX
 by_cases h : M = 0
 ·subst h
  cases g <;> rfl
 ·cases g
  ·simp only [if_neg (show ¬ (false = true) by decide), Int.natAbs_natCast]
   rw [decide_eq_false (by omega)]
  ·simp only [if_pos]
   rw [Int.natAbs_neg, Int.natAbs_natCast, decide_eq_true (by omega)]
def EX.val (x : EX) (e : Int) : Int := if x.ng then -((x.V * 2 ^ (x.sc - e).toNat : Nat) : Int) else ((x.V * 2 ^ (x.sc - e).toNat : Nat) : Int)
def sumX (x y : EX) : EX := if x.kd = 2 ∨ y.kd = 2 then EX.nar else if x.kd = 0 then y else if y.kd = 0 then x else
 intX (x.val (min x.sc y.sc) + y.val (min x.sc y.sc)) (min x.sc y.sc - 127)
theorem sumX_comm {x y : EX} (hx : x.ok) (hy : y.ok) : sumX x y = sumX y x := by
 unfold sumX
 by_cases h : x.kd = 2 ∨ y.kd = 2
 ·rw [if_pos h, if_pos h.symm]
 ·have h' : ¬ (y.kd = 2 ∨ x.kd = 2) := fun h' => h h'.symm
  rw [if_neg h, if_neg h']
  by_cases a : x.kd = 0
  ·by_cases b : y.kd = 0
   ·rw [if_pos a, if_pos b]
    have e1 : x = EX.zero := by
     rcases hx with rfl | rfl | hx
     ·rfl
     ·exact absurd a (by decide)
     ·omega
    have e2 : y = EX.zero := by
     rcases hy with rfl | rfl | hy
     ·rfl
     ·exact absurd b (by decide)
     ·omega
    rw [e1, e2]
   ·rw [if_pos a, if_neg b, if_pos a]
  ·by_cases b : y.kd = 0
   ·rw [if_neg a, if_pos b, if_pos b]
   ·rw [if_neg a, if_neg b, if_neg b, if_neg a, Int.add_comm, Int.min_comm]
theorem sumX_ok {x y : EX} (hx : x.ok) (hy : y.ok) : (sumX x y).ok := by
 unfold sumX
 split
 ·exact .inr (.inl rfl)
 ·split
  ·exact hy
  ·split
   ·exact hx
   ·exact natX_ok _ _ _ _
theorem sumX_real {x y : EX} (hx : x.kd = 1) (hy : y.kd = 1) (h : y.sc ≤ x.sc) {d : Nat} (hd : (x.sc - y.sc).toNat = d) :
  sumX x y = intX ((if x.ng then -((x.V * 2 ^ d : Nat) : Int) else ((x.V * 2 ^ d : Nat) : Int)) + (if y.ng then -(y.V : Int) else (y.V : Int))) (y.sc - 127) := by
 unfold sumX EX.val
 rw [if_neg (by omega), if_neg (by omega), if_neg (by omega), show min x.sc y.sc = y.sc by omega, hd, Int.sub_self]
 simp only [Int.toNat_zero, Nat.pow_zero, Nat.mul_one]
theorem sumX_same {x y : EX} (hx : x.kd = 1) (hy : y.kd = 1) (h : y.sc ≤ x.sc) {d : Nat} (hd : (x.sc - y.sc).toNat = d) (hs : x.ng = y.ng) :
  sumX x y = natX x.ng (x.V * 2 ^ d + y.V) (y.sc - 127) false := by
 rw [sumX_real hx hy h hd, ← hs, ← intX_nat]
 congr 1
 generalize x.V * 2 ^ d = a
 cases x.ng
 ·simp
 ·simp; omega
theorem sumX_ge {x y : EX} (hx : x.kd = 1) (hy : y.kd = 1) (h : y.sc ≤ x.sc) {d : Nat} (hd : (x.sc - y.sc).toNat = d) (hs : x.ng ≠ y.ng) (hle : y.V ≤ x.V * 2 ^ d) :
  sumX x y = natX x.ng (x.V * 2 ^ d - y.V) (y.sc - 127) false := by
 rw [sumX_real hx hy h hd, ← intX_nat]
 congr 1
 generalize x.V * 2 ^ d = a at *
 cases hg : x.ng
 ·rw [hg] at hs
  have : y.ng = true := by cases hy' : y.ng; exact absurd hy'.symm hs; rfl
  rw [this]; simp; omega
 ·rw [hg] at hs
  have : y.ng = false := by cases hy' : y.ng; rfl; exact absurd hy'.symm hs
  rw [this]; simp; omega
theorem sumX_lt {x y : EX} (hx : x.kd = 1) (hy : y.kd = 1) (h : y.sc ≤ x.sc) {d : Nat} (hd : (x.sc - y.sc).toNat = d) (hs : x.ng ≠ y.ng) (hle : x.V * 2 ^ d ≤ y.V) :
  sumX x y = natX y.ng (y.V - x.V * 2 ^ d) (y.sc - 127) false := by
 rw [sumX_real hx hy h hd, ← intX_nat]
 congr 1
 generalize x.V * 2 ^ d = a at *
 cases hg : x.ng
 ·rw [hg] at hs
  have : y.ng = true := by cases hy' : y.ng; exact absurd hy'.symm hs; rfl
  rw [this]; simp; omega
 ·rw [hg] at hs
  have : y.ng = false := by cases hy' : y.ng; rfl; exact absurd hy'.symm hs
  rw [this]; simp; omega
theorem sum_cut {A B d : Nat} (a b : Nat) (hA : A = a * 2 ^ 128) (hB : B = b * 2 ^ 128) : (a * 2 ^ d + b) * 2 ^ 128 / 2 ^ d = A + B / 2 ^ d ∧ (a * 2 ^ d + b) * 2 ^ 128 % 2 ^ d = B % 2 ^ d := by
 have e : (a * 2 ^ d + b) * 2 ^ 128 = 2 ^ d * A + B := by subst hA hB; grind
 rw [e, Nat.mul_add_div (two_pos d), Nat.mul_add_mod]
 exact ⟨rfl, rfl⟩
theorem natX_sum (g : Bool) {a b d : Nat} (e : Int) (ha : 2 ^ 127 ≤ a) : natX g (a * 2 ^ d + b) e false = natX g (a * 2 ^ 128 + b * 2 ^ 128 / 2 ^ d) (e - 128 + d) (decide (b * 2 ^ 128 % 2 ^ d ≠ 0)) := by
 obtain ⟨h1, h2⟩ := sum_cut (d := d) a b rfl rfl
 have := natX_shift g (a * 2 ^ d + b) 128 (e - 128) false
 rw [show e - 128 + ((128 : Nat) : Int) = e by omega] at this
 have p := two_pos 128
 have hT : 2 ^ 127 ≤ a * 2 ^ 128 + b * 2 ^ 128 / 2 ^ d := Nat.le_trans ha (Nat.le_trans (Nat.le_mul_of_pos_right a p) (Nat.le_add_right _ _))
 rw [← this, natX_trunc g (e - 128) false h1 hT, h2, Bool.false_or]
end Go.Proofs.Ytbpcfhhcoklinaa.V
namespace Go.Proofs.Ytbpcfhhcoklinaa.V
open Go Go.RowKit Go.Proofs.Ytbpcfhhcoklinaa.Ab Go.Proofs.Ytbpcfhhcoklinaa.Fn
set_option linter.unusedVariables false
set_option linter.unusedSimpArgs false
def EX.tup (x : EX) : Int × Bool × Int × Int × Int × Bool := (x.kd, x.ng, x.sc, TH x.V, TL x.V, x.R)
theorem heldI_mx (s : Int) : mx (-1099511627776) (mn s 1099511627776) = heldI s := by
 unfold mx mn heldI
 repeat' split
 all_goals omega
theorem tail_flag {z w N : Nat} {α : Type} (f : Bool → α) (r : Bool) (low : N = z * 18446744073709551616 + w) (hw : w < 18446744073709551616) :
  (if r = true then some (f true) else if (z : Int) = 0 then some (f ((w : Int) != 0)) else some (f true)) = some (f (r || decide (N ≠ 0))) := by
 cases r
 ·rw [if_neg (by decide), Bool.false_or]
  by_cases hz : z = 0
  ·rw [if_pos (by omega)]
   congr 2
   rw [Bool.eq_iff_iff]
   simp only [bne_iff_ne, decide_eq_true_eq]
   omega
  ·rw [if_neg (by omega), decide_eq_true (by omega)]
 ·rw [if_pos rfl, Bool.true_or]
theorem Sum_end {x y z w N : Nat} (h : W4 x y z w N) {g r : Bool} {s : Int} (hs0 : -1099511627776 ≤ s) (hs1 : s ≤ 1099511627776) :
  Ev (fun k => if (((x : Int) == 0) && (((y : Int) == 0) && (((z : Int) == 0) && ((w : Int) == 0)))) = true then (some (0, false, 0, 0, 0, false)) else ((broad_wide_raised.f k (x : Int) (y : Int) (z : Int) (w : Int)).bind fun t106 => (if r = true then (some (1, g, mx (-1099511627776) (mn (wrap64 (s - t106.2.2.2.2)) 1099511627776), t106.1, t106.2.1, true)) else (if t106.2.2.1 = 0 then (some (1, g, mx (-1099511627776) (mn (wrap64 (s - t106.2.2.2.2)) 1099511627776), t106.1, t106.2.1, t106.2.2.2.1 != 0)) else (some (1, g, mx (-1099511627776) (mn (wrap64 (s - t106.2.2.2.2)) 1099511627776), t106.1, t106.2.1, true))))))
  (natX g N (s - 255) r).tup := by
 have h0 := h.eq0
 by_cases hN : N = 0
 ·have hc : (((x : Int) == 0) && (((y : Int) == 0) && (((z : Int) == 0) && ((w : Int) == 0)))) = true := by
   obtain ⟨rfl, rfl, rfl, rfl⟩ := h0.1 hN; rfl
  simp only [if_pos hc]
  rw [hN, natX_zero]
  exact Ev.now _
 ·have hc : ¬ (((x : Int) == 0) && (((y : Int) == 0) && (((z : Int) == 0) && ((w : Int) == 0)))) = true := by
   intro hc
   simp only [Bool.and_eq_true, beq_iff_eq] at hc
   exact hN (h0.2 (by omega))
  simp only [if_neg hc]
  have hp : 0 < N := by omega
  obtain ⟨x', y', z', w', h', hE⟩ := raised_eq h hp
  refine Ev.bind hE (evn ?_)
  have hb := bl_mul_pow (256 - bl N) hp
  have hl := bl_le_of_lt h.lt
  have e1 := natX_shift g N (256 - bl N) (s - 255 - ((256 - bl N : Nat) : Int)) r
  rw [show s - 255 - ((256 - bl N : Nat) : Int) + ((256 - bl N : Nat) : Int) = s - 255 by omega, natX_256 g _ r (by omega)] at e1
  rw [← e1]
  have hh := h'.hi
  have hs : wrap64 (s - ((256 - bl N : Nat) : Int)) = s - 255 - ((256 - bl N : Nat) : Int) + 255 := by rw [w64 (by omega) (by omega)]; omega
  show (if r = true then some (1, g, mx (-1099511627776) (mn (wrap64 (s - ((256 - bl N : Nat) : Int))) 1099511627776), (x' : Int), (y' : Int), true) else if (z' : Int) = 0 then some (1, g, mx (-1099511627776) (mn (wrap64 (s - ((256 - bl N : Nat) : Int))) 1099511627776), (x' : Int), (y' : Int), (w' : Int) != 0) else some (1, g, mx (-1099511627776) (mn (wrap64 (s - ((256 - bl N : Nat) : Int))) 1099511627776), (x' : Int), (y' : Int), true)) = _
  rw [tail_flag (fun b => ((1 : Int), g, mx (-1099511627776) (mn (wrap64 (s - ((256 - bl N : Nat) : Int))) 1099511627776), (x' : Int), (y' : Int), b)) r rfl h'.hd, heldI_mx, hs, hh.1, hh.2, ← h'.low]
  rfl
theorem Sum_j2 {a1 a2 a3 a4 b1 b2 b3 b4 A b : Nat} (hA : W4 a1 a2 a3 a4 A) (hb : W4 b1 b2 b3 b4 b) {r g h : Bool} {s : Int} (hr : r = true → b + 1 ≤ A) (hs0 : -1099511627776 ≤ s) (hs1 : s ≤ 1099511627776) :
  Ev (fun k => broad_Sum.j2 k r ((r.toNat : Nat) : Int) h (a1 : Int) (a2 : Int) (a3 : Int) (a4 : Int) (b1 : Int) (b2 : Int) (b3 : Int) (b4 : Int) 1 g s)
  (if b + r.toNat ≤ A then natX g (A - b - r.toNat) (s - 255) r else natX h (b - A) (s - 255) false).tup := by
 refine evs ?_
 simp only [broad_Sum.j2]
 have r1 : r.toNat ≤ 1 := by cases r <;> decide
 obtain ⟨x, y, z, w, q, hw, q1, qe, hE⟩ := less_eq hA hb r1
 have la := hA.lt
 have lb := hb.lt
 have lw := hw.lt
 refine Ev.bind (evn hE) ?_
 by_cases hq : q = 0
 ·subst hq
  have hle : b + r.toNat ≤ A := by omega
  simp only [if_neg (show ¬ ((0 : Nat) : Int) = 1 by decide), if_pos hle]
  have := Sum_end (g := g) (r := r) hw hs0 hs1
  rw [show n4 x y z w = A - b - r.toNat by omega] at this
  exact this
 ·have hq : q = 1 := by omega
  subst hq
  have hlt : ¬ b + r.toNat ≤ A := by omega
  have hf : r = false := by
   cases r
   ·rfl
   ·have := hr rfl
    exact absurd this hlt
  subst hf
  simp only [if_pos (show ((1 : Nat) : Int) = 1 by decide), if_neg hlt]
  obtain ⟨x', y', z', w', q', hw', q1', qe', hE'⟩ := less_eq hb hA (r := 0) (by decide)
  have lw' := hw'.lt
  have := Sum_end (g := h) (r := false) hw' hs0 hs1
  have hlt' : ¬ b ≤ A := hlt
  have hq' : q' = 0 := by omega
  subst hq'
  rw [show n4 x' y' z' w' = b - A by omega] at this
  exact Ev.bind (evn hE') this
theorem bl_range {n S : Nat} (h : 2 ^ n ≤ S) (h2 : S < 2 ^ n * 2) : bl S = n + 1 := bl_unique (by omega) h (by rw [Nat.pow_succ]; exact h2)
theorem Sum_same {a1 a2 a3 a4 b1 b2 b3 b4 A b : Nat} (hA : W4 a1 a2 a3 a4 A) (hb : W4 b1 b2 b3 b4 b) {r g : Bool} {s : Int} (h255 : 2 ^ 255 ≤ A) (hs0 : -1099511627776 ≤ s) (hs1 : s ≤ 1099511627776) :
  Ev (fun k => (broad_wide_plus.f (a1 : Int) (a2 : Int) (a3 : Int) (a4 : Int) (b1 : Int) (b2 : Int) (b3 : Int) (b4 : Int)).bind fun t101 => (if t101.2.2.2.2 = 1 then ((broad_wide_under.f k t101.1 t101.2.1 t101.2.2.1 t101.2.2.2.1 1).bind fun t102 => (if r = true then (some ((1 : Int), g, mx (-1099511627776) (mn (wrap64 (s + 1)) 1099511627776), Go.bits .or .u64 t102.1 9223372036854775808, t102.2.1, true)) else (if (Go.bits .and .u64 t101.2.2.2.1 1) = 1 then (some (1, g, mx (-1099511627776) (mn (wrap64 (s + 1)) 1099511627776), Go.bits .or .u64 t102.1 9223372036854775808, t102.2.1, true)) else (if t102.2.2.1 = 0 then (some (1, g, mx (-1099511627776) (mn (wrap64 (s + 1)) 1099511627776), Go.bits .or .u64 t102.1 9223372036854775808, t102.2.1, t102.2.2.2.1 != 0)) else (some (1, g, mx (-1099511627776) (mn (wrap64 (s + 1)) 1099511627776), Go.bits .or .u64 t102.1 9223372036854775808, t102.2.1, true)))))) else (if r = true then (some (1, g, mx (-1099511627776) (mn s 1099511627776), t101.1, t101.2.1, true)) else (if t101.2.2.1 = 0 then (some (1, g, mx (-1099511627776) (mn s 1099511627776), t101.1, t101.2.1, t101.2.2.2.1 != 0)) else (some (1, g, mx (-1099511627776) (mn s 1099511627776), t101.1, t101.2.1, true))))))
  (natX g (A + b) (s - 255) r).tup := by
 have la := hA.lt
 have lb := hb.lt
 obtain ⟨x, y, z, w, q, hw, hq, hE⟩ := plus_eq hA hb
 generalize hS : A + b = S at *
 refine Ev.bind (evn hE) ?_
 have sb : S < 2 ^ 256 * 2 := by omega
 by_cases h1 : S < 2 ^ 256
 ·have q0 : q = 0 := by rw [hq]; exact Nat.div_eq_of_lt h1
  subst q0
  rw [Nat.mod_eq_of_lt h1] at hw
  have hbl : bl S = 255 + 1 := bl_range (by omega) (by omega)
  rw [natX_256 g _ r hbl, show s - 255 + 255 = s by omega]
  simp only [if_neg (show ¬ ((0 : Nat) : Int) = 1 by decide)]
  refine evn ?_
  rw [tail_flag (fun c => ((1 : Int), g, mx (-1099511627776) (mn s 1099511627776), (x : Int), (y : Int), c)) r rfl hw.hd, heldI_mx, hw.hi.1, hw.hi.2, ← hw.low]
  rfl
 ·have d256 := two_pos 256
  obtain ⟨S0, hS0⟩ : ∃ S0, S = 2 ^ 256 * 1 + S0 := ⟨S - 2 ^ 256, by omega⟩
  have l0 : S0 < 2 ^ 256 := by omega
  have q1 : q = 1 := by rw [hq, hS0, Nat.mul_add_div d256, Nat.div_eq_of_lt l0]
  subst q1
  rw [hS0, Nat.mul_add_mod, Nat.mod_eq_of_lt l0] at hw
  have hbl : bl S = 256 + 1 := bl_range (by omega) sb
  rw [natX_257 g _ r hbl, show s - 255 + 256 = s + 1 by omega]
  simp only [if_pos (show ((1 : Nat) : Int) = 1 by decide)]
  obtain ⟨x', y', z', w', hw', hE'⟩ := under_eq hw (s := 1) (by decide)
  refine Ev.bind hE' (evn ?_)
  have hodd : S0 % 2 = w % 2 := by
   rw [← hw.e]; unfold n4; omega
  have hand : Go.bits .and .u64 (w : Int) 1 = ((w % 2 : Nat) : Int) := and_mask w 1 hw.hd (by decide)
  have hx' : x' < 9223372036854775808 := by
   have := hw'.parts
   have p255 : S0 / 2 ^ 1 < 2 ^ 255 := by omega
   rw [← this, show (2 : Nat) ^ 255 = 2 ^ 128 * 2 ^ 127 by decide, p127] at p255
   omega
  have hor : Go.bits .or .u64 (x' : Int) 9223372036854775808 = ((9223372036854775808 + x' : Nat) : Int) := by
   have := or_nat x' 9223372036854775808 hw'.ha (by decide)
   rw [show ((9223372036854775808 : Nat) : Int) = 9223372036854775808 from rfl] at this
   rw [this, Nat.or_comm, show (9223372036854775808 : Nat) = 1 * 2 ^ 63 by decide, or_parts (by rw [p63]; exact hx')]
  have htop : S / 2 ^ 129 = (9223372036854775808 + x') * 18446744073709551616 + y' := by
   have := hw'.top
   rw [show (2 : Nat) ^ 129 = 2 ^ 1 * 2 ^ 128 by decide, ← Nat.div_div_eq_div_mul, hS0, show (2 : Nat) ^ 256 * 1 = 2 ^ 1 * (2 ^ 128 * 170141183460469231731687303715884105728) by decide, Nat.mul_add_div (two_pos 1), Nat.mul_add_div (two_pos 128), ← this]
   omega
  have hlow : decide (S % 2 ^ 129 ≠ 0) = (decide (w % 2 ≠ 0) || decide (z' * 18446744073709551616 + w' ≠ 0)) := by
   have := hw'.low
   rw [show (2 : Nat) ^ 129 = 2 ^ 1 * 2 ^ 128 by decide, Nat.mod_mul, or_ne (two_pos 1), hS0, show (2 : Nat) ^ 256 * 1 = 2 ^ 1 * (2 ^ 128 * 170141183460469231731687303715884105728) by decide, Nat.mul_add_mod, Nat.mul_add_div (two_pos 1), Nat.mul_add_mod, this, Nat.pow_one, hodd]
  rw [htop, hlow, hand, hor, heldI_mx, w64 (by omega) (by omega)]
  unfold EX.tup
  simp only
  rw [TH_of hw'.hb, TL_of hw'.hb]
  cases r
  ·rw [if_neg (by decide), Bool.false_or]
   by_cases ho : w % 2 = 0
   ·rw [if_neg (by omega), decide_eq_false (by omega), Bool.false_or]
    have := tail_flag (z := z') (fun c => ((1 : Int), g, heldI (s + 1), ((9223372036854775808 + x' : Nat) : Int), (y' : Int), c)) false rfl hw'.hd
    rw [if_neg (by decide), Bool.false_or] at this
    exact this
   ·rw [if_pos (by omega), decide_eq_true (by omega), Bool.true_or]
  ·rw [if_pos rfl, Bool.true_or]
theorem dif_cut {A B P q m : Nat} (hP : 0 < P) (dm : P * q + m = B) (ml : m < P) (hle : B ≤ P * A) :
  (m = 0 → P * A - B = (A - q) * P) ∧ (m ≠ 0 → (P * A - B) / P = A - q - 1 ∧ (P * A - B) % P ≠ 0) := by
 constructor
 ·intro h0
  rw [← dm, h0, Nat.add_zero, ← Nat.mul_sub, Nat.mul_comm]
 ·intro h0
  have hq : q < A := by
   refine Nat.lt_of_mul_lt_mul_left (a := P) ?_
   omega
  obtain ⟨t, rfl⟩ : ∃ t, A = q + 1 + t := ⟨A - q - 1, by omega⟩
  have e : P * (q + 1 + t) - B = P * t + (P - m) := by
   rw [← dm, Nat.mul_add, Nat.mul_add, Nat.mul_one]
   omega
  have hl : P - m < P := by omega
  rw [e, Nat.mul_add_div hP, Nat.div_eq_of_lt hl, Nat.mul_add_mod, Nat.mod_eq_of_lt hl]
  omega
theorem natX_dif (g : Bool) {a b d : Nat} (e : Int) (hle : b ≤ a * 2 ^ d) (r : Bool) (hr : r = decide (b * 2 ^ 128 % 2 ^ d ≠ 0)) (hbig : r = true → 2 ^ 127 ≤ a * 2 ^ 128 - b * 2 ^ 128 / 2 ^ d - 1) :
  natX g (a * 2 ^ d - b) e false = natX g (a * 2 ^ 128 - b * 2 ^ 128 / 2 ^ d - r.toNat) (e - 128 + d) r := by
 have h1 := natX_shift g (a * 2 ^ d - b) 128 (e - 128) false
 rw [show e - 128 + ((128 : Nat) : Int) = e by omega] at h1
 have ec : a * 2 ^ d * 2 ^ 128 = 2 ^ d * (a * 2 ^ 128) := by grind
 have hle' := Nat.mul_le_mul_right (2 ^ 128) hle
 rw [ec] at hle'
 rw [← h1, Nat.mul_sub_right_distrib, ec]
 obtain ⟨c1, c2⟩ := dif_cut (two_pos d) (Nat.div_add_mod (b * 2 ^ 128) (2 ^ d)) (Nat.mod_lt _ (two_pos d)) hle'
 by_cases hm : b * 2 ^ 128 % 2 ^ d = 0
 ·have : r = false := by rw [hr, decide_eq_false (fun h => h hm)]
  subst this
  rw [c1 hm, natX_shift, Bool.toNat_false, Nat.sub_zero]
 ·have : r = true := by rw [hr, decide_eq_true hm]
  subst this
  obtain ⟨c3, c4⟩ := c2 hm
  rw [natX_trunc g (e - 128) false c3 (hbig rfl), decide_eq_true c4, Bool.toNat_true, Bool.false_or]
theorem natX_dif' (g : Bool) {a b d : Nat} (e : Int) (hle : a * 2 ^ d ≤ b) (hm : b * 2 ^ 128 % 2 ^ d = 0) :
  natX g (b - a * 2 ^ d) e false = natX g (b * 2 ^ 128 / 2 ^ d - a * 2 ^ 128) (e - 128 + d) false := by
 have h1 := natX_shift g (b - a * 2 ^ d) 128 (e - 128) false
 rw [show e - 128 + ((128 : Nat) : Int) = e by omega] at h1
 have h2 := natX_shift g (b * 2 ^ 128 / 2 ^ d - a * 2 ^ 128) d (e - 128) false
 have dm := Nat.div_add_mod (b * 2 ^ 128) (2 ^ d)
 rw [hm, Nat.add_zero, Nat.mul_comm] at dm
 rw [← h1, ← h2, Nat.mul_sub_right_distrib, Nat.mul_sub_right_distrib, dm, show a * 2 ^ d * 2 ^ 128 = a * 2 ^ 128 * 2 ^ d by grind]
theorem Sum_j1 {x y : EX} (hx : x.ok) (hy : y.ok) (kx : x.kd = 1) (ky : y.kd = 1) (h : y.sc ≤ x.sc) :
  Ev (fun k => broad_Sum.j1 k x.ng x.sc (TH x.V) (TL x.V) y.ng y.sc (TH y.V) (TL y.V)) (sumX x y).tup := by
 obtain ⟨vx, lx, s0, s1⟩ : 2 ^ 127 ≤ x.V ∧ x.V < 2 ^ 128 ∧ -1099511627776 ≤ x.sc ∧ x.sc ≤ 1099511627776 := by
  rcases hx with rfl | rfl | hx
  ·exact absurd kx (by decide)
  ·exact absurd kx (by decide)
  ·exact hx.2
 obtain ⟨vy, ly, t0, t1⟩ : 2 ^ 127 ≤ y.V ∧ y.V < 2 ^ 128 ∧ -1099511627776 ≤ y.sc ∧ y.sc ≤ 1099511627776 := by
  rcases hy with rfl | rfl | hy
  ·exact absurd ky (by decide)
  ·exact absurd ky (by decide)
  ·exact hy.2
 obtain ⟨d, hd⟩ : ∃ d, (x.sc - y.sc).toNat = d := ⟨_, rfl⟩
 have hd' : x.sc - y.sc = (d : Int) := by omega
 refine evs ?_
 simp only [broad_Sum.j1]
 have hA := W4.of lx
 obtain ⟨b1, b2, b3, b4, hb, hE⟩ := under_eq (W4.of ly) (s := d) (by omega)
 have hw : wrap64 (x.sc - y.sc) = (d : Int) := by rw [w64 (by omega) (by omega)]; exact hd'
 rw [hw]
 refine Ev.bind hE ?_
 have hA255 : 2 ^ 255 ≤ x.V * 2 ^ 128 := by
  rw [show (2 : Nat) ^ 255 = 2 ^ 127 * 2 ^ 128 by decide]
  exact Nat.mul_le_mul_right _ vx
 by_cases hs : x.ng = y.ng
 ·simp only [if_pos (beq_iff_eq.2 hs)]
  rw [sumX_same kx ky h hd hs, natX_sum x.ng _ vx, show y.sc - 127 - 128 + (d : Int) = x.sc - 255 by omega]
  exact Sum_same hA hb hA255 s0 s1
 ·simp only [if_neg (fun h => hs (beq_iff_eq.1 h) : ¬ (x.ng == y.ng) = true)]
  have hd' := hs
  have ms := Nat.div_mul_le_self (y.V * 2 ^ 128) (2 ^ d)
  have key : ∀ r : Bool, r = decide (y.V * 2 ^ 128 % 2 ^ d ≠ 0) → (r = true → y.V * 2 ^ 128 / 2 ^ d ≤ 2 ^ 127) := by
   intro r hr h1
   subst hr
   have hm := of_decide_eq_true h1
   have h128 : 128 < d := by
    refine Nat.lt_of_not_le fun hc => hm ?_
    rw [← pow_split hc, Nat.mul_comm (2 ^ d), ← Nat.mul_assoc]
    exact Nat.mul_mod_left _ _
   rw [mul_pow_div y.V (Nat.le_of_lt h128)]
   have : y.V / 2 ^ (d - 128) < 2 ^ 127 := by
    rw [Nat.div_lt_iff_lt_mul (two_pos _), ← Nat.pow_add]
    exact Nat.lt_of_lt_of_le ly (pow_le (by omega))
   exact Nat.le_of_lt this
  obtain ⟨r, hr⟩ : ∃ r, r = decide (y.V * 2 ^ 128 % 2 ^ d ≠ 0) := ⟨_, rfl⟩
  have hk := key r hr
  rw [← hr]
  have hrA : r = true → y.V * 2 ^ 128 / 2 ^ d + 1 ≤ x.V * 2 ^ 128 := fun h => by
   have := hk h
   have : (2 : Nat) ^ 127 + 1 ≤ 2 ^ 255 := by decide
   omega
  have hbig : r = true → 2 ^ 127 ≤ x.V * 2 ^ 128 - y.V * 2 ^ 128 / 2 ^ d - 1 := fun h => by
   have := hk h
   have : (2 : Nat) ^ 127 + 2 ^ 127 + 1 ≤ 2 ^ 255 := by decide
   omega
  have main := Sum_j2 (g := x.ng) (h := y.ng) (r := r) hA hb hrA s0 s1
  have hval : (if y.V * 2 ^ 128 / 2 ^ d + r.toNat ≤ x.V * 2 ^ 128 then natX x.ng (x.V * 2 ^ 128 - y.V * 2 ^ 128 / 2 ^ d - r.toNat) (x.sc - 255) r else natX y.ng (y.V * 2 ^ 128 / 2 ^ d - x.V * 2 ^ 128) (x.sc - 255) false) = sumX x y := by
   have dm := Nat.div_add_mod (y.V * 2 ^ 128) (2 ^ d)
   have ml := Nat.mod_lt (y.V * 2 ^ 128) (two_pos d)
   by_cases hle : y.V ≤ x.V * 2 ^ d
   ·have hq : y.V * 2 ^ 128 / 2 ^ d + r.toNat ≤ x.V * 2 ^ 128 := by
     cases hrr : r
     ·show y.V * 2 ^ 128 / 2 ^ d + 0 ≤ _
      rw [Nat.add_zero]
      refine Nat.le_of_lt_succ ((Nat.div_lt_iff_lt_mul (two_pos d)).2 ?_)
      rw [Nat.succ_mul]
      have := Nat.mul_le_mul_right (2 ^ 128) hle
      rw [show x.V * 2 ^ d * 2 ^ 128 = x.V * 2 ^ 128 * 2 ^ d by grind] at this
      have := two_pos d
      omega
     ·exact hrA hrr
    rw [if_pos hq, sumX_ge kx ky h hd hs hle, natX_dif x.ng _ hle r hr hbig, show y.sc - 127 - 128 + (d : Int) = x.sc - 255 by omega]
   ·have hlt : x.V * 2 ^ d ≤ y.V := by omega
    have hlt2 : x.V * 2 ^ d < y.V := by omega
    have hm : y.V * 2 ^ 128 % 2 ^ d = 0 := by
     have h128 : d ≤ 128 := by
      refine Nat.le_of_not_lt fun hc => ?_
      have h1 : 2 ^ d ≤ x.V * 2 ^ d := Nat.le_mul_of_pos_left _ (Nat.lt_of_lt_of_le (two_pos 127) vx)
      have h2 := pow_lt hc
      omega
     rw [← pow_split h128, Nat.mul_comm (2 ^ d), ← Nat.mul_assoc]
     exact Nat.mul_mod_left _ _
    have hrf : r = false := by rw [hr, decide_eq_false (fun h => h hm)]
    subst hrf
    have he := natX_dif' y.ng (y.sc - 127) hlt hm
    have hgt : ¬ y.V * 2 ^ 128 / 2 ^ d + false.toNat ≤ x.V * 2 ^ 128 := by
     rw [Bool.toNat_false, Nat.add_zero]
     intro hc
     have h3 := Nat.mul_le_mul_left (2 ^ d) hc
     rw [hm, Nat.add_zero] at dm
     rw [dm] at h3
     have h4 := Nat.mul_lt_mul_of_pos_right hlt2 (two_pos 128)
     rw [show x.V * 2 ^ d * 2 ^ 128 = 2 ^ d * (x.V * 2 ^ 128) by grind] at h4
     exact absurd h3 (Nat.not_le.2 h4)
    rw [if_neg hgt, sumX_lt kx ky h hd hs hlt, he, show y.sc - 127 - 128 + (d : Int) = x.sc - 255 by omega]
  rw [← hval]
  cases r
  ·simp only [if_neg (show ¬ (false = true) by decide)]; exact main
  ·simp only [if_pos]; exact main
end Go.Proofs.Ytbpcfhhcoklinaa.V
namespace Go.Proofs.Ytbpcfhhcoklinaa.V
open Go Go.RowKit Go.Proofs.Ytbpcfhhcoklinaa.Ab Go.Proofs.Ytbpcfhhcoklinaa.Fn
set_option linter.unusedVariables false
def cmpI (x y : Int) : Int := if x < y then -1 else if x > y then 1 else 0
theorem cmpI_neg {x y : Int} : cmpI x y < 0 ↔ x < y := by unfold cmpI; split <;> (try split) <;> omega
theorem cmpI_le {x y : Int} : cmpI x y ≤ 0 ↔ x ≤ y := by unfold cmpI; split <;> (try split) <;> omega
end Go.Proofs.Ytbpcfhhcoklinaa.V
namespace Go.Proofs.Ytbpcfhhcoklinaa.V
open Go Go.RowKit Go.Proofs.Ytbpcfhhcoklinaa.Ab Go.Proofs.Ytbpcfhhcoklinaa.Fn
set_option linter.unusedVariables false
set_option linter.unusedSimpArgs false
theorem order_Neg_eq {n a : Nat} (h : isW (n : Int) = true) (ha : a < 18446744073709551616) : Ev (fun _ => order_Neg.f (n : Int) (a : Int)) (((negP n (a % 2 ^ n) : Nat) : Int), none) := by
 obtain ⟨b64, b8⟩ := pow64 h
 refine evn ?_
 unfold order_Neg.f
 rw [neg_wrap ha, shape_Fold_eq h (Nat.mod_lt _ (by decide))]
 have := negN_mod (n := n) b64 ha
 unfold negN at this
 rw [this]
 rfl
theorem order_Cmp_run {n a b : Nat} (h : isW (n : Int) = true) (ha : a < 18446744073709551616) (hb : b < 18446744073709551616) : order_Cmp.f (n : Int) (a : Int) (b : Int) = some (cmpI (rkN n (a % 2 ^ n)) (rkN n (b % 2 ^ n)), none) := by
 unfold order_Cmp.f
 rw [shape_Rank_eq h ha, shape_Rank_eq h hb]
 simp only [Option.bind_some, Option.isNone_none, if_true]
 unfold cmpI
 split
 ·rfl
 ·split <;> rfl
end Go.Proofs.Ytbpcfhhcoklinaa.V
