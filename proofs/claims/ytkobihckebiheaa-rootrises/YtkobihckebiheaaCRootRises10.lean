-- Written by a program of this session out of its own texts (wip/tools/link.py).
import Derived.Below
import Derived.ChangeKeysEq
import Derived.Deep.MidRow
import Derived.Deep.RegionHeld3
import Derived.Great.BuildSlice
import Derived.IntWalk
import Derived.KernelRfl
import Derived.LaidEql
import Derived.Laws.Bits64
import Derived.Laws.BitsLemmas
import Derived.Laws.BytesArg
import Derived.Laws.IdiomCopy
import Derived.Laws.OwnMore
import Derived.Laws.Rows
import Derived.Laws.Slices
import Derived.Laws.Strings
import Derived.Laws.StructEq
import Derived.Laws.Tables
import Derived.Lib.BitFns
import Derived.Lib.Slices
import Derived.Lib.Small
import Derived.Lib.Strings
import Derived.Lib.Walk
import Derived.Maps.AppendAt
import Derived.OrdersHeld
import Derived.RowKit
import Derived.Shelf.Spec.BitsCarry
import Derived.Test.YtkobihckebiheaaProg
import Derived.Test.YtkobihckebiheaaCRootRises7
import Derived.Test.YtkobihckebiheaaCRootRises8
import Derived.Test.YtkobihckebiheaaCRootRises9
namespace Go.Proofs.Ytkobihckebiheaa.V
open Go Go.RowKit Go.Proofs.Ytkobihckebiheaa.Ab Go.Proofs.Ytkobihckebiheaa.Fn
set_option linter.unusedVariables false
set_option linter.unusedSimpArgs false
theorem ref_Is_eq (n : Int) : vernierref05_Is.f n = some (isW n) := by
  unfold vernierref05_Is.f isW
  by_cases h1 : n = 8
  · simp [h1]
  · by_cases h2 : n = 16
    · simp [h2]
    · by_cases h3 : n = 32
      · simp [h3]
      · rw [if_neg h1, if_neg h2, if_neg h3]
        have e1 : (n == 8) = false := by simpa using h1
        have e2 : (n == 16) = false := by simpa using h2
        have e3 : (n == 32) = false := by simpa using h3
        rw [e1, e2, e3]; rfl
theorem ref_Power_l (n : Nat) (hn : n ≤ 63) : ∀ (d i : Nat), i + d = n → Ev (fun k => vernierref05_Power.l0 k (n : Int) ((2 ^ i : Nat) : Int) (i : Int)) ((2 ^ n : Nat) : Int)
  | 0, i, h => by
    refine evs ?_
    simp only [vernierref05_Power.l0, nI_eq, if_neg (show ¬ (i : Int) < (n : Int) by omega)]
    have : i = n := by omega
    subst this
    exact Ev.now _
  | d + 1, i, h => by
    refine evs ?_
    have hp : 2 ^ (i + 1) ≤ 2 ^ 63 := pow_le (by omega)
    rw [p63, Nat.pow_succ] at hp
    have e1 : IntKind.u64.wrap (2 * ((2 ^ i : Nat) : Int)) = ((2 ^ (i + 1) : Nat) : Int) := by
      rw [Nat.pow_succ]
      generalize 2 ^ i = z at *
      rw [u64_of (by omega) (by omega)]; omega
    have e2 : wrap64 ((i : Int) + 1) = ((i + 1 : Nat) : Int) := by rw [w64 (by omega) (by omega)]; omega
    simp only [vernierref05_Power.l0, nI_eq, if_pos (show (i : Int) < (n : Int) by omega), e1, e2]
    exact ref_Power_l n hn d (i + 1) (by omega)
theorem ref_Power_eq {n : Nat} (hn : n ≤ 63) : Ev (fun k => vernierref05_Power.f k (n : Int)) ((2 ^ n : Nat) : Int) := by
  unfold vernierref05_Power.f
  exact ref_Power_l n hn n 0 (by omega)
theorem ref_Fold_eq {n x : Nat} (h : isW n = true) (hx : x < 18446744073709551616) : Ev (fun k => vernierref06_Fold.f k (n : Int) (x : Int)) ((x % 2 ^ n : Nat) : Int) := by
  obtain ⟨b64, b8⟩ := pow64 h
  obtain ⟨s, s1, s2⟩ := Text_eq x n hx b64
  unfold vernierref06_Fold.f
  refine Ev.bind (a := (((x % 2 ^ n : Nat) : Int), (0 : Int))) ?_ (Ev.now _)
  unfold vernierref05_Fold.f
  simp only [ref_Is_eq, h, Option.bind_some, if_true]
  exact Ev.bind s1 (Ev.bind (Number_eq s2 b64) (Ev.now _))
end Go.Proofs.Ytkobihckebiheaa.V
namespace Go.Proofs.Ytkobihckebiheaa.V
open Go Go.RowKit Go.Proofs.Ytkobihckebiheaa.Ab Go.Proofs.Ytkobihckebiheaa.Fn
set_option linter.unusedVariables false
set_option linter.unusedSimpArgs false
structure NM where
 kd : Int
 ng : Bool
 sc : Int
 fr : Nat
structure EX where
 kd : Int
 ng : Bool
 sc : Int
 V : Nat
 R : Bool
def NM.ok (x : NM) : Prop := soundN x.kd x.ng x.sc (x.fr : Int) = true ∧ x.fr < 18446744073709551616
def EX.zero : EX := ⟨0, false, 0, 0, false⟩
def EX.nar : EX := ⟨2, false, 0, 0, false⟩
def EX.ok (x : EX) : Prop := x = EX.zero ∨ x = EX.nar ∨ (x.kd = 1 ∧ 2 ^ 127 ≤ x.V ∧ x.V < 2 ^ 128 ∧ -1099511627776 ≤ x.sc ∧ x.sc ≤ 1099511627776)
theorem EX.ok_lt {x : EX} (h : x.ok) : x.V < 2 ^ 128 := by
 rcases h with rfl | rfl | h
 ·exact two_pos 128
 ·exact two_pos 128
 ·exact h.2.2.1
theorem EX.ok_sound {x : EX} (h : x.ok) : soundE x.kd x.ng x.sc (TH x.V) (TL x.V) x.R = true := by
 rcases h with rfl | rfl | ⟨h1, h2, h3, h4, h5⟩
 ·rfl
 ·rfl
 ·unfold soundE
  rw [if_neg (by omega)]
  refine decide_eq_true ⟨h1, ?_, h4, h5⟩
  unfold TH
  rw [p127] at h2
  omega
def EX.rnd (n : Nat) (x : EX) : Nat := V.rnd n x.kd x.ng x.sc x.V x.R
def decN (n x : Nat) : NM := if x = 0 then ⟨0, false, 0, 0⟩ else if x = 2 ^ (n - 1) then ⟨2, false, 0, 0⟩ else ⟨1, decide (2 ^ (n - 1) < x), decS (n - 1) (magN n x), decFr (n - 1) (magN n x)⟩
theorem decE_N (n x : Nat) : decE n x = ((decN n x).kd, (decN n x).ng, (decN n x).sc, ((decN n x).fr : Int), none) := by
 unfold decE decN
 by_cases h0 : x = 0
 ·rw [if_pos h0, if_pos h0]; rfl
 ·rw [if_neg h0, if_neg h0]
  by_cases h1 : x = 2 ^ (n - 1)
  ·rw [if_pos h1, if_pos h1]; rfl
  ·rw [if_neg h1, if_neg h1]
theorem decN_ok {n x : Nat} (h8 : 8 ≤ n) (hn : n ≤ 64) (hx : x < 2 ^ n) : (decN n x).ok := by
 unfold decN
 by_cases h0 : x = 0
 ·rw [if_pos h0]; exact ⟨rfl, by decide⟩
 ·rw [if_neg h0]
  by_cases h1 : x = 2 ^ (n - 1)
  ·rw [if_pos h1]; exact ⟨rfl, by decide⟩
  ·rw [if_neg h1]
   have hm := magN_bounds (by omega) hx h0 h1
   refine ⟨dec_soundN h8 hn hm.1 hm.2, ?_⟩
   have := (decFr_range (dLf_le (m := n - 1) (w := magN n x) (by omega))).2
   rw [p64] at this
   exact this
def NM.ex (a : NM) : EX := ⟨a.kd, a.ng, a.sc, a.fr * 18446744073709551616, false⟩
theorem NM.cases {x : NM} (h : x.ok) : x = ⟨0, false, 0, 0⟩ ∨ x = ⟨2, false, 0, 0⟩ ∨ (x.kd = 1 ∧ 2 ^ 63 ≤ x.fr ∧ x.fr < 2 ^ 64 ∧ -1073741824 ≤ x.sc ∧ x.sc ≤ 1073741824) := by
 obtain ⟨h1, h2⟩ := h
 obtain ⟨kd, ng, sc, fr⟩ := x
 unfold soundN at h1
 simp only at h1 h2 ⊢
 split at h1
 ·rename_i hk
  have : ng = false ∧ sc = 0 ∧ fr = 0 := by simpa using h1
  obtain ⟨rfl, rfl, rfl⟩ := this
  rcases hk with rfl | rfl
  ·exact .inl rfl
  ·exact .inr (.inl rfl)
 ·have := of_decide_eq_true h1
  rw [p63, p64]
  exact .inr (.inr (by omega))
theorem NM.ex_ok {x : NM} (h : x.ok) : x.ex.ok := by
 rcases NM.cases h with rfl | rfl | ⟨h1, h2, h3, h4, h5⟩
 ·exact .inl rfl
 ·exact .inr (.inl rfl)
 ·refine .inr (.inr ⟨h1, ?_, ?_, ?_, ?_⟩)
  ·show 2 ^ 127 ≤ x.fr * 18446744073709551616
   rw [p127]; rw [p63] at h2; omega
  ·show x.fr * 18446744073709551616 < 2 ^ 128
   rw [p128]; rw [p64] at h3; omega
  ·show -1099511627776 ≤ x.sc
   omega
  ·show x.sc ≤ 1099511627776
   omega
theorem NM.ex_tup (x : NM) (h : x.ok) : TH x.ex.V = (x.fr : Int) ∧ TL x.ex.V = 0 := by
 have := h.2
 unfold NM.ex TH TL
 simp only
 omega
theorem dec_rnd {n x : Nat} (h8 : 8 ≤ n) (hn : n ≤ 64) (hx : x < 2 ^ n) : (decN n x).ex.rnd n = x := by
 unfold decN NM.ex EX.rnd
 by_cases h0 : x = 0
 ·simp only [if_pos h0]; unfold V.rnd cutE; simp [h0]
 ·simp only [if_neg h0]
  by_cases h1 : x = 2 ^ (n - 1)
  ·simp only [if_pos h1]
   unfold V.rnd cutE; simp
   rw [h1, pow_cast]
   exact Int.toNat_natCast _
  ·simp only [if_neg h1]
   have hm := magN_bounds (by omega) hx h0 h1
   have hlf := dLf_le (m := n - 1) (w := magN n x) (by omega)
   obtain ⟨_, d2, d3⟩ := decV_sub hlf
   have hp := dec_pos h8 hn hm.1 hm.2
   have h2 := two_halves (n := n) (by omega)
   have key : V.rnd n 1 false (decS (n - 1) (magN n x)) (decV (n - 1) (magN n x)) false = magN n x := by rw [rnd_pos h8 hn d3 d2, hp]
   by_cases hs : 2 ^ (n - 1) < x
   ·rw [decide_eq_true hs, rnd_neg]
    have : negN n (magN n x) = x := by
     rw [negN_eq hn hm.1 (by omega), if_neg (by omega)]
     unfold magN; rw [if_pos hs]; omega
    rw [show V.rnd n 1 false (decS (n - 1) (magN n x)) (decFr (n - 1) (magN n x) * 18446744073709551616) false = magN n x from key]
    exact this
   ·rw [decide_eq_false hs]
    have : magN n x = x := by unfold magN; rw [if_neg hs]
    rw [this] at key ⊢
    exact key
theorem Round_X {n : Nat} {x : EX} (h : isW (n : Int) = true) (hx : x.ok) : Ev (fun k => round_Round.f k (n : Int) x.kd x.ng x.sc (TH x.V) (TL x.V) x.R) (((x.rnd n : Nat) : Int), none) := by
 have hl := EX.ok_lt hx
 have hs := EX.ok_sound hx
 rw [p128] at hl
 have := round_Round_eq (n := n) (hi := x.V / 18446744073709551616) (lo := x.V % 18446744073709551616) h (by omega) (by omega) hs
 rw [show x.V / 18446744073709551616 * 18446744073709551616 + x.V % 18446744073709551616 = x.V by omega] at this
 exact this
theorem EX.rnd_lt {n : Nat} {x : EX} (h8 : 8 ≤ n) (hn : n ≤ 64) (hx : x.ok) : x.rnd n < 2 ^ n := by
 have key : V.rnd n x.kd false x.sc x.V x.R ≤ 2 ^ (n - 1) := by
  rcases hx with rfl | rfl | ⟨h1, h2, h3, h4, h5⟩
  ·unfold V.rnd cutE EX.zero; simp
  ·unfold V.rnd cutE EX.nar; simp
  ·rw [h1, rnd_pos h8 hn h3 h2]
   exact Nat.le_trans (posP_bounds (n := n) (s := x.sc) (R := x.R) h8 hn h3).2 (Nat.sub_le _ _)
 have h2 := two_halves (n := n) (by omega)
 have hp := two_pos (n - 1)
 unfold EX.rnd
 cases hng : x.ng
 ·exact Nat.lt_of_le_of_lt key (pow_lt (by omega))
 ·rw [rnd_neg]
  unfold negN
  exact Nat.mod_lt _ (two_pos n)
theorem Decode_N {n p : Nat} (h : isW (n : Int) = true) (hp : p < 18446744073709551616) :
  Ev (fun k => codec_Decode.f k (n : Int) (p : Int)) ((decN n (p % 2 ^ n)).kd, (decN n (p % 2 ^ n)).ng, (decN n (p % 2 ^ n)).sc, ((decN n (p % 2 ^ n)).fr : Int), none) := by
 rw [← decE_N]; exact Decode_eq h hp
end Go.Proofs.Ytkobihckebiheaa.V
namespace Go.Proofs.Ytkobihckebiheaa.V
open Go Go.RowKit Go.Proofs.Ytkobihckebiheaa.Ab
set_option linter.unusedVariables false
set_option linter.unusedSimpArgs false
def negP (n x : Nat) : Nat := if x = 0 then 0 else 2 ^ n - x
theorem negP_negP {n x : Nat} (hx : x < 2 ^ n) : negP n (negP n x) = x := by
 unfold negP
 by_cases h : x = 0
 ·simp [h]
 ·rw [if_neg h, if_neg (by omega)]; omega
theorem negN_mod {n p : Nat} (hn : n ≤ 64) (hp : p < 18446744073709551616) : negN n p = negP n (p % 2 ^ n) := by
 unfold negN negP
 have s : (18446744073709551616 : Nat) = 2 ^ n * 2 ^ (64 - n) := by rw [pow_split hn, p64]
 have hd := Nat.div_add_mod p (2 ^ n)
 have hl := Nat.mod_lt p (two_pos n)
 have hq : p / 2 ^ n < 2 ^ (64 - n) := by rw [Nat.div_lt_iff_lt_mul (two_pos n), Nat.mul_comm, ← s]; exact hp
 rw [show (18446744073709551616 - p) % 18446744073709551616 % 2 ^ n = (18446744073709551616 - p) % 2 ^ n by
  rw [s, Nat.mod_mul_right_mod]]
 generalize p % 2 ^ n = r at *
 generalize p / 2 ^ n = q at *
 obtain ⟨c, hc⟩ : ∃ c, 2 ^ (64 - n) = q + c + 1 := ⟨2 ^ (64 - n) - q - 1, by omega⟩
 by_cases h : r = 0
 ·rw [if_pos h]
  have : 18446744073709551616 - p = 2 ^ n * (c + 1) := by
   have : 2 ^ n * (q + c + 1) = 2 ^ n * q + 2 ^ n * (c + 1) := by grind
   rw [s, hc]; omega
  rw [this, Nat.mul_mod_right]
 ·rw [if_neg h]
  have : 18446744073709551616 - p = (2 ^ n - r) + 2 ^ n * c := by
   have : 2 ^ n * (q + c + 1) = 2 ^ n * q + 2 ^ n * c + 2 ^ n := by grind
   rw [s, hc]; omega
  rw [this, Nat.add_mul_mod_self_left, Nat.mod_eq_of_lt (by omega)]
def NM.neg (a : NM) : NM := if a.kd = 1 then ⟨a.kd, !a.ng, a.sc, a.fr⟩ else a
def EX.neg (a : EX) : EX := if a.kd = 1 then ⟨a.kd, !a.ng, a.sc, a.V, a.R⟩ else a
theorem EX.rnd_zero (n : Nat) : EX.zero.rnd n = 0 := by unfold EX.zero EX.rnd V.rnd cutE; simp
theorem EX.rnd_nar (n : Nat) : EX.nar.rnd n = 2 ^ (n - 1) := by
 unfold EX.nar EX.rnd V.rnd cutE; simp
 rw [pow_cast]; exact Int.toNat_natCast _
theorem EX.rnd_neg {n : Nat} {x : EX} (h8 : 8 ≤ n) (hn : n ≤ 64) (hx : x.ok) : x.neg.rnd n = negP n (x.rnd n) := by
 have h2 := two_halves (n := n) (by omega)
 have hp := two_pos (n - 1)
 have h64 : 2 ^ n ≤ 18446744073709551616 := by rw [← p64]; exact pow_le hn
 have hx' := hx
 rcases hx with rfl | rfl | ⟨h1, h2, h3, h4, h5⟩
 ·rw [show EX.zero.neg = EX.zero from rfl, EX.rnd_zero]; rfl
 ·rw [show EX.nar.neg = EX.nar from rfl, EX.rnd_nar]; unfold negP; rw [if_neg (by omega)]; omega
 ·obtain ⟨kd, ng, sc, U, R⟩ := x
  simp only at h1
  subst h1
  have hb : V.rnd n 1 false sc U R < 2 ^ n := EX.rnd_lt (x := ⟨1, false, sc, U, R⟩) h8 hn (.inr (.inr ⟨rfl, h2, h3, h4, h5⟩))
  have e : negN n (V.rnd n 1 false sc U R) = negP n (V.rnd n 1 false sc U R) := by
   rw [negN_mod hn (by omega), Nat.mod_eq_of_lt hb]
  cases ng
  ·show V.rnd n 1 true sc U R = negP n (V.rnd n 1 false sc U R)
   rw [V.rnd_neg, e]
  ·show V.rnd n 1 false sc U R = negP n (V.rnd n 1 true sc U R)
   rw [V.rnd_neg, e, negP_negP hb]
end Go.Proofs.Ytkobihckebiheaa.V
namespace Go.Proofs.Ytkobihckebiheaa.V
open Go Go.RowKit Go.Proofs.Ytkobihckebiheaa.Ab Go.Proofs.Ytkobihckebiheaa.Fn
set_option linter.unusedVariables false
set_option linter.unusedSimpArgs false
theorem w_2y {y : Int} {b : Nat} (h1 : -4611686018427387904 ≤ y) (h2 : y < 4611686018427387904) (hb : b < 2) : wrap64 (wrap64 (2 * y) + (b : Int)) = 2 * y + (b : Int) := by
 rw [w64 (n := 2 * y) (by omega) (by omega), w64 (by omega) (by omega)]
theorem w_succ' {t : Nat} (hb : t < 4611686018427387904) : wrap64 ((t : Int) + 1) = ((t + 1 : Nat) : Int) := by
 rw [w64 (by omega) (by omega)]; omega
theorem Extend_l0 {s : ByteArray} {n X : Nat} (h : BT s n X) (hn : n ≤ 64) (b0 : Nat) : ∀ (d j : Nat) (y : Int), j + 1 + d = n → y = ((X / 2 ^ d : Nat) : Int) - ((b0 * 2 ^ (j + 1) : Nat) : Int) → -((2 ^ j : Nat) : Int) ≤ y → y < ((2 ^ j : Nat) : Int) →
  Ev (fun k => vernierref01_Extend.l0 k (n : Int) s y ((j + 1 : Nat) : Int)) ((X : Int) - ((b0 * 2 ^ n : Nat) : Int), 0)
 | 0, j, y, hi, hy, h1, h2 => by
  refine evs ?_
  simp only [vernierref01_Extend.l0, nI_eq, if_neg (show ¬ ((j + 1 : Nat) : Int) < (n : Int) by omega)]
  rw [Nat.pow_zero, Nat.div_one, show j + 1 = n by omega] at hy
  rw [← hy]
  exact Ev.now _
 | d + 1, j, y, hi, hy, h1, h2 => by
  refine evs ?_
  have hb := h.bit (i := j + 1) (by omega)
  rw [show n - 1 - (j + 1) = d by omega] at hb
  have hs := h.size
  have hZ : (2 : Nat) ^ j ≤ 2 ^ 62 := pow_le (by omega)
  have h62 : (2 : Nat) ^ 62 = 4611686018427387904 := by decide
  have e1 : ((48 : Int) + ((X / 2 ^ d % 2 : Nat) : Int) - 48) % 256 = ((X / 2 ^ d % 2 : Nat) : Int) := by omega
  have hbit : X / 2 ^ d % 2 < 2 := Nat.mod_lt _ (by decide)
  have e2 : X / 2 ^ (d + 1) = X / 2 ^ d / 2 := by rw [Nat.pow_succ, Nat.div_div_eq_div_mul]
  have e3 : b0 * 2 ^ (j + 1 + 1) = 2 * (b0 * 2 ^ (j + 1)) := by rw [Nat.pow_succ _ (j + 1)]; grind
  have e4 : (2 : Nat) ^ (j + 1) = 2 * 2 ^ j := by rw [Nat.pow_succ]; omega
  rw [e2] at hy
  have ih := Extend_l0 h hn b0 d (j + 1) (2 * y + ((X / 2 ^ d % 2 : Nat) : Int)) (by omega) (by
   rw [e3]
   generalize b0 * 2 ^ (j + 1) = u at *
   generalize X / 2 ^ d = q at *
   omega) (by
   rw [e4]
   generalize X / 2 ^ d % 2 = b at *
   generalize 2 ^ j = z at *
   omega) (by
   rw [e4]
   generalize X / 2 ^ d % 2 = b at *
   generalize 2 ^ j = z at *
   omega)
  have y1 : -4611686018427387904 ≤ y := by clear ih; generalize 2 ^ j = z at *; omega
  have y2 : y < 4611686018427387904 := by clear ih; generalize 2 ^ j = z at *; omega
  have j4 : j + 1 < 4611686018427387904 := by omega
  simp only [vernierref01_Extend.l0, nI_eq, if_pos (show ((j + 1 : Nat) : Int) < (n : Int) by omega), if_pos (show (0 : Int) ≤ ((j + 1 : Nat) : Int) by omega), if_pos (show ((j + 1 : Nat) : Int) < (s.size : Int) by omega), hb, e1, w_2y y1 y2 hbit, w_succ' j4]
  exact ih
theorem Extend_mod {n a : Nat} (h1 : 1 ≤ n) (hn : n ≤ 64) (ha : a < 18446744073709551616) : Ev (fun k => vernierref01_Extend.f k (a : Int) (n : Int)) (rkN n (a % 2 ^ n), 0) := by
 obtain ⟨s, s1, s2⟩ := Text_eq a n ha hn
 have hx := Nat.mod_lt a (two_pos n)
 unfold vernierref01_Extend.f
 simp only [if_neg (show ¬ (n : Int) < 1 by omega), decide_eq_false (show ¬ (n : Int) > 64 by omega)]
 refine evs ?_
 simp only [vernierref01_Extend.j0, nI_eq, Bool.false_eq_true, if_false]
 refine Ev.bind s1 ?_
 clear s1
 generalize a % 2 ^ n = x at *
 have hs := s2.size
 have hb := s2.bit (i := 0) (by omega)
 rw [Nat.sub_zero] at hb
 have hb' : bt s 0 = _ := hb
 obtain ⟨m, rfl⟩ : ∃ m, n = m + 1 := ⟨n - 1, by omega⟩
 rw [Nat.add_sub_cancel] at hb'
 have hz : x / 2 ^ m < 2 := by
  rw [Nat.div_lt_iff_lt_mul (two_pos m)]
  rw [Nat.pow_succ] at hx; omega
 rw [Nat.mod_eq_of_lt hz] at hb'
 simp only [if_pos (show (0 : Int) < (s.size : Int) by omega), hb']
 have hr : rkN (m + 1) x = (x : Int) - ((x / 2 ^ m * 2 ^ (m + 1) : Nat) : Int) := by
  unfold rkN
  rw [Nat.add_sub_cancel]
  by_cases h : 2 ^ m ≤ x
  ·have : x / 2 ^ m = 1 := by
    have : 1 ≤ x / 2 ^ m := by rw [Nat.le_div_iff_mul_le (two_pos m)]; omega
    omega
   rw [if_pos h, this, Nat.one_mul]
  ·have : x / 2 ^ m = 0 := Nat.div_eq_of_lt (by omega)
   rw [if_neg h, this, Nat.zero_mul]; simp
 rw [hr]
 by_cases hb1 : x / 2 ^ m = 1
 ·simp only [hb1, if_pos (show (48 : Int) + ((1 : Nat) : Int) = 49 by decide)]
  refine evs ?_
  simp only [vernierref01_Extend.j1, nI_eq]
  exact Extend_l0 s2 hn 1 m 0 (-1) (by omega) (by rw [hb1]; decide) (by decide) (by decide)
 ·have hb0 : x / 2 ^ m = 0 := by
   revert hz hb1; generalize x / 2 ^ m = w; intro hz hb1; omega
  simp only [hb0, if_neg (show ¬ (48 : Int) + ((0 : Nat) : Int) = 49 by decide)]
  refine evs ?_
  simp only [vernierref01_Extend.j1, nI_eq]
  exact Extend_l0 s2 hn 0 m 0 0 (by omega) (by rw [hb0]; decide) (by decide) (by decide)
theorem ref_Rank_mod {n a : Nat} (h : isW n = true) (ha : a < 18446744073709551616) : Ev (fun k => vernierref05_Rank.f k (n : Int) (a : Int)) (rkN n (a % 2 ^ n), 0) := by
 obtain ⟨b64, b8⟩ := pow64 h
 unfold vernierref05_Rank.f
 simp only [ref_Is_eq, h, Option.bind_some, if_true]
 exact Ev.bind (Extend_mod (by omega) b64 ha) (Ev.now _)
def rkE (n : Nat) (kd : Int) (ng : Bool) (sc : Int) (V : Nat) (R : Bool) : Int := if kd = 0 then 0 else if ng then -(posP n sc V R : Int) else posP n sc V R
theorem rnd_rank {n : Nat} {kd sc : Int} {ng R : Bool} {V : Nat} (h8 : 8 ≤ n) (hn : n ≤ 64) (hk : kd = 0 ∧ ng = false ∨ kd = 1) (hV : V < 2 ^ 128) (hV0 : kd = 1 → 2 ^ 127 ≤ V) :
  rnd n kd ng sc V R < 2 ^ n ∧ rkN n (rnd n kd ng sc V R) = rkE n kd ng sc V R := by
 have hp := two_pos (n - 1)
 have e : (2 : Nat) ^ n = 2 * 2 ^ (n - 1) := by rw [show n = n - 1 + 1 by omega, Nat.pow_succ]; simp; omega
 rcases hk with ⟨rfl, rfl⟩ | rfl
 ·have : rnd n 0 false sc V R = 0 := by unfold rnd cutE; simp
  rw [this]
  refine ⟨two_pos n, ?_⟩
  unfold rkN rkE
  rw [if_neg (by omega)]; simp
 ·have b := posP_bounds (n := n) (s := sc) (V := V) (R := R) h8 hn hV
  unfold rkE
  rw [if_neg (by decide)]
  cases ng
  ·rw [rnd_pos h8 hn hV (hV0 rfl)]
   refine ⟨by omega, ?_⟩
   unfold rkN
   rw [if_neg (by omega)]; rfl
  ·rw [rnd_neg, rnd_pos h8 hn hV (hV0 rfl), negN_eq hn (by omega) (by omega), if_neg (by omega)]
   refine ⟨by omega, ?_⟩
   unfold rkN
   rw [if_pos (by omega)]
   simp only [if_true]
   omega
end Go.Proofs.Ytkobihckebiheaa.V
namespace Go.Proofs.Ytkobihckebiheaa.V
open Go Go.RowKit Go.Proofs.Ytkobihckebiheaa.Ab
set_option linter.unusedVariables false
set_option linter.unusedSimpArgs false
def EX.sg (x : EX) : Int := if x.kd = 1 then (if x.ng then -1 else 1) else 0
def lmE (s : Int) (V : Nat) (R : Bool) (t : Int) (U : Nat) (Q : Bool) : Prop := s < t ∨ (s = t ∧ (V < U ∨ (V = U ∧ bR R ≤ bR Q)))
theorem lmE_total (s : Int) (V : Nat) (R : Bool) (t : Int) (U : Nat) (Q : Bool) : lmE s V R t U Q ∨ lmE t U Q s V R := by unfold lmE; omega
theorem lmE_refl (s : Int) (V : Nat) (R : Bool) : lmE s V R s V R := by unfold lmE; omega
def EX.le (x y : EX) : Prop := x.sg < y.sg ∨ (x.sg = y.sg ∧ ((x.sg = 1 → lmE x.sc x.V x.R y.sc y.V y.R) ∧ (x.sg = -1 → lmE y.sc y.V y.R x.sc x.V x.R)))
theorem EX.le_refl (x : EX) : x.le x := .inr ⟨rfl, fun _ => lmE_refl _ _ _, fun _ => lmE_refl _ _ _⟩
theorem EX.sg_cases (x : EX) : x.sg = 0 ∨ x.sg = 1 ∨ x.sg = -1 := by
  unfold EX.sg
  split
  · split
    · exact .inr (.inr rfl)
    · exact .inr (.inl rfl)
  · exact .inl rfl
theorem EX.le_total (x y : EX) : x.le y ∨ y.le x := by
  unfold EX.le
  rcases Int.lt_trichotomy x.sg y.sg with h | h | h
  · exact .inl (.inl h)
  · rcases EX.sg_cases x with h0 | h0 | h0
    · exact .inl (.inr ⟨h, fun e => by omega, fun e => by omega⟩)
    · rcases lmE_total x.sc x.V x.R y.sc y.V y.R with k | k
      · exact .inl (.inr ⟨h, fun _ => k, fun e => by omega⟩)
      · exact .inr (.inr ⟨h.symm, fun _ => k, fun e => by omega⟩)
    · rcases lmE_total y.sc y.V y.R x.sc x.V x.R with k | k
      · exact .inl (.inr ⟨h, fun e => by omega, fun _ => k⟩)
      · exact .inr (.inr ⟨h.symm, fun e => by omega, fun _ => k⟩)
  · exact .inr (.inl h)
def EX.num (x : EX) : Prop := x = EX.zero ∨ (x.kd = 1 ∧ 2 ^ 127 ≤ x.V ∧ x.V < 2 ^ 128 ∧ -1099511627776 ≤ x.sc ∧ x.sc ≤ 1099511627776)
theorem EX.num.ok {x : EX} (h : x.num) : x.ok := h.elim .inl (fun h => .inr (.inr h))
theorem EX.ok_num {x : EX} (h : x.ok) (hk : x.kd ≠ 2) : x.num := by
  rcases h with h | h | h
  · exact .inl h
  · subst h; exact absurd rfl hk
  · exact .inr h
theorem EX.rnd_rk {n : Nat} {x : EX} (h8 : 8 ≤ n) (hn : n ≤ 64) (hx : x.num) : rkN n (x.rnd n) = rkE n x.kd x.ng x.sc x.V x.R := by
  rcases hx with rfl | ⟨h1, h2, h3, -⟩
  · exact (rnd_rank (n := n) (kd := 0) (ng := false) (sc := 0) (V := 0) (R := false) h8 hn (.inl ⟨rfl, rfl⟩) (two_pos 128) (fun h => by cases h)).2
  · exact (rnd_rank (n := n) h8 hn (.inr h1) h3 (fun _ => h2)).2
theorem EX.rnd_mono {n : Nat} {x y : EX} (h8 : 8 ≤ n) (hn : n ≤ 64) (hx : x.num) (hy : y.num) (h : x.le y) : rkN n (x.rnd n) ≤ rkN n (y.rnd n) := by
  rw [EX.rnd_rk h8 hn hx, EX.rnd_rk h8 hn hy]
  have pb : ∀ z : EX, z.num → z.kd = 1 → 1 ≤ posP n z.sc z.V z.R := fun z hz h1 => by
    rcases hz with rfl | hz
    · cases h1
    · exact (posP_bounds h8 hn hz.2.2.1).1
  have kd : ∀ z : EX, z.num → z.kd = 0 ∨ z.kd = 1 := fun z hz => by
    rcases hz with rfl | hz
    · exact .inl rfl
    · exact .inr hz.1
  have rk : ∀ z : EX, z.num → (z.sg = 0 → rkE n z.kd z.ng z.sc z.V z.R = 0) ∧ (z.sg = 1 → z.kd = 1 ∧ rkE n z.kd z.ng z.sc z.V z.R = posP n z.sc z.V z.R) ∧ (z.sg = -1 → z.kd = 1 ∧ rkE n z.kd z.ng z.sc z.V z.R = -(posP n z.sc z.V z.R : Int)) := by
    intro z hz
    rcases kd z hz with h0 | h0
    · simp [EX.sg, rkE, h0]
    · cases hg : z.ng <;> simp [EX.sg, rkE, h0, hg]
  obtain ⟨x0, x1, x2⟩ := rk x hx
  obtain ⟨y0, y1, y2⟩ := rk y hy
  have px := pb x hx
  have py := pb y hy
  rcases h with h | ⟨h, hp, hm⟩
  · rcases EX.sg_cases x with a | a | a <;> rcases EX.sg_cases y with b | b | b <;> first | omega | (rw [x0 a, (y1 b).2]; omega) | (rw [(x2 a).2, y0 b]; omega) | (rw [(x2 a).2, (y1 b).2]; omega)
  · rcases EX.sg_cases x with a | a | a
    · rw [x0 a, y0 (by omega)]; exact Int.le_refl _
    · have b : y.sg = 1 := by omega
      obtain ⟨k1, e1⟩ := x1 a
      obtain ⟨k2, e2⟩ := y1 b
      rcases hx with rfl | hx
      · cases k1
      · rcases hy with rfl | hy
        · cases k2
        · have := posP_mono (n := n) h8 hn hx.2.2.1 hy.2.2.1 hx.2.1 hy.2.1 (hp a)
          rw [e1, e2]; omega
    · have b : y.sg = -1 := by omega
      obtain ⟨k1, e1⟩ := x2 a
      obtain ⟨k2, e2⟩ := y2 b
      rcases hx with rfl | hx
      · cases k1
      · rcases hy with rfl | hy
        · cases k2
        · have := posP_mono (n := n) h8 hn hy.2.2.1 hx.2.2.1 hy.2.1 hx.2.1 (hm a)
          rw [e1, e2]; omega
theorem rkN_inj {n x y : Nat} (hx : x < 2 ^ n) (hy : y < 2 ^ n) (h : rkN n x = rkN n y) : x = y := by
  unfold rkN at h
  split at h <;> split at h <;> omega
theorem decN_num {n x : Nat} (h8 : 8 ≤ n) (hn : n ≤ 64) (hx : x < 2 ^ n) (h : x ≠ 2 ^ (n - 1)) : (decN n x).ex.num := by
  refine EX.ok_num (NM.ex_ok (decN_ok h8 hn hx)) ?_
  unfold decN
  by_cases h0 : x = 0
  · rw [if_pos h0]; show (0 : Int) ≠ 2; decide
  · rw [if_neg h0, if_neg h]; show (1 : Int) ≠ 2; decide
theorem decN_le {n x y : Nat} (h8 : 8 ≤ n) (hn : n ≤ 64) (hx : x < 2 ^ n) (hy : y < 2 ^ n) (hx1 : x ≠ 2 ^ (n - 1)) (hy1 : y ≠ 2 ^ (n - 1)) (h : rkN n x ≤ rkN n y) : (decN n x).ex.le (decN n y).ex := by
  rcases EX.le_total (decN n x).ex (decN n y).ex with k | k
  · exact k
  · have := EX.rnd_mono h8 hn (decN_num h8 hn hy hy1) (decN_num h8 hn hx hx1) k
    rw [dec_rnd h8 hn hx, dec_rnd h8 hn hy] at this
    have e := rkN_inj hx hy (by omega)
    rw [e]
    exact EX.le_refl _
end Go.Proofs.Ytkobihckebiheaa.V
namespace Go.Proofs.Ytkobihckebiheaa.V
open Go Go.RowKit Go.Proofs.Ytkobihckebiheaa.Ab Go.Proofs.Ytkobihckebiheaa.Fn
set_option linter.unusedVariables false
def cmpI (x y : Int) : Int := if x < y then -1 else if x > y then 1 else 0
theorem cmpI_pos {x y : Int} : cmpI x y > 0 ↔ y < x := by unfold cmpI; split <;> (try split) <;> omega
theorem cmpI_neg {x y : Int} : cmpI x y < 0 ↔ x < y := by unfold cmpI; split <;> (try split) <;> omega
theorem cmpI_le {x y : Int} : cmpI x y ≤ 0 ↔ x ≤ y := by unfold cmpI; split <;> (try split) <;> omega
theorem cmpI_ge {x y : Int} : cmpI x y ≥ 0 ↔ y ≤ x := by unfold cmpI; split <;> (try split) <;> omega
theorem ref08_Cmps_eq {n a b : Nat} (h : isW n = true) (ha : a < 18446744073709551616) (hb : b < 18446744073709551616) :
  Ev (fun k => vernierref08_Cmps.f k (n : Int) (a : Int) (b : Int)) (cmpI (rkN n (a % 2 ^ n)) (rkN n (b % 2 ^ n)), 0) := by
 unfold vernierref08_Cmps.f
 refine Ev.bind (ref_Rank_mod h ha) (Ev.bind (ref_Rank_mod h hb) (evn ?_))
 simp only [if_true]
 unfold cmpI
 split
 ·rfl
 ·split <;> rfl
theorem ref08_Cmp_eq {n a b : Nat} (h : isW n = true) (ha : a < 18446744073709551616) (hb : b < 18446744073709551616) :
  Ev (fun k => vernierref08_Cmp.f k (n : Int) (a : Int) (b : Int)) (cmpI (rkN n (a % 2 ^ n)) (rkN n (b % 2 ^ n))) := by
 unfold vernierref08_Cmp.f
 exact Ev.bind (ref08_Cmps_eq h ha hb) (Ev.now _)
end Go.Proofs.Ytkobihckebiheaa.V
