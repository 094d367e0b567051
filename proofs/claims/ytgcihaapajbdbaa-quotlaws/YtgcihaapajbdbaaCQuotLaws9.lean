-- Written by a program of this session out of its own texts (wip/tools/link.py).
import Derived.Below
import Derived.ChangeKeysEq
import Derived.Deep.MidRow
import Derived.Deep.RegionHeld3
import Derived.Great.BuildSlice
import Derived.IntWalk
import Derived.KernelRfl
import Derived.LaidEql
import Derived.Laws.Bits64
import Derived.Laws.BitsLemmas
import Derived.Laws.BytesArg
import Derived.Laws.IdiomCopy
import Derived.Laws.OwnMore
import Derived.Laws.Rows
import Derived.Laws.Slices
import Derived.Laws.Strings
import Derived.Laws.StructEq
import Derived.Laws.Tables
import Derived.Lib.BitFns
import Derived.Lib.Slices
import Derived.Lib.Small
import Derived.Lib.Strings
import Derived.Lib.Walk
import Derived.Maps.AppendAt
import Derived.OrdersHeld
import Derived.RowKit
import Derived.Test.YtgcihaapajbdbaaProg
import Derived.Test.YtgcihaapajbdbaaCQuotLaws6
import Derived.Test.YtgcihaapajbdbaaCQuotLaws7
import Derived.Test.YtgcihaapajbdbaaCQuotLaws8
namespace Go.Proofs.Ytgcihaapajbdbaa.V
open Go Go.RowKit Go.Proofs.Ytgcihaapajbdbaa.Ab Go.Proofs.Ytgcihaapajbdbaa.Fn
set_option linter.unusedVariables false
set_option linter.unusedSimpArgs false
theorem ref_Is_eq (n : Int) : vernierref05_Is.f n = some (isW n) := by
  unfold vernierref05_Is.f isW
  by_cases h1 : n = 8
  · simp [h1]
  · by_cases h2 : n = 16
    · simp [h2]
    · by_cases h3 : n = 32
      · simp [h3]
      · rw [if_neg h1, if_neg h2, if_neg h3]
        have e1 : (n == 8) = false := by simpa using h1
        have e2 : (n == 16) = false := by simpa using h2
        have e3 : (n == 32) = false := by simpa using h3
        rw [e1, e2, e3]; rfl
theorem ref_Power_l (n : Nat) (hn : n ≤ 63) : ∀ (d i : Nat), i + d = n → Ev (fun k => vernierref05_Power.l0 k (n : Int) ((2 ^ i : Nat) : Int) (i : Int)) ((2 ^ n : Nat) : Int)
  | 0, i, h => by
    refine evs ?_
    simp only [vernierref05_Power.l0, nI_eq, if_neg (show ¬ (i : Int) < (n : Int) by omega)]
    have : i = n := by omega
    subst this
    exact Ev.now _
  | d + 1, i, h => by
    refine evs ?_
    have hp : 2 ^ (i + 1) ≤ 2 ^ 63 := pow_le (by omega)
    rw [p63, Nat.pow_succ] at hp
    have e1 : IntKind.u64.wrap (2 * ((2 ^ i : Nat) : Int)) = ((2 ^ (i + 1) : Nat) : Int) := by
      rw [Nat.pow_succ]
      generalize 2 ^ i = z at *
      rw [u64_of (by omega) (by omega)]; omega
    have e2 : wrap64 ((i : Int) + 1) = ((i + 1 : Nat) : Int) := by rw [w64 (by omega) (by omega)]; omega
    simp only [vernierref05_Power.l0, nI_eq, if_pos (show (i : Int) < (n : Int) by omega), e1, e2]
    exact ref_Power_l n hn d (i + 1) (by omega)
theorem ref_Power_eq {n : Nat} (hn : n ≤ 63) : Ev (fun k => vernierref05_Power.f k (n : Int)) ((2 ^ n : Nat) : Int) := by
  unfold vernierref05_Power.f
  exact ref_Power_l n hn n 0 (by omega)
theorem ref_Fold_eq {n x : Nat} (h : isW n = true) (hx : x < 18446744073709551616) : Ev (fun k => vernierref06_Fold.f k (n : Int) (x : Int)) ((x % 2 ^ n : Nat) : Int) := by
  obtain ⟨b64, b8⟩ := pow64 h
  obtain ⟨s, s1, s2⟩ := Text_eq x n hx b64
  unfold vernierref06_Fold.f
  refine Ev.bind (a := (((x % 2 ^ n : Nat) : Int), (0 : Int))) ?_ (Ev.now _)
  unfold vernierref05_Fold.f
  simp only [ref_Is_eq, h, Option.bind_some, if_true]
  exact Ev.bind s1 (Ev.bind (Number_eq s2 b64) (Ev.now _))
theorem ref_Neg_eq {n x : Nat} (h : isW n = true) (hx : x < 18446744073709551616) : Ev (fun k => vernierref06_Neg.f k (n : Int) (x : Int)) ((negN n x : Nat) : Int) := by
  unfold vernierref06_Neg.f
  rw [neg_wrap hx]
  exact Ev.bind (ref_Fold_eq h (Nat.mod_lt _ (by decide))) (Ev.now _)
end Go.Proofs.Ytgcihaapajbdbaa.V
namespace Go.Proofs.Ytgcihaapajbdbaa.V
open Go Go.RowKit Go.Proofs.Ytgcihaapajbdbaa.Ab Go.Proofs.Ytgcihaapajbdbaa.Fn
set_option linter.unusedVariables false
set_option linter.unusedSimpArgs false
structure NM where
 kd : Int
 ng : Bool
 sc : Int
 fr : Nat
structure EX where
 kd : Int
 ng : Bool
 sc : Int
 V : Nat
 R : Bool
theorem EX.ext' {x y : EX} (h1 : x.kd = y.kd) (h2 : x.ng = y.ng) (h3 : x.sc = y.sc) (h4 : x.V = y.V) (h5 : x.R = y.R) : x = y := by
 cases x; cases y; simp_all
def NM.ok (x : NM) : Prop := soundN x.kd x.ng x.sc (x.fr : Int) = true ∧ x.fr < 18446744073709551616
def EX.zero : EX := ⟨0, false, 0, 0, false⟩
def EX.nar : EX := ⟨2, false, 0, 0, false⟩
def EX.ok (x : EX) : Prop := x = EX.zero ∨ x = EX.nar ∨ (x.kd = 1 ∧ 2 ^ 127 ≤ x.V ∧ x.V < 2 ^ 128 ∧ -1099511627776 ≤ x.sc ∧ x.sc ≤ 1099511627776)
theorem EX.ok_lt {x : EX} (h : x.ok) : x.V < 2 ^ 128 := by
 rcases h with rfl | rfl | h
 ·exact two_pos 128
 ·exact two_pos 128
 ·exact h.2.2.1
theorem EX.ok_sound {x : EX} (h : x.ok) : soundE x.kd x.ng x.sc (TH x.V) (TL x.V) x.R = true := by
 rcases h with rfl | rfl | ⟨h1, h2, h3, h4, h5⟩
 ·rfl
 ·rfl
 ·unfold soundE
  rw [if_neg (by omega)]
  refine decide_eq_true ⟨h1, ?_, h4, h5⟩
  unfold TH
  rw [p127] at h2
  omega
def EX.rnd (n : Nat) (x : EX) : Nat := V.rnd n x.kd x.ng x.sc x.V x.R
def decN (n x : Nat) : NM := if x = 0 then ⟨0, false, 0, 0⟩ else if x = 2 ^ (n - 1) then ⟨2, false, 0, 0⟩ else ⟨1, decide (2 ^ (n - 1) < x), decS (n - 1) (magN n x), decFr (n - 1) (magN n x)⟩
theorem decE_N (n x : Nat) : decE n x = ((decN n x).kd, (decN n x).ng, (decN n x).sc, ((decN n x).fr : Int), none) := by
 unfold decE decN
 by_cases h0 : x = 0
 ·rw [if_pos h0, if_pos h0]; rfl
 ·rw [if_neg h0, if_neg h0]
  by_cases h1 : x = 2 ^ (n - 1)
  ·rw [if_pos h1, if_pos h1]; rfl
  ·rw [if_neg h1, if_neg h1]
theorem decN_ok {n x : Nat} (h8 : 8 ≤ n) (hn : n ≤ 64) (hx : x < 2 ^ n) : (decN n x).ok := by
 unfold decN
 by_cases h0 : x = 0
 ·rw [if_pos h0]; exact ⟨rfl, by decide⟩
 ·rw [if_neg h0]
  by_cases h1 : x = 2 ^ (n - 1)
  ·rw [if_pos h1]; exact ⟨rfl, by decide⟩
  ·rw [if_neg h1]
   have hm := magN_bounds (by omega) hx h0 h1
   refine ⟨dec_soundN h8 hn hm.1 hm.2, ?_⟩
   have := (decFr_range (dLf_le (m := n - 1) (w := magN n x) (by omega))).2
   rw [p64] at this
   exact this
def NM.ex (a : NM) : EX := ⟨a.kd, a.ng, a.sc, a.fr * 18446744073709551616, false⟩
theorem NM.cases {x : NM} (h : x.ok) : x = ⟨0, false, 0, 0⟩ ∨ x = ⟨2, false, 0, 0⟩ ∨ (x.kd = 1 ∧ 2 ^ 63 ≤ x.fr ∧ x.fr < 2 ^ 64 ∧ -1073741824 ≤ x.sc ∧ x.sc ≤ 1073741824) := by
 obtain ⟨h1, h2⟩ := h
 obtain ⟨kd, ng, sc, fr⟩ := x
 unfold soundN at h1
 simp only at h1 h2 ⊢
 split at h1
 ·rename_i hk
  have : ng = false ∧ sc = 0 ∧ fr = 0 := by simpa using h1
  obtain ⟨rfl, rfl, rfl⟩ := this
  rcases hk with rfl | rfl
  ·exact .inl rfl
  ·exact .inr (.inl rfl)
 ·have := of_decide_eq_true h1
  rw [p63, p64]
  exact .inr (.inr (by omega))
theorem NM.ex_tup (x : NM) (h : x.ok) : TH x.ex.V = (x.fr : Int) ∧ TL x.ex.V = 0 := by
 have := h.2
 unfold NM.ex TH TL
 simp only
 omega
theorem dec_rnd {n x : Nat} (h8 : 8 ≤ n) (hn : n ≤ 64) (hx : x < 2 ^ n) : (decN n x).ex.rnd n = x := by
 unfold decN NM.ex EX.rnd
 by_cases h0 : x = 0
 ·simp only [if_pos h0]; unfold V.rnd cutE; simp [h0]
 ·simp only [if_neg h0]
  by_cases h1 : x = 2 ^ (n - 1)
  ·simp only [if_pos h1]
   unfold V.rnd cutE; simp
   rw [h1, pow_cast]
   exact Int.toNat_natCast _
  ·simp only [if_neg h1]
   have hm := magN_bounds (by omega) hx h0 h1
   have hlf := dLf_le (m := n - 1) (w := magN n x) (by omega)
   obtain ⟨_, d2, d3⟩ := decV_sub hlf
   have hp := dec_pos h8 hn hm.1 hm.2
   have h2 := two_halves (n := n) (by omega)
   have key : V.rnd n 1 false (decS (n - 1) (magN n x)) (decV (n - 1) (magN n x)) false = magN n x := by rw [rnd_pos h8 hn d3 d2, hp]
   by_cases hs : 2 ^ (n - 1) < x
   ·rw [decide_eq_true hs, rnd_neg]
    have : negN n (magN n x) = x := by
     rw [negN_eq hn hm.1 (by omega), if_neg (by omega)]
     unfold magN; rw [if_pos hs]; omega
    rw [show V.rnd n 1 false (decS (n - 1) (magN n x)) (decFr (n - 1) (magN n x) * 18446744073709551616) false = magN n x from key]
    exact this
   ·rw [decide_eq_false hs]
    have : magN n x = x := by unfold magN; rw [if_neg hs]
    rw [this] at key ⊢
    exact key
theorem Round_X {n : Nat} {x : EX} (h : isW (n : Int) = true) (hx : x.ok) : Ev (fun k => round_Round.f k (n : Int) x.kd x.ng x.sc (TH x.V) (TL x.V) x.R) (((x.rnd n : Nat) : Int), none) := by
 have hl := EX.ok_lt hx
 have hs := EX.ok_sound hx
 rw [p128] at hl
 have := round_Round_eq (n := n) (hi := x.V / 18446744073709551616) (lo := x.V % 18446744073709551616) h (by omega) (by omega) hs
 rw [show x.V / 18446744073709551616 * 18446744073709551616 + x.V % 18446744073709551616 = x.V by omega] at this
 exact this
theorem EX.rnd_lt {n : Nat} {x : EX} (h8 : 8 ≤ n) (hn : n ≤ 64) (hx : x.ok) : x.rnd n < 2 ^ n := by
 have key : V.rnd n x.kd false x.sc x.V x.R ≤ 2 ^ (n - 1) := by
  rcases hx with rfl | rfl | ⟨h1, h2, h3, h4, h5⟩
  ·unfold V.rnd cutE EX.zero; simp
  ·unfold V.rnd cutE EX.nar; simp
  ·rw [h1, rnd_pos h8 hn h3 h2]
   exact Nat.le_trans (posP_bounds (n := n) (s := x.sc) (R := x.R) h8 hn h3).2 (Nat.sub_le _ _)
 have h2 := two_halves (n := n) (by omega)
 have hp := two_pos (n - 1)
 unfold EX.rnd
 cases hng : x.ng
 ·exact Nat.lt_of_le_of_lt key (pow_lt (by omega))
 ·rw [rnd_neg]
  unfold negN
  exact Nat.mod_lt _ (two_pos n)
theorem Decode_N {n p : Nat} (h : isW (n : Int) = true) (hp : p < 18446744073709551616) :
  Ev (fun k => codec_Decode.f k (n : Int) (p : Int)) ((decN n (p % 2 ^ n)).kd, (decN n (p % 2 ^ n)).ng, (decN n (p % 2 ^ n)).sc, ((decN n (p % 2 ^ n)).fr : Int), none) := by
 rw [← decE_N]; exact Decode_eq h hp
end Go.Proofs.Ytgcihaapajbdbaa.V
namespace Go.Proofs.Ytgcihaapajbdbaa.V
open Go Go.RowKit Go.Proofs.Ytgcihaapajbdbaa.Ab
set_option linter.unusedVariables false
set_option linter.unusedSimpArgs false
def negP (n x : Nat) : Nat := if x = 0 then 0 else 2 ^ n - x
theorem negP_negP {n x : Nat} (hx : x < 2 ^ n) : negP n (negP n x) = x := by
 unfold negP
 by_cases h : x = 0
 ·simp [h]
 ·rw [if_neg h, if_neg (by omega)]; omega
theorem negN_mod {n p : Nat} (hn : n ≤ 64) (hp : p < 18446744073709551616) : negN n p = negP n (p % 2 ^ n) := by
 unfold negN negP
 have s : (18446744073709551616 : Nat) = 2 ^ n * 2 ^ (64 - n) := by rw [pow_split hn, p64]
 have hd := Nat.div_add_mod p (2 ^ n)
 have hl := Nat.mod_lt p (two_pos n)
 have hq : p / 2 ^ n < 2 ^ (64 - n) := by rw [Nat.div_lt_iff_lt_mul (two_pos n), Nat.mul_comm, ← s]; exact hp
 rw [show (18446744073709551616 - p) % 18446744073709551616 % 2 ^ n = (18446744073709551616 - p) % 2 ^ n by
  rw [s, Nat.mod_mul_right_mod]]
 generalize p % 2 ^ n = r at *
 generalize p / 2 ^ n = q at *
 obtain ⟨c, hc⟩ : ∃ c, 2 ^ (64 - n) = q + c + 1 := ⟨2 ^ (64 - n) - q - 1, by omega⟩
 by_cases h : r = 0
 ·rw [if_pos h]
  have : 18446744073709551616 - p = 2 ^ n * (c + 1) := by
   have : 2 ^ n * (q + c + 1) = 2 ^ n * q + 2 ^ n * (c + 1) := by grind
   rw [s, hc]; omega
  rw [this, Nat.mul_mod_right]
 ·rw [if_neg h]
  have : 18446744073709551616 - p = (2 ^ n - r) + 2 ^ n * c := by
   have : 2 ^ n * (q + c + 1) = 2 ^ n * q + 2 ^ n * c + 2 ^ n := by grind
   rw [s, hc]; omega
  rw [this, Nat.add_mul_mod_self_left, Nat.mod_eq_of_lt (by omega)]
def NM.neg (a : NM) : NM := if a.kd = 1 then ⟨a.kd, !a.ng, a.sc, a.fr⟩ else a
def EX.neg (a : EX) : EX := if a.kd = 1 then ⟨a.kd, !a.ng, a.sc, a.V, a.R⟩ else a
theorem decN_neg {n x : Nat} (h1 : 1 ≤ n) (hx : x < 2 ^ n) : decN n (negP n x) = (decN n x).neg := by
 have h2 := two_halves h1
 have hp := two_pos (n - 1)
 unfold negP
 by_cases h0 : x = 0
 ·rw [if_pos h0]; unfold decN NM.neg; simp [h0]
 ·rw [if_neg h0]
  unfold decN
  rw [if_neg h0, if_neg (show ¬ 2 ^ n - x = 0 by omega)]
  by_cases hh : x = 2 ^ (n - 1)
  ·rw [if_pos hh, if_pos (by omega)]; rfl
  ·rw [if_neg hh, if_neg (by omega)]
   have hm : magN n (2 ^ n - x) = magN n x := by
    unfold magN
    by_cases hs : 2 ^ (n - 1) < x
    ·rw [if_pos hs, if_neg (by omega)]
    ·rw [if_neg hs, if_pos (by omega)]; omega
   have hg : decide (2 ^ (n - 1) < 2 ^ n - x) = !decide (2 ^ (n - 1) < x) := by
    by_cases hs : 2 ^ (n - 1) < x
    ·rw [decide_eq_true hs, decide_eq_false (by omega)]; rfl
    ·rw [decide_eq_false hs, decide_eq_true (by omega)]; rfl
   rw [hm, hg]; rfl
theorem EX.rnd_zero (n : Nat) : EX.zero.rnd n = 0 := by unfold EX.zero EX.rnd V.rnd cutE; simp
theorem EX.rnd_nar (n : Nat) : EX.nar.rnd n = 2 ^ (n - 1) := by
 unfold EX.nar EX.rnd V.rnd cutE; simp
 rw [pow_cast]; exact Int.toNat_natCast _
theorem EX.rnd_neg {n : Nat} {x : EX} (h8 : 8 ≤ n) (hn : n ≤ 64) (hx : x.ok) : x.neg.rnd n = negP n (x.rnd n) := by
 have h2 := two_halves (n := n) (by omega)
 have hp := two_pos (n - 1)
 have h64 : 2 ^ n ≤ 18446744073709551616 := by rw [← p64]; exact pow_le hn
 have hx' := hx
 rcases hx with rfl | rfl | ⟨h1, h2, h3, h4, h5⟩
 ·rw [show EX.zero.neg = EX.zero from rfl, EX.rnd_zero]; rfl
 ·rw [show EX.nar.neg = EX.nar from rfl, EX.rnd_nar]; unfold negP; rw [if_neg (by omega)]; omega
 ·obtain ⟨kd, ng, sc, U, R⟩ := x
  simp only at h1
  subst h1
  have hb : V.rnd n 1 false sc U R < 2 ^ n := EX.rnd_lt (x := ⟨1, false, sc, U, R⟩) h8 hn (.inr (.inr ⟨rfl, h2, h3, h4, h5⟩))
  have e : negN n (V.rnd n 1 false sc U R) = negP n (V.rnd n 1 false sc U R) := by
   rw [negN_mod hn (by omega), Nat.mod_eq_of_lt hb]
  cases ng
  ·show V.rnd n 1 true sc U R = negP n (V.rnd n 1 false sc U R)
   rw [V.rnd_neg, e]
  ·show V.rnd n 1 false sc U R = negP n (V.rnd n 1 true sc U R)
   rw [V.rnd_neg, e, negP_negP hb]
def oneN : NM := ⟨1, false, 0, 9223372036854775808⟩
theorem decN_one {n : Nat} (h : isW (n : Int) = true) : decN n (2 ^ (n - 2)) = oneN := by
 obtain ⟨m, e, h⟩ := isW_nat h
 have : n = m := by omega
 subst this
 rcases h with rfl | rfl | rfl | rfl <;> rfl
end Go.Proofs.Ytgcihaapajbdbaa.V
