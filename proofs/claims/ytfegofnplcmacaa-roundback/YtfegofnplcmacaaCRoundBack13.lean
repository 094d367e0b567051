-- Written by a program of this session out of its own texts (wip/tools/link.py).
import Derived.ArgAppend
import Derived.Below
import Derived.BigQuiet
import Derived.Deep.AppendLies
import Derived.Deep.CutBlock
import Derived.Deep.DeepCutAuto
import Derived.Deep.Draws
import Derived.Deep.LoopGhost
import Derived.Deep.OwnRows
import Derived.Deep.QuietTactic
import Derived.Deep.RegionHeld3
import Derived.KernelRfl
import Derived.LaidEql
import Derived.Laws.BitsLemmas
import Derived.Laws.BytesArg
import Derived.Laws.IdiomCopy
import Derived.Laws.MakeOwn
import Derived.Laws.OwnMore
import Derived.Laws.Rows
import Derived.Laws.Slices
import Derived.Laws.Strings
import Derived.Laws.StructEq
import Derived.Lib.AppendStr
import Derived.Lib.BitFns
import Derived.Lib.ConvBytes
import Derived.Lib.Slices
import Derived.Lib.Small
import Derived.Lib.Strings
import Derived.Lib.Walk
import Derived.Maps.AppendAt
import Derived.OrdersHeld
import Derived.OwnWalk
import Derived.RowKit
import Derived.RowKit3
import Derived.Tactics
import Derived.Test.YtfegofnplcmacaaProg
import Derived.WalkKit
import Derived.WideLaws
import Derived.Test.YtfegofnplcmacaaCRoundBack9
import Derived.Test.YtfegofnplcmacaaCRoundBack10
import Derived.Test.YtfegofnplcmacaaCRoundBack11
import Derived.Test.YtfegofnplcmacaaCRoundBack12
namespace Go.Proofs.Ytfegofnplcmacaa.V
open Go Go.RowKit Go.Proofs.YtfegofnplcmacaaW.PrintWords Go.Proofs.YtfegofnplcmacaaW.PrintLast Go.Proofs.YtfegofnplcmacaaW.PrintMore Go.Proofs.Ytfegofnplcmacaa.PAll
set_option linter.unusedVariables false
set_option linter.unusedSimpArgs false
theorem ref_Is_eq (n : Int) : vernierref05_Is.f n = some (isW n) := by
  unfold vernierref05_Is.f isW
  by_cases h1 : n = 8
  · simp [h1]
  · by_cases h2 : n = 16
    · simp [h2]
    · by_cases h3 : n = 32
      · simp [h3]
      · rw [if_neg h1, if_neg h2, if_neg h3]
        have e1 : (n == 8) = false := by simpa using h1
        have e2 : (n == 16) = false := by simpa using h2
        have e3 : (n == 32) = false := by simpa using h3
        rw [e1, e2, e3]; rfl
theorem ref_Fold_eq {n x : Nat} (h : isW n = true) (hx : x < 18446744073709551616) : Ev (fun k => vernierref06_Fold.f k (n : Int) (x : Int)) ((x % 2 ^ n : Nat) : Int) := by
  obtain ⟨b64, b8⟩ := pow64 h
  obtain ⟨s, s1, s2⟩ := Text_eq x n hx b64
  unfold vernierref06_Fold.f
  refine Ev.bind (a := (((x % 2 ^ n : Nat) : Int), (0 : Int))) ?_ (Ev.now _)
  unfold vernierref05_Fold.f
  simp only [ref_Is_eq, h, Option.bind_some, if_true]
  exact Ev.bind s1 (Ev.bind (Number_eq s2 b64) (Ev.now _))
end Go.Proofs.Ytfegofnplcmacaa.V
namespace Go.Proofs.Ytfegofnplcmacaa.Pure
open Go Go.RowKit Go.Proofs.Ytfegofnplcmacaa.PAll Go.Proofs.YtfegofnplcmacaaW.PrintWords Go.Proofs.YtfegofnplcmacaaW.PrintLast Go.Proofs.YtfegofnplcmacaaW.PrintMore Go.Proofs.Ytfegofnplcmacaa.V
theorem back_sound {n x : Nat} (h8 : 8 ≤ n) (hn : n ≤ 64) (hx : x < 2 ^ n) : soundN (decE n x).1 (decE n x).2.1 (decE n x).2.2.1 (decE n x).2.2.2.1 = true := by
  unfold decE
  by_cases h0 : x = 0
  · rw [if_pos h0]; rfl
  · rw [if_neg h0]
    by_cases h1 : x = 2 ^ (n - 1)
    · rw [if_pos h1]; rfl
    · rw [if_neg h1]
      have hm := magN_bounds (by omega) hx h0 h1
      exact dec_soundN h8 hn hm.1 hm.2
theorem back_round {n x : Nat} (h : isW (n : Int) = true) (hx : x < 2 ^ n) : Ev (fun k => round_Round.f k (n : Int) (decE n x).1 (decE n x).2.1 (decE n x).2.2.1 (decE n x).2.2.2.1 0 false) ((x : Int), none) := by
  obtain ⟨b64, b8⟩ := pow64 h
  have hs := soundN_E (back_sound b8 b64 hx)
  unfold decE at *
  by_cases h0 : x = 0
  · simp only [if_pos h0] at *
    have := round_Round_eq (hi := 0) (lo := 0) h (by decide) (by decide) hs
    have e : rnd n 0 false 0 (0 * 18446744073709551616 + 0) false = x := by unfold rnd cutE; simp [h0]
    rw [e] at this
    exact this
  · simp only [if_neg h0] at *
    by_cases h1 : x = 2 ^ (n - 1)
    · simp only [if_pos h1] at *
      have := round_Round_eq (hi := 0) (lo := 0) h (by decide) (by decide) hs
      have e : rnd n 2 false 0 (0 * 18446744073709551616 + 0) false = x := by
        unfold rnd cutE; simp
        rw [h1, pow_cast]
        exact Int.toNat_natCast _
      rw [e] at this
      exact this
    · simp only [if_neg h1] at *
      have hm := magN_bounds (by omega) hx h0 h1
      have hlf := dLf_le (m := n - 1) (w := magN n x) (by omega)
      obtain ⟨_, d2, d3⟩ := decV_sub hlf
      have hf := (decFr_range hlf).2
      rw [p64] at hf
      have := round_Round_eq (lo := 0) h hf (by decide) hs
      rw [Nat.add_zero] at this
      have e : rnd n 1 (decide (2 ^ (n - 1) < x)) (decS (n - 1) (magN n x)) (decFr (n - 1) (magN n x) * 18446744073709551616) false = x := by
        have hp := dec_pos b8 b64 hm.1 hm.2
        have h2 := two_halves (n := n) (by omega)
        have key : rnd n 1 false (decS (n - 1) (magN n x)) (decV (n - 1) (magN n x)) false = magN n x := by rw [rnd_pos b8 b64 d3 d2, hp]
        by_cases hs : 2 ^ (n - 1) < x
        · rw [decide_eq_true hs, rnd_neg]
          have : negN n (magN n x) = x := by
            rw [negN_eq b64 hm.1 (by omega), if_neg (by omega)]
            unfold magN; rw [if_pos hs]; omega
          rw [show rnd n 1 false (decS (n - 1) (magN n x)) (decFr (n - 1) (magN n x) * 18446744073709551616) false = magN n x from key]
          exact this
        · rw [decide_eq_false hs]
          have : magN n x = x := by unfold magN; rw [if_neg hs]
          rw [this] at key ⊢
          exact key
      rw [e] at this
      exact this
theorem RoundBack : vernierlaw07_RoundBack.Pure := by
  intro n p w0 w1
  obtain ⟨p, rfl, hp⟩ := u64_nat w1
  refine Ev.rounds (g := fun k => vernierlaw07_RoundBack.f k n (p : Int)) ?_
  unfold vernierlaw07_RoundBack.f
  refine Ev.bind up7 ?_
  by_cases hn : isW n = true
  · obtain ⟨m, rfl, _⟩ := isW_nat hn
    obtain ⟨b64, b8⟩ := pow64 hn
    have hx := Nat.mod_lt p (two_pos m)
    refine Ev.bind (Decode_eq hn hp) ?_
    have hs := back_sound b8 b64 hx
    have hf : 0 ≤ (decE m (p % 2 ^ m)).2.2.2.1 ∧ (decE m (p % 2 ^ m)).2.2.2.1 < 18446744073709551616 := by
      unfold decE
      split
      · exact ⟨by decide, by decide⟩
      · split
        · exact ⟨by decide, by decide⟩
        · have := (decFr_range (dLf_le (m := m - 1) (w := magN m (p % 2 ^ m)) (by omega))).2
          rw [p64] at this
          simp only
          omega
    have ho := round_Of_eq (decE m (p % 2 ^ m)).1 (decE m (p % 2 ^ m)).2.1 (decE m (p % 2 ^ m)).2.2.1 (decE m (p % 2 ^ m)).2.2.2.1 hf.2 hf.1
    rw [if_pos hs] at ho
    refine Ev.bind ho (Ev.bind (back_round hn hx) ?_)
    simp only [ref_Is_eq, hn, Option.bind_some, if_true]
    have he : (decE m (p % 2 ^ m)).2.2.2.2 = none := by unfold decE; split; rfl; split; rfl; rfl
    simp only [he, Option.isNone_none, if_true]
    refine Ev.bind (ref_Fold_eq hn hp) (evn ?_)
    simp
  · have hn : isW n = false := by simpa using hn
    refine Ev.bind (Decode_no hn _) ?_
    have ho := round_Of_eq 0 false 0 0 (by decide) (by decide)
    rw [if_pos (show soundN 0 false 0 0 = true from rfl)] at ho
    refine Ev.bind ho (Ev.bind (round_Round_no hn) ?_)
    simp only [ref_Is_eq, hn, Option.bind_some, Bool.false_eq_true, if_false, if_true]
    exact evn (by simp)
end Go.Proofs.Ytfegofnplcmacaa.Pure
