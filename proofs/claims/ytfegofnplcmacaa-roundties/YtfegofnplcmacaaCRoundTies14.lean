-- Written by a program of this session out of its own texts (wip/tools/link.py).
import Derived.ArgAppend
import Derived.Below
import Derived.BigQuiet
import Derived.Deep.AppendLies
import Derived.Deep.CutBlock
import Derived.Deep.DeepCutAuto
import Derived.Deep.Draws
import Derived.Deep.LoopGhost
import Derived.Deep.OwnRows
import Derived.Deep.QuietTactic
import Derived.Deep.RegionHeld3
import Derived.KernelRfl
import Derived.LaidEql
import Derived.Laws.BitsLemmas
import Derived.Laws.BytesArg
import Derived.Laws.IdiomCopy
import Derived.Laws.MakeOwn
import Derived.Laws.OwnMore
import Derived.Laws.Rows
import Derived.Laws.Slices
import Derived.Laws.StructEq
import Derived.Lib.AppendStr
import Derived.Lib.BitFns
import Derived.Lib.ConvBytes
import Derived.Lib.Slices
import Derived.Lib.Small
import Derived.Lib.Strings
import Derived.Lib.Walk
import Derived.Maps.AppendAt
import Derived.OrdersHeld
import Derived.OwnWalk
import Derived.RowKit
import Derived.RowKit3
import Derived.Tactics
import Derived.Test.YtfegofnplcmacaaProg
import Derived.WalkKit
import Derived.WideLaws
import Derived.Test.YtfegofnplcmacaaCRoundTies9
import Derived.Test.YtfegofnplcmacaaCRoundTies10
import Derived.Test.YtfegofnplcmacaaCRoundTies13
namespace Go.Proofs.Ytfegofnplcmacaa.V
open Go Go.RowKit Go.Proofs.YtfegofnplcmacaaW.PrintWords Go.Proofs.YtfegofnplcmacaaW.PrintLast Go.Proofs.YtfegofnplcmacaaW.PrintMore Go.Proofs.Ytfegofnplcmacaa.PAll
set_option linter.unusedVariables false
set_option linter.unusedSimpArgs false
def decV (m w : Nat) : Nat := decFr m w * 18446744073709551616
theorem decV_sub {m w : Nat} (h : dLf m w ≤ 63) : decV m w - 2 ^ 127 = (decFr m w - 2 ^ 63) * 2 ^ 64 ∧ 2 ^ 127 ≤ decV m w ∧ decV m w < 2 ^ 128 := by
  have := decFr_range h
  unfold decV
  rw [p63, p64] at *
  rw [p127, p128]
  omega
theorem dLf_le {m w : Nat} (h : m ≤ 63) : dLf m w ≤ 63 := by unfold dLf dL1; omega
theorem decV_sig {m w : Nat} (h1 : 7 ≤ m) (hm : m ≤ 63) (hw0 : 0 < w) (hw : w < 2 ^ m) : sig (decS m w) (decV m w - 2 ^ 127) = w * 2 ^ (200 - m) := by
  rw [(decV_sub (dLf_le hm)).1]
  exact (dec_sig h1 hm hw0 hw).1
theorem dec_soundN {n w : Nat} {ng : Bool} (h8 : 8 ≤ n) (hn : n ≤ 64) (hw0 : 0 < w) (hw : w < 2 ^ (n - 1)) : soundN 1 ng (decS (n - 1) w) ((decFr (n - 1) w : Nat) : Int) = true := by
  obtain ⟨_, s1, s2, _, _⟩ := dec_sig (m := n - 1) (w := w) (by omega) (by omega) hw0 hw
  have := decFr_range (m := n - 1) (w := w) (dLf_le (by omega))
  rw [p63] at this
  unfold soundN
  rw [if_neg (by omega)]
  exact decide_eq_true (by omega)
theorem tie_sig {n P : Nat} (h8 : 8 ≤ n) (hn : n ≤ 63) (hP : P < 2 ^ (n - 1)) :
    0 < P * 2 ^ (64 - n) + 2 ^ (63 - n) ∧ P * 2 ^ (64 - n) + 2 ^ (63 - n) < 2 ^ 63 ∧ sig (decS 63 (P * 2 ^ (64 - n) + 2 ^ (63 - n))) (decV 63 (P * 2 ^ (64 - n) + 2 ^ (63 - n)) - 2 ^ 127) = (2 * P + 1) * 2 ^ (200 - n) := by
  have e : (2 : Nat) ^ (64 - n) = 2 * 2 ^ (63 - n) := by rw [show 64 - n = 63 - n + 1 by omega, Nat.pow_succ]; omega
  have hp := two_pos (63 - n)
  have h63 : 2 ^ (n - 1) * 2 ^ (64 - n) = 2 ^ 63 := by rw [← Nat.pow_add]; exact pow_congr (by omega)
  have hlt : P * 2 ^ (64 - n) + 2 ^ (63 - n) < 2 ^ 63 := by
    have := Nat.mul_le_mul_right (2 ^ (64 - n)) (show P + 1 ≤ 2 ^ (n - 1) by omega)
    rw [h63, Nat.add_mul] at this
    generalize P * 2 ^ (64 - n) = u at *
    generalize (2 : Nat) ^ 63 = v at *
    omega
  have h0 : 0 < P * 2 ^ (64 - n) + 2 ^ (63 - n) := by omega
  refine ⟨h0, hlt, ?_⟩
  rw [decV_sig (by decide) (by decide) h0 hlt]
  have e2 : P * 2 ^ (64 - n) + 2 ^ (63 - n) = (2 * P + 1) * 2 ^ (63 - n) := by rw [e]; grind
  rw [e2, Nat.mul_assoc, ← Nat.pow_add, show 63 - n + (200 - 63) = 200 - n by omega]
theorem q4 {n : Nat} (hn : n ≤ 63) : (2 : Nat) ^ (202 - n) = 4 * 2 ^ (200 - n) ∧ (2 : Nat) ^ (201 - n) = 2 * 2 ^ (200 - n) := by
  rw [show 202 - n = 200 - n + 1 + 1 by omega, show 201 - n = 200 - n + 1 by omega, Nat.pow_succ, Nat.pow_succ]
  omega
theorem rne_low {D X P : Nat} (h : rne (D + 2) (2 * X) = P) : X ≤ (2 * P + 1) * 2 ^ D ∧ (X = (2 * P + 1) * 2 ^ D → P % 2 = 0) ∧ (2 * P) * 2 ^ D ≤ X + 2 ^ D ∧ ((2 * P) * 2 ^ D = X + 2 ^ D → P % 2 = 0) := by
  obtain ⟨k1, k2, k3, k4⟩ := rne_spec (D + 2) (2 * X)
  rw [h] at k1 k2 k3 k4
  have e : (2 : Nat) ^ (D + 2) = 4 * 2 ^ D := by rw [Nat.pow_succ, Nat.pow_succ]; omega
  rw [e] at k1 k2 k3 k4
  generalize 2 ^ D = z at *
  have e1 : (2 * P + 1) * (4 * z) = 4 * ((2 * P + 1) * z) := by grind
  have e2 : (2 * P) * (4 * z) = 4 * ((2 * P) * z) := by grind
  rw [e1] at k1 k3
  rw [e2] at k2 k4
  refine ⟨by omega, fun h => k3 (by omega), by omega, fun h => k4 (by omega)⟩
theorem tie_up {n : Nat} {s : Int} {V : Nat} {t : Int} {U : Nat} (h8 : 8 ≤ n) (hn : n ≤ 63) (hV0 : 2 ^ 127 ≤ V) (hV : V < 2 ^ 128) (hU0 : 2 ^ 127 ≤ U) (hU : U < 2 ^ 128) (ht0 : -272 ≤ t) (ht : t < 272)
    (hP : posP n s V false ≠ 2 ^ (n - 1) - 1) (hsig : sig t (U - 2 ^ 127) = (2 * posP n s V false + 1) * 2 ^ (200 - n)) :
    (s < t ∨ (s = t ∧ V < U)) ∨ ((s = t ∧ V = U) ∧ posP n s V false % 2 = 0) := by
  have c1 : ¬ 4 * (n : Int) - 8 ≤ s := fun h => hP (by unfold posP; rw [if_pos h])
  obtain ⟨b1, _⟩ := posP_bounds (n := n) (s := s) (V := V) (R := false) h8 (by omega) hV
  by_cases c2 : s < -(4 * (n : Int) - 8)
  · left; left
    rcases Int.lt_or_le s t with h | h
    · exact h
    · exfalso
      have := sig_mono (s := t) (t := -(4 * (n : Int) - 8)) (f := U - 2 ^ 127) (g := 0) (by omega) (by omega) (fr_lt hU) (two_pos 127) (.inl (by omega))
      rw [sig_least h8 (by omega), hsig, (q4 hn).2] at this
      have := Nat.lt_of_mul_lt_mul_right this
      omega
  · have hr : rne (200 - n + 2) (2 * sig s (V - 2 ^ 127)) = posP n s V false := by
      unfold posP
      rw [if_neg c1, if_neg c2, show 200 - n + 2 = 202 - n by omega]
      rfl
    obtain ⟨k1, k2, _, _⟩ := rne_low hr
    rw [← hsig] at k1 k2
    rcases less_tri s (V - 2 ^ 127) t (U - 2 ^ 127) with h | h | h
    · left
      rcases h with h | h
      · exact .inl h
      · exact .inr ⟨h.1, Nat.lt_of_not_le fun hle => absurd (Nat.sub_le_sub_right hle (2 ^ 127)) (by have := h.2; generalize (2 : Nat) ^ 127 = z at *; omega)⟩
    · right
      obtain ⟨h1, h2⟩ := h
      have hVU : V = U := by
        generalize (2 : Nat) ^ 127 = z at *; omega
      exact ⟨⟨h1, hVU⟩, k2 (by rw [h1, h2])⟩
    · exfalso
      have := sig_mono (by omega) (by omega) (fr_lt hU) (fr_lt hV) h
      omega
theorem tie_down {n : Nat} {s : Int} {V : Nat} {t : Int} {U : Nat} (h8 : 8 ≤ n) (hn : n ≤ 63) (hV0 : 2 ^ 127 ≤ V) (hV : V < 2 ^ 128) (hU0 : 2 ^ 127 ≤ U) (hU : U < 2 ^ 128) (ht0 : -272 ≤ t) (ht : t < 272)
    (hP : posP n s V false ≠ 1) (hsig : sig t (U - 2 ^ 127) = (2 * (posP n s V false - 1) + 1) * 2 ^ (200 - n)) :
    (t < s ∨ (t = s ∧ U < V)) ∨ ((s = t ∧ V = U) ∧ posP n s V false % 2 = 0) := by
  obtain ⟨b1, b2⟩ := posP_bounds (n := n) (s := s) (V := V) (R := false) h8 (by omega) hV
  have c2 : ¬ s < -(4 * (n : Int) - 8) := fun h => hP (by unfold posP; rw [if_neg (by omega), if_pos h])
  by_cases c1 : 4 * (n : Int) - 8 ≤ s
  · left; left
    have hm : posP n s V false = 2 ^ (n - 1) - 1 := by unfold posP; rw [if_pos c1]
    rw [hm] at hsig b1
    rcases less_tri t (U - 2 ^ 127) (4 * (n : Int) - 8) 0 with h | h | h
    · rcases h with h | h
      · omega
      · exact absurd h.2 (Nat.not_lt_zero _)
    · exfalso
      rw [h.1, h.2, sig_most h8 (by omega), (q4 hn).2, ← Nat.mul_assoc] at hsig
      have := Nat.eq_of_mul_eq_mul_right (two_pos (200 - n)) hsig
      omega
    · exfalso
      have := sig_mono (by omega) (by omega) (two_pos 127) (fr_lt hU) h
      rw [hsig, sig_most h8 (by omega), (q4 hn).2, ← Nat.mul_assoc] at this
      have := Nat.lt_of_mul_lt_mul_right this
      omega
  · have hr : rne (200 - n + 2) (2 * sig s (V - 2 ^ 127)) = posP n s V false := by
      unfold posP
      rw [if_neg c1, if_neg c2, show 200 - n + 2 = 202 - n by omega]
      rfl
    obtain ⟨_, _, k3, k4⟩ := rne_low hr
    generalize posP n s V false = P at *
    have e : (2 * (P - 1) + 1) * 2 ^ (200 - n) + 2 ^ (200 - n) = 2 * P * 2 ^ (200 - n) := by
      obtain ⟨q, rfl⟩ : ∃ q, P = q + 1 := ⟨P - 1, by omega⟩
      rw [Nat.add_sub_cancel]
      grind
    rw [← hsig] at e
    rcases less_tri s (V - 2 ^ 127) t (U - 2 ^ 127) with h | h | h
    · exfalso
      have := sig_mono (by omega) (by omega) (fr_lt hV) (fr_lt hU) h
      omega
    · right
      obtain ⟨h1, h2⟩ := h
      have hVU : V = U := by
        generalize (2 : Nat) ^ 127 = z at *; omega
      refine ⟨⟨h1, hVU⟩, k4 ?_⟩
      rw [h1, h2]
      omega
    · left
      rcases h with h | h
      · exact .inl h
      · exact .inr ⟨h.1, Nat.lt_of_not_le fun hle => absurd (Nat.sub_le_sub_right hle (2 ^ 127)) (by have := h.2; generalize (2 : Nat) ^ 127 = z at *; omega)⟩
end Go.Proofs.Ytfegofnplcmacaa.V
namespace Go.Proofs.Ytfegofnplcmacaa.PAll
open Go.RowKit Go.Proofs.YtfegofnplcmacaaW.PrintWords Go.Proofs.YtfegofnplcmacaaW.PrintLast Go.Proofs.YtfegofnplcmacaaW.PrintMore
attribute [local go_sem] max2_int min2_int max_two min_two max_three min_three max_four min_four
set_option linter.unusedVariables false
set_option linter.unusedSimpArgs false
attribute [local go_sem high] eqEE27 neEE27 eqNE27 neNE27
def vernierlaw00_further.f (a0 : Option Int) : Option (Int) := if a0.isNone = true then (some (-1)) else (if (a0.getD 0) = 13 then (some 13) else (if (a0.getD 0) = 14 then (some 14) else (if (a0.getD 0) = 15 then (some 15) else (if (a0.getD 0) = 16 then (some 16) else (if (a0.getD 0) = 17 then (some 17) else (if (a0.getD 0) = 18 then (some 18) else (if (a0.getD 0) = 19 then (some 19) else (if (a0.getD 0) = 20 then (some 20) else (if (a0.getD 0) = 21 then (some 21) else (if (a0.getD 0) = 22 then (some 22) else (if (a0.getD 0) = 23 then (some 23) else (if (a0.getD 0) = 24 then (some 24) else (some (-1))))))))))))))
set_option maxHeartbeats 8000000 in
set_option maxRecDepth 100000 in
theorem vernierlaw00_further.calls (a0 : Option Int) (r : Int) (w : World) (h : vernierlaw00_further.f a0 = some r) :
  Calls Try.prog 37 #[errW a0] w fun e w' => e = .returned (.int .i64 r) ∧ Drawn0 w w' := by
 have hu27 := Try.underlying27
 have hu55 := Try.underlying55
 have H : (if a0.isNone = true then (some (-1)) else (if (a0.getD 0) = 13 then (some 13) else (if (a0.getD 0) = 14 then (some 14) else (if (a0.getD 0) = 15 then (some 15) else (if (a0.getD 0) = 16 then (some 16) else (if (a0.getD 0) = 17 then (some 17) else (if (a0.getD 0) = 18 then (some 18) else (if (a0.getD 0) = 19 then (some 19) else (if (a0.getD 0) = 20 then (some 20) else (if (a0.getD 0) = 21 then (some 21) else (if (a0.getD 0) = 22 then (some 22) else (if (a0.getD 0) = 23 then (some 23) else (if (a0.getD 0) = 24 then (some 24) else (some (-1))))))))))))))) = some r := h
 clear h
 rcases a0 with _ | q230
 ·have H1 : (some (-1)) = some r := by rw [if_pos (show (none : Option Int).isNone = true by rfl)] at H; exact H
  clear H
  have H := H1
  clear H1
  simp only [errW_none, errW_some]
  obtain rfl := Option.some.inj H
  go_enter Try.func37, Try.ntmps37
  go_wp2
  go_ret
  exact ⟨by first | rfl | (simp; done) | (simp [*]; done), by repeat (first | exact Drawn0.refl _ | apply Drawn0.step)⟩
 ·have H1 : (if q230 = 13 then (some 13) else (if q230 = 14 then (some 14) else (if q230 = 15 then (some 15) else (if q230 = 16 then (some 16) else (if q230 = 17 then (some 17) else (if q230 = 18 then (some 18) else (if q230 = 19 then (some 19) else (if q230 = 20 then (some 20) else (if q230 = 21 then (some 21) else (if q230 = 22 then (some 22) else (if q230 = 23 then (some 23) else (if q230 = 24 then (some 24) else (some (-1)))))))))))))) = some r := by rw [if_neg (show ¬ (some q230).isNone = true by simp)] at H; exact H
  clear H
  have H := H1
  clear H1
  simp only [errW_none, errW_some]
  by_cases c2 : q230 = 13
  ·rw [if_pos c2] at H
   have c2b0 : (q230 == 13) = true := beq_iff_eq.mpr c2
   have c2b1 : (q230 != 13) = false := bne_eq_false_iff_eq.mpr c2
   clear c2
   obtain rfl := Option.some.inj H
   go_enter Try.func37, Try.ntmps37
   go_wp2
   go_ret
   exact ⟨by first | rfl | (simp; done) | (simp [*]; done), by repeat (first | exact Drawn0.refl _ | apply Drawn0.step)⟩
  ·rw [if_neg c2] at H
   have c2b0 : (q230 == 13) = false := beq_eq_false_iff_ne.mpr c2
   have c2b1 : (q230 != 13) = true := bne_iff_ne.mpr c2
   by_cases c3 : q230 = 14
   ·rw [if_pos c3] at H
    have c3b0 : (q230 == 14) = true := beq_iff_eq.mpr c3
    have c3b1 : (q230 != 14) = false := bne_eq_false_iff_eq.mpr c3
    clear c3
    obtain rfl := Option.some.inj H
    go_enter Try.func37, Try.ntmps37
    go_wp2
    go_ret
    exact ⟨by first | rfl | (simp; done) | (simp [*]; done), by repeat (first | exact Drawn0.refl _ | apply Drawn0.step)⟩
   ·rw [if_neg c3] at H
    have c3b0 : (q230 == 14) = false := beq_eq_false_iff_ne.mpr c3
    have c3b1 : (q230 != 14) = true := bne_iff_ne.mpr c3
    by_cases c4 : q230 = 15
    ·rw [if_pos c4] at H
     have c4b0 : (q230 == 15) = true := beq_iff_eq.mpr c4
     have c4b1 : (q230 != 15) = false := bne_eq_false_iff_eq.mpr c4
     clear c4
     obtain rfl := Option.some.inj H
     go_enter Try.func37, Try.ntmps37
     go_wp2
     go_ret
     exact ⟨by first | rfl | (simp; done) | (simp [*]; done), by repeat (first | exact Drawn0.refl _ | apply Drawn0.step)⟩
    ·rw [if_neg c4] at H
     have c4b0 : (q230 == 15) = false := beq_eq_false_iff_ne.mpr c4
     have c4b1 : (q230 != 15) = true := bne_iff_ne.mpr c4
     by_cases c5 : q230 = 16
     ·rw [if_pos c5] at H
      have c5b0 : (q230 == 16) = true := beq_iff_eq.mpr c5
      have c5b1 : (q230 != 16) = false := bne_eq_false_iff_eq.mpr c5
      clear c5
      obtain rfl := Option.some.inj H
      go_enter Try.func37, Try.ntmps37
      go_wp2
      go_ret
      exact ⟨by first | rfl | (simp; done) | (simp [*]; done), by repeat (first | exact Drawn0.refl _ | apply Drawn0.step)⟩
     ·rw [if_neg c5] at H
      have c5b0 : (q230 == 16) = false := beq_eq_false_iff_ne.mpr c5
      have c5b1 : (q230 != 16) = true := bne_iff_ne.mpr c5
      by_cases c6 : q230 = 17
      ·rw [if_pos c6] at H
       have c6b0 : (q230 == 17) = true := beq_iff_eq.mpr c6
       have c6b1 : (q230 != 17) = false := bne_eq_false_iff_eq.mpr c6
       clear c6
       obtain rfl := Option.some.inj H
       go_enter Try.func37, Try.ntmps37
       go_wp2
       go_ret
       exact ⟨by first | rfl | (simp; done) | (simp [*]; done), by repeat (first | exact Drawn0.refl _ | apply Drawn0.step)⟩
      ·rw [if_neg c6] at H
       have c6b0 : (q230 == 17) = false := beq_eq_false_iff_ne.mpr c6
       have c6b1 : (q230 != 17) = true := bne_iff_ne.mpr c6
       by_cases c7 : q230 = 18
       ·rw [if_pos c7] at H
        have c7b0 : (q230 == 18) = true := beq_iff_eq.mpr c7
        have c7b1 : (q230 != 18) = false := bne_eq_false_iff_eq.mpr c7
        clear c7
        obtain rfl := Option.some.inj H
        go_enter Try.func37, Try.ntmps37
        go_wp2
        go_ret
        exact ⟨by first | rfl | (simp; done) | (simp [*]; done), by repeat (first | exact Drawn0.refl _ | apply Drawn0.step)⟩
       ·rw [if_neg c7] at H
        have c7b0 : (q230 == 18) = false := beq_eq_false_iff_ne.mpr c7
        have c7b1 : (q230 != 18) = true := bne_iff_ne.mpr c7
        by_cases c8 : q230 = 19
        ·rw [if_pos c8] at H
         have c8b0 : (q230 == 19) = true := beq_iff_eq.mpr c8
         have c8b1 : (q230 != 19) = false := bne_eq_false_iff_eq.mpr c8
         clear c8
         obtain rfl := Option.some.inj H
         go_enter Try.func37, Try.ntmps37
         go_wp2
         go_ret
         exact ⟨by first | rfl | (simp; done) | (simp [*]; done), by repeat (first | exact Drawn0.refl _ | apply Drawn0.step)⟩
        ·rw [if_neg c8] at H
         have c8b0 : (q230 == 19) = false := beq_eq_false_iff_ne.mpr c8
         have c8b1 : (q230 != 19) = true := bne_iff_ne.mpr c8
         by_cases c9 : q230 = 20
         ·rw [if_pos c9] at H
          have c9b0 : (q230 == 20) = true := beq_iff_eq.mpr c9
          have c9b1 : (q230 != 20) = false := bne_eq_false_iff_eq.mpr c9
          clear c9
          obtain rfl := Option.some.inj H
          go_enter Try.func37, Try.ntmps37
          go_wp2
          go_ret
          exact ⟨by first | rfl | (simp; done) | (simp [*]; done), by repeat (first | exact Drawn0.refl _ | apply Drawn0.step)⟩
         ·rw [if_neg c9] at H
          have c9b0 : (q230 == 20) = false := beq_eq_false_iff_ne.mpr c9
          have c9b1 : (q230 != 20) = true := bne_iff_ne.mpr c9
          by_cases c10 : q230 = 21
          ·rw [if_pos c10] at H
           have c10b0 : (q230 == 21) = true := beq_iff_eq.mpr c10
           have c10b1 : (q230 != 21) = false := bne_eq_false_iff_eq.mpr c10
           clear c10
           obtain rfl := Option.some.inj H
           go_enter Try.func37, Try.ntmps37
           go_wp2
           go_ret
           exact ⟨by first | rfl | (simp; done) | (simp [*]; done), by repeat (first | exact Drawn0.refl _ | apply Drawn0.step)⟩
          ·rw [if_neg c10] at H
           have c10b0 : (q230 == 21) = false := beq_eq_false_iff_ne.mpr c10
           have c10b1 : (q230 != 21) = true := bne_iff_ne.mpr c10
           by_cases c11 : q230 = 22
           ·rw [if_pos c11] at H
            have c11b0 : (q230 == 22) = true := beq_iff_eq.mpr c11
            have c11b1 : (q230 != 22) = false := bne_eq_false_iff_eq.mpr c11
            clear c11
            obtain rfl := Option.some.inj H
            go_enter Try.func37, Try.ntmps37
            go_wp2
            go_ret
            exact ⟨by first | rfl | (simp; done) | (simp [*]; done), by repeat (first | exact Drawn0.refl _ | apply Drawn0.step)⟩
           ·rw [if_neg c11] at H
            have c11b0 : (q230 == 22) = false := beq_eq_false_iff_ne.mpr c11
            have c11b1 : (q230 != 22) = true := bne_iff_ne.mpr c11
            by_cases c12 : q230 = 23
            ·rw [if_pos c12] at H
             have c12b0 : (q230 == 23) = true := beq_iff_eq.mpr c12
             have c12b1 : (q230 != 23) = false := bne_eq_false_iff_eq.mpr c12
             clear c12
             obtain rfl := Option.some.inj H
             go_enter Try.func37, Try.ntmps37
             go_wp2
             go_ret
             exact ⟨by first | rfl | (simp; done) | (simp [*]; done), by repeat (first | exact Drawn0.refl _ | apply Drawn0.step)⟩
            ·rw [if_neg c12] at H
             have c12b0 : (q230 == 23) = false := beq_eq_false_iff_ne.mpr c12
             have c12b1 : (q230 != 23) = true := bne_iff_ne.mpr c12
             by_cases c13 : q230 = 24
             ·rw [if_pos c13] at H
              have c13b0 : (q230 == 24) = true := beq_iff_eq.mpr c13
              have c13b1 : (q230 != 24) = false := bne_eq_false_iff_eq.mpr c13
              clear c13
              obtain rfl := Option.some.inj H
              go_enter Try.func37, Try.ntmps37
              go_wp2
              go_ret
              exact ⟨by first | rfl | (simp; done) | (simp [*]; done), by repeat (first | exact Drawn0.refl _ | apply Drawn0.step)⟩
             ·rw [if_neg c13] at H
              have c13b0 : (q230 == 24) = false := beq_eq_false_iff_ne.mpr c13
              have c13b1 : (q230 != 24) = true := bne_iff_ne.mpr c13
              obtain rfl := Option.some.inj H
              go_enter Try.func37, Try.ntmps37
              go_wp2
              go_ret
              exact ⟨by first | rfl | (simp; done) | (simp [*]; done), by repeat (first | exact Drawn0.refl _ | apply Drawn0.step)⟩
-- ERRCMP
end Go.Proofs.Ytfegofnplcmacaa.PAll
namespace Go.Proofs.Ytfegofnplcmacaa.PAll
open Go.RowKit Go.Proofs.YtfegofnplcmacaaW.PrintWords Go.Proofs.YtfegofnplcmacaaW.PrintLast Go.Proofs.YtfegofnplcmacaaW.PrintMore
attribute [local go_sem] max2_int min2_int max_two min_two max_three min_three max_four min_four
set_option linter.unusedVariables false
set_option linter.unusedSimpArgs false
attribute [local go_sem high] eqEE27 neEE27 eqNE27 neNE27
def vernierlaw00_Code.f (a0 : Option Int) : Option (Int) := if a0.isNone = true then (some 0) else (if (a0.getD 0) = 1 then (some 1) else (if (a0.getD 0) = 2 then (some 2) else (if (a0.getD 0) = 3 then (some 3) else (if (a0.getD 0) = 4 then (some 4) else (if (a0.getD 0) = 5 then (some 5) else (if (a0.getD 0) = 6 then (some 6) else (if (a0.getD 0) = 7 then (some 7) else (if (a0.getD 0) = 8 then (some 8) else (if (a0.getD 0) = 9 then (some 9) else (if (a0.getD 0) = 10 then (some 10) else (if (a0.getD 0) = 11 then (some 11) else (if (a0.getD 0) = 12 then (some 12) else ((vernierlaw00_further.f (some (a0.getD 0))).bind fun t232 => (some t232))))))))))))))
set_option maxHeartbeats 8000000 in
set_option maxRecDepth 100000 in
theorem vernierlaw00_Code.calls (a0 : Option Int) (r : Int) (w : World) (h : vernierlaw00_Code.f a0 = some r) :
  Calls Try.prog 13 #[errW a0] w fun e w' => e = .returned (.int .i64 r) ∧ Drawn0 w w' := by
 have hu27 := Try.underlying27
 have hu55 := Try.underlying55
 have H : (if a0.isNone = true then (some 0) else (if (a0.getD 0) = 1 then (some 1) else (if (a0.getD 0) = 2 then (some 2) else (if (a0.getD 0) = 3 then (some 3) else (if (a0.getD 0) = 4 then (some 4) else (if (a0.getD 0) = 5 then (some 5) else (if (a0.getD 0) = 6 then (some 6) else (if (a0.getD 0) = 7 then (some 7) else (if (a0.getD 0) = 8 then (some 8) else (if (a0.getD 0) = 9 then (some 9) else (if (a0.getD 0) = 10 then (some 10) else (if (a0.getD 0) = 11 then (some 11) else (if (a0.getD 0) = 12 then (some 12) else ((vernierlaw00_further.f (some (a0.getD 0))).bind fun t232 => (some t232))))))))))))))) = some r := h
 clear h
 rcases a0 with _ | q231
 ·have H1 : (some 0) = some r := by rw [if_pos (show (none : Option Int).isNone = true by rfl)] at H; exact H
  clear H
  have H := H1
  clear H1
  simp only [errW_none, errW_some]
  obtain rfl := Option.some.inj H
  go_enter Try.func13, Try.ntmps13
  go_wp2
  go_ret
  exact ⟨by first | rfl | (simp; done) | (simp [*]; done), by repeat (first | exact Drawn0.refl _ | apply Drawn0.step)⟩
 ·have H1 : (if q231 = 1 then (some 1) else (if q231 = 2 then (some 2) else (if q231 = 3 then (some 3) else (if q231 = 4 then (some 4) else (if q231 = 5 then (some 5) else (if q231 = 6 then (some 6) else (if q231 = 7 then (some 7) else (if q231 = 8 then (some 8) else (if q231 = 9 then (some 9) else (if q231 = 10 then (some 10) else (if q231 = 11 then (some 11) else (if q231 = 12 then (some 12) else ((vernierlaw00_further.f (some q231)).bind fun t232 => (some t232)))))))))))))) = some r := by rw [if_neg (show ¬ (some q231).isNone = true by simp)] at H; exact H
  clear H
  have H := H1
  clear H1
  simp only [errW_none, errW_some]
  by_cases c2 : q231 = 1
  ·rw [if_pos c2] at H
   have c2b0 : (q231 == 1) = true := beq_iff_eq.mpr c2
   have c2b1 : (q231 != 1) = false := bne_eq_false_iff_eq.mpr c2
   clear c2
   obtain rfl := Option.some.inj H
   go_enter Try.func13, Try.ntmps13
   go_wp2
   go_ret
   exact ⟨by first | rfl | (simp; done) | (simp [*]; done), by repeat (first | exact Drawn0.refl _ | apply Drawn0.step)⟩
  ·rw [if_neg c2] at H
   have c2b0 : (q231 == 1) = false := beq_eq_false_iff_ne.mpr c2
   have c2b1 : (q231 != 1) = true := bne_iff_ne.mpr c2
   by_cases c3 : q231 = 2
   ·rw [if_pos c3] at H
    have c3b0 : (q231 == 2) = true := beq_iff_eq.mpr c3
    have c3b1 : (q231 != 2) = false := bne_eq_false_iff_eq.mpr c3
    clear c3
    obtain rfl := Option.some.inj H
    go_enter Try.func13, Try.ntmps13
    go_wp2
    go_ret
    exact ⟨by first | rfl | (simp; done) | (simp [*]; done), by repeat (first | exact Drawn0.refl _ | apply Drawn0.step)⟩
   ·rw [if_neg c3] at H
    have c3b0 : (q231 == 2) = false := beq_eq_false_iff_ne.mpr c3
    have c3b1 : (q231 != 2) = true := bne_iff_ne.mpr c3
    by_cases c4 : q231 = 3
    ·rw [if_pos c4] at H
     have c4b0 : (q231 == 3) = true := beq_iff_eq.mpr c4
     have c4b1 : (q231 != 3) = false := bne_eq_false_iff_eq.mpr c4
     clear c4
     obtain rfl := Option.some.inj H
     go_enter Try.func13, Try.ntmps13
     go_wp2
     go_ret
     exact ⟨by first | rfl | (simp; done) | (simp [*]; done), by repeat (first | exact Drawn0.refl _ | apply Drawn0.step)⟩
    ·rw [if_neg c4] at H
     have c4b0 : (q231 == 3) = false := beq_eq_false_iff_ne.mpr c4
     have c4b1 : (q231 != 3) = true := bne_iff_ne.mpr c4
     by_cases c5 : q231 = 4
     ·rw [if_pos c5] at H
      have c5b0 : (q231 == 4) = true := beq_iff_eq.mpr c5
      have c5b1 : (q231 != 4) = false := bne_eq_false_iff_eq.mpr c5
      clear c5
      obtain rfl := Option.some.inj H
      go_enter Try.func13, Try.ntmps13
      go_wp2
      go_ret
      exact ⟨by first | rfl | (simp; done) | (simp [*]; done), by repeat (first | exact Drawn0.refl _ | apply Drawn0.step)⟩
     ·rw [if_neg c5] at H
      have c5b0 : (q231 == 4) = false := beq_eq_false_iff_ne.mpr c5
      have c5b1 : (q231 != 4) = true := bne_iff_ne.mpr c5
      by_cases c6 : q231 = 5
      ·rw [if_pos c6] at H
       have c6b0 : (q231 == 5) = true := beq_iff_eq.mpr c6
       have c6b1 : (q231 != 5) = false := bne_eq_false_iff_eq.mpr c6
       clear c6
       obtain rfl := Option.some.inj H
       go_enter Try.func13, Try.ntmps13
       go_wp2
       go_ret
       exact ⟨by first | rfl | (simp; done) | (simp [*]; done), by repeat (first | exact Drawn0.refl _ | apply Drawn0.step)⟩
      ·rw [if_neg c6] at H
       have c6b0 : (q231 == 5) = false := beq_eq_false_iff_ne.mpr c6
       have c6b1 : (q231 != 5) = true := bne_iff_ne.mpr c6
       by_cases c7 : q231 = 6
       ·rw [if_pos c7] at H
        have c7b0 : (q231 == 6) = true := beq_iff_eq.mpr c7
        have c7b1 : (q231 != 6) = false := bne_eq_false_iff_eq.mpr c7
        clear c7
        obtain rfl := Option.some.inj H
        go_enter Try.func13, Try.ntmps13
        go_wp2
        go_ret
        exact ⟨by first | rfl | (simp; done) | (simp [*]; done), by repeat (first | exact Drawn0.refl _ | apply Drawn0.step)⟩
       ·rw [if_neg c7] at H
        have c7b0 : (q231 == 6) = false := beq_eq_false_iff_ne.mpr c7
        have c7b1 : (q231 != 6) = true := bne_iff_ne.mpr c7
        by_cases c8 : q231 = 7
        ·rw [if_pos c8] at H
         have c8b0 : (q231 == 7) = true := beq_iff_eq.mpr c8
         have c8b1 : (q231 != 7) = false := bne_eq_false_iff_eq.mpr c8
         clear c8
         obtain rfl := Option.some.inj H
         go_enter Try.func13, Try.ntmps13
         go_wp2
         go_ret
         exact ⟨by first | rfl | (simp; done) | (simp [*]; done), by repeat (first | exact Drawn0.refl _ | apply Drawn0.step)⟩
        ·rw [if_neg c8] at H
         have c8b0 : (q231 == 7) = false := beq_eq_false_iff_ne.mpr c8
         have c8b1 : (q231 != 7) = true := bne_iff_ne.mpr c8
         by_cases c9 : q231 = 8
         ·rw [if_pos c9] at H
          have c9b0 : (q231 == 8) = true := beq_iff_eq.mpr c9
          have c9b1 : (q231 != 8) = false := bne_eq_false_iff_eq.mpr c9
          clear c9
          obtain rfl := Option.some.inj H
          go_enter Try.func13, Try.ntmps13
          go_wp2
          go_ret
          exact ⟨by first | rfl | (simp; done) | (simp [*]; done), by repeat (first | exact Drawn0.refl _ | apply Drawn0.step)⟩
         ·rw [if_neg c9] at H
          have c9b0 : (q231 == 8) = false := beq_eq_false_iff_ne.mpr c9
          have c9b1 : (q231 != 8) = true := bne_iff_ne.mpr c9
          by_cases c10 : q231 = 9
          ·rw [if_pos c10] at H
           have c10b0 : (q231 == 9) = true := beq_iff_eq.mpr c10
           have c10b1 : (q231 != 9) = false := bne_eq_false_iff_eq.mpr c10
           clear c10
           obtain rfl := Option.some.inj H
           go_enter Try.func13, Try.ntmps13
           go_wp2
           go_ret
           exact ⟨by first | rfl | (simp; done) | (simp [*]; done), by repeat (first | exact Drawn0.refl _ | apply Drawn0.step)⟩
          ·rw [if_neg c10] at H
           have c10b0 : (q231 == 9) = false := beq_eq_false_iff_ne.mpr c10
           have c10b1 : (q231 != 9) = true := bne_iff_ne.mpr c10
           by_cases c11 : q231 = 10
           ·rw [if_pos c11] at H
            have c11b0 : (q231 == 10) = true := beq_iff_eq.mpr c11
            have c11b1 : (q231 != 10) = false := bne_eq_false_iff_eq.mpr c11
            clear c11
            obtain rfl := Option.some.inj H
            go_enter Try.func13, Try.ntmps13
            go_wp2
            go_ret
            exact ⟨by first | rfl | (simp; done) | (simp [*]; done), by repeat (first | exact Drawn0.refl _ | apply Drawn0.step)⟩
           ·rw [if_neg c11] at H
            have c11b0 : (q231 == 10) = false := beq_eq_false_iff_ne.mpr c11
            have c11b1 : (q231 != 10) = true := bne_iff_ne.mpr c11
            by_cases c12 : q231 = 11
            ·rw [if_pos c12] at H
             have c12b0 : (q231 == 11) = true := beq_iff_eq.mpr c12
             have c12b1 : (q231 != 11) = false := bne_eq_false_iff_eq.mpr c12
             clear c12
             obtain rfl := Option.some.inj H
             go_enter Try.func13, Try.ntmps13
             go_wp2
             go_ret
             exact ⟨by first | rfl | (simp; done) | (simp [*]; done), by repeat (first | exact Drawn0.refl _ | apply Drawn0.step)⟩
            ·rw [if_neg c12] at H
             have c12b0 : (q231 == 11) = false := beq_eq_false_iff_ne.mpr c12
             have c12b1 : (q231 != 11) = true := bne_iff_ne.mpr c12
             by_cases c13 : q231 = 12
             ·rw [if_pos c13] at H
              have c13b0 : (q231 == 12) = true := beq_iff_eq.mpr c13
              have c13b1 : (q231 != 12) = false := bne_eq_false_iff_eq.mpr c13
              clear c13
              obtain rfl := Option.some.inj H
              go_enter Try.func13, Try.ntmps13
              go_wp2
              go_ret
              exact ⟨by first | rfl | (simp; done) | (simp [*]; done), by repeat (first | exact Drawn0.refl _ | apply Drawn0.step)⟩
             ·rw [if_neg c13] at H
              have c13b0 : (q231 == 12) = false := beq_eq_false_iff_ne.mpr c13
              have c13b1 : (q231 != 12) = true := bne_iff_ne.mpr c13
              replace H := Option.bind_eq_some_iff.mp H
              obtain ⟨t232, A140, H⟩ := H
              replace H : (some t232) = some r := H
              have A14 := Aside0.mk A140
              clear A140
              obtain rfl := Option.some.inj H
              have CA14 := fun W => vernierlaw00_further.calls (some q231) t232 W A14.out
              try simp only [errW_none, errW_some] at CA14
              go_enter Try.func13, Try.ntmps13
              go_wp2_with (first | (go_at_call 37; (with_reducible refine (CA14 _).mono ?_); rintro e w' ⟨rfl, ⟨nd, rfl⟩⟩))
              go_ret
              exact ⟨by first | rfl | (simp; done) | (simp [*]; done), by repeat (first | exact Drawn0.refl _ | apply Drawn0.step)⟩
-- ERRCMP
end Go.Proofs.Ytfegofnplcmacaa.PAll
namespace Go.Proofs.Ytfegofnplcmacaa.V
open Go Go.RowKit Go.Proofs.YtfegofnplcmacaaW.PrintWords Go.Proofs.YtfegofnplcmacaaW.PrintLast Go.Proofs.YtfegofnplcmacaaW.PrintMore Go.Proofs.Ytfegofnplcmacaa.PAll
set_option linter.unusedVariables false
set_option linter.unusedSimpArgs false
theorem up7 : Ev (fun k => vernierlaw07_up.f k) true := by
  unfold vernierlaw07_up.f
  have a := round_Round_eq (n := 8) (hi := 9223372036854775808) (lo := 0) (kd := 1) (sc := 22) (ng := false) (rs := false) (by decide) (by decide) (by decide) (by decide)
  have b := round_Round_eq (n := 8) (hi := 9223372036854775808) (lo := 0) (kd := 1) (sc := 23) (ng := false) (rs := false) (by decide) (by decide) (by decide) (by decide)
  rw [show rnd 8 1 false 22 (9223372036854775808 * 18446744073709551616 + 0) false = 126 by decide +kernel] at a
  rw [show rnd 8 1 false 23 (9223372036854775808 * 18446744073709551616 + 0) false = 127 by decide +kernel] at b
  refine Ev.bind a (Ev.bind b ?_)
  exact Ev.now _
end Go.Proofs.Ytfegofnplcmacaa.V
