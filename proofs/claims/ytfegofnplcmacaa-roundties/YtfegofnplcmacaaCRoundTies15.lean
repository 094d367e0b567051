-- Written by a program of this session out of its own texts (wip/tools/link.py).
import Derived.ArgAppend
import Derived.Below
import Derived.BigQuiet
import Derived.Deep.AppendLies
import Derived.Deep.CutBlock
import Derived.Deep.DeepCutAuto
import Derived.Deep.Draws
import Derived.Deep.LoopGhost
import Derived.Deep.OwnRows
import Derived.Deep.QuietTactic
import Derived.Deep.RegionHeld3
import Derived.KernelRfl
import Derived.LaidEql
import Derived.Laws.BitsLemmas
import Derived.Laws.BytesArg
import Derived.Laws.IdiomCopy
import Derived.Laws.MakeOwn
import Derived.Laws.OwnMore
import Derived.Laws.Rows
import Derived.Laws.Slices
import Derived.Laws.Strings
import Derived.Laws.StructEq
import Derived.Lib.AppendStr
import Derived.Lib.BitFns
import Derived.Lib.ConvBytes
import Derived.Lib.Slices
import Derived.Lib.Small
import Derived.Lib.Strings
import Derived.Lib.Walk
import Derived.Maps.AppendAt
import Derived.OrdersHeld
import Derived.OwnWalk
import Derived.RowKit
import Derived.RowKit3
import Derived.Tactics
import Derived.Test.YtfegofnplcmacaaProg
import Derived.WalkKit
import Derived.WideLaws
import Derived.Test.YtfegofnplcmacaaCRoundTies8
import Derived.Test.YtfegofnplcmacaaCRoundTies10
import Derived.Test.YtfegofnplcmacaaCRoundTies11
import Derived.Test.YtfegofnplcmacaaCRoundTies12
import Derived.Test.YtfegofnplcmacaaCRoundTies13
import Derived.Test.YtfegofnplcmacaaCRoundTies14
namespace Go.Proofs.Ytfegofnplcmacaa.V
open Go Go.RowKit Go.Proofs.YtfegofnplcmacaaW.PrintWords Go.Proofs.YtfegofnplcmacaaW.PrintLast Go.Proofs.YtfegofnplcmacaaW.PrintMore Go.Proofs.Ytfegofnplcmacaa.PAll
set_option linter.unusedVariables false
set_option linter.unusedSimpArgs false
theorem ref_Power_l (n : Nat) (hn : n ≤ 63) : ∀ (d i : Nat), i + d = n → Ev (fun k => vernierref05_Power.l0 k (n : Int) ((2 ^ i : Nat) : Int) (i : Int)) ((2 ^ n : Nat) : Int)
  | 0, i, h => by
    refine evs ?_
    simp only [vernierref05_Power.l0, if_neg (show ¬ (i : Int) < (n : Int) by omega)]
    have : i = n := by omega
    subst this
    exact Ev.now _
  | d + 1, i, h => by
    refine evs ?_
    have hp : 2 ^ (i + 1) ≤ 2 ^ 63 := pow_le (by omega)
    rw [p63, Nat.pow_succ] at hp
    have e1 : IntKind.u64.wrap (2 * ((2 ^ i : Nat) : Int)) = ((2 ^ (i + 1) : Nat) : Int) := by
      rw [Nat.pow_succ]
      generalize 2 ^ i = z at *
      rw [u64_of (by omega) (by omega)]; omega
    have e2 : wrap64 ((i : Int) + 1) = ((i + 1 : Nat) : Int) := by rw [w64 (by omega) (by omega)]; omega
    simp only [vernierref05_Power.l0, if_pos (show (i : Int) < (n : Int) by omega), e1, e2]
    exact ref_Power_l n hn d (i + 1) (by omega)
theorem ref_Power_eq {n : Nat} (hn : n ≤ 63) : Ev (fun k => vernierref05_Power.f k (n : Int)) ((2 ^ n : Nat) : Int) := by
  unfold vernierref05_Power.f
  exact ref_Power_l n hn n 0 (by omega)
theorem ref_Sound_eq (kd : Int) (ng : Bool) (sc hi lo : Int) (rs : Bool) : vernierref07_Sound.f kd ng sc hi lo rs = some (soundE kd ng sc hi lo rs) := by
  unfold vernierref07_Sound.f soundE
  by_cases h0 : kd = 0
  · subst h0; simp
  · by_cases h2 : kd = 2
    · subst h2; simp
    · by_cases h1 : kd = 1
      · subst h1
        by_cases a : hi ≥ 9223372036854775808
        · by_cases b : sc ≥ -1099511627776
          · simp [a, b]
          · simp [a, b]
        · simp [a]
      · simp [h0, h1, h2]
end Go.Proofs.Ytfegofnplcmacaa.V
namespace Go.Proofs.Ytfegofnplcmacaa.V
open Go Go.RowKit Go.Proofs.YtfegofnplcmacaaW.PrintWords Go.Proofs.YtfegofnplcmacaaW.PrintLast Go.Proofs.YtfegofnplcmacaaW.PrintMore Go.Proofs.Ytfegofnplcmacaa.PAll
set_option linter.unusedVariables false
set_option linter.unusedSimpArgs false
def sgnE (kd : Int) (ng : Bool) : Int := if kd = 1 then (if ng then -1 else 1) else 0
def cmpE (kd : Int) (ng : Bool) (sc : Int) (V : Nat) (kd' : Int) (ng' : Bool) (sc' : Int) (V' : Nat) : Int :=
  if sgnE kd ng < sgnE kd' ng' then -1 else if sgnE kd' ng' < sgnE kd ng then 1 else if sgnE kd ng = 0 then 0
  else if sc = sc' ∧ V = V' then 0 else if sc < sc' ∨ (sc = sc' ∧ V < V') then -sgnE kd ng else sgnE kd ng
theorem ref_sign_eq (kd : Int) (ng : Bool) (sc hi lo : Int) (R : Bool) : vernierref07_sign.f kd ng sc hi lo R = some (sgnE kd ng) := by
  unfold vernierref07_sign.f sgnE
  by_cases h : kd = 1
  · rw [if_pos h, if_pos h]; cases ng <;> rfl
  · rw [if_neg h, if_neg h]
theorem ref_Cmp_eq {kd kd' sc sc' : Int} {ng ng' : Bool} {hi lo hi' lo' : Nat} (hl : lo < 18446744073709551616) (hl' : lo' < 18446744073709551616) :
    Ev (fun k => vernierref07_Cmp.f k kd ng sc hi lo false kd' ng' sc' hi' lo' false) (cmpE kd ng sc (hi * 18446744073709551616 + lo) kd' ng' sc' (hi' * 18446744073709551616 + lo')) := by
  unfold vernierref07_Cmp.f cmpE
  simp only [ref_sign_eq, Option.bind_some]
  by_cases h1 : sgnE kd ng < sgnE kd' ng'
  · simp only [if_pos h1]; exact Ev.now _
  · simp only [if_neg h1]
    by_cases h2 : sgnE kd ng > sgnE kd' ng'
    · simp only [if_pos h2, if_pos (show sgnE kd' ng' < sgnE kd ng from h2)]; exact Ev.now _
    · simp only [if_neg h2, if_neg (show ¬ sgnE kd' ng' < sgnE kd ng from h2)]
      by_cases h3 : sgnE kd ng = 0
      · simp only [if_pos h3]
        refine evs ?_
        simp only [vernierref07_Cmp.j0, if_true]
        exact Ev.now _
      · simp only [if_neg h3]
        refine evs ?_
        have hs : sgnE kd ng = sgnE kd' ng' := by omega
        have hk : kd = 1 ∧ kd' = 1 ∧ ng = ng' := by
          unfold sgnE at hs h3
          by_cases k1 : kd = 1
          · rw [if_pos k1] at hs
            by_cases k2 : kd' = 1
            · rw [if_pos k2] at hs
              refine ⟨k1, k2, ?_⟩
              cases ng <;> cases ng' <;> simp at hs ⊢
            · rw [if_neg k2] at hs
              cases ng <;> simp at hs
          · rw [if_neg k1] at h3
            exact absurd rfl h3
        obtain ⟨rfl, rfl, rfl⟩ := hk
        have ew : wrap64 (-(sgnE 1 ng)) = -(sgnE 1 ng) := by cases ng <;> exact w64 (by decide) (by decide)
        clear h1 h2 h3 hs
        obtain ⟨c, hc⟩ : ∃ c, c = (if sc = sc' ∧ hi * 18446744073709551616 + lo = hi' * 18446744073709551616 + lo' then 0 else if sc < sc' ∨ (sc = sc' ∧ hi * 18446744073709551616 + lo < hi' * 18446744073709551616 + lo') then -sgnE 1 ng else sgnE 1 ng) := ⟨_, rfl⟩
        rw [← hc]
        simp only [beq_self_eq_true, Bool.true_and, Bool.and_true, vernierref07_Cmp.j0, ew]
        clear ew
        by_cases c1 : sc = sc'
        · by_cases c2 : hi = hi'
          · by_cases c3 : lo = lo'
            · rw [if_pos ⟨c1, by rw [c2, c3]⟩] at hc
              subst c1 c2 c3 hc
              simp only [beq_self_eq_true, Bool.true_and, if_true]
              exact Ev.now _
            · rw [if_neg (by omega)] at hc
              have c3' : ((lo : Int) == (lo' : Int)) = false := by rw [beq_eq_false_iff_ne]; omega
              subst c1 c2
              simp only [beq_self_eq_true, Bool.true_and, c3', Bool.false_eq_true, if_false, Int.lt_irrefl, if_true]
              by_cases c4 : lo < lo'
              · rw [if_pos (by omega)] at hc
                simp only [if_pos (show (lo : Int) < (lo' : Int) by omega)]
                rw [hc]; exact Ev.now _
              · rw [if_neg (by omega)] at hc
                simp only [if_neg (show ¬ (lo : Int) < (lo' : Int) by omega)]
                rw [hc]; exact Ev.now _
          · rw [if_neg (by omega)] at hc
            have c2' : ((hi : Int) == (hi' : Int)) = false := by rw [beq_eq_false_iff_ne]; omega
            have c2'' : ¬ (hi : Int) = (hi' : Int) := by omega
            subst c1
            simp only [beq_self_eq_true, Bool.true_and, c2', c2'', Bool.false_and, Bool.false_eq_true, if_false, Int.lt_irrefl, if_true]
            by_cases c4 : hi < hi'
            · rw [if_pos (by omega)] at hc
              simp only [if_pos (show (hi : Int) < (hi' : Int) by omega)]
              rw [hc]; exact Ev.now _
            · rw [if_neg (by omega)] at hc
              simp only [if_neg (show ¬ (hi : Int) < (hi' : Int) by omega)]
              rw [hc]; exact Ev.now _
        · rw [if_neg (fun h => c1 h.1)] at hc
          have c1' : (sc == sc') = false := by rw [beq_eq_false_iff_ne]; exact c1
          simp only [c1', Bool.false_and, Bool.false_eq_true, if_false, if_neg c1]
          by_cases c4 : sc < sc'
          · rw [if_pos (.inl c4)] at hc
            simp only [if_pos c4]
            rw [hc]; exact Ev.now _
          · rw [if_neg (by omega)] at hc
            simp only [if_neg c4]
            rw [hc]; exact Ev.now _
end Go.Proofs.Ytfegofnplcmacaa.V
namespace Go.Proofs.Ytfegofnplcmacaa.Pure
open Go Go.RowKit Go.Proofs.Ytfegofnplcmacaa.PAll Go.Proofs.YtfegofnplcmacaaW.PrintWords Go.Proofs.YtfegofnplcmacaaW.PrintLast Go.Proofs.YtfegofnplcmacaaW.PrintMore Go.Proofs.Ytfegofnplcmacaa.V
set_option linter.unusedVariables false
theorem cmp_less {s t : Int} {V U : Nat} (h : s < t ∨ (s = t ∧ V < U)) : cmpE 1 false s V 1 false t U = -1 := by
  unfold cmpE
  rw [if_neg (Int.lt_irrefl _), if_neg (Int.lt_irrefl _), if_neg (by decide), if_neg (by omega), if_pos h]; rfl
theorem cmp_same {s t : Int} {V U : Nat} (h : s = t ∧ V = U) : cmpE 1 false s V 1 false t U = 0 := by
  unfold cmpE
  rw [if_neg (Int.lt_irrefl _), if_neg (Int.lt_irrefl _), if_neg (by decide), if_pos h]
theorem cmp_more {s t : Int} {V U : Nat} (h : t < s ∨ (t = s ∧ U < V)) : cmpE 1 false s V 1 false t U = 1 := by
  unfold cmpE
  rw [if_neg (Int.lt_irrefl _), if_neg (Int.lt_irrefl _), if_neg (by decide), if_neg (by omega), if_neg (by omega)]; rfl
theorem dec64 {w : Nat} (h0 : 0 < w) (h : w < 2 ^ 63) : Ev (fun k => codec_Decode.f k 64 (w : Int)) (1, false, decS 63 w, ((decFr 63 w : Nat) : Int), none) := by
  have hw : w < 18446744073709551616 := by rw [p63] at h; omega
  have := Decode_eq (n := 64) (p := w) rfl hw
  have e : decE 64 (w % 2 ^ 64) = (1, false, decS 63 w, ((decFr 63 w : Nat) : Int), none) := by
    rw [Nat.mod_eq_of_lt (by rw [p64]; exact hw)]
    unfold decE magN
    rw [if_neg (by omega), if_neg (Nat.ne_of_lt h), if_neg (Nat.not_lt.mpr (Nat.le_of_lt h)), decide_eq_false (Nat.not_lt.mpr (Nat.le_of_lt h))]
  rw [e] at this
  exact this
theorem of64 {w : Nat} (h0 : 0 < w) (h : w < 2 ^ 63) : Ev (fun k => round_Of.f k 1 false (decS 63 w) ((decFr 63 w : Nat) : Int)) (1, false, decS 63 w, ((decFr 63 w : Nat) : Int), 0, false, none) := by
  have hf := (decFr_range (dLf_le (m := 63) (w := w) (by decide))).2
  rw [p64] at hf
  have ho := round_Of_eq 1 false (decS 63 w) ((decFr 63 w : Nat) : Int) (by omega) (by omega)
  rw [if_pos (dec_soundN (n := 64) (by decide) (by decide) h0 h)] at ho
  exact ho
theorem tie_word {n P : Nat} (h8 : 8 ≤ n) (hn : n ≤ 63) (hP : P < 2 ^ (n - 1)) : Go.bits .or .u64 (shl .u64 (P : Int) ((64 - n : Nat) : Int)) (shl .u64 1 ((63 - n : Nat) : Int)) = ((P * 2 ^ (64 - n) + 2 ^ (63 - n) : Nat) : Int) := by
  have hb := (tie_sig h8 hn hP).2.1
  have hlt : (2 : Nat) ^ (63 - n) < 2 ^ (64 - n) := pow_lt (by omega)
  rw [p63] at hb
  have b1 : P * 2 ^ (64 - n) < 18446744073709551616 := Nat.lt_of_le_of_lt (Nat.le_add_right _ _) (Nat.lt_trans hb (by decide))
  have b2 : 2 ^ (63 - n) < 18446744073709551616 := Nat.lt_of_le_of_lt (Nat.le_add_left _ _) (Nat.lt_trans hb (by decide))
  have e1 := shl_nat P (64 - n) (by omega)
  have e2 : shl .u64 1 ((63 - n : Nat) : Int) = _ := shl_nat 1 (63 - n) (by omega)
  rw [Nat.mod_eq_of_lt b1] at e1
  rw [Nat.one_mul, Nat.mod_eq_of_lt b2] at e2
  rw [e1, e2]
  exact or_add _ _ (64 - n) b1 (Nat.mul_mod_left _ _) hlt b2
theorem ties_j0 {n hi lo : Nat} {sc : Int} {ng rs : Bool} (hn : n = 8 ∨ n = 16 ∨ n = 32) (hh : hi < 18446744073709551616) (hl : lo < 18446744073709551616) (h : soundE 1 ng sc hi lo rs = true) :
    Ev (fun k => vernierlaw07_RoundTies.j0 k (n : Int) true rs 1 ng sc hi lo rs) true := by
  refine evs ?_
  simp only [vernierlaw07_RoundTies.j0]
  cases rs
  · have hw : isW (n : Int) = true := by rcases hn with rfl | rfl | rfl <;> rfl
    have h' : soundE 1 false sc hi lo false = true := by unfold soundE at *; exact h
    have h8 : 8 ≤ n := by omega
    have h63 : n ≤ 63 := by omega
    have h64 : n ≤ 64 := by omega
    have hV := v128 hh hl
    have hV0 : 2 ^ 127 ≤ hi * 18446744073709551616 + lo := by have := (sound_real h).1; rw [p127]; clear hV; omega
    have hr := round_Round_eq hw hh hl h'
    rw [rnd_pos h8 h64 hV hV0] at hr
    generalize hU : hi * 18446744073709551616 + lo = V at *
    have hb := posP_bounds (n := n) (s := sc) (V := V) (R := false) h8 h64 hV
    have hp := two_pos (n - 1)
    have hp2 : (2 : Nat) ^ (n - 1) ≤ 2 ^ 62 := pow_le (by omega)
    rw [show (2 : Nat) ^ 62 = 4611686018427387904 by decide] at hp2
    simp only [Bool.false_eq_true, if_false]
    refine Ev.bind hr ?_
    obtain ⟨P, hP⟩ : ∃ P, P = posP n sc V false := ⟨_, rfl⟩
    rw [← hP] at hb
    have ew1 : wrap64 ((n : Int) - 1) = ((n - 1 : Nat) : Int) := by clear hV hV0; rw [w64 (by omega) (by omega)]; omega
    have ew2 : wrap64 (64 - (n : Int)) = ((64 - n : Nat) : Int) := by clear hV hV0 ew1; rw [w64 (by omega) (by omega)]; omega
    have ew3 : wrap64 (63 - (n : Int)) = ((63 - n : Nat) : Int) := by clear hV hV0 ew1 ew2; rw [w64 (by omega) (by omega)]; omega
    have hP0 : ¬ (P : Int) = 0 := by clear hV hV0 ew1 ew2 ew3; omega
    have hPm : P < 2 ^ (n - 1) := by clear hV hV0 ew1 ew2 ew3; omega
    have hPg : ¬ (P : Int) ≥ ((2 ^ (n - 1) : Nat) : Int) := by clear hV hV0 ew1 ew2 ew3; omega
    have hPd : IntKind.u64.wrap ((P : Int) - 1) = ((P - 1 : Nat) : Int) := by clear hV hV0 ew1 ew2 ew3; rw [u64_of (by omega) (by omega)]; omega
    have hTd : IntKind.u64.wrap (((2 ^ (n - 1) : Nat) : Int) - 1) = ((2 ^ (n - 1) - 1 : Nat) : Int) := by clear hV hV0 ew1 ew2 ew3 hPd; rw [u64_of (by omega) (by omega)]; omega
    have hPl : P - 1 < 2 ^ (n - 1) := by clear hV hV0 ew1 ew2 ew3 hPd hTd; omega
    rw [← hP]
    simp only [Option.isNone_none, if_true, if_neg hP0, ew1]
    refine Ev.bind (ref_Power_eq (by clear hV hV0 ew1 ew2 ew3 hPd hTd; omega)) ?_
    rw [decide_eq_false hPg]
    refine evs ?_
    obtain ⟨a1, a2, a3⟩ := tie_sig h8 h63 hPm
    obtain ⟨b1, b2, b3⟩ := tie_sig h8 h63 hPl
    have z1 : (0 : Int) ≤ ((64 - n : Nat) : Int) := by clear hV hV0 ew1 ew2 ew3 hPd hTd; omega
    have z2 : (0 : Int) ≤ ((63 - n : Nat) : Int) := by clear hV hV0 ew1 ew2 ew3 hPd hTd; omega
    simp only [vernierlaw07_RoundTies.j1, Bool.false_eq_true, if_false, ew2, ew3, if_pos z1, if_pos z2, hPd, tie_word h8 h63 hPm, tie_word h8 h63 hPl]
    refine Ev.bind (dec64 a1 a2) (Ev.bind (dec64 b1 b2) (Ev.bind (of64 a1 a2) (Ev.bind (of64 b1 b2) ?_)))
    simp only [Option.isNone_none, if_true]
    generalize hwa : P * 2 ^ (64 - n) + 2 ^ (63 - n) = wa at *
    generalize hwb : (P - 1) * 2 ^ (64 - n) + 2 ^ (63 - n) = wb at *
    obtain ⟨_, c2, c3⟩ := decV_sub (dLf_le (m := 63) (w := wa) (by decide))
    obtain ⟨_, d2, d3⟩ := decV_sub (dLf_le (m := 63) (w := wb) (by decide))
    obtain ⟨_, s1, s2, _, _⟩ := dec_sig (m := 63) (w := wa) (by decide) (by decide) a1 a2
    obtain ⟨_, t1, t2, _, _⟩ := dec_sig (m := 63) (w := wb) (by decide) (by decide) b1 b2
    have up := fun h => tie_up (t := decS 63 wa) (U := decV 63 wa) h8 h63 hV0 hV c2 c3 (Int.le_trans (by decide) s1) (Int.lt_of_le_of_lt s2 (by decide)) h (by rw [← hP]; exact a3)
    have down := fun h => tie_down (t := decS 63 wb) (U := decV 63 wb) h8 h63 hV0 hV d2 d3 (Int.le_trans (by decide) t1) (Int.lt_of_le_of_lt t2 (by decide)) h (by rw [← hP]; exact b3)
    rw [← hP] at up down
    refine evs ?_
    simp only [vernierlaw07_RoundTies.j2, Bool.false_eq_true, if_false, ew1]
    have ca := ref_Cmp_eq (kd := 1) (kd' := 1) (sc := sc) (sc' := decS 63 wa) (ng := false) (ng' := false) (hi := hi) (lo := lo) (hi' := decFr 63 wa) (lo' := 0) hl (by decide)
    have cb := ref_Cmp_eq (kd := 1) (kd' := 1) (sc := sc) (sc' := decS 63 wb) (ng := false) (ng' := false) (hi := hi) (lo := lo) (hi' := decFr 63 wb) (lo' := 0) hl (by decide)
    rw [hU, Nat.add_zero] at ca cb
    refine Ev.bind ca (Ev.bind cb (Ev.bind (ref_Power_eq (by clear hV hV0 ew1 ew2 ew3 hPd hTd c2 c3 d2 d3 a2 b2; omega)) (evn ?_)))
    rw [hTd]
    have tm : (Int.tmod (P : Int) 2 = 0) ↔ P % 2 = 0 := by rw [tmod2]; omega
    have tb : ((Int.tmod (P : Int) 2) == 0) = decide (P % 2 = 0) := by
      rw [tmod2]
      by_cases h : P % 2 = 0
      · rw [h]; rfl
      · rw [decide_eq_false h, beq_eq_false_iff_ne]; omega
    have low : (if (P : Int) = 1 then some true else if cmpE 1 false sc V 1 false (decS 63 wb) (decFr 63 wb * 18446744073709551616) > 0 then some true else if cmpE 1 false sc V 1 false (decS 63 wb) (decFr 63 wb * 18446744073709551616) = 0 then some ((Int.tmod (P : Int) 2) == 0) else some false) = some true := by
      by_cases h1 : (P : Int) = 1
      · rw [if_pos h1]
      · rw [if_neg h1]
        rcases down (by omega) with k | ⟨k1, k2⟩
        · rw [show cmpE 1 false sc V 1 false (decS 63 wb) (decFr 63 wb * 18446744073709551616) = 1 from cmp_more k, if_pos (by decide)]
        · rw [show cmpE 1 false sc V 1 false (decS 63 wb) (decFr 63 wb * 18446744073709551616) = 0 from cmp_same k1, if_neg (by decide), if_pos rfl, tb, decide_eq_true k2]
    simp only [if_true, low]
    by_cases ht : (P : Int) = ((2 ^ (n - 1) - 1 : Nat) : Int)
    · rw [if_pos ht]
    · rw [if_neg ht]
      rcases up (by clear hV hV0 ew1 ew2 ew3 hPd hTd c2 c3 d2 d3 a2 b2 low; omega) with k | ⟨k1, k2⟩
      · rw [show cmpE 1 false sc V 1 false (decS 63 wa) (decFr 63 wa * 18446744073709551616) = -1 from cmp_less k, if_pos (by decide)]
      · rw [show cmpE 1 false sc V 1 false (decS 63 wa) (decFr 63 wa * 18446744073709551616) = 0 from cmp_same k1, if_neg (by decide), if_pos rfl, if_pos (tm.mpr k2)]
  · simp only [if_true]
    exact Ev.now _
theorem RoundTies : vernierlaw07_RoundTies.Pure := by
  intro n kd ng sc hi lo rs w0 w1 w2 w3 w4
  obtain ⟨hi, rfl, hh⟩ := u64_nat w3
  obtain ⟨lo, rfl, hl⟩ := u64_nat w4
  refine Ev.rounds (g := fun k => vernierlaw07_RoundTies.f k n kd ng sc (hi : Int) (lo : Int) rs) ?_
  unfold vernierlaw07_RoundTies.f
  refine Ev.bind up7 ?_
  simp only [ref_Sound_eq, Option.bind_some]
  have triv : Ev (fun k => vernierlaw07_RoundTies.j0 k n true true kd ng sc hi lo rs) true := by
    refine evs ?_
    simp only [vernierlaw07_RoundTies.j0, if_true]
    exact Ev.now _
  have key : (n = 8 ∨ n = 16 ∨ n = 32) → Ev (fun k => if soundE kd ng sc (hi : Int) (lo : Int) rs = true then if kd = 1 then vernierlaw07_RoundTies.j0 k n true rs kd ng sc hi lo rs else vernierlaw07_RoundTies.j0 k n true true kd ng sc hi lo rs else vernierlaw07_RoundTies.j0 k n true true kd ng sc hi lo rs) true := by
    intro hn
    by_cases hs : soundE kd ng sc (hi : Int) (lo : Int) rs = true
    · simp only [if_pos hs]
      by_cases hk : kd = 1
      · simp only [if_pos hk]
        subst hk
        obtain ⟨m, rfl⟩ : ∃ m : Nat, n = m := ⟨n.toNat, by omega⟩
        exact ties_j0 (by omega) hh hl hs
      · simp only [if_neg hk]; exact triv
    · simp only [if_neg hs]; exact triv
  by_cases h1 : n = 8
  · simp only [if_pos h1]; exact key (.inl h1)
  · simp only [if_neg h1]
    by_cases h2 : n = 16
    · simp only [if_pos h2]; exact key (.inr (.inl h2))
    · simp only [if_neg h2]
      by_cases h3 : n = 32
      · simp only [if_pos h3]; exact key (.inr (.inr h3))
      · simp only [if_neg h3]; exact triv
end Go.Proofs.Ytfegofnplcmacaa.Pure
