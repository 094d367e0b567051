-- Written by a program of this session out of its own texts (wip/tools/link.py).
import Derived.ArgAppend
import Derived.Below
import Derived.BigQuiet
import Derived.Deep.AppendLies
import Derived.Deep.CutBlock
import Derived.Deep.DeepCutAuto
import Derived.Deep.Draws
import Derived.Deep.LoopGhost
import Derived.Deep.OwnRows
import Derived.Deep.QuietTactic
import Derived.Deep.RegionHeld3
import Derived.KernelRfl
import Derived.LaidEql
import Derived.Laws.BitsLemmas
import Derived.Laws.BytesArg
import Derived.Laws.IdiomCopy
import Derived.Laws.MakeOwn
import Derived.Laws.OwnMore
import Derived.Laws.Rows
import Derived.Laws.Slices
import Derived.Laws.Strings
import Derived.Laws.StructEq
import Derived.Lib.AppendStr
import Derived.Lib.BitFns
import Derived.Lib.ConvBytes
import Derived.Lib.Slices
import Derived.Lib.Small
import Derived.Lib.Strings
import Derived.Lib.Walk
import Derived.Maps.AppendAt
import Derived.OrdersHeld
import Derived.OwnWalk
import Derived.RowKit
import Derived.RowKit3
import Derived.Tactics
import Derived.Test.YtfegofnplcmacaaProg
import Derived.WalkKit
import Derived.WideLaws
import Derived.Test.YtfegofnplcmacaaCRoundRises8
import Derived.Test.YtfegofnplcmacaaCRoundRises10
import Derived.Test.YtfegofnplcmacaaCRoundRises11
import Derived.Test.YtfegofnplcmacaaCRoundRises12
import Derived.Test.YtfegofnplcmacaaCRoundRises13
namespace Go.Proofs.Ytfegofnplcmacaa.V
open Go Go.RowKit Go.Proofs.YtfegofnplcmacaaW.PrintWords Go.Proofs.YtfegofnplcmacaaW.PrintLast Go.Proofs.YtfegofnplcmacaaW.PrintMore Go.Proofs.Ytfegofnplcmacaa.PAll
set_option linter.unusedVariables false
set_option linter.unusedSimpArgs false
theorem ref_Is_eq (n : Int) : vernierref05_Is.f n = some (isW n) := by
  unfold vernierref05_Is.f isW
  by_cases h1 : n = 8
  · simp [h1]
  · by_cases h2 : n = 16
    · simp [h2]
    · by_cases h3 : n = 32
      · simp [h3]
      · rw [if_neg h1, if_neg h2, if_neg h3]
        have e1 : (n == 8) = false := by simpa using h1
        have e2 : (n == 16) = false := by simpa using h2
        have e3 : (n == 32) = false := by simpa using h3
        rw [e1, e2, e3]; rfl
theorem ref_Sound_eq (kd : Int) (ng : Bool) (sc hi lo : Int) (rs : Bool) : vernierref07_Sound.f kd ng sc hi lo rs = some (soundE kd ng sc hi lo rs) := by
  unfold vernierref07_Sound.f soundE
  by_cases h0 : kd = 0
  · subst h0; simp
  · by_cases h2 : kd = 2
    · subst h2; simp
    · by_cases h1 : kd = 1
      · subst h1
        by_cases a : hi ≥ 9223372036854775808
        · by_cases b : sc ≥ -1099511627776
          · simp [a, b]
          · simp [a, b]
        · simp [a]
      · simp [h0, h1, h2]
end Go.Proofs.Ytfegofnplcmacaa.V
namespace Go.Proofs.Ytfegofnplcmacaa.V
open Go Go.RowKit Go.Proofs.YtfegofnplcmacaaW.PrintWords Go.Proofs.YtfegofnplcmacaaW.PrintLast Go.Proofs.YtfegofnplcmacaaW.PrintMore Go.Proofs.Ytfegofnplcmacaa.PAll
set_option linter.unusedVariables false
set_option linter.unusedSimpArgs false
def rkN (n x : Nat) : Int := if 2 ^ (n - 1) ≤ x then (x : Int) - ((2 ^ n : Nat) : Int) else x
theorem w_2y {y : Int} {b : Nat} (h1 : -4611686018427387904 ≤ y) (h2 : y < 4611686018427387904) (hb : b < 2) : wrap64 (wrap64 (2 * y) + (b : Int)) = 2 * y + (b : Int) := by
  rw [w64 (n := 2 * y) (by omega) (by omega), w64 (by omega) (by omega)]
theorem w_succ' {t : Nat} (hb : t < 4611686018427387904) : wrap64 ((t : Int) + 1) = ((t + 1 : Nat) : Int) := by
  rw [w64 (by omega) (by omega)]; omega
theorem Extend_l0 {s : ByteArray} {n X : Nat} (h : BT s n X) (hn : n ≤ 64) (b0 : Nat) : ∀ (d j : Nat) (y : Int), j + 1 + d = n → y = ((X / 2 ^ d : Nat) : Int) - ((b0 * 2 ^ (j + 1) : Nat) : Int) → -((2 ^ j : Nat) : Int) ≤ y → y < ((2 ^ j : Nat) : Int) →
    Ev (fun k => vernierref01_Extend.l0 k (n : Int) s y ((j + 1 : Nat) : Int)) ((X : Int) - ((b0 * 2 ^ n : Nat) : Int), 0)
  | 0, j, y, hi, hy, h1, h2 => by
    refine evs ?_
    simp only [vernierref01_Extend.l0, if_neg (show ¬ ((j + 1 : Nat) : Int) < (n : Int) by omega)]
    rw [Nat.pow_zero, Nat.div_one, show j + 1 = n by omega] at hy
    rw [← hy]
    exact Ev.now _
  | d + 1, j, y, hi, hy, h1, h2 => by
    refine evs ?_
    have hb := h.bit (i := j + 1) (by omega)
    rw [show n - 1 - (j + 1) = d by omega] at hb
    have hs := h.size
    have hZ : (2 : Nat) ^ j ≤ 2 ^ 62 := pow_le (by omega)
    have h62 : (2 : Nat) ^ 62 = 4611686018427387904 := by decide
    have e1 : ((48 : Int) + ((X / 2 ^ d % 2 : Nat) : Int) - 48) % 256 = ((X / 2 ^ d % 2 : Nat) : Int) := by omega
    have hbit : X / 2 ^ d % 2 < 2 := Nat.mod_lt _ (by decide)
    have e2 : X / 2 ^ (d + 1) = X / 2 ^ d / 2 := by rw [Nat.pow_succ, Nat.div_div_eq_div_mul]
    have e3 : b0 * 2 ^ (j + 1 + 1) = 2 * (b0 * 2 ^ (j + 1)) := by rw [Nat.pow_succ _ (j + 1)]; grind
    have e4 : (2 : Nat) ^ (j + 1) = 2 * 2 ^ j := by rw [Nat.pow_succ]; omega
    rw [e2] at hy
    have ih := Extend_l0 h hn b0 d (j + 1) (2 * y + ((X / 2 ^ d % 2 : Nat) : Int)) (by omega) (by
      rw [e3]
      generalize b0 * 2 ^ (j + 1) = u at *
      generalize X / 2 ^ d = q at *
      omega) (by
      rw [e4]
      generalize X / 2 ^ d % 2 = b at *
      generalize 2 ^ j = z at *
      omega) (by
      rw [e4]
      generalize X / 2 ^ d % 2 = b at *
      generalize 2 ^ j = z at *
      omega)
    have y1 : -4611686018427387904 ≤ y := by clear ih; generalize 2 ^ j = z at *; omega
    have y2 : y < 4611686018427387904 := by clear ih; generalize 2 ^ j = z at *; omega
    have j4 : j + 1 < 4611686018427387904 := by omega
    simp only [vernierref01_Extend.l0, if_pos (show ((j + 1 : Nat) : Int) < (n : Int) by omega), if_pos (show (0 : Int) ≤ ((j + 1 : Nat) : Int) by omega), if_pos (show ((j + 1 : Nat) : Int) < (s.size : Int) by omega), hb, e1, w_2y y1 y2 hbit, w_succ' j4]
    exact ih
theorem Extend_eq {n x : Nat} (h1 : 1 ≤ n) (hn : n ≤ 64) (hx : x < 2 ^ n) : Ev (fun k => vernierref01_Extend.f k (x : Int) (n : Int)) (rkN n x, 0) := by
  have hx64 : x < 18446744073709551616 := by rw [← p64]; exact Nat.lt_of_lt_of_le hx (pow_le hn)
  obtain ⟨s, s1, s2⟩ := Text_eq x n hx64 hn
  rw [Nat.mod_eq_of_lt hx] at s2
  unfold vernierref01_Extend.f
  simp only [if_neg (show ¬ (n : Int) < 1 by omega), decide_eq_false (show ¬ (n : Int) > 64 by omega)]
  refine evs ?_
  simp only [vernierref01_Extend.j0, Bool.false_eq_true, if_false]
  refine Ev.bind s1 ?_
  have hs := s2.size
  have hb := s2.bit (i := 0) (by omega)
  rw [Nat.sub_zero] at hb
  have hb' : bt s 0 = _ := hb
  obtain ⟨m, rfl⟩ : ∃ m, n = m + 1 := ⟨n - 1, by omega⟩
  rw [Nat.add_sub_cancel] at hb'
  have hz : x / 2 ^ m < 2 := by
    rw [Nat.div_lt_iff_lt_mul (two_pos m)]
    rw [Nat.pow_succ] at hx; omega
  rw [Nat.mod_eq_of_lt hz] at hb'
  simp only [if_pos (show (0 : Int) < (s.size : Int) by omega), hb']
  have hr : rkN (m + 1) x = (x : Int) - ((x / 2 ^ m * 2 ^ (m + 1) : Nat) : Int) := by
    unfold rkN
    rw [Nat.add_sub_cancel]
    by_cases h : 2 ^ m ≤ x
    · have : x / 2 ^ m = 1 := by
        have : 1 ≤ x / 2 ^ m := by rw [Nat.le_div_iff_mul_le (two_pos m)]; omega
        omega
      rw [if_pos h, this, Nat.one_mul]
    · have : x / 2 ^ m = 0 := Nat.div_eq_of_lt (by omega)
      rw [if_neg h, this, Nat.zero_mul]; simp
  rw [hr]
  by_cases hb1 : x / 2 ^ m = 1
  · simp only [hb1, if_pos (show (48 : Int) + ((1 : Nat) : Int) = 49 by decide)]
    refine evs ?_
    simp only [vernierref01_Extend.j1]
    exact Extend_l0 s2 hn 1 m 0 (-1) (by omega) (by rw [hb1]; decide) (by decide) (by decide)
  · have hb0 : x / 2 ^ m = 0 := by
      revert hz hb1; generalize x / 2 ^ m = w; intro hz hb1; omega
    simp only [hb0, if_neg (show ¬ (48 : Int) + ((0 : Nat) : Int) = 49 by decide)]
    refine evs ?_
    simp only [vernierref01_Extend.j1]
    exact Extend_l0 s2 hn 0 m 0 0 (by omega) (by rw [hb0]; decide) (by decide) (by decide)
theorem Rank_eq {n x : Nat} (h : isW n = true) (hx : x < 2 ^ n) : Ev (fun k => vernierref05_Rank.f k (n : Int) (x : Int)) (rkN n x, 0) := by
  obtain ⟨b64, b8⟩ := pow64 h
  unfold vernierref05_Rank.f
  simp only [ref_Is_eq, h, Option.bind_some, if_true]
  exact Ev.bind (Extend_eq (by omega) b64 hx) (Ev.now _)
def rkE (n : Nat) (kd : Int) (ng : Bool) (sc : Int) (V : Nat) (R : Bool) : Int := if kd = 0 then 0 else if ng then -(posP n sc V R : Int) else posP n sc V R
theorem rnd_rank {n : Nat} {kd sc : Int} {ng R : Bool} {V : Nat} (h8 : 8 ≤ n) (hn : n ≤ 64) (hk : kd = 0 ∧ ng = false ∨ kd = 1) (hV : V < 2 ^ 128) (hV0 : kd = 1 → 2 ^ 127 ≤ V) :
    rnd n kd ng sc V R < 2 ^ n ∧ rkN n (rnd n kd ng sc V R) = rkE n kd ng sc V R := by
  have hp := two_pos (n - 1)
  have e : (2 : Nat) ^ n = 2 * 2 ^ (n - 1) := by rw [show n = n - 1 + 1 by omega, Nat.pow_succ]; simp; omega
  rcases hk with ⟨rfl, rfl⟩ | rfl
  · have : rnd n 0 false sc V R = 0 := by unfold rnd cutE; simp
    rw [this]
    refine ⟨two_pos n, ?_⟩
    unfold rkN rkE
    rw [if_neg (by omega)]; simp
  · have b := posP_bounds (n := n) (s := sc) (V := V) (R := R) h8 hn hV
    unfold rkE
    rw [if_neg (by decide)]
    cases ng
    · rw [rnd_pos h8 hn hV (hV0 rfl)]
      refine ⟨by omega, ?_⟩
      unfold rkN
      rw [if_neg (by omega)]; rfl
    · rw [rnd_neg, rnd_pos h8 hn hV (hV0 rfl), negN_eq hn (by omega) (by omega), if_neg (by omega)]
      refine ⟨by omega, ?_⟩
      unfold rkN
      rw [if_pos (by omega)]
      simp only [if_true]
      omega
def sgnE (kd : Int) (ng : Bool) : Int := if kd = 1 then (if ng then -1 else 1) else 0
def cmpE (kd : Int) (ng : Bool) (sc : Int) (V : Nat) (kd' : Int) (ng' : Bool) (sc' : Int) (V' : Nat) : Int :=
  if sgnE kd ng < sgnE kd' ng' then -1 else if sgnE kd' ng' < sgnE kd ng then 1 else if sgnE kd ng = 0 then 0
  else if sc = sc' ∧ V = V' then 0 else if sc < sc' ∨ (sc = sc' ∧ V < V') then -sgnE kd ng else sgnE kd ng
theorem ref_sign_eq (kd : Int) (ng : Bool) (sc hi lo : Int) (R : Bool) : vernierref07_sign.f kd ng sc hi lo R = some (sgnE kd ng) := by
  unfold vernierref07_sign.f sgnE
  by_cases h : kd = 1
  · rw [if_pos h, if_pos h]; cases ng <;> rfl
  · rw [if_neg h, if_neg h]
theorem ref_Cmp_eq {kd kd' sc sc' : Int} {ng ng' : Bool} {hi lo hi' lo' : Nat} (hl : lo < 18446744073709551616) (hl' : lo' < 18446744073709551616) :
    Ev (fun k => vernierref07_Cmp.f k kd ng sc hi lo false kd' ng' sc' hi' lo' false) (cmpE kd ng sc (hi * 18446744073709551616 + lo) kd' ng' sc' (hi' * 18446744073709551616 + lo')) := by
  unfold vernierref07_Cmp.f cmpE
  simp only [ref_sign_eq, Option.bind_some]
  by_cases h1 : sgnE kd ng < sgnE kd' ng'
  · simp only [if_pos h1]; exact Ev.now _
  · simp only [if_neg h1]
    by_cases h2 : sgnE kd ng > sgnE kd' ng'
    · simp only [if_pos h2, if_pos (show sgnE kd' ng' < sgnE kd ng from h2)]; exact Ev.now _
    · simp only [if_neg h2, if_neg (show ¬ sgnE kd' ng' < sgnE kd ng from h2)]
      by_cases h3 : sgnE kd ng = 0
      · simp only [if_pos h3]
        refine evs ?_
        simp only [vernierref07_Cmp.j0, if_true]
        exact Ev.now _
      · simp only [if_neg h3]
        refine evs ?_
        have hs : sgnE kd ng = sgnE kd' ng' := by omega
        have hk : kd = 1 ∧ kd' = 1 ∧ ng = ng' := by
          unfold sgnE at hs h3
          by_cases k1 : kd = 1
          · rw [if_pos k1] at hs
            by_cases k2 : kd' = 1
            · rw [if_pos k2] at hs
              refine ⟨k1, k2, ?_⟩
              cases ng <;> cases ng' <;> simp at hs ⊢
            · rw [if_neg k2] at hs
              cases ng <;> simp at hs
          · rw [if_neg k1] at h3
            exact absurd rfl h3
        obtain ⟨rfl, rfl, rfl⟩ := hk
        have ew : wrap64 (-(sgnE 1 ng)) = -(sgnE 1 ng) := by cases ng <;> exact w64 (by decide) (by decide)
        clear h1 h2 h3 hs
        obtain ⟨c, hc⟩ : ∃ c, c = (if sc = sc' ∧ hi * 18446744073709551616 + lo = hi' * 18446744073709551616 + lo' then 0 else if sc < sc' ∨ (sc = sc' ∧ hi * 18446744073709551616 + lo < hi' * 18446744073709551616 + lo') then -sgnE 1 ng else sgnE 1 ng) := ⟨_, rfl⟩
        rw [← hc]
        simp only [beq_self_eq_true, Bool.true_and, Bool.and_true, vernierref07_Cmp.j0, ew]
        clear ew
        by_cases c1 : sc = sc'
        · by_cases c2 : hi = hi'
          · by_cases c3 : lo = lo'
            · rw [if_pos ⟨c1, by rw [c2, c3]⟩] at hc
              subst c1 c2 c3 hc
              simp only [beq_self_eq_true, Bool.true_and, if_true]
              exact Ev.now _
            · rw [if_neg (by omega)] at hc
              have c3' : ((lo : Int) == (lo' : Int)) = false := by rw [beq_eq_false_iff_ne]; omega
              subst c1 c2
              simp only [beq_self_eq_true, Bool.true_and, c3', Bool.false_eq_true, if_false, Int.lt_irrefl, if_true]
              by_cases c4 : lo < lo'
              · rw [if_pos (by omega)] at hc
                simp only [if_pos (show (lo : Int) < (lo' : Int) by omega)]
                rw [hc]; exact Ev.now _
              · rw [if_neg (by omega)] at hc
                simp only [if_neg (show ¬ (lo : Int) < (lo' : Int) by omega)]
                rw [hc]; exact Ev.now _
          · rw [if_neg (by omega)] at hc
            have c2' : ((hi : Int) == (hi' : Int)) = false := by rw [beq_eq_false_iff_ne]; omega
            have c2'' : ¬ (hi : Int) = (hi' : Int) := by omega
            subst c1
            simp only [beq_self_eq_true, Bool.true_and, c2', c2'', Bool.false_and, Bool.false_eq_true, if_false, Int.lt_irrefl, if_true]
            by_cases c4 : hi < hi'
            · rw [if_pos (by omega)] at hc
              simp only [if_pos (show (hi : Int) < (hi' : Int) by omega)]
              rw [hc]; exact Ev.now _
            · rw [if_neg (by omega)] at hc
              simp only [if_neg (show ¬ (hi : Int) < (hi' : Int) by omega)]
              rw [hc]; exact Ev.now _
        · rw [if_neg (fun h => c1 h.1)] at hc
          have c1' : (sc == sc') = false := by rw [beq_eq_false_iff_ne]; exact c1
          simp only [c1', Bool.false_and, Bool.false_eq_true, if_false, if_neg c1]
          by_cases c4 : sc < sc'
          · rw [if_pos (.inl c4)] at hc
            simp only [if_pos c4]
            rw [hc]; exact Ev.now _
          · rw [if_neg (by omega)] at hc
            simp only [if_neg c4]
            rw [hc]; exact Ev.now _
theorem cmp_rank {n : Nat} {kd kd' sc sc' : Int} {ng ng' : Bool} {V V' : Nat} (h8 : 8 ≤ n) (hn : n ≤ 64) (hk : kd = 0 ∧ ng = false ∨ kd = 1) (hk' : kd' = 0 ∧ ng' = false ∨ kd' = 1)
    (hV : V < 2 ^ 128) (hV' : V' < 2 ^ 128) (h0 : kd = 1 → 2 ^ 127 ≤ V) (h0' : kd' = 1 → 2 ^ 127 ≤ V') :
    (cmpE kd ng sc V kd' ng' sc' V' > 0 ∨ rkE n kd ng sc V false ≤ rkE n kd' ng' sc' V' false) ∧ (cmpE kd ng sc V kd' ng' sc' V' < 0 ∨ rkE n kd' ng' sc' V' false ≤ rkE n kd ng sc V false) := by
  have b := posP_bounds (n := n) (s := sc) (V := V) (R := false) h8 hn hV
  have b' := posP_bounds (n := n) (s := sc') (V := V') (R := false) h8 hn hV'
  unfold cmpE
  rcases hk with ⟨rfl, rfl⟩ | rfl
  · rcases hk' with ⟨rfl, rfl⟩ | rfl
    · simp [sgnE, rkE]
    · cases ng' <;> simp [sgnE, rkE] <;> omega
  · rcases hk' with ⟨rfl, rfl⟩ | rfl
    · cases ng <;> simp [sgnE, rkE] <;> omega
    · have m1 := fun h => posP_mono (n := n) (s := sc) (t := sc') (R := false) (Q := false) h8 hn hV hV' (h0 rfl) (h0' rfl) h
      have m2 := fun h => posP_mono (n := n) (s := sc') (t := sc) (R := false) (Q := false) h8 hn hV' hV (h0' rfl) (h0 rfl) h
      by_cases hng : ng = ng'
      · subst hng
        rw [if_neg (Int.lt_irrefl _), if_neg (Int.lt_irrefl _)]
        have hs : ¬ sgnE 1 ng = 0 := by cases ng <;> decide
        rw [if_neg hs]
        by_cases c1 : sc = sc' ∧ V = V'
        · obtain ⟨rfl, rfl⟩ := c1
          simp
        · rw [if_neg c1]
          by_cases c2 : sc < sc' ∨ (sc = sc' ∧ V < V')
          · rw [if_pos c2]
            have := m1 (by rcases c2 with c2 | c2; exact .inl c2; exact .inr ⟨c2.1, .inl c2.2⟩)
            cases ng <;> simp [sgnE, rkE] <;> omega
          · rw [if_neg c2]
            have := m2 (by
              rcases Int.lt_trichotomy sc sc' with k | k | k
              · exact absurd (.inl k) c2
              · exact .inr ⟨k.symm, .inl (by
                  rcases Nat.lt_trichotomy V V' with q | q | q
                  · exact absurd (.inr ⟨k, q⟩) c2
                  · exact absurd ⟨k, q⟩ c1
                  · exact q)⟩
              · exact .inl k)
            cases ng <;> simp [sgnE, rkE] <;> omega
      · cases ng <;> cases ng' <;> simp at hng <;> simp [sgnE, rkE] <;> omega
end Go.Proofs.Ytfegofnplcmacaa.V
namespace Go.Proofs.Ytfegofnplcmacaa.Pure
open Go Go.RowKit Go.Proofs.Ytfegofnplcmacaa.PAll Go.Proofs.YtfegofnplcmacaaW.PrintWords Go.Proofs.YtfegofnplcmacaaW.PrintLast Go.Proofs.YtfegofnplcmacaaW.PrintMore Go.Proofs.Ytfegofnplcmacaa.V
theorem real_zero {kd sc hi lo : Int} {ng rs : Bool} (h : soundE kd ng sc hi lo rs = true) (h2 : ¬ kd = 2) : kd = 0 ∧ ng = false ∨ kd = 1 := by
  rcases sound_kinds h with k | k | k
  · left
    refine ⟨k, ?_⟩
    subst k
    unfold soundE at h
    cases ng
    · rfl
    · simp at h
  · exact absurd k h2
  · exact .inr k
theorem real_ge {kd sc : Int} {hi lo : Nat} {ng rs : Bool} (h : soundE kd ng sc hi lo rs = true) : kd = 1 → 2 ^ 127 ≤ hi * 18446744073709551616 + lo := by
  rintro rfl
  have := (sound_real h).1
  rw [p127]; omega
theorem rises_j0 {n hi lo hi' lo' : Nat} {kd kd' sc sc' : Int} {ng ng' b rs rs' : Bool} (hn : isW (n : Int) = true) (hh : hi < 18446744073709551616) (hl : lo < 18446744073709551616) (hh' : hi' < 18446744073709551616) (hl' : lo' < 18446744073709551616)
    (h : b = false → soundE kd ng sc hi lo rs = true ∧ soundE kd' ng' sc' hi' lo' rs' = true ∧ ¬ kd = 2 ∧ ¬ kd' = 2 ∧ rs = false ∧ rs' = false) :
    Ev (fun k => vernierlaw07_RoundRises.j0 k (n : Int) true b kd ng sc hi lo rs kd' ng' sc' hi' lo' rs') true := by
  refine evs ?_
  simp only [vernierlaw07_RoundRises.j0]
  cases b
  · obtain ⟨h1, h2, h3, h4, rfl, rfl⟩ := h rfl
    obtain ⟨b64, b8⟩ := pow64 hn
    have k1 := real_zero h1 h3
    have k2 := real_zero h2 h4
    have v1 := v128 hh hl
    have v2 := v128 hh' hl'
    have r1 := rnd_rank (R := false) (sc := sc) b8 b64 k1 v1 (real_ge h1)
    have r2 := rnd_rank (R := false) (sc := sc') b8 b64 k2 v2 (real_ge h2)
    have c := cmp_rank (sc := sc) (sc' := sc') b8 b64 k1 k2 v1 v2 (real_ge h1) (real_ge h2)
    simp only [Bool.false_eq_true, if_false]
    refine Ev.bind (round_Round_eq hn hh hl h1) (Ev.bind (round_Round_eq hn hh' hl' h2) (Ev.bind (ref_Cmp_eq hl hl') ?_))
    have q1 : Ev (fun k => vernierlaw07_rank.f k (n : Int) (rnd n kd ng sc (hi * 18446744073709551616 + lo) false : Nat)) (rkE n kd ng sc (hi * 18446744073709551616 + lo) false) := by
      unfold vernierlaw07_rank.f
      refine Ev.bind (Rank_eq hn r1.1) ?_
      rw [r1.2]; exact Ev.now _
    have q2 : Ev (fun k => vernierlaw07_rank.f k (n : Int) (rnd n kd' ng' sc' (hi' * 18446744073709551616 + lo') false : Nat)) (rkE n kd' ng' sc' (hi' * 18446744073709551616 + lo') false) := by
      unfold vernierlaw07_rank.f
      refine Ev.bind (Rank_eq hn r2.1) ?_
      rw [r2.2]; exact Ev.now _
    refine Ev.bind q1 (Ev.bind q2 (evn ?_))
    clear q1 q2 r1 r2 v1 v2 k1 k2
    generalize cmpE kd ng sc (hi * 18446744073709551616 + lo) kd' ng' sc' (hi' * 18446744073709551616 + lo') = x at *
    generalize rkE n kd ng sc (hi * 18446744073709551616 + lo) false = y at *
    generalize rkE n kd' ng' sc' (hi' * 18446744073709551616 + lo') false = z at *
    simp only [Option.isNone_none, if_true]
    by_cases c1 : x > 0
    · rw [if_pos c1, if_neg (by omega), decide_eq_true (by omega)]
    · rw [if_neg c1, if_pos (by omega)]
      by_cases c2 : x < 0
      · rw [if_pos c2]
      · rw [if_neg c2, decide_eq_true (by omega)]
  · simp only [if_true]
    exact Ev.now _
theorem RoundRises : vernierlaw07_RoundRises.Pure := by
  intro n kd ng sc hi lo rs kd' ng' sc' hi' lo' rs' w0 w1 w2 w3 w4 w5 w6 w7 w8
  obtain ⟨hi, rfl, hh⟩ := u64_nat w3
  obtain ⟨lo, rfl, hl⟩ := u64_nat w4
  obtain ⟨hi', rfl, hh'⟩ := u64_nat w7
  obtain ⟨lo', rfl, hl'⟩ := u64_nat w8
  refine Ev.rounds (g := fun k => vernierlaw07_RoundRises.f k n kd ng sc (hi : Int) (lo : Int) rs kd' ng' sc' (hi' : Int) (lo' : Int) rs') ?_
  unfold vernierlaw07_RoundRises.f
  refine Ev.bind up7 ?_
  simp only [ref_Sound_eq, ref_Is_eq, Option.bind_some]
  have triv : Ev (fun k => vernierlaw07_RoundRises.j0 k n true true kd ng sc hi lo rs kd' ng' sc' hi' lo' rs') true := by
    refine evs ?_
    simp only [vernierlaw07_RoundRises.j0, if_true]
    exact Ev.now _
  by_cases h1 : soundE kd ng sc (hi : Int) (lo : Int) rs = true
  · simp only [if_pos h1]
    by_cases h2 : soundE kd' ng' sc' (hi' : Int) (lo' : Int) rs' = true
    · simp only [if_pos h2]
      by_cases hn : isW n = true
      · simp only [if_pos hn]
        obtain ⟨m, rfl, _⟩ := isW_nat hn
        by_cases h3 : kd = 2
        · simp only [if_pos h3]; exact triv
        · simp only [if_neg h3]
          by_cases h4 : kd' = 2
          · simp only [if_pos h4]; exact triv
          · simp only [if_neg h4]
            cases rs
            · simp only [Bool.false_eq_true, if_false]
              exact rises_j0 hn hh hl hh' hl' (fun h => ⟨h1, h2, h3, h4, rfl, h⟩)
            · simp only [if_true]; exact triv
      · simp only [if_neg hn]; exact triv
    · simp only [if_neg h2]; exact triv
  · simp only [if_neg h1]; exact triv
end Go.Proofs.Ytfegofnplcmacaa.Pure
