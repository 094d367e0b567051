-- Written by a program of this session out of its own texts (wip/tools/link.py).
import Derived.ArgAppend
import Derived.Below
import Derived.BigQuiet
import Derived.Deep.AppendLies
import Derived.Deep.CutBlock
import Derived.Deep.DeepCutAuto
import Derived.Deep.Draws
import Derived.Deep.LoopGhost
import Derived.Deep.OwnRows
import Derived.Deep.QuietTactic
import Derived.Deep.RegionHeld3
import Derived.KernelRfl
import Derived.LaidEql
import Derived.Laws.BitsLemmas
import Derived.Laws.BytesArg
import Derived.Laws.IdiomCopy
import Derived.Laws.MakeOwn
import Derived.Laws.OwnMore
import Derived.Laws.Rows
import Derived.Laws.Slices
import Derived.Laws.Strings
import Derived.Laws.StructEq
import Derived.Lib.AppendStr
import Derived.Lib.BitFns
import Derived.Lib.ConvBytes
import Derived.Lib.Slices
import Derived.Lib.Small
import Derived.Lib.Strings
import Derived.Lib.Walk
import Derived.Maps.AppendAt
import Derived.OrdersHeld
import Derived.OwnWalk
import Derived.RowKit
import Derived.RowKit3
import Derived.Tactics
import Derived.Test.YtfegofnplcmacaaProg
import Derived.WalkKit
import Derived.WideLaws
import Derived.Test.YtfegofnplcmacaaCRoundMakes10
import Derived.Test.YtfegofnplcmacaaCRoundMakes11
import Derived.Test.YtfegofnplcmacaaCRoundMakes12
namespace Go.Proofs.Ytfegofnplcmacaa.V
open Go Go.RowKit Go.Proofs.YtfegofnplcmacaaW.PrintWords Go.Proofs.YtfegofnplcmacaaW.PrintLast Go.Proofs.YtfegofnplcmacaaW.PrintMore Go.Proofs.Ytfegofnplcmacaa.PAll
set_option linter.unusedVariables false
set_option linter.unusedSimpArgs false
def exactE (ng : Bool) (m : Nat) (e : Int) (R : Bool) : Int × Bool × Int × Int × Int × Bool :=
  if m = 0 then (0, false, 0, 0, 0, false) else (1, ng, heldI (e + (bl m : Int) - 1), TH (mkV m), TL (mkV m), mkR m R)
theorem pow_eq {a b : Nat} (h : a = b) : (2 : Nat) ^ a = 2 ^ b := by rw [h]
theorem mkV_lt {m : Nat} (hm : 0 < m) : mkV m < 2 ^ 128 := by
  have h1 := bl_lt m
  unfold mkV
  split
  · rename_i h
    have : 2 ^ bl m * 2 ^ (128 - bl m) = 2 ^ 128 := pow_split h
    rw [← this]
    exact Nat.mul_lt_mul_of_pos_right h1 (two_pos _)
  · rename_i h
    rw [Nat.div_lt_iff_lt_mul (two_pos _), ← Nat.pow_add]
    exact Nat.lt_of_lt_of_eq h1 (pow_eq (by omega))
theorem T_top {V : Nat} (h : V < 2 ^ 128) : ((V / 2 ^ 64 % 18446744073709551616 : Nat) : Int) = TH V := by
  unfold TH
  rw [p64, Nat.mod_eq_of_lt]
  rw [p128] at h; omega
theorem ref_Held_eq (s : Int) : vernierref07_Held.f s = some (heldI s) := by
  unfold vernierref07_Held.f heldI
  by_cases h1 : s < -1099511627776
  · rw [if_pos h1, if_pos h1]
  · rw [if_neg h1, if_neg h1]
    by_cases h2 : s > 1099511627776
    · rw [if_pos h2, if_pos (by omega)]
    · rw [if_neg h2, if_neg (by omega)]
theorem ref_tail {s : List Int} {V : Nat} (h : DL s V) (hn : s.length ≤ 1000) (hV : V < 2 ^ 128) {α : Type} (g : Int → Int → α) :
    Ev (fun k => (vernierref04_Word.f k s).bind fun a => (vernierref04_Shr.f k s 64).bind fun b => (vernierref04_Word.f k b).bind fun c => some (g c a)) (g (TH V) (TL V)) := by
  obtain ⟨b, b1, b2⟩ := r4_Shr (k := 64) h (by decide) hn
  have w := r4_Word b2
  rw [T_top hV] at w
  exact Ev.bind (r4_Word h) (Ev.bind b1 (Ev.bind w (Ev.now _)))
theorem ref_Exactly_eq {x : List Int} {m : Nat} {e : Int} {ng R : Bool} (hx : DL x m) (hn : x.length ≤ 800) (h0 : -2305843009213693952 ≤ e) (h1 : e ≤ 2305843009213693952) :
    Ev (fun k => vernierref07_Exactly.f k ng x e R) (exactE ng m e R) := by
  unfold vernierref07_Exactly.f exactE
  refine Ev.bind (r4_Bits hx (by omega)) ?_
  by_cases hm : m = 0
  · subst hm
    rw [bl_zero]
    simp only [if_true]
    exact Ev.now _
  · have hb := bl_pos (x := m) (by omega)
    have hbl : bl m ≤ 24 * x.length := bl_W hx.lt
    have ew : wrap64 (wrap64 (e + ((bl m : Nat) : Int)) - 1) = e + (bl m : Int) - 1 := by
      rw [w64 (n := e + ((bl m : Nat) : Int)) (by omega) (by omega), w64 (by omega) (by omega)]
    have hlt := mkV_lt (m := m) (by omega)
    have hne : ¬ ((bl m : Nat) : Int) = 0 := by omega
    rw [if_neg hm]
    simp only [if_neg hne]
    simp only [ew]
    simp only [ref_Held_eq, Option.bind_some]
    clear ew
    generalize heldI (e + (bl m : Int) - 1) = sc
    by_cases h2 : bl m < 128
    · have e1 : wrap64 (128 - ((bl m : Nat) : Int)) = ((128 - bl m : Nat) : Int) := by rw [w64 (by omega) (by omega)]; omega
      obtain ⟨s, s1, s2⟩ := r4_Shl (k := 128 - bl m) hx (by omega) (by omega)
      simp only [if_pos (show ((bl m : Nat) : Int) < 128 by omega), e1]
      clear e1
      refine Ev.bind s1 (evs ?_)
      have hv : m * 2 ^ (128 - bl m) = mkV m := by unfold mkV; rw [if_pos (by omega)]
      rw [hv] at s2
      have hr : mkR m R = R := by unfold mkR; rw [show bl m - 128 = 0 by omega, Nat.pow_zero, Nat.mod_one]; simp
      have hl : s.length ≤ 6 := s2.len_le (Nat.lt_of_lt_of_le hlt (by decide))
      simp only [vernierref07_Exactly.j0, if_neg (show ¬ ((bl m : Nat) : Int) > 128 by omega), hr]
      exact ref_tail s2 (by omega) hlt (fun a b => (1, ng, sc, a, b, R))
    · simp only [if_neg (show ¬ ((bl m : Nat) : Int) < 128 by omega)]
      refine evs ?_
      by_cases h3 : bl m = 128
      · have hv : m = mkV m := by unfold mkV; rw [if_pos (by omega), h3]; simp
        have hr : mkR m R = R := by unfold mkR; rw [show bl m - 128 = 0 by omega, Nat.pow_zero, Nat.mod_one]; simp
        rw [hr]
        simp only [vernierref07_Exactly.j0, if_neg (show ¬ ((bl m : Nat) : Int) > 128 by omega)]
        rw [← hv]
        rw [← hv] at hlt
        exact ref_tail hx (by omega) hlt (fun a b => (1, ng, sc, a, b, R))
      · have e1 : wrap64 (((bl m : Nat) : Int) - 128) = ((bl m - 128 : Nat) : Int) := by rw [w64 (by omega) (by omega)]; omega
        have hv : m / 2 ^ (bl m - 128) = mkV m := by unfold mkV; rw [if_neg (by omega)]
        obtain ⟨s, s1, s2⟩ := r4_Shr (k := bl m - 128) hx (by omega) (by omega)
        rw [hv] at s2
        have hl : s.length ≤ 6 := s2.len_le (Nat.lt_of_lt_of_le hlt (by decide))
        have j1 : ∀ b : Bool, Ev (fun k => vernierref07_Exactly.j1 k x ((bl m : Nat) : Int) 1 ng sc 0 0 b) (1, ng, sc, TH (mkV m), TL (mkV m), b) := by
          intro b
          refine evs ?_
          simp only [vernierref07_Exactly.j1, e1]
          refine Ev.bind s1 ?_
          exact ref_tail s2 (by omega) hlt (fun c a => (1, ng, sc, c, a, b))
        simp only [vernierref07_Exactly.j0, if_pos (show ((bl m : Nat) : Int) > 128 by omega), e1]
        refine Ev.bind (r4_Low (k := bl m - 128) hx (by omega) (by omega)) ?_
        cases R
        · simp only [Bool.false_eq_true, if_false]
          exact j1 _
        · simp only [if_true]
          exact j1 true
theorem far_held (e : Int) (b : Int) (h0 : 0 < b) (h1 : b ≤ 128) : heldI ((if e < -1125899906842624 then -1125899906842624 else if 1125899906842624 < e then 1125899906842624 else e) + b - 1) = heldI (farI e + b - 1) := by
  unfold heldI farI
  repeat' split
  all_goals omega
theorem ref_Makes_eq (ng : Bool) (V : Nat) (e : Int) (R : Bool) (hV : V < 2 ^ 128) :
    Ev (fun k => vernierref07_Makes.f k ng (TH V) (TL V) e R) (if R = true ∧ V < 2 ^ 127 then (0, false, 0, 0, 0, false, 1) else ((makeV ng V e R).1, (makeV ng V e R).2.1, (makeV ng V e R).2.2.1, (makeV ng V e R).2.2.2.1, (makeV ng V e R).2.2.2.2.1, (makeV ng V e R).2.2.2.2.2.1, 0)) := by
  have j0 : ∀ b : Bool, (b = true ↔ R = true ∧ V < 2 ^ 127) → Ev (fun k => vernierref07_Makes.j0 k ng (TH V) (TL V) e R b) (if R = true ∧ V < 2 ^ 127 then (0, false, 0, 0, 0, false, 1) else ((makeV ng V e R).1, (makeV ng V e R).2.1, (makeV ng V e R).2.2.1, (makeV ng V e R).2.2.2.1, (makeV ng V e R).2.2.2.2.1, (makeV ng V e R).2.2.2.2.2.1, 0)) := by
    intro b hb
    refine evs ?_
    simp only [vernierref07_Makes.j0]
    by_cases c : b = true
    · rw [if_pos (hb.mp c)]
      simp only [if_pos c]
      exact Ev.now _
    · rw [if_neg (fun h => c (hb.mpr h))]
      simp only [if_neg c]
      have j2 : ∀ f : Int, f = (if e < -1125899906842624 then -1125899906842624 else if 1125899906842624 < e then 1125899906842624 else e) → Ev (fun k => vernierref07_Makes.j2 k ng (TH V) (TL V) R f) ((makeV ng V e R).1, (makeV ng V e R).2.1, (makeV ng V e R).2.2.1, (makeV ng V e R).2.2.2.1, (makeV ng V e R).2.2.2.2.1, (makeV ng V e R).2.2.2.2.2.1, 0) := by
        intro f hf
        have hfb : -1125899906842624 ≤ f ∧ f ≤ 1125899906842624 := by
          rw [hf]; repeat' split
          all_goals omega
        have hV' := hV
        rw [p128] at hV'
        obtain ⟨a, a1, a2⟩ := r4_Of (V / 18446744073709551616) (by omega)
        have la : a.length ≤ 3 := a2.len_le (Nat.lt_of_lt_of_le (show V / 18446744073709551616 < 18446744073709551616 by omega) (by decide))
        obtain ⟨s, s1, s2⟩ := r4_Shl (k := 64) a2 (by decide) (by omega)
        obtain ⟨l, l1, l2⟩ := r4_Of (V % 18446744073709551616) (by omega)
        have ll : l.length ≤ 3 := l2.len_le (Nat.lt_of_lt_of_le (show V % 18446744073709551616 < 18446744073709551616 by omega) (by decide))
        have ls : s.length ≤ 6 := s2.len_le (Nat.lt_of_lt_of_le (show V / 18446744073709551616 * 2 ^ 64 < 340282366920938463463374607431768211456 by rw [p64]; omega) (by decide))
        obtain ⟨m, m1, m2⟩ := r4_Add s2 l2 (by omega) (by omega)
        have em : V / 18446744073709551616 * 2 ^ 64 + V % 18446744073709551616 = V := by rw [p64]; omega
        rw [em] at m2
        have lm : m.length ≤ 6 := m2.len_le (Nat.lt_of_lt_of_le hV' (by decide))
        refine evs ?_
        simp only [vernierref07_Makes.j2]
        refine Ev.bind a1 (Ev.bind s1 (Ev.bind l1 (Ev.bind m1 (Ev.bind (ref_Exactly_eq m2 (by omega) (by omega) (by omega)) ?_))))
        refine evn ?_
        unfold exactE makeV
        by_cases h0 : V = 0
        · rw [if_pos h0, if_pos h0]
        · rw [if_neg h0, if_neg h0]
          have hb0 := bl_pos (x := V) (by omega)
          have hb1 := bl_le_of_lt hV
          have hr : mkR V R = R := by unfold mkR; rw [show bl V - 128 = 0 by omega, Nat.pow_zero, Nat.mod_one]; simp
          rw [hf, far_held _ _ (by omega) (by omega), hr]
      have j1 : ∀ f : Int, f = (if e < -1125899906842624 then -1125899906842624 else e) → Ev (fun k => vernierref07_Makes.j1 k ng (TH V) (TL V) R f) ((makeV ng V e R).1, (makeV ng V e R).2.1, (makeV ng V e R).2.2.1, (makeV ng V e R).2.2.2.1, (makeV ng V e R).2.2.2.2.1, (makeV ng V e R).2.2.2.2.2.1, 0) := by
        intro f hf
        refine evs ?_
        simp only [vernierref07_Makes.j1]
        by_cases h : f > 1125899906842624
        · simp only [if_pos h]
          refine j2 _ ?_
          split at hf <;> (repeat' split) <;> omega
        · simp only [if_neg h]
          refine j2 _ ?_
          split at hf <;> (repeat' split) <;> omega
      by_cases h : e < -1125899906842624
      · simp only [if_pos h]
        exact j1 _ (by rw [if_pos h])
      · simp only [if_neg h]
        exact j1 _ (by rw [if_neg h])
  unfold vernierref07_Makes.f
  cases R
  · simp only [Bool.false_eq_true, if_false]
    have := j0 false (by simp)
    simpa only [Bool.false_eq_true, if_false] using this
  · refine Ev.congr (f := fun k => vernierref07_Makes.j0 k ng (TH V) (TL V) e true (decide (TH V < 9223372036854775808))) (fun _ => by rw [if_pos rfl]) ?_
    refine j0 _ ?_
    rw [decide_eq_true_iff]
    have : TH V < 9223372036854775808 ↔ V < 2 ^ 127 := by
      unfold TH; rw [p127]; omega
    rw [this]; simp
end Go.Proofs.Ytfegofnplcmacaa.V
namespace Go.Proofs.Ytfegofnplcmacaa.Pure
open Go Go.RowKit Go.Proofs.Ytfegofnplcmacaa.PAll Go.Proofs.YtfegofnplcmacaaW.PrintWords Go.Proofs.YtfegofnplcmacaaW.PrintLast Go.Proofs.YtfegofnplcmacaaW.PrintMore Go.Proofs.Ytfegofnplcmacaa.V
theorem RoundMakes : vernierlaw07_RoundMakes.Pure := by
  intro ng hi lo e R w0 w1 w2
  obtain ⟨hi, rfl, hh⟩ := u64_nat w0
  obtain ⟨lo, rfl, hl⟩ := u64_nat w1
  refine Ev.rounds (g := fun k => vernierlaw07_RoundMakes.f k ng (hi : Int) (lo : Int) e R) ?_
  obtain ⟨V, hV⟩ : ∃ V, V = hi * 18446744073709551616 + lo := ⟨_, rfl⟩
  have h1 : (hi : Int) = TH V := by rw [hV, TH_of hl]
  have h2 : (lo : Int) = TL V := by rw [hV, TL_of hl]
  have h3 : V < 2 ^ 128 := by rw [p128]; omega
  rw [h1, h2]
  unfold vernierlaw07_RoundMakes.f
  refine Ev.bind up7 (Ev.bind (round_Make_eq ng V e R h3) (Ev.bind (ref_Makes_eq ng V e R h3) (evn ?_)))
  by_cases hc : R = true ∧ V < 2 ^ 127
  · rw [if_pos hc, if_pos hc]; simp [code_1]
  · rw [if_neg hc, if_neg hc]
    have : (makeV ng V e R).2.2.2.2.2.2 = none := by unfold makeV; split <;> rfl
    simp [this, code_none]
end Go.Proofs.Ytfegofnplcmacaa.Pure
