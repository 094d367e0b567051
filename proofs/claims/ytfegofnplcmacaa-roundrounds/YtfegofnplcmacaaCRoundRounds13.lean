-- Written by a program of this session out of its own texts (wip/tools/link.py).
import Derived.ArgAppend
import Derived.Below
import Derived.BigQuiet
import Derived.Deep.AppendLies
import Derived.Deep.CutBlock
import Derived.Deep.DeepCutAuto
import Derived.Deep.Draws
import Derived.Deep.LoopGhost
import Derived.Deep.OwnRows
import Derived.Deep.QuietTactic
import Derived.Deep.RegionHeld3
import Derived.KernelRfl
import Derived.LaidEql
import Derived.Laws.BitsLemmas
import Derived.Laws.BytesArg
import Derived.Laws.IdiomCopy
import Derived.Laws.MakeOwn
import Derived.Laws.OwnMore
import Derived.Laws.Rows
import Derived.Laws.Slices
import Derived.Laws.Strings
import Derived.Laws.StructEq
import Derived.Lib.AppendStr
import Derived.Lib.BitFns
import Derived.Lib.ConvBytes
import Derived.Lib.Slices
import Derived.Lib.Small
import Derived.Lib.Strings
import Derived.Lib.Walk
import Derived.Maps.AppendAt
import Derived.OrdersHeld
import Derived.OwnWalk
import Derived.RowKit
import Derived.RowKit3
import Derived.Tactics
import Derived.Test.YtfegofnplcmacaaProg
import Derived.WalkKit
import Derived.WideLaws
import Derived.Test.YtfegofnplcmacaaCRoundRounds11
import Derived.Test.YtfegofnplcmacaaCRoundRounds12
namespace Go.Proofs.Ytfegofnplcmacaa.V
open Go Go.RowKit Go.Proofs.YtfegofnplcmacaaW.PrintWords Go.Proofs.YtfegofnplcmacaaW.PrintLast Go.Proofs.YtfegofnplcmacaaW.PrintMore Go.Proofs.Ytfegofnplcmacaa.PAll
set_option linter.unusedVariables false
set_option linter.unusedSimpArgs false
theorem ref_Is_eq (n : Int) : vernierref05_Is.f n = some (isW n) := by
  unfold vernierref05_Is.f isW
  by_cases h1 : n = 8
  · simp [h1]
  · by_cases h2 : n = 16
    · simp [h2]
    · by_cases h3 : n = 32
      · simp [h3]
      · rw [if_neg h1, if_neg h2, if_neg h3]
        have e1 : (n == 8) = false := by simpa using h1
        have e2 : (n == 16) = false := by simpa using h2
        have e3 : (n == 32) = false := by simpa using h3
        rw [e1, e2, e3]; rfl
theorem ref_Power_l (n : Nat) (hn : n ≤ 63) : ∀ (d i : Nat), i + d = n → Ev (fun k => vernierref05_Power.l0 k (n : Int) ((2 ^ i : Nat) : Int) (i : Int)) ((2 ^ n : Nat) : Int)
  | 0, i, h => by
    refine evs ?_
    simp only [vernierref05_Power.l0, if_neg (show ¬ (i : Int) < (n : Int) by omega)]
    have : i = n := by omega
    subst this
    exact Ev.now _
  | d + 1, i, h => by
    refine evs ?_
    have hp : 2 ^ (i + 1) ≤ 2 ^ 63 := pow_le (by omega)
    rw [p63, Nat.pow_succ] at hp
    have e1 : IntKind.u64.wrap (2 * ((2 ^ i : Nat) : Int)) = ((2 ^ (i + 1) : Nat) : Int) := by
      rw [Nat.pow_succ]
      generalize 2 ^ i = z at *
      rw [u64_of (by omega) (by omega)]; omega
    have e2 : wrap64 ((i : Int) + 1) = ((i + 1 : Nat) : Int) := by rw [w64 (by omega) (by omega)]; omega
    simp only [vernierref05_Power.l0, if_pos (show (i : Int) < (n : Int) by omega), e1, e2]
    exact ref_Power_l n hn d (i + 1) (by omega)
theorem ref_Power_eq {n : Nat} (hn : n ≤ 63) : Ev (fun k => vernierref05_Power.f k (n : Int)) ((2 ^ n : Nat) : Int) := by
  unfold vernierref05_Power.f
  exact ref_Power_l n hn n 0 (by omega)
theorem ref_Sound_eq (kd : Int) (ng : Bool) (sc hi lo : Int) (rs : Bool) : vernierref07_Sound.f kd ng sc hi lo rs = some (soundE kd ng sc hi lo rs) := by
  unfold vernierref07_Sound.f soundE
  by_cases h0 : kd = 0
  · subst h0; simp
  · by_cases h2 : kd = 2
    · subst h2; simp
    · by_cases h1 : kd = 1
      · subst h1
        by_cases a : hi ≥ 9223372036854775808
        · by_cases b : sc ≥ -1099511627776
          · simp [a, b]
          · simp [a, b]
        · simp [a]
      · simp [h0, h1, h2]
theorem ref_left_eq {s : ByteArray} {D X : Nat} (h : BT s D X) (hD : 0 < D) (hD2 : D < 100000) (R : Bool) : Ev (fun k => vernierref07_left.f k s R) (lft X D R) := by
  have hs := h.size
  have hne : ¬ s.toList = ([] : List UInt8) := by
    rw [ByteArray.toList_eq]
    intro e
    have := h.len
    rw [e] at this; simp at this; omega
  unfold vernierref07_left.f
  simp only [if_neg hne]
  refine evs ?_
  simp only [vernierref07_left.j0, if_pos (show 1 ≤ (s.size : Int) by omega)]
  have p := (h.parts 1 (by omega)).2
  have hb := h.bit (i := 0) (by omega)
  rw [Nat.sub_zero] at hb
  have hb' : bt s 0 = _ := hb
  have hlt := h.lt
  obtain ⟨d, rfl⟩ : ∃ d, D = d + 1 := ⟨D - 1, by omega⟩
  rw [Nat.add_sub_cancel] at hb' p
  refine Ev.bind (some_eq p (by omega)) ?_
  simp only [if_pos (show (0 : Int) < (s.size : Int) by omega), hb']
  have hz : X / 2 ^ d < 2 := by
    rw [Nat.div_lt_iff_lt_mul (two_pos d)]
    rw [Nat.pow_succ] at hlt; omega
  rw [Nat.mod_eq_of_lt hz]
  have hm := Nat.div_add_mod X (2 ^ d)
  have hml := Nat.mod_lt X (two_pos d)
  unfold lft
  rw [Nat.pow_succ]
  generalize X % 2 ^ d = Y at *
  have hb2 : X / 2 ^ d = 0 ∨ X / 2 ^ d = 1 := by
    revert hz; generalize X / 2 ^ d = w; intro hz; omega
  rcases hb2 with hb2 | hb2
  · rw [hb2] at hm hb' ⊢
    rw [Nat.mul_zero] at hm
    generalize 2 ^ d = Z at *
    simp only [if_neg (show ¬ (48 : Int) + ((0 : Nat) : Int) = 49 by decide)]
    refine evs ?_
    simp only [vernierref07_left.j1, Bool.false_eq_true, if_false, if_pos (show (0 : Int) < (s.size : Int) by omega), hb', if_neg (show ¬ (48 : Int) + ((0 : Nat) : Int) = 49 by decide)]
    refine evn ?_
    by_cases y : Y = 0
    · rw [if_neg (by simp [y]), if_neg (show ¬ Z * 2 < 2 * X by omega), if_neg (show ¬ 2 * X = Z * 2 by omega), if_neg (show ¬ 0 < X by omega)]
      cases R <;> rfl
    · rw [if_pos (by simp [y]), if_neg (show ¬ Z * 2 < 2 * X by omega), if_neg (show ¬ 2 * X = Z * 2 by omega), if_pos (show 0 < X by omega)]
  · rw [hb2] at hm hb' ⊢
    rw [Nat.mul_one] at hm
    generalize 2 ^ d = Z at *
    simp only [if_pos (show (48 : Int) + ((1 : Nat) : Int) = 49 by decide)]
    by_cases y : Y = 0
    · simp only [if_neg (show ¬ decide (Y ≠ 0) = true by simp [y])]
      rw [if_neg (show ¬ Z * 2 < 2 * X by omega), if_pos (show 2 * X = Z * 2 by omega)]
      refine evs ?_
      simp only [vernierref07_left.j1, if_pos (show (0 : Int) < (s.size : Int) by omega), hb', if_pos (show (48 : Int) + ((1 : Nat) : Int) = 49 by decide)]
      refine evn ?_
      cases R <;> rfl
    · simp only [if_pos (show decide (Y ≠ 0) = true by simp [y])]
      rw [if_pos (show Z * 2 < 2 * X by omega)]
      refine evs ?_
      simp only [vernierref07_left.j1, if_true]
      exact Ev.now _
theorem ref_regime_eq {s : Int} (h0 : -1000000 ≤ s) (h1 : s ≤ 1000000) : vernierref06_regime.f s = some (s / 4) := by
  unfold vernierref06_regime.f
  have q : (0 ≤ s ∧ Int.tdiv s 4 = s / 4) ∨ (s < 0 ∧ Int.tdiv s 4 = if s % 4 = 0 then s / 4 else s / 4 + 1) := by
    rcases (show s < 0 ∨ 0 ≤ s by omega) with h | h
    · right
      refine ⟨h, ?_⟩
      rw [Int.tdiv_eq_ediv]
      by_cases hd : s % 4 = 0
      · rw [if_pos hd, if_pos (Or.inr (by omega)), Int.add_zero]
      · rw [if_neg hd, if_neg (by omega)]; rfl
    · left; exact ⟨h, Int.tdiv_eq_ediv_of_nonneg h⟩
  have e : wrap64 (Int.tdiv s 4) = Int.tdiv s 4 := by
    rcases q with ⟨h, q⟩ | ⟨h, q⟩
    · rw [q, w64 (by omega) (by omega)]
    · rw [q]
      by_cases hd : s % 4 = 0
      · rw [if_pos hd, w64 (by omega) (by omega)]
      · rw [if_neg hd, w64 (by omega) (by omega)]
  rw [e]
  rcases q with ⟨h, q⟩ | ⟨h, q⟩
  · rw [q, w64 (n := 4 * (s / 4)) (by omega) (by omega), if_neg (by omega)]
  · by_cases hd : s % 4 = 0
    · rw [if_pos hd] at q
      rw [q, w64 (n := 4 * (s / 4)) (by omega) (by omega), if_neg (by omega)]
    · rw [if_neg hd] at q
      rw [q, w64 (n := 4 * (s / 4 + 1)) (by omega) (by omega), if_pos (by omega), w64 (by omega) (by omega), Int.add_sub_cancel]
theorem ref_Head_l0 (s : Int) (q : Nat) (hq : q ≤ 1000) : ∀ (d i : Nat) (l : List Int), i + d = q + 1 → BN l i (2 ^ i - 1) →
    ∃ l', BN l' (q + 1) (2 ^ (q + 1) - 1) ∧ ∀ r, Ev (fun k => vernierref06_Head.l1 k s (q : Int) l' 0) r → Ev (fun k => vernierref06_Head.l0 k s (q : Int) l (i : Int)) r
  | 0, i, l, h, hl => by
    have : i = q + 1 := by omega
    subst this
    refine ⟨l, hl, fun r hr => evs ?_⟩
    simp only [vernierref06_Head.l0, if_neg (show ¬ ((q + 1 : Nat) : Int) ≤ (q : Int) by omega)]
    exact hr
  | d + 1, i, l, h, hl => by
    have hp := two_pos i
    have hb := BN.snoc hl 1 (by decide)
    have e : 2 * (2 ^ i - 1) + 1 = 2 ^ (i + 1) - 1 := by rw [Nat.pow_succ]; omega
    rw [e] at hb
    obtain ⟨l', b, f⟩ := ref_Head_l0 s q hq d (i + 1) _ (by omega) hb
    refine ⟨l', b, fun r hr => evs ?_⟩
    have hlen := hl.len
    have e2 : wrap64 ((i : Int) + 1) = ((i + 1 : Nat) : Int) := by rw [w64 (by omega) (by omega)]; omega
    simp only [vernierref06_Head.l0, if_pos (show (i : Int) ≤ (q : Int) by omega), if_pos (show l.length < 140737488355328 by omega), e2]
    exact f r hr
theorem ref_Head_l1 (s : Int) (q : Nat) (hq : q ≤ 1000) : ∀ (d i : Nat) (l : List Int), i + d = q → BN l i 0 →
    ∃ l', BN l' q 0 ∧ ∀ r, Ev (fun k => vernierref06_Head.l1 k s (-(q : Int)) l' (-(q : Int))) r → Ev (fun k => vernierref06_Head.l1 k s (-(q : Int)) l (-(i : Int))) r
  | 0, i, l, h, hl => by
    have : i = q := by omega
    subst this
    exact ⟨l, hl, fun r hr => hr⟩
  | d + 1, i, l, h, hl => by
    have hb := BN.snoc hl 0 (by decide)
    obtain ⟨l', b, f⟩ := ref_Head_l1 s q hq d (i + 1) _ (by omega) hb
    refine ⟨l', b, fun r hr => evs ?_⟩
    have hlen := hl.len
    have e2 : wrap64 (-(i : Int) - 1) = -((i + 1 : Nat) : Int) := by rw [w64 (by omega) (by omega)]; omega
    simp only [vernierref06_Head.l1, if_pos (show -(i : Int) > -(q : Int) by omega), if_pos (show l.length < 140737488355328 by omega), e2]
    exact f r hr
theorem ref_Head_pos {s : Int} {q e : Nat} (h : s = 4 * (q : Int) + e) (he : e < 4) (hq : q ≤ 1000) :
    ∃ t, Ev (fun k => vernierref06_Head.f k s) t ∧ BT t (q + 4) ((2 ^ (q + 1) - 1) * 8 + e) := by
  have er : s / 4 = (q : Int) := by omega
  obtain ⟨l, b, f⟩ := ref_Head_l0 s q hq (q + 1) 0 [] (by omega) BN.nil
  obtain ⟨t, t1, t2⟩ := Text_eq e 2 (by omega) (by decide)
  rw [Nat.mod_eq_of_lt (show e < 2 ^ 2 by omega)] at t2
  have hb := BN.snoc b 0 (by decide)
  have hlen := b.len
  have hs := hb.bt.size
  have ht := t2.size
  refine ⟨strOfNums (l ++ [48]) ++ t, ?_, ?_⟩
  · unfold vernierref06_Head.f
    simp only [ref_regime_eq (s := s) (by omega) (by omega), Option.bind_some, er]
    refine f _ (evs ?_)
    have e3 : IntKind.u64.wrap (wrap64 (s - wrap64 (4 * (q : Int)))) = (e : Int) := by
      rw [w64 (n := 4 * (q : Int)) (by omega) (by omega), w64 (by omega) (by omega), u64_of (by omega) (by omega)]; omega
    simp only [vernierref06_Head.l1, if_neg (show ¬ (0 : Int) > (q : Int) by omega), if_pos (show (q : Int) ≥ 0 by omega), if_pos (show l.length < 140737488355328 by omega), Option.bind_some, e3]
    refine Ev.bind t1 ?_
    have hs' : (strOfNums (l ++ [48])).size = q + 1 + 1 := hs
    simp only [hs', ht, if_pos (show q + 1 + 1 + 2 ≤ 9223372036854775807 by omega)]
    exact Ev.now _
  · have := hb.bt.append t2
    have e4 : (2 * (2 ^ (q + 1) - 1) + 0) * 2 ^ 2 + e = (2 ^ (q + 1) - 1) * 8 + e := by omega
    rw [e4] at this
    exact this
theorem ref_Head_neg {s : Int} {q e : Nat} (h : s = -(4 * (q : Int)) + e) (h0 : 0 < q) (he : e < 4) (hq : q ≤ 1000) :
    ∃ t, Ev (fun k => vernierref06_Head.f k s) t ∧ BT t (q + 3) (4 + e) := by
  have er : s / 4 = -(q : Int) := by omega
  obtain ⟨l, b, f⟩ := ref_Head_l1 s q hq q 0 [] (by omega) BN.nil
  obtain ⟨t, t1, t2⟩ := Text_eq e 2 (by omega) (by decide)
  rw [Nat.mod_eq_of_lt (show e < 2 ^ 2 by omega)] at t2
  have hb := BN.snoc b 1 (by decide)
  have hlen := b.len
  have hs := hb.bt.size
  have ht := t2.size
  refine ⟨strOfNums (l ++ [49]) ++ t, ?_, ?_⟩
  · unfold vernierref06_Head.f
    simp only [ref_regime_eq (s := s) (by omega) (by omega), Option.bind_some, er]
    refine evs ?_
    simp only [vernierref06_Head.l0, if_neg (show ¬ (0 : Int) ≤ -(q : Int) by omega)]
    refine f _ (evs ?_)
    have e3 : IntKind.u64.wrap (wrap64 (s - wrap64 (4 * -(q : Int)))) = (e : Int) := by
      rw [w64 (n := 4 * -(q : Int)) (by omega) (by omega), w64 (by omega) (by omega), u64_of (by omega) (by omega)]; omega
    simp only [vernierref06_Head.l1, if_neg (show ¬ -(q : Int) > -(q : Int) by omega), if_neg (show ¬ -(q : Int) ≥ 0 by omega), if_pos (show l.length < 140737488355328 by omega), Option.bind_some, e3]
    refine Ev.bind t1 ?_
    have hs' : (strOfNums (l ++ [49])).size = q + 1 := hs
    simp only [hs', ht, if_pos (show q + 1 + 2 ≤ 9223372036854775807 by omega)]
    exact Ev.now _
  · have := hb.bt.append t2
    have e4 : (2 * 0 + 1) * 2 ^ 2 + e = 4 + e := by omega
    rw [e4] at this
    exact this
theorem ref_Cut_no {n kd sc hi lo : Int} {ng rs : Bool} (hn : isW n = false) : Ev (fun k => vernierref07_Cut.f k n kd ng sc hi lo rs) (0, 0, 2) := by
  unfold vernierref07_Cut.f
  simp only [ref_Is_eq, ref_Sound_eq, hn, Option.bind_some]
  exact Ev.now _
theorem ref_Cut_bad {n kd sc hi lo : Int} {ng rs : Bool} (hn : isW n = true) (h : soundE kd ng sc hi lo rs = false) :
    Ev (fun k => vernierref07_Cut.f k n kd ng sc hi lo rs) (0, 0, 1) := by
  unfold vernierref07_Cut.f
  simp only [ref_Is_eq, ref_Sound_eq, hn, h, Option.bind_some]
  exact Ev.now _
theorem ref_Cut_j1 {n f : Nat} {kd sc : Int} {ng rs : Bool} {hi lo : Int} {g : ByteArray} (hn : isW n = true) (hg : BT g 127 f)
    (h0 : -(4 * (n : Int) - 8) ≤ sc) (h1 : sc < 4 * (n : Int) - 8) :
    Ev (fun k => vernierref07_Cut.j1 k (n : Int) g false kd ng sc hi lo rs) ((cutP n (sig sc f) : Int), cutL n (sig sc f) rs, 0) := by
  obtain ⟨b64, b8⟩ := pow64 hn
  have ew : wrap64 ((n : Int) - 1) = ((n - 1 : Nat) : Int) := by rw [w64 (by omega) (by omega)]; omega
  have key : ∀ (t : ByteArray) (L X D a : Nat), Ev (fun k => vernierref06_Head.f k sc) t → BT t L X → L ≤ 1000 → 0 < D → L + 127 = D + (n - 1) → D + a = 201 - n → sig sc f = (X * 2 ^ 127 + f) * 2 ^ a →
      Ev (fun k => vernierref07_Cut.j1 k (n : Int) g false kd ng sc hi lo rs) ((cutP n (sig sc f) : Int), cutL n (sig sc f) rs, 0) := by
    intro t L X D a ht hX hL hD hLD hDa hsig
    have hb := hX.append hg
    have hp := hb.parts (n - 1) (by omega)
    have eD : L + 127 - (n - 1) = D := by omega
    rw [eD] at hp
    have hc := cut_of n (X * 2 ^ 127 + f) D a rs b64 hD hDa
    rw [hsig, hc.1, hc.2]
    refine evs ?_
    have s1 := hX.size
    have s2 := hg.size
    have s3 : (t ++ g).size = L + 127 := hb.size
    simp only [vernierref07_Cut.j1, Bool.false_eq_true, if_false]
    refine Ev.bind ht ?_
    simp only [if_pos (show t.size + g.size ≤ 9223372036854775807 by omega), ew, if_pos (show (0 : Int) ≤ ((n - 1 : Nat) : Int) by omega), if_pos (show ((n - 1 : Nat) : Int) ≤ ((t ++ g).size : Int) by omega), Int.toNat_natCast]
    exact Ev.bind (Number_eq hp.1 (by omega)) (Ev.bind (ref_left_eq hp.2 hD (by omega) rs) (Ev.now _))
  rcases scale_cases sc with ⟨q, e, hs, he⟩ | ⟨q, e, hs, hq, he⟩
  · obtain ⟨t, t1, t2⟩ := ref_Head_pos hs he (by omega)
    refine key t (q + 4) _ (q + 132 - n) (69 - q) t1 t2 (by omega) (by omega) (by omega) (by omega) ?_
    rw [sig_pos_eq hs he]
    generalize 2 ^ (q + 1) - 1 = z
    generalize 2 ^ (69 - q) = w
    rw [show (2 : Nat) ^ 130 = 8 * 2 ^ 127 by decide]
    generalize (2 : Nat) ^ 127 = y
    grind
  · obtain ⟨t, t1, t2⟩ := ref_Head_neg hs hq he (by omega)
    refine key t (q + 3) _ (q + 131 - n) (70 - q) t1 t2 (by omega) (by omega) (by omega) (by omega) ?_
    rw [sig_neg_eq hs hq he]
    generalize 2 ^ (70 - q) = w
    rw [show (2 : Nat) ^ 129 = 4 * 2 ^ 127 by decide]
    generalize (2 : Nat) ^ 127 = y
    grind
theorem ref_Cut_eq {n hi lo : Nat} {kd sc : Int} {ng rs : Bool} (hn : isW n = true) (hh : hi < 18446744073709551616) (hl : lo < 18446744073709551616) (h : soundE kd ng sc hi lo rs = true) :
    Ev (fun k => vernierref07_Cut.f k n kd ng sc hi lo rs) ((cutE n kd sc (hi * 18446744073709551616 + lo) rs).1, (cutE n kd sc (hi * 18446744073709551616 + lo) rs).2, 0) := by
  obtain ⟨b64, b8⟩ := pow64 hn
  have ew : wrap64 ((n : Int) - 1) = ((n - 1 : Nat) : Int) := by rw [w64 (by omega) (by omega)]; omega
  have et : wrap64 (wrap64 (4 * (n : Int)) - 8) = 4 * (n : Int) - 8 := by rw [w64 (n := 4 * (n : Int)) (by omega) (by omega), w64 (by omega) (by omega)]
  have em : wrap64 (-(4 * (n : Int) - 8)) = -(4 * (n : Int) - 8) := w64 (by omega) (by omega)
  unfold vernierref07_Cut.f
  simp only [ref_Is_eq, ref_Sound_eq, hn, h, Option.bind_some, if_true]
  unfold cutE
  rcases sound_kinds h with k | k | k
  · subst k
    simp only [if_neg (show ¬ (0 : Int) = 1 by decide), if_neg (show ¬ (0 : Int) = 2 by decide), if_true]
    exact Ev.now _
  · subst k
    simp only [if_neg (show ¬ (2 : Int) = 1 by decide), if_neg (show ¬ (2 : Int) = 0 by decide), if_true, ew]
    exact Ev.bind (ref_Power_eq (by omega)) (Ev.now _)
  · subst k
    obtain ⟨b0, b1, b2⟩ := sound_real h
    simp only [if_neg (show ¬ (1 : Int) = 2 by decide), if_neg (show ¬ (1 : Int) = 0 by decide), if_true]
    obtain ⟨x, x1, x2⟩ := Text_eq hi 64 hh (by decide)
    obtain ⟨y, y1, y2⟩ := Text_eq lo 64 hl (by decide)
    rw [Nat.mod_eq_of_lt (by rw [p64]; exact hh)] at x2
    rw [Nat.mod_eq_of_lt (by rw [p64]; exact hl)] at y2
    have xp := (x2.parts 1 (by decide)).2
    have g := xp.append y2
    have ef : hi % 2 ^ (64 - 1) * 2 ^ 64 + lo = hi * 18446744073709551616 + lo - 2 ^ 127 := by
      rw [p127, p64, show 64 - 1 = 63 from rfl, p63]; omega
    rw [ef] at g
    have xs := x2.size
    have ys := y2.size
    have zs := xp.size
    refine Ev.bind x1 ?_
    simp only [if_pos (show (1 : Int) ≤ (x.size : Int) by omega)]
    refine Ev.bind y1 ?_
    simp only [if_pos (show (x.extract 1 x.size).size + y.size ≤ 9223372036854775807 by omega)]
    generalize x.extract 1 x.size ++ y = z at g
    obtain ⟨V, hV⟩ : ∃ V, V = hi * 18446744073709551616 + lo := ⟨_, rfl⟩
    rw [← hV] at g ⊢
    have hf : V - 2 ^ 127 = 0 ↔ V = 2 ^ 127 := by rw [p127]; omega
    have j0 : ∀ b : Bool, (b = true ↔ (V = 2 ^ 127 ∧ rs = false)) → Ev (fun k => vernierref07_Cut.j0 k (n : Int) z b 1 ng sc (hi : Int) (lo : Int) rs)
        ((if 4 * (n : Int) - 8 ≤ sc then (((2 ^ (n - 1) - 1 : Nat) : Int), (0 : Int)) else if sc < -(4 * (n : Int) - 8) ∨ (sc = -(4 * (n : Int) - 8) ∧ V = 2 ^ 127 ∧ rs = false) then (1, 0) else ((cutP n (sig sc (V - 2 ^ 127)) : Int), cutL n (sig sc (V - 2 ^ 127)) rs)).1,
         (if 4 * (n : Int) - 8 ≤ sc then (((2 ^ (n - 1) - 1 : Nat) : Int), (0 : Int)) else if sc < -(4 * (n : Int) - 8) ∨ (sc = -(4 * (n : Int) - 8) ∧ V = 2 ^ 127 ∧ rs = false) then (1, 0) else ((cutP n (sig sc (V - 2 ^ 127)) : Int), cutL n (sig sc (V - 2 ^ 127)) rs)).2, 0) := by
      intro b hb
      refine evs ?_
      simp only [vernierref07_Cut.j0, et, em]
      by_cases c1 : sc ≥ 4 * (n : Int) - 8
      · simp only [if_pos c1, if_pos (show 4 * (n : Int) - 8 ≤ sc by omega), ew]
        refine Ev.bind (ref_Power_eq (by omega)) ?_
        have hp : 2 ^ (n - 1) ≤ 2 ^ 63 := pow_le (by omega)
        rw [p63] at hp
        have hp0 := two_pos (n - 1)
        refine evn ?_
        rw [u64_of (by omega) (by omega)]
        congr 2; omega
      · simp only [if_neg c1, if_neg (show ¬ 4 * (n : Int) - 8 ≤ sc by omega)]
        by_cases c2 : sc < -(4 * (n : Int) - 8)
        · simp only [if_pos c2, if_pos (Or.inl c2 : sc < -(4 * (n : Int) - 8) ∨ (sc = -(4 * (n : Int) - 8) ∧ V = 2 ^ 127 ∧ rs = false))]
          refine evs ?_
          simp only [vernierref07_Cut.j1, if_true]
          exact Ev.now _
        · simp only [if_neg c2]
          by_cases c3 : sc = -(4 * (n : Int) - 8)
          · simp only [if_pos c3]
            by_cases c4 : b = true
            · have c5 := hb.mp c4
              simp only [if_pos (Or.inr ⟨c3, c5⟩ : sc < -(4 * (n : Int) - 8) ∨ (sc = -(4 * (n : Int) - 8) ∧ V = 2 ^ 127 ∧ rs = false)), c4]
              refine evs ?_
              simp only [vernierref07_Cut.j1, if_true]
              exact Ev.now _
            · have c5 : ¬ (sc < -(4 * (n : Int) - 8) ∨ (sc = -(4 * (n : Int) - 8) ∧ V = 2 ^ 127 ∧ rs = false)) := fun hh => hh.elim c2 (fun hh => c4 (hb.mpr hh.2))
              have c6 : b = false := by simpa using c4
              simp only [if_neg c5, c6]
              exact ref_Cut_j1 hn g (by omega) (by omega)
          · have c5 : ¬ (sc < -(4 * (n : Int) - 8) ∨ (sc = -(4 * (n : Int) - 8) ∧ V = 2 ^ 127 ∧ rs = false)) := fun hh => hh.elim c2 (fun hh => c3 hh.1)
            simp only [if_neg c3, if_neg c5]
            exact ref_Cut_j1 hn g (by omega) (by omega)
    by_cases hr : rs = true
    · simp only [if_pos hr]
      refine j0 _ ?_
      simp [hr]
    · simp only [if_neg hr]
      refine Ev.bind (some_eq g (by decide)) ?_
      refine j0 _ ?_
      rw [← hf]
      simp [hr]
theorem ref_Fold_eq {n x : Nat} (h : isW n = true) (hx : x < 18446744073709551616) : Ev (fun k => vernierref06_Fold.f k (n : Int) (x : Int)) ((x % 2 ^ n : Nat) : Int) := by
  obtain ⟨b64, b8⟩ := pow64 h
  obtain ⟨s, s1, s2⟩ := Text_eq x n hx b64
  unfold vernierref06_Fold.f
  refine Ev.bind (a := (((x % 2 ^ n : Nat) : Int), (0 : Int))) ?_ (Ev.now _)
  unfold vernierref05_Fold.f
  simp only [ref_Is_eq, h, Option.bind_some, if_true]
  exact Ev.bind s1 (Ev.bind (Number_eq s2 b64) (Ev.now _))
theorem ref_Neg_eq {n x : Nat} (h : isW n = true) (hx : x < 18446744073709551616) : Ev (fun k => vernierref06_Neg.f k (n : Int) (x : Int)) ((negN n x : Nat) : Int) := by
  unfold vernierref06_Neg.f
  rw [neg_wrap hx]
  exact Ev.bind (ref_Fold_eq h (Nat.mod_lt _ (by decide))) (Ev.now _)
theorem ref_Rounds_no {n kd sc hi lo : Int} {ng rs : Bool} (hn : isW n = false) : Ev (fun k => vernierref07_Rounds.f k n kd ng sc hi lo rs) (0, 2) := by
  unfold vernierref07_Rounds.f
  exact Ev.bind (ref_Cut_no hn) (Ev.now _)
theorem ref_Rounds_bad {n kd sc hi lo : Int} {ng rs : Bool} (hn : isW n = true) (h : soundE kd ng sc hi lo rs = false) :
    Ev (fun k => vernierref07_Rounds.f k n kd ng sc hi lo rs) (0, 1) := by
  unfold vernierref07_Rounds.f
  exact Ev.bind (ref_Cut_bad hn h) (Ev.now _)
theorem ref_Rounds_eq {n hi lo : Nat} {kd sc : Int} {ng rs : Bool} (hn : isW n = true) (hh : hi < 18446744073709551616) (hl : lo < 18446744073709551616) (h : soundE kd ng sc hi lo rs = true) :
    Ev (fun k => vernierref07_Rounds.f k n kd ng sc hi lo rs) (((rnd n kd ng sc (hi * 18446744073709551616 + lo) rs : Nat) : Int), 0) := by
  obtain ⟨b64, b8⟩ := pow64 hn
  unfold vernierref07_Rounds.f
  refine Ev.bind (ref_Cut_eq hn hh hl h) ?_
  have hV : hi * 18446744073709551616 + lo < 2 ^ 128 := by rw [p128]; omega
  have hb := cutE_bounds (kd := kd) (sc := sc) (R := rs) b64 b8 hV
  unfold rnd
  generalize cutE n kd sc (hi * 18446744073709551616 + lo) rs = c at hb
  obtain ⟨c1, c2⟩ := c
  simp only at hb
  obtain ⟨p, rfl⟩ := Int.eq_ofNat_of_zero_le hb.1
  have hp1 : p ≤ 2 ^ (n - 1) := by omega
  have hp2 : 2 ^ (n - 1) ≤ 2 ^ 63 := pow_le (by omega)
  rw [p63] at hp2
  have e1 : IntKind.u64.wrap ((p : Int) + 1) = ((p + 1 : Nat) : Int) := by rw [u64_of (by omega) (by omega)]; omega
  have j0 : ∀ b : Bool, (b = true ↔ (c2 = 3 ∨ (c2 = 2 ∧ p % 2 = 1))) → Ev (fun k => vernierref07_Rounds.j0 k (n : Int) (p : Int) b kd ng sc (hi : Int) (lo : Int) rs)
      (((if ng = true then negN n (if c2 = 3 ∨ c2 = 2 ∧ (p : Int).toNat % 2 = 1 then (p : Int).toNat + 1 else (p : Int).toNat) else (if c2 = 3 ∨ c2 = 2 ∧ (p : Int).toNat % 2 = 1 then (p : Int).toNat + 1 else (p : Int).toNat) : Nat) : Int), 0) := by
    intro b hb
    refine evs ?_
    simp only [vernierref07_Rounds.j0, e1, Int.toNat_natCast]
    by_cases c : b = true
    · have c' := hb.mp c
      simp only [if_pos c, if_pos c']
      cases ng
      · exact Ev.now _
      · simp only [if_true]
        exact Ev.bind (ref_Neg_eq hn (by omega)) (Ev.now _)
    · have c' : ¬ (c2 = 3 ∨ (c2 = 2 ∧ p % 2 = 1)) := fun hh => c (hb.mpr hh)
      simp only [if_neg c, if_neg c']
      cases ng
      · exact Ev.now _
      · simp only [if_true]
        exact Ev.bind (ref_Neg_eq hn (by omega)) (Ev.now _)
  simp only [if_true]
  by_cases k3 : c2 = 3
  · simp only [if_pos k3]
    exact j0 true (by simp [k3])
  · simp only [if_neg k3]
    by_cases k2 : c2 = 2
    · simp only [if_pos k2]
      refine j0 _ ?_
      rw [tmod2, beq_iff_eq]
      constructor
      · intro hh; exact .inr ⟨k2, by omega⟩
      · rintro (hh | hh)
        · exact absurd hh k3
        · omega
    · simp only [if_neg k2]
      exact j0 false (by simp [k2, k3])
end Go.Proofs.Ytfegofnplcmacaa.V
namespace Go.Proofs.Ytfegofnplcmacaa.Pure
open Go Go.RowKit Go.Proofs.Ytfegofnplcmacaa.PAll Go.Proofs.YtfegofnplcmacaaW.PrintWords Go.Proofs.YtfegofnplcmacaaW.PrintLast Go.Proofs.YtfegofnplcmacaaW.PrintMore Go.Proofs.Ytfegofnplcmacaa.V
theorem RoundRounds : vernierlaw07_RoundRounds.Pure := by
  intro n kd ng sc hi lo rs w0 w1 w2 w3 w4
  obtain ⟨hi, rfl, hh⟩ := u64_nat w3
  obtain ⟨lo, rfl, hl⟩ := u64_nat w4
  refine Ev.rounds (g := fun k => vernierlaw07_RoundRounds.f k n kd ng sc (hi : Int) (lo : Int) rs) ?_
  unfold vernierlaw07_RoundRounds.f
  refine Ev.bind up7 ?_
  by_cases hn : isW n = true
  · obtain ⟨m, rfl, _⟩ := isW_nat hn
    by_cases hs : soundE kd ng sc (hi : Int) (lo : Int) rs = true
    · exact Ev.bind (round_Round_eq hn hh hl hs) (Ev.bind (ref_Rounds_eq hn hh hl hs) (evn (by simp [code_none])))
    · have hs : soundE kd ng sc (hi : Int) (lo : Int) rs = false := by simpa using hs
      exact Ev.bind (round_Round_bad hn (by omega) (by omega) hs) (Ev.bind (ref_Rounds_bad hn hs) (evn (by simp [code_1])))
  · have hn : isW n = false := by simpa using hn
    exact Ev.bind (round_Round_no hn) (Ev.bind (ref_Rounds_no hn) (evn (by simp [code_2])))
end Go.Proofs.Ytfegofnplcmacaa.Pure
