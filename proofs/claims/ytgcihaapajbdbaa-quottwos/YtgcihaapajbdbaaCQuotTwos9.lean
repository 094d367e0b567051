-- Written by a program of this session out of its own texts (wip/tools/link.py).
import Derived.Below
import Derived.ChangeKeysEq
import Derived.Deep.MidRow
import Derived.Deep.RegionHeld3
import Derived.Great.BuildSlice
import Derived.IntWalk
import Derived.KernelRfl
import Derived.LaidEql
import Derived.Laws.Bits64
import Derived.Laws.BitsLemmas
import Derived.Laws.BytesArg
import Derived.Laws.IdiomCopy
import Derived.Laws.OwnMore
import Derived.Laws.Rows
import Derived.Laws.Slices
import Derived.Laws.Strings
import Derived.Laws.StructEq
import Derived.Laws.Tables
import Derived.Lib.BitFns
import Derived.Lib.Slices
import Derived.Lib.Small
import Derived.Lib.Strings
import Derived.Lib.Walk
import Derived.Maps.AppendAt
import Derived.OrdersHeld
import Derived.RowKit
import Derived.Test.YtgcihaapajbdbaaProg
import Derived.Test.YtgcihaapajbdbaaCQuotTwos6
import Derived.Test.YtgcihaapajbdbaaCQuotTwos7
import Derived.Test.YtgcihaapajbdbaaCQuotTwos8
namespace Go.Proofs.Ytgcihaapajbdbaa.V
open Go Go.RowKit Go.Proofs.Ytgcihaapajbdbaa.Ab Go.Proofs.Ytgcihaapajbdbaa.Fn
set_option linter.unusedVariables false
set_option linter.unusedSimpArgs false
theorem ref_Is_eq (n : Int) : vernierref05_Is.f n = some (isW n) := by
  unfold vernierref05_Is.f isW
  by_cases h1 : n = 8
  · simp [h1]
  · by_cases h2 : n = 16
    · simp [h2]
    · by_cases h3 : n = 32
      · simp [h3]
      · rw [if_neg h1, if_neg h2, if_neg h3]
        have e1 : (n == 8) = false := by simpa using h1
        have e2 : (n == 16) = false := by simpa using h2
        have e3 : (n == 32) = false := by simpa using h3
        rw [e1, e2, e3]; rfl
theorem ref_Power_l (n : Nat) (hn : n ≤ 63) : ∀ (d i : Nat), i + d = n → Ev (fun k => vernierref05_Power.l0 k (n : Int) ((2 ^ i : Nat) : Int) (i : Int)) ((2 ^ n : Nat) : Int)
  | 0, i, h => by
    refine evs ?_
    simp only [vernierref05_Power.l0, nI_eq, if_neg (show ¬ (i : Int) < (n : Int) by omega)]
    have : i = n := by omega
    subst this
    exact Ev.now _
  | d + 1, i, h => by
    refine evs ?_
    have hp : 2 ^ (i + 1) ≤ 2 ^ 63 := pow_le (by omega)
    rw [p63, Nat.pow_succ] at hp
    have e1 : IntKind.u64.wrap (2 * ((2 ^ i : Nat) : Int)) = ((2 ^ (i + 1) : Nat) : Int) := by
      rw [Nat.pow_succ]
      generalize 2 ^ i = z at *
      rw [u64_of (by omega) (by omega)]; omega
    have e2 : wrap64 ((i : Int) + 1) = ((i + 1 : Nat) : Int) := by rw [w64 (by omega) (by omega)]; omega
    simp only [vernierref05_Power.l0, nI_eq, if_pos (show (i : Int) < (n : Int) by omega), e1, e2]
    exact ref_Power_l n hn d (i + 1) (by omega)
theorem ref_Power_eq {n : Nat} (hn : n ≤ 63) : Ev (fun k => vernierref05_Power.f k (n : Int)) ((2 ^ n : Nat) : Int) := by
  unfold vernierref05_Power.f
  exact ref_Power_l n hn n 0 (by omega)
theorem ref_regime_eq {s : Int} (h0 : -1000000 ≤ s) (h1 : s ≤ 1000000) : vernierref06_regime.f s = some (s / 4) := by
  unfold vernierref06_regime.f
  have q : (0 ≤ s ∧ Int.tdiv s 4 = s / 4) ∨ (s < 0 ∧ Int.tdiv s 4 = if s % 4 = 0 then s / 4 else s / 4 + 1) := by
    rcases (show s < 0 ∨ 0 ≤ s by omega) with h | h
    · right
      refine ⟨h, ?_⟩
      rw [Int.tdiv_eq_ediv]
      by_cases hd : s % 4 = 0
      · rw [if_pos hd, if_pos (Or.inr (by omega)), Int.add_zero]
      · rw [if_neg hd, if_neg (by omega)]; rfl
    · left; exact ⟨h, Int.tdiv_eq_ediv_of_nonneg h⟩
  have e : wrap64 (Int.tdiv s 4) = Int.tdiv s 4 := by
    rcases q with ⟨h, q⟩ | ⟨h, q⟩
    · rw [q, w64 (by omega) (by omega)]
    · rw [q]
      by_cases hd : s % 4 = 0
      · rw [if_pos hd, w64 (by omega) (by omega)]
      · rw [if_neg hd, w64 (by omega) (by omega)]
  rw [e]
  rcases q with ⟨h, q⟩ | ⟨h, q⟩
  · rw [q, w64 (n := 4 * (s / 4)) (by omega) (by omega), if_neg (by omega)]
  · by_cases hd : s % 4 = 0
    · rw [if_pos hd] at q
      rw [q, w64 (n := 4 * (s / 4)) (by omega) (by omega), if_neg (by omega)]
    · rw [if_neg hd] at q
      rw [q, w64 (n := 4 * (s / 4 + 1)) (by omega) (by omega), if_pos (by omega), w64 (by omega) (by omega), Int.add_sub_cancel]
theorem ref_Head_l0 (s : Int) (q : Nat) (hq : q ≤ 1000) : ∀ (d i : Nat) (l : List Int), i + d = q + 1 → BN l i (2 ^ i - 1) →
    ∃ l', BN l' (q + 1) (2 ^ (q + 1) - 1) ∧ ∀ r, Ev (fun k => vernierref06_Head.l1 k s (q : Int) l' 0) r → Ev (fun k => vernierref06_Head.l0 k s (q : Int) l (i : Int)) r
  | 0, i, l, h, hl => by
    have : i = q + 1 := by omega
    subst this
    refine ⟨l, hl, fun r hr => evs ?_⟩
    simp only [vernierref06_Head.l0, nI_eq, if_neg (show ¬ ((q + 1 : Nat) : Int) ≤ (q : Int) by omega)]
    exact hr
  | d + 1, i, l, h, hl => by
    have hp := two_pos i
    have hb := BN.snoc hl 1 (by decide)
    have e : 2 * (2 ^ i - 1) + 1 = 2 ^ (i + 1) - 1 := by rw [Nat.pow_succ]; omega
    rw [e] at hb
    obtain ⟨l', b, f⟩ := ref_Head_l0 s q hq d (i + 1) _ (by omega) hb
    refine ⟨l', b, fun r hr => evs ?_⟩
    have hlen := hl.len
    have e2 : wrap64 ((i : Int) + 1) = ((i + 1 : Nat) : Int) := by rw [w64 (by omega) (by omega)]; omega
    simp only [vernierref06_Head.l0, nI_eq, if_pos (show (i : Int) ≤ (q : Int) by omega), if_pos (show l.length < 140737488355328 by omega), e2]
    exact f r hr
theorem ref_Head_l1 (s : Int) (q : Nat) (hq : q ≤ 1000) : ∀ (d i : Nat) (l : List Int), i + d = q → BN l i 0 →
    ∃ l', BN l' q 0 ∧ ∀ r, Ev (fun k => vernierref06_Head.l1 k s (-(q : Int)) l' (-(q : Int))) r → Ev (fun k => vernierref06_Head.l1 k s (-(q : Int)) l (-(i : Int))) r
  | 0, i, l, h, hl => by
    have : i = q := by omega
    subst this
    exact ⟨l, hl, fun r hr => hr⟩
  | d + 1, i, l, h, hl => by
    have hb := BN.snoc hl 0 (by decide)
    obtain ⟨l', b, f⟩ := ref_Head_l1 s q hq d (i + 1) _ (by omega) hb
    refine ⟨l', b, fun r hr => evs ?_⟩
    have hlen := hl.len
    have e2 : wrap64 (-(i : Int) - 1) = -((i + 1 : Nat) : Int) := by rw [w64 (by omega) (by omega)]; omega
    simp only [vernierref06_Head.l1, nI_eq, if_pos (show -(i : Int) > -(q : Int) by omega), if_pos (show l.length < 140737488355328 by omega), e2]
    exact f r hr
theorem ref_Head_pos {s : Int} {q e : Nat} (h : s = 4 * (q : Int) + e) (he : e < 4) (hq : q ≤ 1000) :
    ∃ t, Ev (fun k => vernierref06_Head.f k s) t ∧ BT t (q + 4) ((2 ^ (q + 1) - 1) * 8 + e) := by
  have er : s / 4 = (q : Int) := by omega
  obtain ⟨l, b, f⟩ := ref_Head_l0 s q hq (q + 1) 0 [] (by omega) BN.nil
  obtain ⟨t, t1, t2⟩ := Text_eq e 2 (by omega) (by decide)
  rw [Nat.mod_eq_of_lt (show e < 2 ^ 2 by omega)] at t2
  have hb := BN.snoc b 0 (by decide)
  have hlen := b.len
  have hs := hb.bt.size
  have ht := t2.size
  refine ⟨strOfNums (l ++ [48]) ++ t, ?_, ?_⟩
  · unfold vernierref06_Head.f
    simp only [ref_regime_eq (s := s) (by omega) (by omega), Option.bind_some, er]
    refine f _ (evs ?_)
    have e3 : IntKind.u64.wrap (wrap64 (s - wrap64 (4 * (q : Int)))) = (e : Int) := by
      rw [w64 (n := 4 * (q : Int)) (by omega) (by omega), w64 (by omega) (by omega), u64_of (by omega) (by omega)]; omega
    simp only [vernierref06_Head.l1, nI_eq, if_neg (show ¬ (0 : Int) > (q : Int) by omega), if_pos (show (q : Int) ≥ 0 by omega), if_pos (show l.length < 140737488355328 by omega), Option.bind_some, e3]
    refine Ev.bind t1 ?_
    have hs' : (strOfNums (l ++ [48])).size = q + 1 + 1 := hs
    simp only [hs', ht, if_pos (show q + 1 + 1 + 2 ≤ 9223372036854775807 by omega)]
    exact Ev.now _
  · have := hb.bt.append t2
    have e4 : (2 * (2 ^ (q + 1) - 1) + 0) * 2 ^ 2 + e = (2 ^ (q + 1) - 1) * 8 + e := by omega
    rw [e4] at this
    exact this
theorem ref_Head_neg {s : Int} {q e : Nat} (h : s = -(4 * (q : Int)) + e) (h0 : 0 < q) (he : e < 4) (hq : q ≤ 1000) :
    ∃ t, Ev (fun k => vernierref06_Head.f k s) t ∧ BT t (q + 3) (4 + e) := by
  have er : s / 4 = -(q : Int) := by omega
  obtain ⟨l, b, f⟩ := ref_Head_l1 s q hq q 0 [] (by omega) BN.nil
  obtain ⟨t, t1, t2⟩ := Text_eq e 2 (by omega) (by decide)
  rw [Nat.mod_eq_of_lt (show e < 2 ^ 2 by omega)] at t2
  have hb := BN.snoc b 1 (by decide)
  have hlen := b.len
  have hs := hb.bt.size
  have ht := t2.size
  refine ⟨strOfNums (l ++ [49]) ++ t, ?_, ?_⟩
  · unfold vernierref06_Head.f
    simp only [ref_regime_eq (s := s) (by omega) (by omega), Option.bind_some, er]
    refine evs ?_
    simp only [vernierref06_Head.l0, nI_eq, if_neg (show ¬ (0 : Int) ≤ -(q : Int) by omega)]
    refine f _ (evs ?_)
    have e3 : IntKind.u64.wrap (wrap64 (s - wrap64 (4 * -(q : Int)))) = (e : Int) := by
      rw [w64 (n := 4 * -(q : Int)) (by omega) (by omega), w64 (by omega) (by omega), u64_of (by omega) (by omega)]; omega
    simp only [vernierref06_Head.l1, nI_eq, if_neg (show ¬ -(q : Int) > -(q : Int) by omega), if_neg (show ¬ -(q : Int) ≥ 0 by omega), if_pos (show l.length < 140737488355328 by omega), Option.bind_some, e3]
    refine Ev.bind t1 ?_
    have hs' : (strOfNums (l ++ [49])).size = q + 1 := hs
    simp only [hs', ht, if_pos (show q + 1 + 2 ≤ 9223372036854775807 by omega)]
    exact Ev.now _
  · have := hb.bt.append t2
    have e4 : (2 * 0 + 1) * 2 ^ 2 + e = 4 + e := by omega
    rw [e4] at this
    exact this
theorem ref_Fold_eq {n x : Nat} (h : isW n = true) (hx : x < 18446744073709551616) : Ev (fun k => vernierref06_Fold.f k (n : Int) (x : Int)) ((x % 2 ^ n : Nat) : Int) := by
  obtain ⟨b64, b8⟩ := pow64 h
  obtain ⟨s, s1, s2⟩ := Text_eq x n hx b64
  unfold vernierref06_Fold.f
  refine Ev.bind (a := (((x % 2 ^ n : Nat) : Int), (0 : Int))) ?_ (Ev.now _)
  unfold vernierref05_Fold.f
  simp only [ref_Is_eq, h, Option.bind_some, if_true]
  exact Ev.bind s1 (Ev.bind (Number_eq s2 b64) (Ev.now _))
theorem ref_Neg_eq {n x : Nat} (h : isW n = true) (hx : x < 18446744073709551616) : Ev (fun k => vernierref06_Neg.f k (n : Int) (x : Int)) ((negN n x : Nat) : Int) := by
  unfold vernierref06_Neg.f
  rw [neg_wrap hx]
  exact Ev.bind (ref_Fold_eq h (Nat.mod_lt _ (by decide))) (Ev.now _)
end Go.Proofs.Ytgcihaapajbdbaa.V
namespace Go.Proofs.Ytgcihaapajbdbaa.V
open Go Go.RowKit Go.Proofs.Ytgcihaapajbdbaa.Ab Go.Proofs.Ytgcihaapajbdbaa.Fn
set_option linter.unusedVariables false
set_option linter.unusedSimpArgs false
def exactE (ng : Bool) (m : Nat) (e : Int) (R : Bool) : Int × Bool × Int × Int × Int × Bool :=
 if m = 0 then (0, false, 0, 0, 0, false) else (1, ng, heldI (e + (bl m : Int) - 1), TH (mkV m), TL (mkV m), mkR m R)
theorem pow_eq {a b : Nat} (h : a = b) : (2 : Nat) ^ a = 2 ^ b := by rw [h]
theorem mkV_lt {m : Nat} (hm : 0 < m) : mkV m < 2 ^ 128 := by
 have h1 := bl_lt m
 unfold mkV
 split
 ·rename_i h
  have : 2 ^ bl m * 2 ^ (128 - bl m) = 2 ^ 128 := pow_split h
  rw [← this]
  exact Nat.mul_lt_mul_of_pos_right h1 (two_pos _)
 ·rename_i h
  rw [Nat.div_lt_iff_lt_mul (two_pos _), ← Nat.pow_add]
  exact Nat.lt_of_lt_of_eq h1 (pow_eq (by omega))
theorem mkV_ge {m : Nat} (hm : 0 < m) : 2 ^ 127 ≤ mkV m := by
 have h1 := bl_le hm
 have h0 := bl_pos hm
 unfold mkV
 split
 ·rename_i h
  have : 2 ^ (bl m - 1) * 2 ^ (128 - bl m) = 2 ^ 127 := by rw [← Nat.pow_add]; congr 1; omega
  rw [← this]
  exact Nat.mul_le_mul_right _ h1
 ·rename_i h
  rw [Nat.le_div_iff_mul_le (two_pos _), ← Nat.pow_add]
  exact Nat.le_trans (Nat.le_of_eq (pow_eq (by omega))) h1
end Go.Proofs.Ytgcihaapajbdbaa.V
namespace Go.Proofs.Ytgcihaapajbdbaa.V
open Go Go.RowKit Go.Proofs.Ytgcihaapajbdbaa.Ab Go.Proofs.Ytgcihaapajbdbaa.Fn
set_option linter.unusedVariables false
set_option linter.unusedSimpArgs false
structure NM where
 kd : Int
 ng : Bool
 sc : Int
 fr : Nat
structure EX where
 kd : Int
 ng : Bool
 sc : Int
 V : Nat
 R : Bool
theorem EX.ext' {x y : EX} (h1 : x.kd = y.kd) (h2 : x.ng = y.ng) (h3 : x.sc = y.sc) (h4 : x.V = y.V) (h5 : x.R = y.R) : x = y := by
 cases x; cases y; simp_all
def NM.ok (x : NM) : Prop := soundN x.kd x.ng x.sc (x.fr : Int) = true ∧ x.fr < 18446744073709551616
def EX.zero : EX := ⟨0, false, 0, 0, false⟩
def EX.nar : EX := ⟨2, false, 0, 0, false⟩
def EX.ok (x : EX) : Prop := x = EX.zero ∨ x = EX.nar ∨ (x.kd = 1 ∧ 2 ^ 127 ≤ x.V ∧ x.V < 2 ^ 128 ∧ -1099511627776 ≤ x.sc ∧ x.sc ≤ 1099511627776)
theorem EX.ok_lt {x : EX} (h : x.ok) : x.V < 2 ^ 128 := by
 rcases h with rfl | rfl | h
 ·exact two_pos 128
 ·exact two_pos 128
 ·exact h.2.2.1
theorem EX.ok_sound {x : EX} (h : x.ok) : soundE x.kd x.ng x.sc (TH x.V) (TL x.V) x.R = true := by
 rcases h with rfl | rfl | ⟨h1, h2, h3, h4, h5⟩
 ·rfl
 ·rfl
 ·unfold soundE
  rw [if_neg (by omega)]
  refine decide_eq_true ⟨h1, ?_, h4, h5⟩
  unfold TH
  rw [p127] at h2
  omega
def EX.rnd (n : Nat) (x : EX) : Nat := V.rnd n x.kd x.ng x.sc x.V x.R
theorem heldI_bounds (s : Int) : -1099511627776 ≤ heldI s ∧ heldI s ≤ 1099511627776 := by
 unfold heldI
 repeat' split
 all_goals omega
def natX (ng : Bool) (m : Nat) (e : Int) (R : Bool) : EX := if m = 0 then EX.zero else ⟨1, ng, heldI (e + (bl m : Int) - 1), mkV m, mkR m R⟩
theorem natX_ok (ng : Bool) (m : Nat) (e : Int) (R : Bool) : (natX ng m e R).ok := by
 unfold natX
 by_cases h : m = 0
 ·rw [if_pos h]; exact .inl rfl
 ·rw [if_neg h]
  have hb := heldI_bounds (e + (bl m : Int) - 1)
  exact .inr (.inr ⟨rfl, mkV_ge (by omega), mkV_lt (by omega), hb.1, hb.2⟩)
theorem exactE_natX (ng : Bool) (m : Nat) (e : Int) (R : Bool) : exactE ng m e R = ((natX ng m e R).kd, (natX ng m e R).ng, (natX ng m e R).sc, TH (natX ng m e R).V, TL (natX ng m e R).V, (natX ng m e R).R) := by
 unfold exactE natX
 by_cases h : m = 0
 ·rw [if_pos h, if_pos h]; rfl
 ·rw [if_neg h, if_neg h]
def decN (n x : Nat) : NM := if x = 0 then ⟨0, false, 0, 0⟩ else if x = 2 ^ (n - 1) then ⟨2, false, 0, 0⟩ else ⟨1, decide (2 ^ (n - 1) < x), decS (n - 1) (magN n x), decFr (n - 1) (magN n x)⟩
theorem decE_N (n x : Nat) : decE n x = ((decN n x).kd, (decN n x).ng, (decN n x).sc, ((decN n x).fr : Int), none) := by
 unfold decE decN
 by_cases h0 : x = 0
 ·rw [if_pos h0, if_pos h0]; rfl
 ·rw [if_neg h0, if_neg h0]
  by_cases h1 : x = 2 ^ (n - 1)
  ·rw [if_pos h1, if_pos h1]; rfl
  ·rw [if_neg h1, if_neg h1]
theorem decN_ok {n x : Nat} (h8 : 8 ≤ n) (hn : n ≤ 64) (hx : x < 2 ^ n) : (decN n x).ok := by
 unfold decN
 by_cases h0 : x = 0
 ·rw [if_pos h0]; exact ⟨rfl, by decide⟩
 ·rw [if_neg h0]
  by_cases h1 : x = 2 ^ (n - 1)
  ·rw [if_pos h1]; exact ⟨rfl, by decide⟩
  ·rw [if_neg h1]
   have hm := magN_bounds (by omega) hx h0 h1
   refine ⟨dec_soundN h8 hn hm.1 hm.2, ?_⟩
   have := (decFr_range (dLf_le (m := n - 1) (w := magN n x) (by omega))).2
   rw [p64] at this
   exact this
def NM.ex (a : NM) : EX := ⟨a.kd, a.ng, a.sc, a.fr * 18446744073709551616, false⟩
theorem NM.cases {x : NM} (h : x.ok) : x = ⟨0, false, 0, 0⟩ ∨ x = ⟨2, false, 0, 0⟩ ∨ (x.kd = 1 ∧ 2 ^ 63 ≤ x.fr ∧ x.fr < 2 ^ 64 ∧ -1073741824 ≤ x.sc ∧ x.sc ≤ 1073741824) := by
 obtain ⟨h1, h2⟩ := h
 obtain ⟨kd, ng, sc, fr⟩ := x
 unfold soundN at h1
 simp only at h1 h2 ⊢
 split at h1
 ·rename_i hk
  have : ng = false ∧ sc = 0 ∧ fr = 0 := by simpa using h1
  obtain ⟨rfl, rfl, rfl⟩ := this
  rcases hk with rfl | rfl
  ·exact .inl rfl
  ·exact .inr (.inl rfl)
 ·have := of_decide_eq_true h1
  rw [p63, p64]
  exact .inr (.inr (by omega))
theorem NM.ex_tup (x : NM) (h : x.ok) : TH x.ex.V = (x.fr : Int) ∧ TL x.ex.V = 0 := by
 have := h.2
 unfold NM.ex TH TL
 simp only
 omega
theorem dec_rnd {n x : Nat} (h8 : 8 ≤ n) (hn : n ≤ 64) (hx : x < 2 ^ n) : (decN n x).ex.rnd n = x := by
 unfold decN NM.ex EX.rnd
 by_cases h0 : x = 0
 ·simp only [if_pos h0]; unfold V.rnd cutE; simp [h0]
 ·simp only [if_neg h0]
  by_cases h1 : x = 2 ^ (n - 1)
  ·simp only [if_pos h1]
   unfold V.rnd cutE; simp
   rw [h1, pow_cast]
   exact Int.toNat_natCast _
  ·simp only [if_neg h1]
   have hm := magN_bounds (by omega) hx h0 h1
   have hlf := dLf_le (m := n - 1) (w := magN n x) (by omega)
   obtain ⟨_, d2, d3⟩ := decV_sub hlf
   have hp := dec_pos h8 hn hm.1 hm.2
   have h2 := two_halves (n := n) (by omega)
   have key : V.rnd n 1 false (decS (n - 1) (magN n x)) (decV (n - 1) (magN n x)) false = magN n x := by rw [rnd_pos h8 hn d3 d2, hp]
   by_cases hs : 2 ^ (n - 1) < x
   ·rw [decide_eq_true hs, rnd_neg]
    have : negN n (magN n x) = x := by
     rw [negN_eq hn hm.1 (by omega), if_neg (by omega)]
     unfold magN; rw [if_pos hs]; omega
    rw [show V.rnd n 1 false (decS (n - 1) (magN n x)) (decFr (n - 1) (magN n x) * 18446744073709551616) false = magN n x from key]
    exact this
   ·rw [decide_eq_false hs]
    have : magN n x = x := by unfold magN; rw [if_neg hs]
    rw [this] at key ⊢
    exact key
theorem Round_X {n : Nat} {x : EX} (h : isW (n : Int) = true) (hx : x.ok) : Ev (fun k => round_Round.f k (n : Int) x.kd x.ng x.sc (TH x.V) (TL x.V) x.R) (((x.rnd n : Nat) : Int), none) := by
 have hl := EX.ok_lt hx
 have hs := EX.ok_sound hx
 rw [p128] at hl
 have := round_Round_eq (n := n) (hi := x.V / 18446744073709551616) (lo := x.V % 18446744073709551616) h (by omega) (by omega) hs
 rw [show x.V / 18446744073709551616 * 18446744073709551616 + x.V % 18446744073709551616 = x.V by omega] at this
 exact this
theorem EX.rnd_lt {n : Nat} {x : EX} (h8 : 8 ≤ n) (hn : n ≤ 64) (hx : x.ok) : x.rnd n < 2 ^ n := by
 have key : V.rnd n x.kd false x.sc x.V x.R ≤ 2 ^ (n - 1) := by
  rcases hx with rfl | rfl | ⟨h1, h2, h3, h4, h5⟩
  ·unfold V.rnd cutE EX.zero; simp
  ·unfold V.rnd cutE EX.nar; simp
  ·rw [h1, rnd_pos h8 hn h3 h2]
   exact Nat.le_trans (posP_bounds (n := n) (s := x.sc) (R := x.R) h8 hn h3).2 (Nat.sub_le _ _)
 have h2 := two_halves (n := n) (by omega)
 have hp := two_pos (n - 1)
 unfold EX.rnd
 cases hng : x.ng
 ·exact Nat.lt_of_le_of_lt key (pow_lt (by omega))
 ·rw [rnd_neg]
  unfold negN
  exact Nat.mod_lt _ (two_pos n)
theorem Decode_N {n p : Nat} (h : isW (n : Int) = true) (hp : p < 18446744073709551616) :
  Ev (fun k => codec_Decode.f k (n : Int) (p : Int)) ((decN n (p % 2 ^ n)).kd, (decN n (p % 2 ^ n)).ng, (decN n (p % 2 ^ n)).sc, ((decN n (p % 2 ^ n)).fr : Int), none) := by
 rw [← decE_N]; exact Decode_eq h hp
end Go.Proofs.Ytgcihaapajbdbaa.V
namespace Go.Proofs.Ytgcihaapajbdbaa.V
open Go Go.RowKit Go.Proofs.Ytgcihaapajbdbaa.Ab
set_option linter.unusedVariables false
set_option linter.unusedSimpArgs false
def negP (n x : Nat) : Nat := if x = 0 then 0 else 2 ^ n - x
theorem negP_negP {n x : Nat} (hx : x < 2 ^ n) : negP n (negP n x) = x := by
 unfold negP
 by_cases h : x = 0
 ·simp [h]
 ·rw [if_neg h, if_neg (by omega)]; omega
theorem negN_mod {n p : Nat} (hn : n ≤ 64) (hp : p < 18446744073709551616) : negN n p = negP n (p % 2 ^ n) := by
 unfold negN negP
 have s : (18446744073709551616 : Nat) = 2 ^ n * 2 ^ (64 - n) := by rw [pow_split hn, p64]
 have hd := Nat.div_add_mod p (2 ^ n)
 have hl := Nat.mod_lt p (two_pos n)
 have hq : p / 2 ^ n < 2 ^ (64 - n) := by rw [Nat.div_lt_iff_lt_mul (two_pos n), Nat.mul_comm, ← s]; exact hp
 rw [show (18446744073709551616 - p) % 18446744073709551616 % 2 ^ n = (18446744073709551616 - p) % 2 ^ n by
  rw [s, Nat.mod_mul_right_mod]]
 generalize p % 2 ^ n = r at *
 generalize p / 2 ^ n = q at *
 obtain ⟨c, hc⟩ : ∃ c, 2 ^ (64 - n) = q + c + 1 := ⟨2 ^ (64 - n) - q - 1, by omega⟩
 by_cases h : r = 0
 ·rw [if_pos h]
  have : 18446744073709551616 - p = 2 ^ n * (c + 1) := by
   have : 2 ^ n * (q + c + 1) = 2 ^ n * q + 2 ^ n * (c + 1) := by grind
   rw [s, hc]; omega
  rw [this, Nat.mul_mod_right]
 ·rw [if_neg h]
  have : 18446744073709551616 - p = (2 ^ n - r) + 2 ^ n * c := by
   have : 2 ^ n * (q + c + 1) = 2 ^ n * q + 2 ^ n * c + 2 ^ n := by grind
   rw [s, hc]; omega
  rw [this, Nat.add_mul_mod_self_left, Nat.mod_eq_of_lt (by omega)]
def NM.neg (a : NM) : NM := if a.kd = 1 then ⟨a.kd, !a.ng, a.sc, a.fr⟩ else a
def EX.neg (a : EX) : EX := if a.kd = 1 then ⟨a.kd, !a.ng, a.sc, a.V, a.R⟩ else a
theorem EX.rnd_zero (n : Nat) : EX.zero.rnd n = 0 := by unfold EX.zero EX.rnd V.rnd cutE; simp
theorem EX.rnd_nar (n : Nat) : EX.nar.rnd n = 2 ^ (n - 1) := by
 unfold EX.nar EX.rnd V.rnd cutE; simp
 rw [pow_cast]; exact Int.toNat_natCast _
theorem EX.rnd_neg {n : Nat} {x : EX} (h8 : 8 ≤ n) (hn : n ≤ 64) (hx : x.ok) : x.neg.rnd n = negP n (x.rnd n) := by
 have h2 := two_halves (n := n) (by omega)
 have hp := two_pos (n - 1)
 have h64 : 2 ^ n ≤ 18446744073709551616 := by rw [← p64]; exact pow_le hn
 have hx' := hx
 rcases hx with rfl | rfl | ⟨h1, h2, h3, h4, h5⟩
 ·rw [show EX.zero.neg = EX.zero from rfl, EX.rnd_zero]; rfl
 ·rw [show EX.nar.neg = EX.nar from rfl, EX.rnd_nar]; unfold negP; rw [if_neg (by omega)]; omega
 ·obtain ⟨kd, ng, sc, U, R⟩ := x
  simp only at h1
  subst h1
  have hb : V.rnd n 1 false sc U R < 2 ^ n := EX.rnd_lt (x := ⟨1, false, sc, U, R⟩) h8 hn (.inr (.inr ⟨rfl, h2, h3, h4, h5⟩))
  have e : negN n (V.rnd n 1 false sc U R) = negP n (V.rnd n 1 false sc U R) := by
   rw [negN_mod hn (by omega), Nat.mod_eq_of_lt hb]
  cases ng
  ·show V.rnd n 1 true sc U R = negP n (V.rnd n 1 false sc U R)
   rw [V.rnd_neg, e]
  ·show V.rnd n 1 false sc U R = negP n (V.rnd n 1 true sc U R)
   rw [V.rnd_neg, e, negP_negP hb]
def oneN : NM := ⟨1, false, 0, 9223372036854775808⟩
theorem decN_one {n : Nat} (h : isW (n : Int) = true) : decN n (2 ^ (n - 2)) = oneN := by
 obtain ⟨m, e, h⟩ := isW_nat h
 have : n = m := by omega
 subst this
 rcases h with rfl | rfl | rfl | rfl <;> rfl
end Go.Proofs.Ytgcihaapajbdbaa.V
namespace Go.Proofs.Ytgcihaapajbdbaa.V
open Go Go.RowKit Go.Proofs.Ytgcihaapajbdbaa.Ab Go.Proofs.Ytgcihaapajbdbaa.Fn
set_option linter.unusedVariables false
set_option linter.unusedSimpArgs false
theorem w_succ4 {t : Nat} (hb : t < 4611686018427387904) : wrap64 ((t : Int) + 1) = ((t + 1 : Nat) : Int) := by
 rw [w64 (by omega) (by omega)]; omega
theorem dLf_le63 {m w : Nat} (h : m ≤ 63) : dLf m w ≤ 63 := by unfold dLf dL1; omega
theorem ref_Kind_eq {n x : Nat} (h : isW (n : Int) = true) (hx : x < 18446744073709551616) : Ev (fun k => vernierref05_Kind.f k (n : Int) (x : Int)) (if x % 2 ^ n = 0 then 0 else if x % 2 ^ n = 2 ^ (n - 1) then 2 else 1, 0) := by
 obtain ⟨b64, b8⟩ := pow64 h
 obtain ⟨s, s1, s2⟩ := Text_eq x n hx b64
 unfold vernierref05_Kind.f
 refine Ev.bind (a := (((x % 2 ^ n : Nat) : Int), (0 : Int))) ?_ ?_
 ·unfold vernierref05_Fold.f
  simp only [ref_Is_eq, h, Option.bind_some, if_true]
  exact Ev.bind s1 (Ev.bind (Number_eq s2 b64) (Ev.now _))
 ·simp only [if_true]
  by_cases h0 : x % 2 ^ n = 0
  ·simp only [h0, if_true, if_pos (show ((0 : Nat) : Int) = 0 from rfl)]
   exact Ev.now _
  ·simp only [if_neg h0, if_neg (show ¬ ((x % 2 ^ n : Nat) : Int) = 0 by omega)]
   have ew : wrap64 ((n : Int) - 1) = ((n - 1 : Nat) : Int) := by rw [w64 (by omega) (by omega)]; omega
   rw [ew]
   refine Ev.bind (ref_Power_eq (by omega)) (evn ?_)
   by_cases h1 : x % 2 ^ n = 2 ^ (n - 1)
   ·rw [if_pos h1, if_pos (by rw [h1])]
   ·rw [if_neg h1, if_neg (show ¬ ((x % 2 ^ n : Nat) : Int) = ((2 ^ (n - 1) : Nat) : Int) from fun h => h1 (Int.ofNat.inj h))]
theorem ones_bit {r j : Nat} (h : j < r) : (2 ^ r - 1) / 2 ^ j % 2 = 1 := by
 have a := Nat.testBit_two_pow_sub_one r j
 rw [Nat.testBit_eq_decide_div_mod_eq, decide_eq_true h] at a
 exact of_decide_eq_true a
theorem run_bits {m w : Nat} (h1 : 1 ≤ m) (hw0 : 0 < w) (hw : w < 2 ^ m) :
  (∀ i, i < runL m w → w / 2 ^ (m - 1 - i) % 2 = if runO m w then 1 else 0) ∧ (runL m w < m → w / 2 ^ (m - 1 - runL m w) % 2 ≠ if runO m w then 1 else 0) ∧ 1 ≤ runL m w ∧ runL m w ≤ m := by
 by_cases ho : 2 ^ (m - 1) ≤ w
 ·have eo : runO m w = true := by unfold runO; exact decide_eq_true ho
  obtain ⟨r, l, A, t, e1, e2, r1, r2, hl, hwe, ht, hA⟩ := run_ones h1 hw ho
  rw [e1, eo]
  simp only [if_true]
  rcases hA with ⟨hr, hA⟩ | ⟨hr, hl0, hA, ht0⟩
  ·have hd : w / 2 ^ l = A := by rw [hwe, Nat.add_comm, Nat.add_mul_div_right _ _ (two_pos l), Nat.div_eq_of_lt ht, Nat.zero_add]
   refine ⟨fun i hi => ?_, fun _ => ?_, r1, r2⟩
   ·have : w / 2 ^ (m - 1 - i) = (2 ^ r - 1) / 2 ^ (r - 1 - i) := by
     have e : 2 ^ (m - 1 - i) = 2 ^ l * (2 ^ 1 * 2 ^ (r - 1 - i)) := by rw [← Nat.pow_add, ← Nat.pow_add]; exact pow_congr (by omega)
     rw [e, ← Nat.div_div_eq_div_mul, hd, ← Nat.div_div_eq_div_mul, hA]
     congr 1
     omega
    rw [this]; exact ones_bit (by omega)
   ·rw [show m - 1 - r = l by omega, hd, hA]; omega
  ·have hww : w = 2 ^ m - 1 := by rw [hwe, hl0, hA, ht0]; simp
   refine ⟨fun i hi => ?_, fun h => absurd h (by omega), r1, r2⟩
   rw [hww]; exact ones_bit (by omega)
 ·have eo : runO m w = false := by unfold runO; exact decide_eq_false ho
  obtain ⟨r, l, t, e1, e2, r1, r2, hl, hwe, ht⟩ := run_noughts h1 hw0 ho
  rw [e1, eo]
  simp only [Bool.false_eq_true, if_false]
  refine ⟨fun i hi => ?_, fun _ => ?_, r1, by omega⟩
  ·have : 2 ^ (l + 1) ≤ 2 ^ (m - 1 - i) := pow_le (by omega)
   have e : 2 ^ (l + 1) = 2 * 2 ^ l := by rw [Nat.pow_succ]; omega
   rw [Nat.div_eq_of_lt (by omega)]
  ·rw [show m - 1 - r = l by omega]
   have hd : w / 2 ^ l = 1 := by rw [hwe, Nat.add_comm, Nat.add_mul_div_right _ _ (two_pos l), Nat.div_eq_of_lt ht]
   rw [hd]; decide
theorem top_bit {m w : Nat} (h1 : 1 ≤ m) (hw : w < 2 ^ m) : w / 2 ^ (m - 1) % 2 = if 2 ^ (m - 1) ≤ w then 1 else 0 := by
 have e := two_halves h1
 have hp := two_pos (m - 1)
 by_cases h : 2 ^ (m - 1) ≤ w
 ·rw [if_pos h]
  have : w / 2 ^ (m - 1) = 1 := by
   rw [show w = (w - 2 ^ (m - 1)) + 2 ^ (m - 1) by omega, Nat.add_div_right _ hp, Nat.div_eq_of_lt (by omega)]
  rw [this]
 ·rw [if_neg h, Nat.div_eq_of_lt (by omega)]
theorem ref_run_l0 {s : ByteArray} {m w : Nat} (hs : BT s m w) (h1 : 1 ≤ m) (hm : m ≤ 100) (hw0 : 0 < w) : ∀ (d i : Nat), i + d = runL m w → Ev (fun k => vernierref06_run.l0 k s (i : Int)) ((runL m w : Nat) : Int)
 | 0, i, h => by
  obtain ⟨a, b, c, e⟩ := run_bits h1 hw0 hs.lt
  have hi : i = runL m w := by omega
  rw [← hi] at a b c e ⊢
  refine evs ?_
  simp only [vernierref06_run.l0, nI_eq, hs.size]
  by_cases hl : i < m
  ·have b0 := hs.bit (i := 0) h1
   have bi := hs.bit (i := i) hl
   have hne : ¬ bt s (i : Int) = bt s 0 := by
    rw [show bt s 0 = bt s ((0 : Nat) : Int) from rfl, b0, bi, a 0 (by omega)]
    have := b hl
    generalize (if runO m w = true then 1 else 0) = z at *
    omega
   simp only [if_pos (show (i : Int) < (m : Int) by omega), if_pos (show (0 : Int) ≤ (i : Int) by omega), if_pos (show (0 : Int) < (m : Int) by omega), if_neg hne]
   exact Ev.now _
  ·simp only [if_neg (show ¬ (i : Int) < (m : Int) by omega)]
   exact Ev.now _
 | d + 1, i, h => by
  obtain ⟨a, b, c, e⟩ := run_bits h1 hw0 hs.lt
  refine evs ?_
  simp only [vernierref06_run.l0, nI_eq, hs.size]
  have b0 := hs.bit (i := 0) h1
  have bi := hs.bit (i := i) (by omega)
  have heq : bt s (i : Int) = bt s 0 := by
   rw [show bt s 0 = bt s ((0 : Nat) : Int) from rfl, b0, bi, a 0 (by omega), a i (by omega)]
  have h4 : i < 4611686018427387904 := by omega
  simp only [if_pos (show (i : Int) < (m : Int) by omega), if_pos (show (0 : Int) ≤ (i : Int) by omega), if_pos (show (0 : Int) < (m : Int) by omega), if_pos heq, w_succ4 h4]
  exact ref_run_l0 hs h1 hm hw0 d (i + 1) (by omega)
theorem ref_run_eq {s : ByteArray} {m w : Nat} (hs : BT s m w) (h1 : 1 ≤ m) (hm : m ≤ 100) (hw0 : 0 < w) : Ev (fun k => vernierref06_run.f k s) ((runL m w : Nat) : Int) := by
 unfold vernierref06_run.f
 exact ref_run_l0 hs h1 hm hw0 (runL m w) 0 (by omega)
theorem ref_String_eq {n p : Nat} (h : isW (n : Int) = true) (hp : p < 18446744073709551616) (h0 : p % 2 ^ n ≠ 0) (h1 : p % 2 ^ n ≠ 2 ^ (n - 1)) :
  ∃ s, Ev (fun k => vernierref06_String.f k (n : Int) (p : Int)) s ∧ BT s (n - 1) (magN n (p % 2 ^ n)) := by
 obtain ⟨b64, b8⟩ := pow64 h
 obtain ⟨t, t1, t2⟩ := Text_eq p n hp b64
 have hx := Nat.mod_lt p (two_pos n)
 have b0 := t2.bit (i := 0) (by omega)
 rw [Nat.sub_zero, top_bit (by omega) hx] at b0
 have b0' : bt t 0 = _ := b0
 unfold vernierref06_String.f
 by_cases hs : 2 ^ (n - 1) < p % 2 ^ n
 ·obtain ⟨u, u1, u2⟩ := Text_eq ((18446744073709551616 - p) % 18446744073709551616) n (Nat.mod_lt _ (by decide)) b64
  have hm := (u2.parts 1 (by omega)).2
  rw [mod_pow_le (by omega), neg_mod (by omega) b64 hp hs] at hm
  refine ⟨u.extract 1 u.size, ?_, ?_⟩
  ·refine Ev.bind t1 ?_
   rw [if_pos (by omega)] at b0'
   simp only [nI_eq, t2.size, if_pos (show (0 : Int) < (n : Int) by omega), b0', if_pos (show (48 : Int) + ((1 : Nat) : Int) = 49 by decide), neg_wrap hp]
   refine Ev.bind u1 ?_
   simp only [nI_eq, u2.size, if_pos (show (1 : Int) ≤ (n : Int) by omega)]
   exact Ev.now _
  ·unfold magN; rw [if_pos hs]; exact hm
 ·have hm := (t2.parts 1 (by omega)).2
  rw [Nat.mod_eq_of_lt (show p % 2 ^ n < 2 ^ (n - 1) by omega)] at hm
  refine ⟨t.extract 1 t.size, ?_, ?_⟩
  ·refine Ev.bind t1 ?_
   rw [if_neg (by omega)] at b0'
   simp only [b0', if_neg (show ¬ (48 : Int) + ((0 : Nat) : Int) = 49 by decide)]
   simp only [nI_eq, t2.size, if_pos (show (0 : Int) < (n : Int) by omega), if_pos (show (1 : Int) ≤ (n : Int) by omega)]
   exact Ev.now _
  ·unfold magN; rw [if_neg hs]; exact hm
def splR (ng : Bool) (m w : Nat) : Bool × Bool × Int × Int × Int × Int × Int × Int × Int :=
 (ng, runO m w, ((runL m w : Nat) : Int), decK m w, ((dEb m w : Nat) : Int), ((decEx m w : Nat) : Int), ((dLf m w : Nat) : Int), ((w % 2 ^ dLf m w : Nat) : Int), 0)
theorem bt_lit00 : BT (⟨#[48, 48]⟩ : ByteArray) 2 0 := by
 refine ⟨?_, rfl, rfl⟩
 intro b hb
 have : b = 48 := by simpa using hb
 subst this
 exact .inl rfl
theorem bt_lit1 : BT (⟨#[49]⟩ : ByteArray) 1 1 := by
 refine ⟨?_, rfl, rfl⟩
 intro b hb
 have : b = 49 := by simpa using hb
 subst this
 exact .inr rfl
theorem bt_lit0 : BT (⟨#[48]⟩ : ByteArray) 1 0 := by
 refine ⟨?_, rfl, rfl⟩
 intro b hb
 have : b = 48 := by simpa using hb
 subst this
 exact .inl rfl
theorem bt_lit : BT (⟨#[]⟩ : ByteArray) 0 0 := by
 refine ⟨?_, rfl, rfl⟩
 intro b hb
 simp at hb
theorem ref_Split_j2 {s : ByteArray} {l w m : Nat} {ng o : Bool} {r K : Int} (hs : BT s l (w % 2 ^ l)) (hl : l ≤ 64) (hd : dL1 m w = l) :
  Ev (fun k => vernierref06_Split.j2 k s ng o r K) (ng, o, r, K, ((dEb m w : Nat) : Int), ((decEx m w : Nat) : Int), ((dLf m w : Nat) : Int), ((w % 2 ^ dLf m w : Nat) : Int), 0) := by
 refine evs ?_
 simp only [vernierref06_Split.j2, nI_eq]
 by_cases h2 : 2 < l
 ·have eb : dEb m w = 2 := by unfold dEb; omega
  have lf : dLf m w = l - 2 := by unfold dLf; omega
  have q1 := (hs.parts 2 (by omega)).1
  have q2 := (hs.parts 2 (by omega)).2
  have q3 := q1.append bt_lit00
  have q4 := (q3.parts 2 (by omega)).1
  rw [Nat.add_zero, show 2 + 2 - 2 = 2 by omega, Nat.mul_div_cancel _ (two_pos 2)] at q4
  have x1 : w % 2 ^ l / 2 ^ (l - 2) = decEx m w := by
   unfold decEx
   rw [eb, lf, show (2 : Nat) ^ l = 2 ^ (l - 2) * 2 ^ 2 by rw [← Nat.pow_add]; exact pow_congr (by omega), Nat.mod_mul_right_div_self]
   simp
  have x2 : w % 2 ^ l % 2 ^ (l - 2) = w % 2 ^ dLf m w := by rw [lf]; exact mod_pow_le (by omega)
  rw [x1] at q4
  rw [x2] at q2
  have hx := decEx_lt (m := m) (w := w)
  have s4 : ((s.extract 0 2) ++ (⟨#[48, 48]⟩ : ByteArray)).size = 4 := q3.size
  have e3 : wrap64 ((l : Int) - 2) = ((l - 2 : Nat) : Int) := by rw [w64 (by omega) (by omega)]; omega
  have e4 : wrap64 ((decEx m w : Nat) : Int) = ((decEx m w : Nat) : Int) := w64 (by omega) (by omega)
  simp only [hs.size, if_pos (show (l : Int) > 2 by omega), if_pos (show (0 : Int) ≤ 2 by decide), if_pos (show (2 : Int) ≤ (l : Int) by omega), q1.size, if_pos (show 2 + 2 ≤ 9223372036854775807 by decide), s4, if_pos (show (2 : Int) ≤ ((4 : Nat) : Int) by decide)]
  rw [hs.size] at q2
  refine Ev.bind (Number_eq q4 (by decide)) (Ev.bind (Number_eq q2 (by omega)) ?_)
  simp only [e3, e4, eb, lf]
  exact Ev.now _
 ·have eb : dEb m w = l := by unfold dEb; omega
  have lf : dLf m w = 0 := by unfold dLf; omega
  have q1 := (hs.parts l (by omega)).1
  have q2 := (hs.parts l (by omega)).2
  have q3 := q1.append bt_lit00
  have q4 := (q3.parts 2 (by omega)).1
  rw [Nat.sub_self, Nat.pow_zero, Nat.div_one, Nat.add_zero, show l + 2 - 2 = l by omega] at q4
  rw [Nat.sub_self, Nat.pow_zero, Nat.mod_one] at q2
  have x1 : w % 2 ^ l * 2 ^ 2 / 2 ^ l = decEx m w := by
   unfold decEx
   rw [eb, lf, Nat.pow_zero, Nat.div_one, show (2 : Nat) ^ 2 = 2 ^ (2 - l) * 2 ^ l by rw [← Nat.pow_add]; exact pow_congr (by omega), ← Nat.mul_assoc, Nat.mul_div_cancel _ (two_pos l)]
  rw [x1] at q4
  have hx := decEx_lt (m := m) (w := w)
  have s4 : ((s.extract 0 l) ++ (⟨#[48, 48]⟩ : ByteArray)).size = l + 2 := q3.size
  have e3 : wrap64 ((l : Int) - (l : Int)) = ((0 : Nat) : Int) := by rw [w64 (by omega) (by omega)]; omega
  have e4 : wrap64 ((decEx m w : Nat) : Int) = ((decEx m w : Nat) : Int) := w64 (by omega) (by omega)
  simp only [hs.size, if_neg (show ¬ (l : Int) > 2 by omega), if_pos (show (0 : Int) ≤ (l : Int) by omega), if_pos (show (l : Int) ≤ (l : Int) by omega), Int.toNat_natCast, q1.size, if_pos (show l + 2 ≤ 9223372036854775807 by omega), if_pos (show (0 : Int) ≤ 2 by decide), s4, if_pos (show (2 : Int) ≤ ((l + 2 : Nat) : Int) by omega)]
  rw [hs.size] at q2
  refine Ev.bind (Number_eq q4 (by decide)) (Ev.bind (Number_eq q2 (by omega)) ?_)
  simp only [e3, e4, eb, lf, Nat.pow_zero, Nat.mod_one]
  exact Ev.now _
theorem ref_Split_eq {n p : Nat} (h : isW (n : Int) = true) (hp : p < 18446744073709551616) (h0 : p % 2 ^ n ≠ 0) (h1 : p % 2 ^ n ≠ 2 ^ (n - 1)) :
  Ev (fun k => vernierref06_Split.f k (n : Int) (p : Int)) (splR (decide (2 ^ (n - 1) < p % 2 ^ n)) (n - 1) (magN n (p % 2 ^ n))) := by
 obtain ⟨b64, b8⟩ := pow64 h
 have hx := Nat.mod_lt p (two_pos n)
 have hm := magN_bounds (n := n) (by omega) hx h0 h1
 obtain ⟨s, s1, s2⟩ := ref_String_eq h hp h0 h1
 obtain ⟨t, t1, t2⟩ := Text_eq p n hp b64
 unfold vernierref06_Split.f
 refine Ev.bind (ref_Kind_eq h hp) ?_
 simp only [if_neg h0, if_neg h1, if_true]
 refine evs ?_
 simp only [vernierref06_Split.j0, nI_eq, show ((1 : Int) != 1) = false from rfl, Bool.false_eq_true, if_false]
 have hsz0 : 0 < n - 1 := by omega
 refine Ev.bind s1 ?_
 simp only [s2.size, if_pos (show (0 : Int) < ((n - 1 : Nat) : Int) by omega)]
 refine Ev.bind t1 ?_
 generalize magN n (p % 2 ^ n) = w at *
 have hsz : 0 < n - 1 := by omega
 have bt0 := t2.bit (i := 0) (by omega)
 rw [Nat.sub_zero, top_bit (by omega) hx] at bt0
 have bt0' : bt t 0 = _ := bt0
 have bs0 := s2.bit (i := 0) hsz
 rw [Nat.sub_zero, top_bit (by omega) hm.2] at bs0
 have bs0' : bt s 0 = _ := bs0
 have et : (bt t 0 == 49) = decide (2 ^ (n - 1) < p % 2 ^ n) := by
  rw [bt0']
  by_cases hc : 2 ^ (n - 1) ≤ p % 2 ^ n
  ·rw [if_pos hc, decide_eq_true (by omega)]; rfl
  ·rw [if_neg hc, decide_eq_false (by omega)]; rfl
 have es : (bt s 0 == 49) = runO (n - 1) w := by
  rw [bs0']
  unfold runO
  by_cases hc : 2 ^ (n - 1 - 1) ≤ w
  ·rw [if_pos hc, decide_eq_true hc]; rfl
  ·rw [if_neg hc, decide_eq_false hc]; rfl
 have es' : (bt s 0 = 49) ↔ runO (n - 1) w = true := by rw [← es, beq_iff_eq]
 simp only [t2.size, if_pos (show (0 : Int) < (n : Int) by omega)]
 refine Ev.bind (ref_run_eq s2 (by omega) (by omega) hm.1) ?_
 obtain ⟨_, _, r1, r2⟩ := run_bits (m := n - 1) (by omega) hm.1 hm.2
 have j1 : ∀ K : Int, K = decK (n - 1) w → Ev (fun k => vernierref06_Split.j1 k s (decide (2 ^ (n - 1) < p % 2 ^ n)) (runO (n - 1) w) ((runL (n - 1) w : Nat) : Int) K) (splR (decide (2 ^ (n - 1) < p % 2 ^ n)) (n - 1) w) := by
  intro K hK
  refine evs ?_
  simp only [vernierref06_Split.j1, nI_eq, s2.size]
  unfold splR
  rw [hK]
  have h4 : runL (n - 1) w < 4611686018427387904 := by omega
  by_cases hl : runL (n - 1) w < n - 1
  ·have q := (s2.parts (runL (n - 1) w + 1) (by omega)).2
   have hd : dL1 (n - 1) w = n - 1 - (runL (n - 1) w + 1) := by unfold dL1; omega
   rw [s2.size] at q
   simp only [if_pos (show ((runL (n - 1) w : Nat) : Int) < ((n - 1 : Nat) : Int) by omega), w_succ4 h4, if_pos (show (0 : Int) ≤ ((runL (n - 1) w + 1 : Nat) : Int) by omega), if_pos (show ((runL (n - 1) w + 1 : Nat) : Int) ≤ ((n - 1 : Nat) : Int) by omega), Int.toNat_natCast]
   exact ref_Split_j2 q (by omega) hd
  ·have hd : dL1 (n - 1) w = 0 := by unfold dL1; omega
   simp only [if_neg (show ¬ ((runL (n - 1) w : Nat) : Int) < ((n - 1 : Nat) : Int) by omega)]
   exact ref_Split_j2 (l := 0) (by rw [Nat.pow_zero, Nat.mod_one]; exact bt_lit) (by decide) hd
 by_cases ho : runO (n - 1) w = true
 ·have ew : wrap64 (((runL (n - 1) w : Nat) : Int) - 1) = decK (n - 1) w := by
   rw [w64 (by omega) (by omega)]; unfold decK; rw [if_pos ho]
  simp only [if_pos (es'.mpr ho), et, es, ew]
  exact j1 _ rfl
 ·have ew : wrap64 (-((runL (n - 1) w : Nat) : Int)) = decK (n - 1) w := by
   rw [w64 (by omega) (by omega)]; unfold decK; rw [if_neg ho]
  simp only [if_neg (fun h => ho (es'.mp h)), et, es, ew]
  exact j1 _ rfl
theorem ref_Decodes_l0 {a : Int} {b : Bool} {c : Int} : ∀ (d : Nat) (s : ByteArray) (L X : Nat), L + d = 64 → BT s L X → Ev (fun k => vernierref06_Decodes.l0 k s a b c) (a, b, c, ((X * 2 ^ d : Nat) : Int), 0)
 | 0, s, L, X, h, hs => by
  refine evs ?_
  simp only [vernierref06_Decodes.l0, nI_eq, hs.size, if_neg (show ¬ (L : Int) < 64 by omega)]
  refine Ev.bind (Number_eq hs (by omega)) ?_
  rw [Nat.pow_zero, Nat.mul_one]
  exact Ev.now _
 | d + 1, s, L, X, h, hs => by
  refine evs ?_
  simp only [vernierref06_Decodes.l0, nI_eq, hs.size, if_pos (show (L : Int) < 64 by omega), if_pos (show L < 9223372036854775807 by omega)]
  have := ref_Decodes_l0 (a := a) (b := b) (c := c) d _ (L + 1) _ (by omega) (hs.append bt_lit0)
  rw [Nat.add_zero, Nat.mul_assoc, ← Nat.pow_add, Nat.add_comm 1 d] at this
  exact this
theorem ref_Decodes_eq {n p : Nat} (h : isW (n : Int) = true) (hp : p < 18446744073709551616) :
  Ev (fun k => vernierref06_Decodes.f k (n : Int) (p : Int)) ((decE n (p % 2 ^ n)).1, (decE n (p % 2 ^ n)).2.1, (decE n (p % 2 ^ n)).2.2.1, (decE n (p % 2 ^ n)).2.2.2.1, 0) := by
 obtain ⟨b64, b8⟩ := pow64 h
 unfold vernierref06_Decodes.f decE
 refine Ev.bind (ref_Kind_eq h hp) ?_
 simp only [if_true]
 by_cases h0 : p % 2 ^ n = 0
 ·simp only [if_pos h0]
  refine evs ?_
  simp only [vernierref06_Decodes.j0, nI_eq, show ((0 : Int) != 1) = true from rfl, if_true]
  exact Ev.now _
 ·simp only [if_neg h0]
  by_cases h1 : p % 2 ^ n = 2 ^ (n - 1)
  ·simp only [if_pos h1]
   refine evs ?_
   simp only [vernierref06_Decodes.j0, nI_eq, show ((2 : Int) != 1) = true from rfl, if_true]
   exact Ev.now _
  ·simp only [if_neg h1]
   refine evs ?_
   simp only [vernierref06_Decodes.j0, nI_eq, show ((1 : Int) != 1) = false from rfl, Bool.false_eq_true, if_false]
   refine Ev.bind (ref_Split_eq h hp h0 h1) ?_
   have hx := Nat.mod_lt p (two_pos n)
   have hm := magN_bounds (n := n) (by omega) hx h0 h1
   unfold splR
   simp only
   generalize decide (2 ^ (n - 1) < p % 2 ^ n) = ng
   generalize magN n (p % 2 ^ n) = w at *
   have hlf := dLf_le63 (m := n - 1) (w := w) (by omega)
   have hfr := decFr_range hlf
   obtain ⟨_, s1, s2, r1, r2⟩ := dec_sig (m := n - 1) (w := w) (by omega) (by omega) hm.1 hm.2
   have hx4 := decEx_lt (m := n - 1) (w := w)
   have hq := Nat.mod_lt w (two_pos (dLf (n - 1) w))
   have hq2 : w % 2 ^ dLf (n - 1) w < 18446744073709551616 := by
    have := Nat.mod_le w (2 ^ dLf (n - 1) w)
    have : 2 ^ (n - 1) ≤ 2 ^ 63 := pow_le (by omega)
    rw [p63] at this
    omega
   obtain ⟨t, t1, t2⟩ := Text_eq (w % 2 ^ dLf (n - 1) w) (dLf (n - 1) w) hq2 (by omega)
   rw [Nat.mod_mod] at t2
   refine Ev.bind t1 ?_
   simp only [t2.size, if_pos (show 1 + dLf (n - 1) w ≤ 9223372036854775807 by omega)]
   have es : wrap64 (wrap64 (4 * decK (n - 1) w) + ((decEx (n - 1) w : Nat) : Int)) = decS (n - 1) w := by
    unfold decS at *
    rw [w64 (n := 4 * decK (n - 1) w) (by omega) (by omega), w64 (by omega) (by omega)]
   rw [es]
   have key := ref_Decodes_l0 (a := 1) (b := ng) (c := decS (n - 1) w) (63 - dLf (n - 1) w) _ (1 + dLf (n - 1) w) _ (by omega) (bt_lit1.append t2)
   have ef : (1 * 2 ^ dLf (n - 1) w + w % 2 ^ dLf (n - 1) w) * 2 ^ (63 - dLf (n - 1) w) = decFr (n - 1) w := by
    unfold decFr
    rw [Nat.one_mul, Nat.add_mul, pow_split hlf]
   rw [ef] at key
   exact key
theorem ref_Decode_eq {n p : Nat} (h : isW (n : Int) = true) (hp : p < 18446744073709551616) :
  Ev (fun k => vernierref06_Decode.f k (n : Int) (p : Int)) ((decE n (p % 2 ^ n)).1, (decE n (p % 2 ^ n)).2.1, (decE n (p % 2 ^ n)).2.2.1, (decE n (p % 2 ^ n)).2.2.2.1) := by
 unfold vernierref06_Decode.f
 exact Ev.bind (ref_Decodes_eq h hp) (Ev.now _)
end Go.Proofs.Ytgcihaapajbdbaa.V
namespace Go.Proofs.Ytgcihaapajbdbaa.V
open Go Go.RowKit Go.Proofs.Ytgcihaapajbdbaa.Ab Go.Proofs.Ytgcihaapajbdbaa.Fn
theorem ref_Decode_N {n p : Nat} (h : isW (n : Int) = true) (hp : p < 18446744073709551616) :
  Ev (fun k => vernierref06_Decode.f k (n : Int) (p : Int)) ((decN n (p % 2 ^ n)).kd, (decN n (p % 2 ^ n)).ng, (decN n (p % 2 ^ n)).sc, ((decN n (p % 2 ^ n)).fr : Int)) := by
 have := ref_Decode_eq h hp
 rw [decE_N] at this
 exact this
end Go.Proofs.Ytgcihaapajbdbaa.V
