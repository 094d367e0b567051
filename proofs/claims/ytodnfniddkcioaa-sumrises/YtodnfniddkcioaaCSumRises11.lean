-- Written by a program of this session out of its own texts (wip/tools/link.py).
import Derived.Below
import Derived.ChangeKeysEq
import Derived.Deep.MidRow
import Derived.Deep.RegionHeld3
import Derived.Great.BuildSlice
import Derived.IntWalk
import Derived.KernelRfl
import Derived.LaidEql
import Derived.Laws.Bits64
import Derived.Laws.BitsLemmas
import Derived.Laws.BytesArg
import Derived.Laws.IdiomCopy
import Derived.Laws.OwnMore
import Derived.Laws.Rows
import Derived.Laws.Slices
import Derived.Laws.Strings
import Derived.Laws.StructEq
import Derived.Laws.Tables
import Derived.Lib.BitFns
import Derived.Lib.Mul64
import Derived.Lib.Slices
import Derived.Lib.Small
import Derived.Lib.Strings
import Derived.Lib.Walk
import Derived.Maps.AppendAt
import Derived.OrdersHeld
import Derived.RowKit
import Derived.Shelf.Spec.BitsCarry
import Derived.Test.YtodnfniddkcioaaProg
import Derived.Test.YtodnfniddkcioaaCSumRises8
import Derived.Test.YtodnfniddkcioaaCSumRises9
import Derived.Test.YtodnfniddkcioaaCSumRises10
namespace Go.Proofs.Ytodnfniddkcioaa.V
open Go Go.RowKit Go.Proofs.Ytodnfniddkcioaa.Ab Go.Proofs.Ytodnfniddkcioaa.Fn
set_option linter.unusedVariables false
set_option linter.unusedSimpArgs false
theorem Of_X {x : NM} (h : x.ok) : Ev (fun k => round_Of.f k x.kd x.ng x.sc (x.fr : Int)) (x.ex.kd, x.ex.ng, x.ex.sc, TH x.ex.V, TL x.ex.V, x.ex.R, none) := by
 have := round_Of_eq x.kd x.ng x.sc (x.fr : Int) (by have := h.2; omega) (by omega)
 rw [if_pos h.1] at this
 rw [(NM.ex_tup x h).1, (NM.ex_tup x h).2]
 exact this
end Go.Proofs.Ytodnfniddkcioaa.V
namespace Go.Proofs.Ytodnfniddkcioaa.V
open Go Go.RowKit Go.Proofs.Ytodnfniddkcioaa.Ab Go.Proofs.Ytodnfniddkcioaa.Fn
set_option linter.unusedVariables false
set_option linter.unusedSimpArgs false
theorem EX.ok_kd {x : EX} (hx : x.ok) : x.kd = 0 ∨ x.kd = 1 ∨ x.kd = 2 := by
 rcases hx with rfl | rfl | hx
 ·exact .inl rfl
 ·exact .inr (.inr rfl)
 ·exact .inr (.inl hx.1)
theorem sumX_nar {x y : EX} (h : x.kd = 2 ∨ y.kd = 2) : sumX x y = EX.nar := by unfold sumX; rw [if_pos h]
theorem sumX_z1 {x y : EX} (h : ¬ (x.kd = 2 ∨ y.kd = 2)) (h1 : x.kd = 0) : sumX x y = y := by unfold sumX; rw [if_neg h, if_pos h1]
theorem sumX_z2 {x y : EX} (h : ¬ (x.kd = 2 ∨ y.kd = 2)) (h1 : ¬ x.kd = 0) (h2 : y.kd = 0) : sumX x y = x := by unfold sumX; rw [if_neg h, if_neg h1, if_pos h2]
theorem broad_Sum_j0 {x y : EX} (hx : x.ok) (hy : y.ok) : Ev (fun k => broad_Sum.j0 k (decide (x.kd = 2 ∨ y.kd = 2)) x.kd x.ng x.sc (TH x.V) (TL x.V) x.R y.kd y.ng y.sc (TH y.V) (TL y.V) y.R) (sumX x y).tup := by
 refine evs ?_
 simp only [broad_Sum.j0]
 by_cases h : x.kd = 2 ∨ y.kd = 2
 ·simp only [if_pos (decide_eq_true h)]
  rw [sumX_nar h]
  exact Ev.now _
 ·simp only [if_neg (fun h' => h (of_decide_eq_true h') : ¬ decide (x.kd = 2 ∨ y.kd = 2) = true)]
  by_cases a : x.kd = 0
  ·simp only [if_pos a]
   rw [sumX_z1 h a]
   exact Ev.now _
  ·simp only [if_neg a]
   by_cases b : y.kd = 0
   ·simp only [if_pos b]
    rw [sumX_z2 h a b]
    exact Ev.now _
   ·simp only [if_neg b]
    have kx : x.kd = 1 := by have := EX.ok_kd hx; omega
    have ky : y.kd = 1 := by have := EX.ok_kd hy; omega
    by_cases c : x.sc < y.sc
    ·simp only [if_pos c]
     rw [sumX_comm hx hy]
     exact Sum_j1 hy hx ky kx (Int.le_of_lt c)
    ·simp only [if_neg c]
     exact Sum_j1 hx hy kx ky (Int.not_lt.1 c)
theorem broad_Sum_X {x y : EX} (hx : x.ok) (hy : y.ok) : Ev (fun k => broad_Sum.f k x.kd x.ng x.sc (TH x.V) (TL x.V) x.R y.kd y.ng y.sc (TH y.V) (TL y.V) y.R) (sumX x y).tup := by
 have h := broad_Sum_j0 hx hy
 unfold broad_Sum.f
 by_cases a : x.kd = 2
 ·simp only [if_pos a]
  rw [decide_eq_true (Or.inl a)] at h
  exact h
 ·simp only [if_neg a]
  rw [show decide (x.kd = 2 ∨ y.kd = 2) = (y.kd == 2) by rw [Bool.eq_iff_iff]; simp [a]] at h
  exact h
theorem sum_Exact_X {a b : NM} (ha : a.ok) (hb : b.ok) : Ev (fun k => sum_Exact.f k a.kd a.ng a.sc (a.fr : Int) b.kd b.ng b.sc (b.fr : Int)) ((sumX a.ex b.ex).kd, (sumX a.ex b.ex).ng, (sumX a.ex b.ex).sc, TH (sumX a.ex b.ex).V, TL (sumX a.ex b.ex).V, (sumX a.ex b.ex).R, none) := by
 unfold sum_Exact.f
 refine Ev.bind (Of_X ha) ?_
 simp only [Option.isNone_none, if_true]
 refine Ev.bind (Of_X hb) ?_
 simp only [Option.isNone_none, if_true]
 exact Ev.bind (broad_Sum_X (NM.ex_ok ha) (NM.ex_ok hb)) (Ev.now _)
def addN (n x y : Nat) : Nat := (sumX (decN n x).ex (decN n y).ex).rnd n
theorem addN_lt {n x y : Nat} (h8 : 8 ≤ n) (hn : n ≤ 64) (hx : x < 2 ^ n) (hy : y < 2 ^ n) : addN n x y < 2 ^ n := EX.rnd_lt h8 hn (sumX_ok (NM.ex_ok (decN_ok h8 hn hx)) (NM.ex_ok (decN_ok h8 hn hy)))
theorem sum_Add_eq {n a b : Nat} (h : isW (n : Int) = true) (ha : a < 18446744073709551616) (hb : b < 18446744073709551616) : Ev (fun k => sum_Add.f k (n : Int) (a : Int) (b : Int)) (((addN n (a % 2 ^ n) (b % 2 ^ n) : Nat) : Int), none) := by
 obtain ⟨b64, b8⟩ := pow64 h
 have oa := decN_ok b8 b64 (Nat.mod_lt a (two_pos n))
 have ob := decN_ok b8 b64 (Nat.mod_lt b (two_pos n))
 unfold sum_Add.f
 refine Ev.bind (Decode_N h ha) ?_
 simp only [Option.isNone_none, if_true]
 refine Ev.bind (Decode_N h hb) (Ev.bind (sum_Exact_X oa ob) ?_)
 simp only [Option.isNone_none, if_true]
 exact Ev.bind (Round_X h (sumX_ok (NM.ex_ok oa) (NM.ex_ok ob))) (Ev.now _)
end Go.Proofs.Ytodnfniddkcioaa.V
namespace Go.Proofs.Ytodnfniddkcioaa.V
open Go Go.RowKit Go.Proofs.Ytodnfniddkcioaa.Ab
theorem decN_kd {n x : Nat} (h : x ≠ 2 ^ (n - 1)) : (decN n x).kd ≠ 2 := by
 unfold decN
 by_cases h0 : x = 0
 ·rw [if_pos h0]; show (0 : Int) ≠ 2; decide
 ·rw [if_neg h0, if_neg h]; show (1 : Int) ≠ 2; decide
end Go.Proofs.Ytodnfniddkcioaa.V
namespace Go.Proofs.Ytodnfniddkcioaa.V
open Go Go.RowKit Go.Proofs.Ytodnfniddkcioaa.Ab Go.Proofs.Ytodnfniddkcioaa.Fn
set_option linter.unusedVariables false
set_option linter.unusedSimpArgs false
theorem sum_Sub_eq {n a b : Nat} (h : isW (n : Int) = true) (ha : a < 18446744073709551616) (hb : b < 18446744073709551616) : Ev (fun k => sum_Sub.f k (n : Int) (a : Int) (b : Int)) (((addN n (a % 2 ^ n) (negP n (b % 2 ^ n)) : Nat) : Int), none) := by
 obtain ⟨b64, b8⟩ := pow64 h
 have g : (18446744073709551616 - b) % 18446744073709551616 % 2 ^ n = negP n (b % 2 ^ n) := negN_mod b64 hb
 have q := sum_Add_eq h ha (Nat.mod_lt (18446744073709551616 - b) (show 0 < 18446744073709551616 by decide))
 rw [g, ← neg_wrap hb] at q
 unfold sum_Sub.f
 exact Ev.bind q (Ev.now _)
theorem up09 : Ev (fun k => vernierlaw09_up.f k) true := by
 unfold vernierlaw09_up.f
 have a := sum_Add_eq (n := 8) (a := 64) (b := 64) (by decide) (by decide) (by decide)
 have b := sum_Sub_eq (n := 8) (a := 1) (b := 127) (by decide) (by decide) (by decide)
 rw [show addN 8 (64 % 2 ^ 8) (64 % 2 ^ 8) = 72 by decide +kernel] at a
 rw [show addN 8 (1 % 2 ^ 8) (negP 8 (127 % 2 ^ 8)) = 129 by decide +kernel] at b
 exact Ev.bind a (Ev.bind b (Ev.now _))
end Go.Proofs.Ytodnfniddkcioaa.V
namespace Go.Proofs.Ytodnfniddkcioaa.V
open Go Go.RowKit Go.Proofs.Ytodnfniddkcioaa.Ab Go.Proofs.Ytodnfniddkcioaa.Fn
set_option linter.unusedVariables false
set_option linter.unusedSimpArgs false
theorem EX.ok_zero {x : EX} (hx : x.ok) (h : x.kd = 0) : x = EX.zero := by
 rcases hx with rfl | rfl | hx
 ·rfl
 ·exact absurd h (by decide)
 ·omega
theorem sumX_zero_r {x : EX} (hx : x.ok) : sumX x EX.zero = x := by
 unfold sumX
 by_cases h : x.kd = 2 ∨ EX.zero.kd = 2
 ·rw [if_pos h]
  have h2 : x.kd = 2 := h.elim id (fun h => absurd h (by decide))
  rcases hx with rfl | rfl | hx
  ·exact absurd h2 (by decide)
  ·rfl
  ·omega
 ·rw [if_neg h]
  by_cases h0 : x.kd = 0
  ·rw [if_pos h0, EX.ok_zero hx h0]
  ·rw [if_neg h0, if_pos (show EX.zero.kd = 0 from rfl)]
end Go.Proofs.Ytodnfniddkcioaa.V
namespace Go.Proofs.Ytodnfniddkcioaa.V
open Go Go.RowKit Go.Proofs.Ytodnfniddkcioaa.Ab Go.Proofs.Ytodnfniddkcioaa.Fn
set_option linter.unusedVariables false
set_option linter.unusedSimpArgs false
def EX.fin (x : EX) : Prop := x = EX.zero ∨ (x.kd = 1 ∧ 2 ^ 127 ≤ x.V ∧ x.V < 2 ^ 128 ∧ -1073741824 ≤ x.sc ∧ x.sc ≤ 1073741824 ∧ x.R = false)
theorem EX.fin.num {x : EX} (h : x.fin) : x.num := h.elim .inl (fun h => .inr ⟨h.1, h.2.1, h.2.2.1, by omega, by omega⟩)
theorem decN_fin {n x : Nat} (h8 : 8 ≤ n) (hn : n ≤ 64) (hx : x < 2 ^ n) (h : x ≠ 2 ^ (n - 1)) : (decN n x).ex.fin := by
 have hk := decN_kd h
 have hnum := decN_num h8 hn hx h
 rcases NM.cases (decN_ok h8 hn hx) with e | e | ⟨h1, h2, h3, h4, h5⟩
 ·rcases hnum with h | h
  ·exact .inl h
  ·rw [e] at h; exact absurd h.1 (by decide)
 ·rw [e] at hk; exact absurd rfl hk
 ·rcases hnum with h | h
  ·exact .inl h
  ·exact .inr ⟨h.1, h.2.1, h.2.2.1, h4, h5, rfl⟩
theorem val_zero (e : Int) : EX.zero.val e = 0 := by
 unfold EX.val EX.zero
 simp
theorem val_step {x : EX} {m e : Int} (h1 : e ≤ m) (h2 : m ≤ x.sc) : x.val e = x.val m * 2 ^ (m - e).toNat := by
 unfold EX.val
 rw [show (x.sc - e).toNat = (x.sc - m).toNat + (m - e).toNat by omega, Nat.pow_add, ← Nat.mul_assoc, pow_cast]
 generalize x.V * 2 ^ (x.sc - m).toNat = a
 generalize 2 ^ (m - e).toNat = b
 cases x.ng
 ·simp
 ·simp [Int.neg_mul]
theorem fin_val {x : EX} (hx : x.fin) (kx : x.kd = 1) {e : Int} (h : e ≤ x.sc) : intX (x.val e) (e - 127) = x := by
 rcases hx with rfl | ⟨h1, h2, h3, h4, h5, h6⟩
 ·exact absurd kx (by decide)
 ·unfold EX.val
  rw [intX_nat, natX_shift]
  have hbl : bl x.V = 128 := bl_unique (by decide) h2 h3
  have hV : ¬ x.V = 0 := fun h0 => by rw [h0] at hbl; exact absurd hbl (by decide)
  have e1 : mkV x.V = x.V := by rw [mkV_ge128 (by omega), hbl, Nat.sub_self, Nat.pow_zero, Nat.div_one]
  have e2 : mkR x.V false = false := by unfold mkR; rw [hbl, Nat.sub_self, Nat.pow_zero, Nat.mod_one]; rfl
  unfold natX
  rw [if_neg hV, e1, e2, hbl, show e - 127 + ((x.sc - e).toNat : Int) + ((128 : Nat) : Int) - 1 = x.sc by omega, heldI_in (by omega) (by omega)]
  exact EX.ext' h1.symm rfl rfl rfl h6.symm
theorem sumX_at {x y : EX} (hx : x.fin) (hy : y.fin) {e : Int} (ex : x.kd = 1 → e ≤ x.sc) (ey : y.kd = 1 → e ≤ y.sc) : sumX x y = intX (x.val e + y.val e) (e - 127) := by
 have hx' := hx
 have hy' := hy
 rcases hx with h | ⟨h1, h2, h3, h4, h5, h6⟩
 ·subst h
  rw [val_zero, Int.zero_add]
  rcases hy with h | ⟨k1, k2, k3, k4, k5, k6⟩
  ·subst h
   rw [val_zero]
   rfl
  ·rw [fin_val hy' k1 (ey k1)]
   exact sumX_z1 (by rw [k1]; decide) rfl
 ·rcases hy with h | ⟨k1, k2, k3, k4, k5, k6⟩
  ·subst h
   rw [val_zero, Int.add_zero, fin_val hx' h1 (ex h1)]
   exact sumX_zero_r (hx'.num.ok)
  ·have ex := ex h1
   have ey := ey k1
   unfold sumX
   rw [if_neg (by omega), if_neg (by omega), if_neg (by omega)]
   have m0 : e ≤ min x.sc y.sc := by omega
   rw [val_step m0 (show min x.sc y.sc ≤ x.sc by omega), val_step m0 (show min x.sc y.sc ≤ y.sc by omega), ← Int.add_mul, intX_shift]
   congr 1
   omega
theorem intX_sg (z e : Int) : (intX z e).sg = if z < 0 then -1 else if z = 0 then 0 else 1 := by
 unfold intX natX EX.sg
 by_cases h : z = 0
 ·subst h; rfl
 ·rw [if_neg (show ¬ z.natAbs = 0 by omega)]
  simp only [if_true, decide_eq_true_eq, if_neg h]
theorem intX_mono {z w e : Int} (h : z ≤ w) (e0 : -1099511627776 ≤ e) (e1 : e + bl z.natAbs ≤ 1099511627776) (e2 : e + bl w.natAbs ≤ 1099511627776) : (intX z e).le (intX w e) := by
 have s1 := intX_sg z e
 have s2 := intX_sg w e
 have same : ∀ (g : Bool) (m : Nat), 0 < m → (natX g m e false).sc = (natX false m e false).sc ∧ (natX g m e false).V = (natX false m e false).V ∧ (natX g m e false).R = (natX false m e false).R := by
  intro g m hm
  unfold natX
  rw [if_neg (by omega), if_neg (by omega)]
  exact ⟨rfl, rfl, rfl⟩
 rcases Int.lt_trichotomy z 0 with a | a | a
 ·rw [if_pos a] at s1
  by_cases b : w < 0
  ·rw [if_pos b] at s2
   refine .inr ⟨by rw [s1, s2], fun h => by rw [s1] at h; exact absurd h (by decide), fun _ => ?_⟩
   have := natX_lm (a := w.natAbs) (b := z.natAbs) (e := e) (by omega) (by omega) e0 e1
   obtain ⟨c1, c2, c3⟩ := same (decide (z < 0)) z.natAbs (by omega)
   obtain ⟨d1, d2, d3⟩ := same (decide (w < 0)) w.natAbs (by omega)
   unfold intX
   rw [c1, c2, c3, d1, d2, d3]
   exact this
  ·rw [if_neg b] at s2
   refine .inl ?_
   rw [s1, s2]
   split <;> decide
 ·rw [if_neg (by omega), if_pos a] at s1
  by_cases b : w = 0
  ·rw [if_neg (by omega), if_pos b] at s2
   rw [a, b]
   exact EX.le_refl _
  ·rw [if_neg (by omega), if_neg b] at s2
   refine .inl ?_
   rw [s1, s2]
   decide
 ·rw [if_neg (by omega), if_neg (by omega)] at s1
  rw [if_neg (by omega), if_neg (by omega)] at s2
  refine .inr ⟨by rw [s1, s2], fun _ => ?_, fun h => by rw [s1] at h; exact absurd h (by decide)⟩
  have := natX_lm (a := z.natAbs) (b := w.natAbs) (e := e) (by omega) (by omega) e0 e2
  obtain ⟨c1, c2, c3⟩ := same (decide (z < 0)) z.natAbs (by omega)
  obtain ⟨d1, d2, d3⟩ := same (decide (w < 0)) w.natAbs (by omega)
  unfold intX
  rw [c1, c2, c3, d1, d2, d3]
  exact this
theorem mag_le {s t e : Int} {V U : Nat} {R Q : Bool} (h : lmE s V R t U Q) (hV : V < 2 ^ 128) (hU : 2 ^ 127 ≤ U) (es : e ≤ s) (et : e ≤ t) : V * 2 ^ (s - e).toNat ≤ U * 2 ^ (t - e).toNat := by
 rcases h with h | ⟨h, h2⟩
 ·obtain ⟨d, hd⟩ : ∃ d, (t - e).toNat = 1 + d + (s - e).toNat := ⟨(t - e).toNat - (s - e).toNat - 1, by omega⟩
  rw [hd, Nat.pow_add, ← Nat.mul_assoc]
  refine Nat.mul_le_mul_right _ ?_
  rw [Nat.pow_add, ← Nat.mul_assoc]
  refine Nat.le_trans (Nat.le_of_lt hV) (Nat.le_trans ?_ (Nat.le_mul_of_pos_right _ (two_pos d)))
  have : (2 : Nat) ^ 128 = 2 ^ 127 * 2 ^ 1 := by decide
  rw [this]
  exact Nat.mul_le_mul_right _ hU
 ·subst h
  refine Nat.mul_le_mul_right _ ?_
  rcases h2 with h2 | ⟨h2, -⟩
  ·exact Nat.le_of_lt h2
  ·exact Nat.le_of_eq h2
theorem val_le {x y : EX} (hx : x.fin) (hy : y.fin) {e : Int} (ex : x.kd = 1 → e ≤ x.sc) (ey : y.kd = 1 → e ≤ y.sc) (h : x.le y) : x.val e ≤ y.val e := by
 have fact : ∀ z : EX, z.fin → (z.sg = 0 → z.val e = 0) ∧ (z.sg = 1 → z.kd = 1 ∧ 2 ^ 127 ≤ z.V ∧ z.V < 2 ^ 128 ∧ z.val e = ((z.V * 2 ^ (z.sc - e).toNat : Nat) : Int)) ∧ (z.sg = -1 → z.kd = 1 ∧ 2 ^ 127 ≤ z.V ∧ z.V < 2 ^ 128 ∧ z.val e = -((z.V * 2 ^ (z.sc - e).toNat : Nat) : Int)) := by
  intro z hz
  rcases hz with rfl | ⟨h1, h2, h3, h4, h5, h6⟩
  ·exact ⟨fun _ => val_zero e, fun h => absurd h (by decide), fun h => absurd h (by decide)⟩
  ·unfold EX.sg EX.val
   rw [if_pos h1]
   cases z.ng
   ·exact ⟨fun h => absurd h (by decide), fun _ => ⟨h1, h2, h3, rfl⟩, fun h => absurd h (by decide)⟩
   ·exact ⟨fun h => absurd h (by decide), fun h => absurd h (by decide), fun _ => ⟨h1, h2, h3, rfl⟩⟩
 obtain ⟨x0, x1, x2⟩ := fact x hx
 obtain ⟨y0, y1, y2⟩ := fact y hy
 rcases EX.sg_cases x with a | a | a
 ·rw [x0 a]
  rcases EX.sg_cases y with b | b | b
  ·rw [y0 b]; exact Int.le_refl _
  ·rw [(y1 b).2.2.2]; exact Int.natCast_nonneg _
  ·rcases h with h | ⟨h, -⟩ <;> omega
 ·obtain ⟨p1, p2, p3, p4⟩ := x1 a
  rcases EX.sg_cases y with b | b | b
  ·rcases h with h | ⟨h, -⟩ <;> omega
  ·obtain ⟨q1, q2, q3, q4⟩ := y1 b
   rcases h with h | ⟨-, h, -⟩
   ·omega
   ·rw [p4, q4]
    exact Int.ofNat_le.2 (mag_le (h a) p3 q2 (ex p1) (ey q1))
  ·rcases h with h | ⟨h, -⟩ <;> omega
 ·obtain ⟨p1, p2, p3, p4⟩ := x2 a
  rcases EX.sg_cases y with b | b | b
  ·rw [p4, y0 b]
   have := Int.natCast_nonneg (x.V * 2 ^ (x.sc - e).toNat)
   omega
  ·rw [p4, (y1 b).2.2.2]
   have h1 := Int.natCast_nonneg (x.V * 2 ^ (x.sc - e).toNat)
   have h2 := Int.natCast_nonneg (y.V * 2 ^ (y.sc - e).toNat)
   omega
  ·obtain ⟨q1, q2, q3, q4⟩ := y2 b
   rcases h with h | ⟨-, -, h⟩
   ·omega
   ·rw [p4, q4]
    exact Int.neg_le_neg (Int.ofNat_le.2 (mag_le (h a) q3 p2 (ey q1) (ex p1)))
theorem val_abs {x : EX} (hx : x.fin) {e : Int} {N : Nat} (h : (x.sc - e).toNat ≤ N) : (x.val e).natAbs < 2 ^ (128 + N) := by
 rcases hx with rfl | ⟨h1, h2, h3, h4, h5, h6⟩
 ·rw [val_zero]; exact two_pos _
 ·have : (x.val e).natAbs = x.V * 2 ^ (x.sc - e).toNat := by
   unfold EX.val
   cases x.ng
   ·exact Int.natAbs_natCast _
   ·simp only [if_true]
    rw [Int.natAbs_neg, Int.natAbs_natCast]
  rw [this, Nat.pow_add]
  exact Nat.lt_of_lt_of_le (Nat.mul_lt_mul_of_pos_right h3 (two_pos _)) (Nat.mul_le_mul_left _ (pow_le h))
theorem sum_bl {z w : Int} {M : Nat} (h1 : z.natAbs < 2 ^ M) (h2 : w.natAbs < 2 ^ M) : bl (z + w).natAbs ≤ M + 1 := by
 refine bl_le_of_lt ?_
 rw [Nat.pow_succ]
 omega
theorem sumX_mono {x y z : EX} (hx : x.fin) (hy : y.fin) (hz : z.fin) (h : y.le z) : (sumX x y).le (sumX x z) := by
 obtain ⟨e, he⟩ : ∃ e : Int, e = -1073741824 := ⟨_, rfl⟩
 obtain ⟨N, hN⟩ : ∃ N : Nat, N = 2147483648 := ⟨_, rfl⟩
 have lo : ∀ w : EX, w.fin → (w.kd = 1 → e ≤ w.sc) ∧ (w.sc - e).toNat ≤ N := by
  intro w hw
  rcases hw with rfl | ⟨h1, h2, h3, h4, h5, h6⟩
  ·refine ⟨fun h => absurd h (by decide), ?_⟩
   show ((0 : Int) - e).toNat ≤ N
   omega
  ·exact ⟨fun _ => by omega, by omega⟩
 obtain ⟨x1, x2⟩ := lo x hx
 obtain ⟨y1, y2⟩ := lo y hy
 obtain ⟨z1, z2⟩ := lo z hz
 rw [sumX_at hx hy x1 y1, sumX_at hx hz x1 z1]
 have b1 := sum_bl (val_abs hx x2) (val_abs hy y2)
 have b2 := sum_bl (val_abs hx x2) (val_abs hz z2)
 have hv := val_le hy hz y1 z1 h
 exact intX_mono (Int.add_le_add_left hv _) (by omega) (by omega) (by omega)
theorem sumX_num {x y : EX} (hx : x.fin) (hy : y.fin) : (sumX x y).num := by
 refine EX.ok_num (sumX_ok hx.num.ok hy.num.ok) ?_
 have h : ¬ (x.kd = 2 ∨ y.kd = 2) := by
  rcases hx with rfl | hx <;> rcases hy with rfl | hy
  ·decide
  ·rw [hy.1]; decide
  ·rw [hx.1]; decide
  ·rw [hx.1, hy.1]; decide
 unfold sumX
 rw [if_neg h]
 split
 ·omega
 ·split
  ·omega
  ·unfold intX natX
   split
   ·decide
   ·show (1 : Int) ≠ 2; decide
theorem addN_mono {n x y z : Nat} (h8 : 8 ≤ n) (hn : n ≤ 64) (hx : x < 2 ^ n) (hy : y < 2 ^ n) (hz : z < 2 ^ n) (nx : x ≠ 2 ^ (n - 1)) (ny : y ≠ 2 ^ (n - 1)) (nz : z ≠ 2 ^ (n - 1)) (h : rkN n y ≤ rkN n z) : rkN n (addN n x y) ≤ rkN n (addN n x z) := by
 have fx := decN_fin h8 hn hx nx
 have fy := decN_fin h8 hn hy ny
 have fz := decN_fin h8 hn hz nz
 exact EX.rnd_mono h8 hn (sumX_num fx fy) (sumX_num fx fz) (sumX_mono fx fy fz (decN_le h8 hn hy hz ny nz h))
end Go.Proofs.Ytodnfniddkcioaa.V
namespace Go.Proofs.Ytodnfniddkcioaa.Pure
open Go Go.RowKit Go.Proofs.Ytodnfniddkcioaa.Ab Go.Proofs.Ytodnfniddkcioaa.Fn Go.Proofs.Ytodnfniddkcioaa.V
set_option linter.unusedSimpArgs false
theorem SumRises : vernierlaw09_SumRises.Pure := by
 intro n a b c w0 w1 w2 w3
 obtain ⟨a, rfl, ha⟩ := u64_nat w1
 obtain ⟨b, rfl, hb⟩ := u64_nat w2
 obtain ⟨c, rfl, hc⟩ := u64_nat w3
 refine Ev.rounds (g := fun k => vernierlaw09_SumRises.f k n (a : Int) (b : Int) (c : Int)) ?_
 unfold vernierlaw09_SumRises.f
 refine Ev.bind up09 (Ev.bind (evn (ref_Is_eq _)) ?_)
 by_cases hn : isW n = true
 ·obtain ⟨n, rfl, _⟩ := isW_nat hn
  obtain ⟨b64, b8⟩ := pow64 hn
  have e1 : wrap64 ((n : Int) - 1) = ((n - 1 : Nat) : Int) := by rw [w64 (by omega) (by omega)]; omega
  have hx := Nat.mod_lt a (two_pos n)
  have hy := Nat.mod_lt b (two_pos n)
  have hz := Nat.mod_lt c (two_pos n)
  have h2n : 2 ^ n ≤ 18446744073709551616 := by rw [← p64]; exact pow_le b64
  rw [hn, e1]
  simp only [if_true]
  refine Ev.bind (ref_Power_eq (by omega)) (Ev.bind (ref_Fold_eq hn ha) ?_)
  have stop : Ev (fun k => vernierlaw09_SumRises.j0 k (n : Int) (a : Int) (b : Int) (c : Int) true true) true := by
   refine evs ?_
   simp only [vernierlaw09_SumRises.j0, if_true]
   exact Ev.now _
  by_cases c1 : a % 2 ^ n = 2 ^ (n - 1)
  ·simp only [if_pos (show ((a % 2 ^ n : Nat) : Int) = ((2 ^ (n - 1) : Nat) : Int) by rw [c1])]
   exact stop
  ·simp only [if_neg (show ¬ ((a % 2 ^ n : Nat) : Int) = ((2 ^ (n - 1) : Nat) : Int) from fun h => c1 (Int.ofNat.inj h))]
   refine Ev.bind (ref_Fold_eq hn hb) ?_
   by_cases c2 : b % 2 ^ n = 2 ^ (n - 1)
   ·simp only [if_pos (show ((b % 2 ^ n : Nat) : Int) = ((2 ^ (n - 1) : Nat) : Int) by rw [c2])]
    exact stop
   ·simp only [if_neg (show ¬ ((b % 2 ^ n : Nat) : Int) = ((2 ^ (n - 1) : Nat) : Int) from fun h => c2 (Int.ofNat.inj h))]
    refine Ev.bind (ref_Fold_eq hn hc) ?_
    by_cases c3 : c % 2 ^ n = 2 ^ (n - 1)
    ·rw [show (((c % 2 ^ n : Nat) : Int) == ((2 ^ (n - 1) : Nat) : Int)) = true by rw [c3]; exact beq_self_eq_true _]
     exact stop
    ·rw [show (((c % 2 ^ n : Nat) : Int) == ((2 ^ (n - 1) : Nat) : Int)) = false by rw [beq_eq_false_iff_ne]; exact fun h => c3 (Int.ofNat.inj h)]
     refine evs ?_
     simp only [vernierlaw09_SumRises.j0, Bool.false_eq_true, if_false]
     have hp := addN_lt b8 b64 hx hy
     have hq := addN_lt b8 b64 hx hz
     refine Ev.bind (sum_Add_eq hn ha hb) (Ev.bind (sum_Add_eq hn ha hc) (Ev.bind (ref08_Cmp_eq hn hb hc) (Ev.bind (ref08_Cmp_eq hn (a := addN n (a % 2 ^ n) (b % 2 ^ n)) (b := addN n (a % 2 ^ n) (c % 2 ^ n)) (by omega) (by omega)) ?_)))
     rw [Nat.mod_eq_of_lt hp, Nat.mod_eq_of_lt hq]
     have m1 := addN_mono b8 b64 hx hy hz c1 c2 c3
     have m2 := addN_mono b8 b64 hx hz hy c1 c3 c2
     generalize rkN n (b % 2 ^ n) = rb at *
     generalize rkN n (c % 2 ^ n) = rc at *
     generalize rkN n (addN n (a % 2 ^ n) (b % 2 ^ n)) = sb at *
     generalize rkN n (addN n (a % 2 ^ n) (c % 2 ^ n)) = sc at *
     simp only [if_true, Option.isNone_none, cmpI_pos, cmpI_neg, cmpI_le, cmpI_ge]
     refine evn ?_
     by_cases k1 : rc < rb
     ·rw [if_pos k1, if_neg (by omega), decide_eq_true (m2 (by omega))]
     ·rw [if_neg k1, if_pos (m1 (by omega))]
      by_cases k2 : rb < rc
      ·rw [if_pos k2]
      ·rw [if_neg k2, decide_eq_true (m2 (by omega))]
 ·have hn : isW n = false := by simpa using hn
  rw [hn]
  exact Ev.now _
end Go.Proofs.Ytodnfniddkcioaa.Pure
