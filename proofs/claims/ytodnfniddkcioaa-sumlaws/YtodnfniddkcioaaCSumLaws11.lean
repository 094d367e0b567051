-- Written by a program of this session out of its own texts (wip/tools/link.py).
import Derived.Below
import Derived.ChangeKeysEq
import Derived.Deep.MidRow
import Derived.Deep.RegionHeld3
import Derived.Great.BuildSlice
import Derived.IntWalk
import Derived.KernelRfl
import Derived.LaidEql
import Derived.Laws.Bits64
import Derived.Laws.BitsLemmas
import Derived.Laws.BytesArg
import Derived.Laws.IdiomCopy
import Derived.Laws.OwnMore
import Derived.Laws.Rows
import Derived.Laws.Slices
import Derived.Laws.Strings
import Derived.Laws.StructEq
import Derived.Laws.Tables
import Derived.Lib.BitFns
import Derived.Lib.Mul64
import Derived.Lib.Slices
import Derived.Lib.Small
import Derived.Lib.Strings
import Derived.Lib.Walk
import Derived.Maps.AppendAt
import Derived.OrdersHeld
import Derived.RowKit
import Derived.Shelf.Spec.BitsCarry
import Derived.Test.YtodnfniddkcioaaProg
import Derived.Test.YtodnfniddkcioaaCSumLaws8
import Derived.Test.YtodnfniddkcioaaCSumLaws9
import Derived.Test.YtodnfniddkcioaaCSumLaws10
namespace Go.Proofs.Ytodnfniddkcioaa.V
open Go Go.RowKit Go.Proofs.Ytodnfniddkcioaa.Ab Go.Proofs.Ytodnfniddkcioaa.Fn
set_option linter.unusedVariables false
set_option linter.unusedSimpArgs false
theorem Of_X {x : NM} (h : x.ok) : Ev (fun k => round_Of.f k x.kd x.ng x.sc (x.fr : Int)) (x.ex.kd, x.ex.ng, x.ex.sc, TH x.ex.V, TL x.ex.V, x.ex.R, none) := by
 have := round_Of_eq x.kd x.ng x.sc (x.fr : Int) (by have := h.2; omega) (by omega)
 rw [if_pos h.1] at this
 rw [(NM.ex_tup x h).1, (NM.ex_tup x h).2]
 exact this
end Go.Proofs.Ytodnfniddkcioaa.V
namespace Go.Proofs.Ytodnfniddkcioaa.V
open Go Go.RowKit Go.Proofs.Ytodnfniddkcioaa.Ab Go.Proofs.Ytodnfniddkcioaa.Fn
set_option linter.unusedVariables false
set_option linter.unusedSimpArgs false
theorem EX.ok_kd {x : EX} (hx : x.ok) : x.kd = 0 ∨ x.kd = 1 ∨ x.kd = 2 := by
 rcases hx with rfl | rfl | hx
 ·exact .inl rfl
 ·exact .inr (.inr rfl)
 ·exact .inr (.inl hx.1)
theorem sumX_nar {x y : EX} (h : x.kd = 2 ∨ y.kd = 2) : sumX x y = EX.nar := by unfold sumX; rw [if_pos h]
theorem sumX_z1 {x y : EX} (h : ¬ (x.kd = 2 ∨ y.kd = 2)) (h1 : x.kd = 0) : sumX x y = y := by unfold sumX; rw [if_neg h, if_pos h1]
theorem sumX_z2 {x y : EX} (h : ¬ (x.kd = 2 ∨ y.kd = 2)) (h1 : ¬ x.kd = 0) (h2 : y.kd = 0) : sumX x y = x := by unfold sumX; rw [if_neg h, if_neg h1, if_pos h2]
theorem broad_Sum_j0 {x y : EX} (hx : x.ok) (hy : y.ok) : Ev (fun k => broad_Sum.j0 k (decide (x.kd = 2 ∨ y.kd = 2)) x.kd x.ng x.sc (TH x.V) (TL x.V) x.R y.kd y.ng y.sc (TH y.V) (TL y.V) y.R) (sumX x y).tup := by
 refine evs ?_
 simp only [broad_Sum.j0]
 by_cases h : x.kd = 2 ∨ y.kd = 2
 ·simp only [if_pos (decide_eq_true h)]
  rw [sumX_nar h]
  exact Ev.now _
 ·simp only [if_neg (fun h' => h (of_decide_eq_true h') : ¬ decide (x.kd = 2 ∨ y.kd = 2) = true)]
  by_cases a : x.kd = 0
  ·simp only [if_pos a]
   rw [sumX_z1 h a]
   exact Ev.now _
  ·simp only [if_neg a]
   by_cases b : y.kd = 0
   ·simp only [if_pos b]
    rw [sumX_z2 h a b]
    exact Ev.now _
   ·simp only [if_neg b]
    have kx : x.kd = 1 := by have := EX.ok_kd hx; omega
    have ky : y.kd = 1 := by have := EX.ok_kd hy; omega
    by_cases c : x.sc < y.sc
    ·simp only [if_pos c]
     rw [sumX_comm hx hy]
     exact Sum_j1 hy hx ky kx (Int.le_of_lt c)
    ·simp only [if_neg c]
     exact Sum_j1 hx hy kx ky (Int.not_lt.1 c)
theorem broad_Sum_X {x y : EX} (hx : x.ok) (hy : y.ok) : Ev (fun k => broad_Sum.f k x.kd x.ng x.sc (TH x.V) (TL x.V) x.R y.kd y.ng y.sc (TH y.V) (TL y.V) y.R) (sumX x y).tup := by
 have h := broad_Sum_j0 hx hy
 unfold broad_Sum.f
 by_cases a : x.kd = 2
 ·simp only [if_pos a]
  rw [decide_eq_true (Or.inl a)] at h
  exact h
 ·simp only [if_neg a]
  rw [show decide (x.kd = 2 ∨ y.kd = 2) = (y.kd == 2) by rw [Bool.eq_iff_iff]; simp [a]] at h
  exact h
theorem sum_Exact_X {a b : NM} (ha : a.ok) (hb : b.ok) : Ev (fun k => sum_Exact.f k a.kd a.ng a.sc (a.fr : Int) b.kd b.ng b.sc (b.fr : Int)) ((sumX a.ex b.ex).kd, (sumX a.ex b.ex).ng, (sumX a.ex b.ex).sc, TH (sumX a.ex b.ex).V, TL (sumX a.ex b.ex).V, (sumX a.ex b.ex).R, none) := by
 unfold sum_Exact.f
 refine Ev.bind (Of_X ha) ?_
 simp only [Option.isNone_none, if_true]
 refine Ev.bind (Of_X hb) ?_
 simp only [Option.isNone_none, if_true]
 exact Ev.bind (broad_Sum_X (NM.ex_ok ha) (NM.ex_ok hb)) (Ev.now _)
def addN (n x y : Nat) : Nat := (sumX (decN n x).ex (decN n y).ex).rnd n
theorem addN_lt {n x y : Nat} (h8 : 8 ≤ n) (hn : n ≤ 64) (hx : x < 2 ^ n) (hy : y < 2 ^ n) : addN n x y < 2 ^ n := EX.rnd_lt h8 hn (sumX_ok (NM.ex_ok (decN_ok h8 hn hx)) (NM.ex_ok (decN_ok h8 hn hy)))
theorem sum_Add_eq {n a b : Nat} (h : isW (n : Int) = true) (ha : a < 18446744073709551616) (hb : b < 18446744073709551616) : Ev (fun k => sum_Add.f k (n : Int) (a : Int) (b : Int)) (((addN n (a % 2 ^ n) (b % 2 ^ n) : Nat) : Int), none) := by
 obtain ⟨b64, b8⟩ := pow64 h
 have oa := decN_ok b8 b64 (Nat.mod_lt a (two_pos n))
 have ob := decN_ok b8 b64 (Nat.mod_lt b (two_pos n))
 unfold sum_Add.f
 refine Ev.bind (Decode_N h ha) ?_
 simp only [Option.isNone_none, if_true]
 refine Ev.bind (Decode_N h hb) (Ev.bind (sum_Exact_X oa ob) ?_)
 simp only [Option.isNone_none, if_true]
 exact Ev.bind (Round_X h (sumX_ok (NM.ex_ok oa) (NM.ex_ok ob))) (Ev.now _)
theorem sum_Add_no {n : Int} (h : isW n = false) (a b : Int) : Ev (fun k => sum_Add.f k n a b) (0, some 2) := by
 unfold sum_Add.f
 exact Ev.bind (Decode_no h a) (Ev.now _)
end Go.Proofs.Ytodnfniddkcioaa.V
namespace Go.Proofs.Ytodnfniddkcioaa.V
open Go Go.RowKit Go.Proofs.Ytodnfniddkcioaa.Ab
theorem decN_nar (n : Nat) : decN n (2 ^ (n - 1)) = ⟨2, false, 0, 0⟩ := by
 unfold decN
 rw [if_neg (Nat.ne_of_gt (two_pos (n - 1))), if_pos rfl]
theorem decN_kd {n x : Nat} (h : x ≠ 2 ^ (n - 1)) : (decN n x).kd ≠ 2 := by
 unfold decN
 by_cases h0 : x = 0
 ·rw [if_pos h0]; show (0 : Int) ≠ 2; decide
 ·rw [if_neg h0, if_neg h]; show (1 : Int) ≠ 2; decide
end Go.Proofs.Ytodnfniddkcioaa.V
namespace Go.Proofs.Ytodnfniddkcioaa.V
open Go Go.RowKit Go.Proofs.Ytodnfniddkcioaa.Ab Go.Proofs.Ytodnfniddkcioaa.Fn
set_option linter.unusedVariables false
set_option linter.unusedSimpArgs false
theorem sum_Sub_eq {n a b : Nat} (h : isW (n : Int) = true) (ha : a < 18446744073709551616) (hb : b < 18446744073709551616) : Ev (fun k => sum_Sub.f k (n : Int) (a : Int) (b : Int)) (((addN n (a % 2 ^ n) (negP n (b % 2 ^ n)) : Nat) : Int), none) := by
 obtain ⟨b64, b8⟩ := pow64 h
 have g : (18446744073709551616 - b) % 18446744073709551616 % 2 ^ n = negP n (b % 2 ^ n) := negN_mod b64 hb
 have q := sum_Add_eq h ha (Nat.mod_lt (18446744073709551616 - b) (show 0 < 18446744073709551616 by decide))
 rw [g, ← neg_wrap hb] at q
 unfold sum_Sub.f
 exact Ev.bind q (Ev.now _)
theorem up09 : Ev (fun k => vernierlaw09_up.f k) true := by
 unfold vernierlaw09_up.f
 have a := sum_Add_eq (n := 8) (a := 64) (b := 64) (by decide) (by decide) (by decide)
 have b := sum_Sub_eq (n := 8) (a := 1) (b := 127) (by decide) (by decide) (by decide)
 rw [show addN 8 (64 % 2 ^ 8) (64 % 2 ^ 8) = 72 by decide +kernel] at a
 rw [show addN 8 (1 % 2 ^ 8) (negP 8 (127 % 2 ^ 8)) = 129 by decide +kernel] at b
 exact Ev.bind a (Ev.bind b (Ev.now _))
end Go.Proofs.Ytodnfniddkcioaa.V
namespace Go.Proofs.Ytodnfniddkcioaa.V
open Go Go.RowKit Go.Proofs.Ytodnfniddkcioaa.Ab Go.Proofs.Ytodnfniddkcioaa.Fn
set_option linter.unusedVariables false
set_option linter.unusedSimpArgs false
theorem EX.ok_zero {x : EX} (hx : x.ok) (h : x.kd = 0) : x = EX.zero := by
 rcases hx with rfl | rfl | hx
 ·rfl
 ·exact absurd h (by decide)
 ·omega
theorem sumX_zero_r {x : EX} (hx : x.ok) : sumX x EX.zero = x := by
 unfold sumX
 by_cases h : x.kd = 2 ∨ EX.zero.kd = 2
 ·rw [if_pos h]
  have h2 : x.kd = 2 := h.elim id (fun h => absurd h (by decide))
  rcases hx with rfl | rfl | hx
  ·exact absurd h2 (by decide)
  ·rfl
  ·omega
 ·rw [if_neg h]
  by_cases h0 : x.kd = 0
  ·rw [if_pos h0, EX.ok_zero hx h0]
  ·rw [if_neg h0, if_pos (show EX.zero.kd = 0 from rfl)]
theorem EX.neg_kd (x : EX) : x.neg.kd = x.kd := by unfold EX.neg; split <;> rfl
theorem EX.neg_sc (x : EX) : x.neg.sc = x.sc := by unfold EX.neg; split <;> rfl
theorem EX.neg_val {x : EX} (h : x.kd = 1) (e : Int) : x.neg.val e = -(x.val e) := by
 unfold EX.neg
 rw [if_pos h]
 unfold EX.val
 simp only
 cases x.ng <;> simp
theorem intX_neg (z e : Int) : intX (-z) e = (intX z e).neg := by
 unfold intX
 by_cases h : z = 0
 ·subst h; rfl
 ·rw [Int.natAbs_neg, ← natX_neg]
  congr 1
  rw [Bool.eq_iff_iff]
  simp only [decide_eq_true_eq, Bool.not_eq_true', decide_eq_false_iff_not]
  omega
theorem sumX_neg {x y : EX} (hx : x.ok) (hy : y.ok) : sumX x.neg y.neg = (sumX x y).neg := by
 unfold sumX
 rw [EX.neg_kd, EX.neg_kd, EX.neg_sc, EX.neg_sc]
 by_cases h : x.kd = 2 ∨ y.kd = 2
 ·rw [if_pos h, if_pos h]; rfl
 ·rw [if_neg h, if_neg h]
  by_cases a : x.kd = 0
  ·rw [if_pos a, if_pos a]
  ·rw [if_neg a, if_neg a]
   by_cases b : y.kd = 0
   ·rw [if_pos b, if_pos b]
   ·have kx : x.kd = 1 := by have := EX.ok_kd hx; omega
    have ky : y.kd = 1 := by have := EX.ok_kd hy; omega
    rw [if_neg b, if_neg b, EX.neg_val kx, EX.neg_val ky, ← intX_neg]
    congr 1
    omega
theorem sumX_self {x : EX} (hx : x.ok) (h : x.kd ≠ 2) : sumX x x.neg = EX.zero := by
 unfold sumX
 rw [EX.neg_kd, EX.neg_sc, if_neg (by omega)]
 by_cases a : x.kd = 0
 ·rw [if_pos a, EX.ok_zero hx a]; rfl
 ·have kx : x.kd = 1 := by have := EX.ok_kd hx; omega
  rw [if_neg a, if_neg a, EX.neg_val kx, Int.add_right_neg]
  unfold intX
  exact natX_zero _ _ _
theorem NM.neg_ex (x : NM) : x.neg.ex = x.ex.neg := by
 unfold NM.neg EX.neg NM.ex
 by_cases h : x.kd = 1
 ·simp only [if_pos h]
 ·simp only [if_neg h]
theorem addN_comm {n x y : Nat} (h8 : 8 ≤ n) (hn : n ≤ 64) (hx : x < 2 ^ n) (hy : y < 2 ^ n) : addN n x y = addN n y x := by
 unfold addN
 rw [sumX_comm (NM.ex_ok (decN_ok h8 hn hx)) (NM.ex_ok (decN_ok h8 hn hy))]
theorem addN_zero {n x : Nat} (h8 : 8 ≤ n) (hn : n ≤ 64) (hx : x < 2 ^ n) : addN n x 0 = x := by
 have e : (decN n 0).ex = EX.zero := by
  rw [show decN n 0 = ⟨0, false, 0, 0⟩ from rfl]
  unfold NM.ex EX.zero
  simp only [Nat.zero_mul]
 unfold addN
 rw [e, sumX_zero_r (NM.ex_ok (decN_ok h8 hn hx)), dec_rnd h8 hn hx]
theorem addN_nar {n y : Nat} : addN n (2 ^ (n - 1)) y = 2 ^ (n - 1) := by
 unfold addN
 rw [decN_nar, sumX_nar (.inl rfl), EX.rnd_nar]
theorem addN_neg {n x y : Nat} (h8 : 8 ≤ n) (hn : n ≤ 64) (hx : x < 2 ^ n) (hy : y < 2 ^ n) : addN n (negP n x) (negP n y) = negP n (addN n x y) := by
 have ox := NM.ex_ok (decN_ok h8 hn hx)
 have oy := NM.ex_ok (decN_ok h8 hn hy)
 unfold addN
 rw [decN_neg (by omega) hx, decN_neg (by omega) hy, NM.neg_ex, NM.neg_ex, sumX_neg ox oy, EX.rnd_neg h8 hn (sumX_ok ox oy)]
theorem addN_self {n x : Nat} (h8 : 8 ≤ n) (hn : n ≤ 64) (hx : x < 2 ^ n) (h : x ≠ 2 ^ (n - 1)) : addN n x (negP n x) = 0 := by
 have ox := NM.ex_ok (decN_ok h8 hn hx)
 unfold addN
 rw [decN_neg (by omega) hx, NM.neg_ex, sumX_self ox (decN_kd h), EX.rnd_zero]
theorem addN_swap {n x y : Nat} (h8 : 8 ≤ n) (hn : n ≤ 64) (hx : x < 2 ^ n) (hy : y < 2 ^ n) : addN n y (negP n x) = negP n (addN n x (negP n y)) := by
 have hnx := negP_lt hx
 have hny := negP_lt hy
 have := addN_neg h8 hn hx hny
 rw [negP_negP hy] at this
 rw [← this, addN_comm h8 hn hy hnx]
end Go.Proofs.Ytodnfniddkcioaa.V
namespace Go.Proofs.Ytodnfniddkcioaa.Pure
open Go Go.RowKit Go.Proofs.Ytodnfniddkcioaa.Ab Go.Proofs.Ytodnfniddkcioaa.Fn Go.Proofs.Ytodnfniddkcioaa.V
set_option linter.unusedSimpArgs false
theorem SumLaws : vernierlaw09_SumLaws.Pure := by
 intro n a b w0 w1 w2
 obtain ⟨a, rfl, ha⟩ := u64_nat w1
 obtain ⟨b, rfl, hb⟩ := u64_nat w2
 refine Ev.rounds (g := fun k => vernierlaw09_SumLaws.f k n (a : Int) (b : Int)) ?_
 unfold vernierlaw09_SumLaws.f
 refine Ev.bind up09 (Ev.bind (evn (ref_Is_eq _)) ?_)
 by_cases hn : isW n = true
 ·obtain ⟨n, rfl, _⟩ := isW_nat hn
  obtain ⟨b64, b8⟩ := pow64 hn
  have e1 : wrap64 ((n : Int) - 1) = ((n - 1 : Nat) : Int) := by rw [w64 (by omega) (by omega)]; omega
  have h2n : 2 ^ n ≤ 18446744073709551616 := by rw [← p64]; exact pow_le b64
  have hx := Nat.mod_lt a (two_pos n)
  have hy := Nat.mod_lt b (two_pos n)
  have hh := two_halves (n := n) (by omega)
  have hpp := two_pos (n - 1)
  rw [hn, e1]
  clear e1
  have g2 : (18446744073709551616 - a) % 18446744073709551616 % 2 ^ n = negP n (a % 2 ^ n) := negN_mod b64 ha
  have g3 : (18446744073709551616 - b) % 18446744073709551616 % 2 ^ n = negP n (b % 2 ^ n) := negN_mod b64 hb
  have q1 := sum_Add_eq hn ha hb
  have q2 := sum_Add_eq hn hb ha
  have q3 := sum_Add_eq hn ha (show 0 < 18446744073709551616 by decide)
  have q4 := sum_Sub_eq hn ha ha
  have q5 := sum_Add_eq hn (Nat.mod_lt (18446744073709551616 - a) (show 0 < 18446744073709551616 by decide)) (Nat.mod_lt (18446744073709551616 - b) (show 0 < 18446744073709551616 by decide))
  have q6 := sum_Sub_eq hn hb ha
  have q7 := sum_Sub_eq hn ha hb
  rw [Nat.zero_mod, addN_zero b8 b64 hx] at q3
  rw [g2, g3, addN_neg b8 b64 hx hy] at q5
  rw [← neg_wrap ha, ← neg_wrap hb] at q5
  rw [addN_comm b8 b64 hy hx] at q2
  rw [addN_swap b8 b64 hx hy] at q6
  have hpl := addN_lt b8 b64 hx hy
  have hvl := addN_lt b8 b64 hx (negP_lt hy)
  have hnP := ref_Neg_eq hn (x := addN n (a % 2 ^ n) (b % 2 ^ n)) (by omega)
  rw [negN_mod b64 (by omega), Nat.mod_eq_of_lt hpl] at hnP
  have hnV := ref_Neg_eq hn (x := addN n (a % 2 ^ n) (negP n (b % 2 ^ n))) (by omega)
  rw [negN_mod b64 (by omega), Nat.mod_eq_of_lt hvl] at hnV
  refine Ev.bind q1 (Ev.bind q2 ?_)
  simp only [if_true]
  refine Ev.bind q3 (Ev.bind q4 (Ev.bind q5 (Ev.bind q6 (Ev.bind q7 (Ev.bind (ref_Fold_eq hn ha) (Ev.bind (ref_Power_eq (by omega)) ?_))))))
  simp only [Option.isNone_none, if_true]
  refine evs ?_
  simp only [vernierlaw09_SumLaws.j1, Bool.false_eq_true, if_false]
  by_cases c1 : a % 2 ^ n = 2 ^ (n - 1)
  ·simp only [if_pos (show ((a % 2 ^ n : Nat) : Int) = ((2 ^ (n - 1) : Nat) : Int) by rw [c1])]
   have n1 : negP n (2 ^ (n - 1)) = 2 ^ (n - 1) := by unfold negP; rw [if_neg (by omega)]; omega
   rw [c1, addN_nar, addN_nar, addN_nar, n1]
   refine evn ?_
   simp
  ·simp only [if_neg (show ¬ ((a % 2 ^ n : Nat) : Int) = ((2 ^ (n - 1) : Nat) : Int) from fun h => c1 (Int.ofNat.inj h))]
   rw [addN_self b8 b64 hx c1]
   simp only [if_true, if_pos (show ((0 : Nat) : Int) = 0 from rfl)]
   refine Ev.bind hnP ?_
   simp only [if_true]
   exact Ev.bind hnV (evn (by simp))
 ·have hn : isW n = false := by simpa using hn
  refine Ev.bind (sum_Add_no hn _ _) (Ev.bind (sum_Add_no hn _ _) ?_)
  rw [hn]
  exact evs (Ev.now _)
end Go.Proofs.Ytodnfniddkcioaa.Pure
