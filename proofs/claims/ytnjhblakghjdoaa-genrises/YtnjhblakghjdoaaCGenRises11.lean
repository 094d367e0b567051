-- Written by a program of this session out of its own texts (wip/tools/link.py).
import Derived.Below
import Derived.ChangeKeysEq
import Derived.Deep.MidRow
import Derived.Deep.RegionHeld3
import Derived.Great.BuildSlice
import Derived.IntWalk
import Derived.KernelRfl
import Derived.LaidEql
import Derived.Laws.Bits64
import Derived.Laws.BitsLemmas
import Derived.Laws.BytesArg
import Derived.Laws.IdiomCopy
import Derived.Laws.OwnMore
import Derived.Laws.Rows
import Derived.Laws.Slices
import Derived.Laws.Strings
import Derived.Laws.StructEq
import Derived.Laws.Tables
import Derived.Lib.BitFns
import Derived.Lib.Mul64
import Derived.Lib.Slices
import Derived.Lib.Small
import Derived.Lib.Strings
import Derived.Lib.Walk
import Derived.Maps.AppendAt
import Derived.OrdersHeld
import Derived.RowKit
import Derived.Shelf.Spec.BitsCarry
import Derived.Test.YtnjhblakghjdoaaProg
import Derived.Test.YtnjhblakghjdoaaCGenRises7
import Derived.Test.YtnjhblakghjdoaaCGenRises8
import Derived.Test.YtnjhblakghjdoaaCGenRises9
import Derived.Test.YtnjhblakghjdoaaCGenRises10
namespace Go.Proofs.Ytnjhblakghjdoaa.V
open Go Go.RowKit Go.Proofs.Ytnjhblakghjdoaa.Ab Go.Proofs.Ytnjhblakghjdoaa.Fn
set_option linter.unusedVariables false
set_option linter.unusedSimpArgs false
theorem Of_X {x : NM} (h : x.ok) : Ev (fun k => round_Of.f k x.kd x.ng x.sc (x.fr : Int)) (x.ex.kd, x.ex.ng, x.ex.sc, TH x.ex.V, TL x.ex.V, x.ex.R, none) := by
 have := round_Of_eq x.kd x.ng x.sc (x.fr : Int) (by have := h.2; omega) (by omega)
 rw [if_pos h.1] at this
 rw [(NM.ex_tup x h).1, (NM.ex_tup x h).2]
 exact this
end Go.Proofs.Ytnjhblakghjdoaa.V
namespace Go.Proofs.Ytnjhblakghjdoaa.V
open Go Go.RowKit Go.Proofs.Ytnjhblakghjdoaa.Ab Go.Proofs.Ytnjhblakghjdoaa.Fn
set_option linter.unusedVariables false
set_option linter.unusedSimpArgs false
def convN (n m x : Nat) : Nat := (decN n x).ex.rnd m
theorem convN_lt {n m x : Nat} (h8 : 8 ≤ n) (hn : n ≤ 64) (g8 : 8 ≤ m) (hm : m ≤ 64) (hx : x < 2 ^ n) : convN n m x < 2 ^ m := EX.rnd_lt g8 hm (NM.ex_ok (decN_ok h8 hn hx))
theorem rkN_least {n x : Nat} (h1 : 1 ≤ n) (hx : x < 2 ^ n) : -((2 ^ (n - 1) : Nat) : Int) ≤ rkN n x := by
 have h2 := two_halves h1
 have := two_pos (n - 1)
 unfold rkN; split <;> omega
theorem rkN_nar {n : Nat} (h1 : 1 ≤ n) : rkN n (2 ^ (n - 1)) = -((2 ^ (n - 1) : Nat) : Int) := by
 have h2 := two_halves h1
 unfold rkN; rw [if_pos (Nat.le_refl _)]; omega
theorem convN_nar {n m : Nat} (h8 : 8 ≤ n) (g8 : 8 ≤ m) : convN n m (2 ^ (n - 1)) = 2 ^ (m - 1) := by
 unfold convN decN
 rw [if_neg (by have := two_pos (n - 1); omega), if_pos rfl]
 show EX.rnd m ⟨2, false, 0, 0 * 18446744073709551616, false⟩ = _
 exact EX.rnd_nar m
theorem convN_mono {n m x y : Nat} (h8 : 8 ≤ n) (hn : n ≤ 64) (g8 : 8 ≤ m) (hm : m ≤ 64) (hx : x < 2 ^ n) (hy : y < 2 ^ n) (h : rkN n x ≤ rkN n y) : rkN m (convN n m x) ≤ rkN m (convN n m y) := by
 by_cases cx : x = 2 ^ (n - 1)
 ·rw [cx, convN_nar h8 g8, rkN_nar (by omega)]
  exact rkN_least (by omega) (convN_lt h8 hn g8 hm hy)
 ·by_cases cy : y = 2 ^ (n - 1)
  ·rw [cy, rkN_nar (by omega)] at h
   have := rkN_least (by omega) hx
   exact absurd (rkN_inj hx (Nat.pow_lt_pow_right (by decide) (by omega)) ((rkN_nar (n := n) (by omega)) ▸ (by omega))) cx
  ·exact EX.rnd_mono g8 hm (decN_num h8 hn hx cx) (decN_num h8 hn hy cy) (decN_le h8 hn hx hy cx cy h)
theorem gen_Convert_eq {n m p : Nat} (hn : isW (n : Int) = true) (hm : isW (m : Int) = true) (hp : p < 18446744073709551616) : Ev (fun k => gen_Convert.f k (n : Int) (m : Int) (p : Int)) (((convN n m (p % 2 ^ n) : Nat) : Int), none) := by
 obtain ⟨b64, b8⟩ := pow64 hn
 have oa := decN_ok b8 b64 (Nat.mod_lt p (two_pos n))
 unfold gen_Convert.f
 refine Ev.bind (evn (shape_Of_eq hm)) ?_
 simp only [Option.isNone_none, if_true]
 refine Ev.bind (Decode_N hn hp) ?_
 simp only [Option.isNone_none, if_true]
 exact Ev.bind (Of_X oa) (Ev.bind (Round_X hm (NM.ex_ok oa)) (Ev.now _))
theorem gen_Convert_no {n m : Int} {p : Nat} (hp : p < 18446744073709551616) (h : ¬ (isW n = true ∧ isW m = true)) : Ev (fun k => gen_Convert.f k n m (p : Int)) (0, some 2) := by
 unfold gen_Convert.f
 by_cases hm : isW m = true
 ·obtain ⟨m, rfl, _⟩ := isW_nat hm
  have hn : isW n = false := by
   cases hh : isW n
   ·rfl
   ·exact absurd ⟨hh, hm⟩ h
  refine Ev.bind (evn (shape_Of_eq hm)) ?_
  simp only [Option.isNone_none, if_true]
  exact Ev.bind (Decode_no hn _) (Ev.now _)
 ·have hm : isW m = false := by simpa using hm
  exact Ev.bind (evn (shape_Of_no hm)) (Ev.now _)
end Go.Proofs.Ytnjhblakghjdoaa.V
namespace Go.Proofs.Ytnjhblakghjdoaa.V
open Go Go.RowKit Go.Proofs.Ytnjhblakghjdoaa.Ab Go.Proofs.Ytnjhblakghjdoaa.Fn
set_option linter.unusedVariables false
set_option linter.unusedSimpArgs false
theorem EX.ok_kd {x : EX} (hx : x.ok) : x.kd = 0 ∨ x.kd = 1 ∨ x.kd = 2 := by
 rcases hx with rfl | rfl | hx
 ·exact .inl rfl
 ·exact .inr (.inr rfl)
 ·exact .inr (.inl hx.1)
theorem sumX_nar {x y : EX} (h : x.kd = 2 ∨ y.kd = 2) : sumX x y = EX.nar := by unfold sumX; rw [if_pos h]
theorem sumX_z1 {x y : EX} (h : ¬ (x.kd = 2 ∨ y.kd = 2)) (h1 : x.kd = 0) : sumX x y = y := by unfold sumX; rw [if_neg h, if_pos h1]
theorem sumX_z2 {x y : EX} (h : ¬ (x.kd = 2 ∨ y.kd = 2)) (h1 : ¬ x.kd = 0) (h2 : y.kd = 0) : sumX x y = x := by unfold sumX; rw [if_neg h, if_neg h1, if_pos h2]
theorem broad_Sum_j0 {x y : EX} (hx : x.ok) (hy : y.ok) : Ev (fun k => broad_Sum.j0 k (decide (x.kd = 2 ∨ y.kd = 2)) x.kd x.ng x.sc (TH x.V) (TL x.V) x.R y.kd y.ng y.sc (TH y.V) (TL y.V) y.R) (sumX x y).tup := by
 refine evs ?_
 simp only [broad_Sum.j0]
 by_cases h : x.kd = 2 ∨ y.kd = 2
 ·simp only [if_pos (decide_eq_true h)]
  rw [sumX_nar h]
  exact Ev.now _
 ·simp only [if_neg (fun h' => h (of_decide_eq_true h') : ¬ decide (x.kd = 2 ∨ y.kd = 2) = true)]
  by_cases a : x.kd = 0
  ·simp only [if_pos a]
   rw [sumX_z1 h a]
   exact Ev.now _
  ·simp only [if_neg a]
   by_cases b : y.kd = 0
   ·simp only [if_pos b]
    rw [sumX_z2 h a b]
    exact Ev.now _
   ·simp only [if_neg b]
    have kx : x.kd = 1 := by have := EX.ok_kd hx; omega
    have ky : y.kd = 1 := by have := EX.ok_kd hy; omega
    by_cases c : x.sc < y.sc
    ·simp only [if_pos c]
     rw [sumX_comm hx hy]
     exact Sum_j1 hy hx ky kx (Int.le_of_lt c)
    ·simp only [if_neg c]
     exact Sum_j1 hx hy kx ky (Int.not_lt.1 c)
theorem broad_Sum_X {x y : EX} (hx : x.ok) (hy : y.ok) : Ev (fun k => broad_Sum.f k x.kd x.ng x.sc (TH x.V) (TL x.V) x.R y.kd y.ng y.sc (TH y.V) (TL y.V) y.R) (sumX x y).tup := by
 have h := broad_Sum_j0 hx hy
 unfold broad_Sum.f
 by_cases a : x.kd = 2
 ·simp only [if_pos a]
  rw [decide_eq_true (Or.inl a)] at h
  exact h
 ·simp only [if_neg a]
  rw [show decide (x.kd = 2 ∨ y.kd = 2) = (y.kd == 2) by rw [Bool.eq_iff_iff]; simp [a]] at h
  exact h
theorem sum_Exact_X {a b : NM} (ha : a.ok) (hb : b.ok) : Ev (fun k => sum_Exact.f k a.kd a.ng a.sc (a.fr : Int) b.kd b.ng b.sc (b.fr : Int)) ((sumX a.ex b.ex).kd, (sumX a.ex b.ex).ng, (sumX a.ex b.ex).sc, TH (sumX a.ex b.ex).V, TL (sumX a.ex b.ex).V, (sumX a.ex b.ex).R, none) := by
 unfold sum_Exact.f
 refine Ev.bind (Of_X ha) ?_
 simp only [Option.isNone_none, if_true]
 refine Ev.bind (Of_X hb) ?_
 simp only [Option.isNone_none, if_true]
 exact Ev.bind (broad_Sum_X (NM.ex_ok ha) (NM.ex_ok hb)) (Ev.now _)
def addN (n x y : Nat) : Nat := (sumX (decN n x).ex (decN n y).ex).rnd n
theorem addN_lt {n x y : Nat} (h8 : 8 ≤ n) (hn : n ≤ 64) (hx : x < 2 ^ n) (hy : y < 2 ^ n) : addN n x y < 2 ^ n := EX.rnd_lt h8 hn (sumX_ok (NM.ex_ok (decN_ok h8 hn hx)) (NM.ex_ok (decN_ok h8 hn hy)))
theorem sum_Add_eq {n a b : Nat} (h : isW (n : Int) = true) (ha : a < 18446744073709551616) (hb : b < 18446744073709551616) : Ev (fun k => sum_Add.f k (n : Int) (a : Int) (b : Int)) (((addN n (a % 2 ^ n) (b % 2 ^ n) : Nat) : Int), none) := by
 obtain ⟨b64, b8⟩ := pow64 h
 have oa := decN_ok b8 b64 (Nat.mod_lt a (two_pos n))
 have ob := decN_ok b8 b64 (Nat.mod_lt b (two_pos n))
 unfold sum_Add.f
 refine Ev.bind (Decode_N h ha) ?_
 simp only [Option.isNone_none, if_true]
 refine Ev.bind (Decode_N h hb) (Ev.bind (sum_Exact_X oa ob) ?_)
 simp only [Option.isNone_none, if_true]
 exact Ev.bind (Round_X h (sumX_ok (NM.ex_ok oa) (NM.ex_ok ob))) (Ev.now _)
end Go.Proofs.Ytnjhblakghjdoaa.V
namespace Go.Proofs.Ytnjhblakghjdoaa.V
open Go Go.RowKit Go.Proofs.Ytnjhblakghjdoaa.Ab Go.Proofs.Ytnjhblakghjdoaa.Fn
set_option linter.unusedVariables false
set_option linter.unusedSimpArgs false
theorem c8 {x : Nat} (h : x < 2 ^ 8) : ((x : Int) % 256) = x := by have : (2 : Nat) ^ 8 = 256 := rfl; omega
theorem c16 {x : Nat} (h : x < 2 ^ 16) : IntKind.u16.wrap (x : Int) = x := by
 have e : (2 : Nat) ^ 16 = 65536 := rfl
 have : IntKind.u16.wrap (x : Int) = (x : Int) % 65536 := by unfold IntKind.wrap; simp [IntKind.bits, IntKind.signed]
 omega
theorem c64 {x : Nat} (h : x < 2 ^ 64) : (x : Int) = x := rfl
theorem wu {x : Nat} (h : x < 18446744073709551616) : IntKind.u64.wrap (x : Int) = (x : Int) := u64_of (by omega) (by omega)
theorem isW8 : isW ((8 : Nat) : Int) = true := by decide
theorem isW16 : isW ((16 : Nat) : Int) = true := by decide
theorem lt8 {x : Nat} (h : x < 2 ^ 8) : x < 18446744073709551616 := Nat.lt_of_lt_of_le h (by decide)
theorem gen_Width_P8_eq : gen_Width_P8.f = some 8 := rfl
theorem gen_Width_P16_eq : gen_Width_P16.f = some 16 := rfl
theorem gen_To_P16_P8_eq {a : Nat} (ha : a < 2 ^ 8) : Ev (fun k => gen_To_P16_P8.f k (a : Int)) ((convN 8 16 a : Nat) : Int) := by
 have c := gen_Convert_eq (n := 8) (m := 16) (p := a) isW8 isW16 (lt8 ha)
 rw [Nat.mod_eq_of_lt ha] at c
 have hl : convN 8 16 a < 2 ^ 16 := convN_lt (by decide) (by decide) (by decide) (by decide) ha
 unfold gen_To_P16_P8.f
 rw [wu (lt8 ha)]
 exact Ev.bind (evn gen_Width_P8_eq) (Ev.bind (evn gen_Width_P16_eq) (Ev.bind c (evn (congrArg some (c16 hl)))))
theorem gen_Add_P8_eq {a b : Nat} (ha : a < 2 ^ 8) (hb : b < 2 ^ 8) : Ev (fun k => gen_Add_P8.f k (a : Int) (b : Int)) ((addN 8 a b : Nat) : Int) := by
 have c := sum_Add_eq (n := 8) (a := a) (b := b) isW8 (lt8 ha) (lt8 hb)
 rw [Nat.mod_eq_of_lt ha, Nat.mod_eq_of_lt hb] at c
 have hl : addN 8 a b < 2 ^ 8 := addN_lt (by decide) (by decide) ha hb
 unfold gen_Add_P8.f gen_two_P8_sum_Add.f
 rw [wu (lt8 ha), wu (lt8 hb)]
 exact Ev.bind (Ev.bind (evn gen_Width_P8_eq) (Ev.bind c (evn (congrArg some (c8 hl))))) (Ev.now _)
theorem up14 : Ev (fun k => vernierlaw14_up.f k) true := by
 unfold vernierlaw14_up.f
 have a := gen_Add_P8_eq (a := 64) (b := 64) (by decide) (by decide)
 have b := gen_To_P16_P8_eq (a := 68) (by decide)
 rw [show addN 8 64 64 = 72 by decide +kernel] at a
 rw [show convN 8 16 68 = 17408 by decide +kernel] at b
 show Ev (fun k => (gen_Add_P8.f k ((64 : Nat) : Int) ((64 : Nat) : Int)).bind fun t107 => if t107 = 72 then (gen_To_P16_P8.f k ((68 : Nat) : Int)).bind fun t108 => some (t108 == 17408) else some false) true
 exact Ev.bind a (Ev.bind b (Ev.now _))
end Go.Proofs.Ytnjhblakghjdoaa.V
namespace Go.Proofs.Ytnjhblakghjdoaa.Pure
open Go Go.RowKit Go.Proofs.Ytnjhblakghjdoaa.Ab Go.Proofs.Ytnjhblakghjdoaa.Fn Go.Proofs.Ytnjhblakghjdoaa.V
set_option linter.unusedSimpArgs false
theorem GenRises : vernierlaw14_GenRises.Pure := by
 intro n m a b w0 w1 w2 w3
 obtain ⟨a, rfl, ha⟩ := u64_nat w2
 obtain ⟨b, rfl, hb⟩ := u64_nat w3
 refine Ev.rounds (g := fun k => vernierlaw14_GenRises.f k n m (a : Int) (b : Int)) ?_
 unfold vernierlaw14_GenRises.f
 refine Ev.bind up14 ?_
 rw [ref_Is_eq, ref_Is_eq]
 simp only [Option.bind_some]
 by_cases h : isW n = true ∧ isW m = true
 ·obtain ⟨hn, hm⟩ := h
  obtain ⟨n, rfl, _⟩ := isW_nat hn
  obtain ⟨m, rfl, _⟩ := isW_nat hm
  obtain ⟨b64, b8⟩ := pow64 hn
  obtain ⟨c64, c8⟩ := pow64 hm
  have hx := Nat.mod_lt a (two_pos n)
  have hy := Nat.mod_lt b (two_pos n)
  have h2 : 2 ^ m ≤ 18446744073709551616 := by rw [← p64]; exact pow_le c64
  have hp := convN_lt b8 b64 c8 c64 hx
  have hq := convN_lt b8 b64 c8 c64 hy
  rw [hn, hm]
  refine Ev.bind (gen_Convert_eq hn hm ha) (Ev.bind (gen_Convert_eq hn hm hb) ?_)
  simp only [if_true, Bool.not_true]
  refine evs ?_
  simp only [vernierlaw14_GenRises.j0, Bool.false_eq_true, if_false]
  refine Ev.bind (ref08_Cmp_eq hn ha hb) (Ev.bind (ref08_Cmp_eq hm (a := convN n m (a % 2 ^ n)) (b := convN n m (b % 2 ^ n)) (by omega) (by omega)) ?_)
  rw [Nat.mod_eq_of_lt hp, Nat.mod_eq_of_lt hq]
  have m1 := convN_mono b8 b64 c8 c64 hx hy
  have m2 := convN_mono b8 b64 c8 c64 hy hx
  generalize rkN n (a % 2 ^ n) = ra at *
  generalize rkN n (b % 2 ^ n) = rb at *
  generalize rkN m (convN n m (a % 2 ^ n)) = sa at *
  generalize rkN m (convN n m (b % 2 ^ n)) = sb at *
  simp only [if_true, Option.isNone_none, cmpI_pos, cmpI_neg, cmpI_le, cmpI_ge]
  refine evn ?_
  by_cases k1 : rb < ra
  ·rw [if_pos k1, if_neg (by omega), decide_eq_true (m2 (by omega))]
  ·rw [if_neg k1, if_pos (m1 (by omega))]
   by_cases k2 : ra < rb
   ·rw [if_pos k2]
   ·rw [if_neg k2, decide_eq_true (m2 (by omega))]
 ·refine Ev.bind (gen_Convert_no ha h) (Ev.bind (gen_Convert_no hb h) ?_)
  have stop : Ev (fun k => vernierlaw14_GenRises.j0 k n m (a : Int) (b : Int) true 0 (some 2) 0 (some 2) true) true := by
   refine evs ?_
   simp only [vernierlaw14_GenRises.j0, Option.isNone_some, Bool.false_eq_true, if_true, if_false]
   exact Ev.now _
  cases hn : isW n
  ·simp only [Bool.false_eq_true, if_false]
   exact stop
  ·cases hm : isW m
   ·simp only [if_true, Bool.not_false]
    exact stop
   ·exact absurd ⟨hn, hm⟩ h
end Go.Proofs.Ytnjhblakghjdoaa.Pure
