-- Written by a program of this session out of its own texts (wip/tools/link.py).
import Derived.Below
import Derived.ChangeKeysEq
import Derived.Deep.MidRow
import Derived.Deep.RegionHeld3
import Derived.Great.BuildSlice
import Derived.IntWalk
import Derived.KernelRfl
import Derived.LaidEql
import Derived.Laws.Bits64
import Derived.Laws.BitsLemmas
import Derived.Laws.BytesArg
import Derived.Laws.IdiomCopy
import Derived.Laws.OwnMore
import Derived.Laws.Rows
import Derived.Laws.Slices
import Derived.Laws.Strings
import Derived.Laws.StructEq
import Derived.Laws.Tables
import Derived.Lib.BitFns
import Derived.Lib.Mul64
import Derived.Lib.Slices
import Derived.Lib.Small
import Derived.Lib.Strings
import Derived.Lib.Walk
import Derived.Maps.AppendAt
import Derived.OrdersHeld
import Derived.RowKit
import Derived.Shelf.Spec.BitsCarry
import Derived.Test.YtnjhblakghjdoaaProg
import Derived.Test.YtnjhblakghjdoaaCGenBack8
import Derived.Test.YtnjhblakghjdoaaCGenBack9
import Derived.Test.YtnjhblakghjdoaaCGenBack10
namespace Go.Proofs.Ytnjhblakghjdoaa.V
open Go Go.RowKit Go.Proofs.Ytnjhblakghjdoaa.Ab Go.Proofs.Ytnjhblakghjdoaa.Fn
set_option linter.unusedVariables false
set_option linter.unusedSimpArgs false
theorem Of_X {x : NM} (h : x.ok) : Ev (fun k => round_Of.f k x.kd x.ng x.sc (x.fr : Int)) (x.ex.kd, x.ex.ng, x.ex.sc, TH x.ex.V, TL x.ex.V, x.ex.R, none) := by
 have := round_Of_eq x.kd x.ng x.sc (x.fr : Int) (by have := h.2; omega) (by omega)
 rw [if_pos h.1] at this
 rw [(NM.ex_tup x h).1, (NM.ex_tup x h).2]
 exact this
end Go.Proofs.Ytnjhblakghjdoaa.V
namespace Go.Proofs.Ytnjhblakghjdoaa.V
open Go Go.RowKit Go.Proofs.Ytnjhblakghjdoaa.Ab Go.Proofs.Ytnjhblakghjdoaa.Fn
set_option linter.unusedVariables false
set_option linter.unusedSimpArgs false
theorem decS_range {m w : Nat} (h : m ≤ 63) : -260 ≤ decS m w ∧ decS m w ≤ 260 := by
 have := decEx_lt (m := m) (w := w)
 have hr : runL m w ≤ m := by unfold runL; split <;> omega
 unfold decS decK
 split <;> omega
theorem dec_longer {m d w : Nat} (h1 : 7 ≤ m) (hm : m + d ≤ 63) (hw0 : 0 < w) (hw : w < 2 ^ m) : decS (m + d) (w * 2 ^ d) = decS m w ∧ decFr (m + d) (w * 2 ^ d) = decFr m w := by
 have hw0' : 0 < w * 2 ^ d := Nat.mul_pos hw0 (two_pos d)
 have hw' : w * 2 ^ d < 2 ^ (m + d) := by rw [Nat.pow_add]; exact Nat.mul_lt_mul_of_pos_right hw (two_pos d)
 have s1 := decV_sig h1 (by omega) hw0 hw
 have s2 := decV_sig (m := m + d) (by omega) hm hw0' hw'
 have e : w * 2 ^ d * 2 ^ (200 - (m + d)) = w * 2 ^ (200 - m) := by
  rw [Nat.mul_assoc, ← Nat.pow_add, show d + (200 - (m + d)) = 200 - m by omega]
 rw [e] at s2
 obtain ⟨a1, a2⟩ := decS_range (m := m) (w := w) (by omega)
 obtain ⟨b1, b2⟩ := decS_range (m := m + d) (w := w * 2 ^ d) hm
 obtain ⟨-, p1, p2⟩ := decV_sub (w := w) (dLf_le (m := m) (w := w) (by omega))
 obtain ⟨-, q1, q2⟩ := decV_sub (w := w * 2 ^ d) (dLf_le (m := m + d) (w := w * 2 ^ d) hm)
 obtain ⟨r1, r2⟩ := sig_inj (by omega) (by omega) (by omega) (by omega) (fr_lt q2) (fr_lt p2) (s2.trans s1.symm)
 refine ⟨r1, ?_⟩
 unfold decV at *
 omega
theorem magN_longer {n d x : Nat} (h1 : 1 ≤ n) : magN (n + d) (x * 2 ^ d) = magN n x * 2 ^ d := by
 unfold magN
 have e : 2 ^ (n + d - 1) = 2 ^ (n - 1) * 2 ^ d := by rw [← Nat.pow_add]; congr 1; omega
 have p := two_pos d
 rw [e]
 by_cases h : 2 ^ (n - 1) < x
 ·rw [if_pos h, if_pos (Nat.mul_lt_mul_of_pos_right h p), Nat.pow_add, Nat.sub_mul]
 ·rw [if_neg h, if_neg (fun h' => h (Nat.lt_of_mul_lt_mul_right h'))]
theorem decN_longer {n d x : Nat} (h8 : 8 ≤ n) (hm : n + d ≤ 64) (hx : x < 2 ^ n) : decN (n + d) (x * 2 ^ d) = decN n x := by
 have p := two_pos d
 have e : 2 ^ (n + d - 1) = 2 ^ (n - 1) * 2 ^ d := by rw [← Nat.pow_add]; congr 1; omega
 unfold decN
 by_cases h0 : x = 0
 ·subst h0; rw [Nat.zero_mul, if_pos rfl, if_pos rfl]
 ·rw [if_neg h0, if_neg (show ¬ x * 2 ^ d = 0 by rw [Nat.mul_eq_zero]; omega), e]
  by_cases h1 : x = 2 ^ (n - 1)
  ·subst h1; rw [if_pos rfl, if_pos rfl]
  ·rw [if_neg h1, if_neg (fun h' => h1 (Nat.eq_of_mul_eq_mul_right p h'))]
   have hm' := magN_bounds (by omega) hx h0 h1
   rw [magN_longer (by omega), show n + d - 1 = n - 1 + d by omega]
   obtain ⟨a, b⟩ := dec_longer (m := n - 1) (d := d) (by omega) (by omega) hm'.1 hm'.2
   rw [a, b]
   have g : decide (2 ^ (n - 1) * 2 ^ d < x * 2 ^ d) = decide (2 ^ (n - 1) < x) := by
    rw [decide_eq_decide]
    exact ⟨fun h' => Nat.lt_of_mul_lt_mul_right h', fun h' => Nat.mul_lt_mul_of_pos_right h' p⟩
   rw [g]
def convN (n m x : Nat) : Nat := (decN n x).ex.rnd m
theorem convN_lt {n m x : Nat} (h8 : 8 ≤ n) (hn : n ≤ 64) (g8 : 8 ≤ m) (hm : m ≤ 64) (hx : x < 2 ^ n) : convN n m x < 2 ^ m := EX.rnd_lt g8 hm (NM.ex_ok (decN_ok h8 hn hx))
theorem convN_up {n d x : Nat} (h8 : 8 ≤ n) (hm : n + d ≤ 64) (hx : x < 2 ^ n) : convN n (n + d) x = x * 2 ^ d := by
 unfold convN
 rw [← decN_longer h8 hm hx]
 exact dec_rnd (by omega) hm (by rw [Nat.pow_add]; exact Nat.mul_lt_mul_of_pos_right hx (two_pos d))
theorem convN_back {n d x : Nat} (h8 : 8 ≤ n) (hm : n + d ≤ 64) (hx : x < 2 ^ n) : convN (n + d) n (x * 2 ^ d) = x := by
 unfold convN
 rw [decN_longer h8 hm hx]
 exact dec_rnd h8 (by omega) hx
theorem gen_Convert_eq {n m p : Nat} (hn : isW (n : Int) = true) (hm : isW (m : Int) = true) (hp : p < 18446744073709551616) : Ev (fun k => gen_Convert.f k (n : Int) (m : Int) (p : Int)) (((convN n m (p % 2 ^ n) : Nat) : Int), none) := by
 obtain ⟨b64, b8⟩ := pow64 hn
 have oa := decN_ok b8 b64 (Nat.mod_lt p (two_pos n))
 unfold gen_Convert.f
 refine Ev.bind (evn (shape_Of_eq hm)) ?_
 simp only [Option.isNone_none, if_true]
 refine Ev.bind (Decode_N hn hp) ?_
 simp only [Option.isNone_none, if_true]
 exact Ev.bind (Of_X oa) (Ev.bind (Round_X hm (NM.ex_ok oa)) (Ev.now _))
theorem gen_Convert_no {n m : Int} {p : Nat} (hp : p < 18446744073709551616) (h : ¬ (isW n = true ∧ isW m = true)) : Ev (fun k => gen_Convert.f k n m (p : Int)) (0, some 2) := by
 unfold gen_Convert.f
 by_cases hm : isW m = true
 ·obtain ⟨m, rfl, _⟩ := isW_nat hm
  have hn : isW n = false := by
   cases hh : isW n
   ·rfl
   ·exact absurd ⟨hh, hm⟩ h
  refine Ev.bind (evn (shape_Of_eq hm)) ?_
  simp only [Option.isNone_none, if_true]
  exact Ev.bind (Decode_no hn _) (Ev.now _)
 ·have hm : isW m = false := by simpa using hm
  exact Ev.bind (evn (shape_Of_no hm)) (Ev.now _)
end Go.Proofs.Ytnjhblakghjdoaa.V
namespace Go.Proofs.Ytnjhblakghjdoaa.V
open Go Go.RowKit Go.Proofs.Ytnjhblakghjdoaa.Ab Go.Proofs.Ytnjhblakghjdoaa.Fn
set_option linter.unusedVariables false
set_option linter.unusedSimpArgs false
theorem EX.ok_kd {x : EX} (hx : x.ok) : x.kd = 0 ∨ x.kd = 1 ∨ x.kd = 2 := by
 rcases hx with rfl | rfl | hx
 ·exact .inl rfl
 ·exact .inr (.inr rfl)
 ·exact .inr (.inl hx.1)
theorem sumX_nar {x y : EX} (h : x.kd = 2 ∨ y.kd = 2) : sumX x y = EX.nar := by unfold sumX; rw [if_pos h]
theorem sumX_z1 {x y : EX} (h : ¬ (x.kd = 2 ∨ y.kd = 2)) (h1 : x.kd = 0) : sumX x y = y := by unfold sumX; rw [if_neg h, if_pos h1]
theorem sumX_z2 {x y : EX} (h : ¬ (x.kd = 2 ∨ y.kd = 2)) (h1 : ¬ x.kd = 0) (h2 : y.kd = 0) : sumX x y = x := by unfold sumX; rw [if_neg h, if_neg h1, if_pos h2]
theorem broad_Sum_j0 {x y : EX} (hx : x.ok) (hy : y.ok) : Ev (fun k => broad_Sum.j0 k (decide (x.kd = 2 ∨ y.kd = 2)) x.kd x.ng x.sc (TH x.V) (TL x.V) x.R y.kd y.ng y.sc (TH y.V) (TL y.V) y.R) (sumX x y).tup := by
 refine evs ?_
 simp only [broad_Sum.j0]
 by_cases h : x.kd = 2 ∨ y.kd = 2
 ·simp only [if_pos (decide_eq_true h)]
  rw [sumX_nar h]
  exact Ev.now _
 ·simp only [if_neg (fun h' => h (of_decide_eq_true h') : ¬ decide (x.kd = 2 ∨ y.kd = 2) = true)]
  by_cases a : x.kd = 0
  ·simp only [if_pos a]
   rw [sumX_z1 h a]
   exact Ev.now _
  ·simp only [if_neg a]
   by_cases b : y.kd = 0
   ·simp only [if_pos b]
    rw [sumX_z2 h a b]
    exact Ev.now _
   ·simp only [if_neg b]
    have kx : x.kd = 1 := by have := EX.ok_kd hx; omega
    have ky : y.kd = 1 := by have := EX.ok_kd hy; omega
    by_cases c : x.sc < y.sc
    ·simp only [if_pos c]
     rw [sumX_comm hx hy]
     exact Sum_j1 hy hx ky kx (Int.le_of_lt c)
    ·simp only [if_neg c]
     exact Sum_j1 hx hy kx ky (Int.not_lt.1 c)
theorem broad_Sum_X {x y : EX} (hx : x.ok) (hy : y.ok) : Ev (fun k => broad_Sum.f k x.kd x.ng x.sc (TH x.V) (TL x.V) x.R y.kd y.ng y.sc (TH y.V) (TL y.V) y.R) (sumX x y).tup := by
 have h := broad_Sum_j0 hx hy
 unfold broad_Sum.f
 by_cases a : x.kd = 2
 ·simp only [if_pos a]
  rw [decide_eq_true (Or.inl a)] at h
  exact h
 ·simp only [if_neg a]
  rw [show decide (x.kd = 2 ∨ y.kd = 2) = (y.kd == 2) by rw [Bool.eq_iff_iff]; simp [a]] at h
  exact h
theorem sum_Exact_X {a b : NM} (ha : a.ok) (hb : b.ok) : Ev (fun k => sum_Exact.f k a.kd a.ng a.sc (a.fr : Int) b.kd b.ng b.sc (b.fr : Int)) ((sumX a.ex b.ex).kd, (sumX a.ex b.ex).ng, (sumX a.ex b.ex).sc, TH (sumX a.ex b.ex).V, TL (sumX a.ex b.ex).V, (sumX a.ex b.ex).R, none) := by
 unfold sum_Exact.f
 refine Ev.bind (Of_X ha) ?_
 simp only [Option.isNone_none, if_true]
 refine Ev.bind (Of_X hb) ?_
 simp only [Option.isNone_none, if_true]
 exact Ev.bind (broad_Sum_X (NM.ex_ok ha) (NM.ex_ok hb)) (Ev.now _)
def addN (n x y : Nat) : Nat := (sumX (decN n x).ex (decN n y).ex).rnd n
theorem addN_lt {n x y : Nat} (h8 : 8 ≤ n) (hn : n ≤ 64) (hx : x < 2 ^ n) (hy : y < 2 ^ n) : addN n x y < 2 ^ n := EX.rnd_lt h8 hn (sumX_ok (NM.ex_ok (decN_ok h8 hn hx)) (NM.ex_ok (decN_ok h8 hn hy)))
theorem sum_Add_eq {n a b : Nat} (h : isW (n : Int) = true) (ha : a < 18446744073709551616) (hb : b < 18446744073709551616) : Ev (fun k => sum_Add.f k (n : Int) (a : Int) (b : Int)) (((addN n (a % 2 ^ n) (b % 2 ^ n) : Nat) : Int), none) := by
 obtain ⟨b64, b8⟩ := pow64 h
 have oa := decN_ok b8 b64 (Nat.mod_lt a (two_pos n))
 have ob := decN_ok b8 b64 (Nat.mod_lt b (two_pos n))
 unfold sum_Add.f
 refine Ev.bind (Decode_N h ha) ?_
 simp only [Option.isNone_none, if_true]
 refine Ev.bind (Decode_N h hb) (Ev.bind (sum_Exact_X oa ob) ?_)
 simp only [Option.isNone_none, if_true]
 exact Ev.bind (Round_X h (sumX_ok (NM.ex_ok oa) (NM.ex_ok ob))) (Ev.now _)
end Go.Proofs.Ytnjhblakghjdoaa.V
namespace Go.Proofs.Ytnjhblakghjdoaa.V
open Go Go.RowKit Go.Proofs.Ytnjhblakghjdoaa.Ab Go.Proofs.Ytnjhblakghjdoaa.Fn
set_option linter.unusedVariables false
set_option linter.unusedSimpArgs false
theorem c8 {x : Nat} (h : x < 2 ^ 8) : ((x : Int) % 256) = x := by have : (2 : Nat) ^ 8 = 256 := rfl; omega
theorem c16 {x : Nat} (h : x < 2 ^ 16) : IntKind.u16.wrap (x : Int) = x := by
 have e : (2 : Nat) ^ 16 = 65536 := rfl
 have : IntKind.u16.wrap (x : Int) = (x : Int) % 65536 := by unfold IntKind.wrap; simp [IntKind.bits, IntKind.signed]
 omega
theorem c64 {x : Nat} (h : x < 2 ^ 64) : (x : Int) = x := rfl
theorem wu {x : Nat} (h : x < 18446744073709551616) : IntKind.u64.wrap (x : Int) = (x : Int) := u64_of (by omega) (by omega)
theorem isW8 : isW ((8 : Nat) : Int) = true := by decide
theorem isW16 : isW ((16 : Nat) : Int) = true := by decide
theorem lt8 {x : Nat} (h : x < 2 ^ 8) : x < 18446744073709551616 := Nat.lt_of_lt_of_le h (by decide)
theorem gen_Width_P8_eq : gen_Width_P8.f = some 8 := rfl
theorem gen_Width_P16_eq : gen_Width_P16.f = some 16 := rfl
theorem gen_To_P16_P8_eq {a : Nat} (ha : a < 2 ^ 8) : Ev (fun k => gen_To_P16_P8.f k (a : Int)) ((convN 8 16 a : Nat) : Int) := by
 have c := gen_Convert_eq (n := 8) (m := 16) (p := a) isW8 isW16 (lt8 ha)
 rw [Nat.mod_eq_of_lt ha] at c
 have hl : convN 8 16 a < 2 ^ 16 := convN_lt (by decide) (by decide) (by decide) (by decide) ha
 unfold gen_To_P16_P8.f
 rw [wu (lt8 ha)]
 exact Ev.bind (evn gen_Width_P8_eq) (Ev.bind (evn gen_Width_P16_eq) (Ev.bind c (evn (congrArg some (c16 hl)))))
theorem gen_Add_P8_eq {a b : Nat} (ha : a < 2 ^ 8) (hb : b < 2 ^ 8) : Ev (fun k => gen_Add_P8.f k (a : Int) (b : Int)) ((addN 8 a b : Nat) : Int) := by
 have c := sum_Add_eq (n := 8) (a := a) (b := b) isW8 (lt8 ha) (lt8 hb)
 rw [Nat.mod_eq_of_lt ha, Nat.mod_eq_of_lt hb] at c
 have hl : addN 8 a b < 2 ^ 8 := addN_lt (by decide) (by decide) ha hb
 unfold gen_Add_P8.f gen_two_P8_sum_Add.f
 rw [wu (lt8 ha), wu (lt8 hb)]
 exact Ev.bind (Ev.bind (evn gen_Width_P8_eq) (Ev.bind c (evn (congrArg some (c8 hl))))) (Ev.now _)
theorem up14 : Ev (fun k => vernierlaw14_up.f k) true := by
 unfold vernierlaw14_up.f
 have a := gen_Add_P8_eq (a := 64) (b := 64) (by decide) (by decide)
 have b := gen_To_P16_P8_eq (a := 68) (by decide)
 rw [show addN 8 64 64 = 72 by decide +kernel] at a
 rw [show convN 8 16 68 = 17408 by decide +kernel] at b
 show Ev (fun k => (gen_Add_P8.f k ((64 : Nat) : Int) ((64 : Nat) : Int)).bind fun t107 => if t107 = 72 then (gen_To_P16_P8.f k ((68 : Nat) : Int)).bind fun t108 => some (t108 == 17408) else some false) true
 exact Ev.bind a (Ev.bind b (Ev.now _))
end Go.Proofs.Ytnjhblakghjdoaa.V
namespace Go.Proofs.Ytnjhblakghjdoaa.Pure
open Go Go.RowKit Go.Proofs.Ytnjhblakghjdoaa.Ab Go.Proofs.Ytnjhblakghjdoaa.Fn Go.Proofs.Ytnjhblakghjdoaa.V
set_option linter.unusedSimpArgs false
theorem if_self {α β : Type} [DecidableEq α] (x : α) (a b : β) : (if x = x then a else b) = a := if_pos rfl
theorem GenBack : vernierlaw14_GenBack.Pure := by
 intro n m a w0 w1 w2
 obtain ⟨a, rfl, ha⟩ := u64_nat w2
 refine Ev.rounds (g := fun k => vernierlaw14_GenBack.f k n m (a : Int)) ?_
 unfold vernierlaw14_GenBack.f
 refine Ev.bind up14 ?_
 by_cases h : isW n = true ∧ isW m = true
 ·obtain ⟨hn, hm⟩ := h
  obtain ⟨n, rfl, _⟩ := isW_nat hn
  obtain ⟨m, rfl, _⟩ := isW_nat hm
  obtain ⟨b64, b8⟩ := pow64 hn
  obtain ⟨c64, c8⟩ := pow64 hm
  have hx := Nat.mod_lt a (two_pos n)
  have hq := convN_lt b8 b64 c8 c64 hx
  have hq64 : convN n m (a % 2 ^ n) < 18446744073709551616 := Nat.lt_of_lt_of_le hq (by rw [← p64]; exact pow_le c64)
  refine Ev.bind (gen_Convert_eq hn hm ha) (Ev.bind (gen_Convert_eq hm hn hq64) ?_)
  rw [ref_Is_eq, ref_Is_eq, hn, hm, Nat.mod_eq_of_lt hq]
  simp only [Option.bind_some, if_true]
  refine evs ?_
  simp only [vernierlaw14_GenBack.j0, Option.isNone_none, if_true]
  by_cases hlt : m < n
  ·simp only [if_pos (decide_eq_true (show (m : Int) < (n : Int) by omega))]
   exact Ev.now _
  ·simp only [if_neg (show ¬ decide ((m : Int) < (n : Int)) = true by simp; omega)]
   obtain ⟨d, rfl⟩ : ∃ d, m = n + d := ⟨m - n, by omega⟩
   have e1 : wrap64 (((n + d : Nat) : Int) - (n : Int)) = ((d : Nat) : Int) := by rw [w64 (by omega) (by omega)]; omega
   rw [e1]
   rw [convN_up b8 c64 hx, convN_back b8 c64 hx]
   refine Ev.bind (ref_Fold_eq hn ha) ?_
   simp only [if_self, if_pos (show (0 : Int) ≤ ((d : Nat) : Int) by omega), shl_nat a d (by omega)]
   refine Ev.bind (ref_Fold_eq hm (Nat.mod_lt _ (by decide))) (evn ?_)
   rw [beq_iff_eq.2]
   congr 1
   rw [← p64, mod_pow_le c64, Nat.pow_add, Nat.mul_mod_mul_right]
 ·refine Ev.bind (gen_Convert_no ha h) (Ev.bind (gen_Convert_no (p := 0) (by decide) (fun h' => h h'.symm)) ?_)
  rw [ref_Is_eq, ref_Is_eq]
  simp only [Option.bind_some]
  have stop : ∀ b, Ev (fun k => vernierlaw14_GenBack.j0 k n m (a : Int) true 0 (some 2) 0 (some 2) (isW n) (isW m) b) true → True := fun _ _ => trivial
  cases hn : isW n
  ·refine evs ?_
   simp only [vernierlaw14_GenBack.j0, Option.isNone_some, Bool.false_eq_true, if_true, if_false]
   exact Ev.now _
  ·cases hm : isW m
   ·refine evs ?_
    simp only [vernierlaw14_GenBack.j0, Option.isNone_some, Bool.false_eq_true, if_true, if_false]
    exact Ev.now _
   ·exact absurd ⟨hn, hm⟩ h
end Go.Proofs.Ytnjhblakghjdoaa.Pure
