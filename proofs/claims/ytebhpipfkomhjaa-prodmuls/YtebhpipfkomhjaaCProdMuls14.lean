-- Written by a program of this session out of its own texts (wip/tools/link.py).
import Derived.ArgAppend
import Derived.Below
import Derived.BigQuiet
import Derived.Deep.AppendLies
import Derived.Deep.CutBlock
import Derived.Deep.DeepCutAuto
import Derived.Deep.Draws
import Derived.Deep.LoopGhost
import Derived.Deep.OwnRows
import Derived.Deep.QuietTactic
import Derived.Deep.RegionHeld3
import Derived.KernelRfl
import Derived.LaidEql
import Derived.Laws.BitsLemmas
import Derived.Laws.BytesArg
import Derived.Laws.IdiomCopy
import Derived.Laws.MakeOwn
import Derived.Laws.OwnMore
import Derived.Laws.Rows
import Derived.Laws.Slices
import Derived.Laws.Strings
import Derived.Laws.StructEq
import Derived.Lib.AppendStr
import Derived.Lib.BitFns
import Derived.Lib.ConvBytes
import Derived.Lib.Mul64
import Derived.Lib.Slices
import Derived.Lib.Small
import Derived.Lib.Strings
import Derived.Lib.Walk
import Derived.Maps.AppendAt
import Derived.OrdersHeld
import Derived.OwnWalk
import Derived.RowKit
import Derived.RowKit3
import Derived.Tactics
import Derived.Test.YtebhpipfkomhjaaProg
import Derived.WalkKit
import Derived.WideLaws
import Derived.Test.YtebhpipfkomhjaaCProdMuls8
import Derived.Test.YtebhpipfkomhjaaCProdMuls9
import Derived.Test.YtebhpipfkomhjaaCProdMuls10
import Derived.Test.YtebhpipfkomhjaaCProdMuls11
import Derived.Test.YtebhpipfkomhjaaCProdMuls12
import Derived.Test.YtebhpipfkomhjaaCProdMuls13
namespace Go.Proofs.Ytebhpipfkomhjaa.V
open Go Go.RowKit Go.Proofs.YtebhpipfkomhjaaW.PrintWords Go.Proofs.YtebhpipfkomhjaaW.PrintLast Go.Proofs.YtebhpipfkomhjaaW.PrintMore Go.Proofs.Ytebhpipfkomhjaa.PAll
set_option linter.unusedVariables false
set_option linter.unusedSimpArgs false
theorem beq_dec (a b : Int) : (a == b) = decide (a = b) := by by_cases h : a = b <;> simp [h]
theorem mask32 (a : Nat) (ha : a < 18446744073709551616) : Go.bits .and .u64 (a : Int) 4294967295 = ((a % 4294967296 : Nat) : Int) := and_mask a 32 ha (by decide)
theorem div32 (a : Nat) : (a : Int) / 4294967296 = ((a / 4294967296 : Nat) : Int) := by omega
theorem mulC (a b : Nat) : (a : Int) * (b : Int) = ((a * b : Nat) : Int) := (Int.natCast_mul a b).symm
theorem addC (a b : Nat) : (a : Int) + (b : Int) = ((a + b : Nat) : Int) := (Int.natCast_add a b).symm
theorem wrapN (a : Nat) (ha : a < 18446744073709551616) : IntKind.u64.wrap (a : Int) = (a : Int) := u64_of (by omega) (by omega)
theorem bits_Mul64_eq {x y : Nat} (hx : x < 18446744073709551616) (hy : y < 18446744073709551616) : bits_Mul64.f (x : Int) (y : Int) = some (TH (x * y), TL (x * y)) := by
 obtain ⟨bd, bt, bw, hhi⟩ := Lib.mul64_hi x y hx hy
 have ba := Lib.half_mul_le (a := x / 4294967296) (b := y / 4294967296) (by omega) (by omega)
 have bb := Lib.half_mul_le (a := x / 4294967296) (b := y % 4294967296) (by omega) (by omega)
 have bc := Lib.half_mul_le (a := x % 4294967296) (b := y / 4294967296) (by omega) (by omega)
 have ba' : x / 4294967296 * (y / 4294967296) < 18446744073709551616 := by omega
 have bb' : x / 4294967296 * (y % 4294967296) < 18446744073709551616 := by omega
 have bc' : x % 4294967296 * (y / 4294967296) < 18446744073709551616 := by omega
 have bh1 : x / 4294967296 * (y / 4294967296) + (x / 4294967296 * (y % 4294967296) + x % 4294967296 * (y % 4294967296) / 4294967296) / 4294967296 < 18446744073709551616 := by omega
 have bh : x / 4294967296 * (y / 4294967296) + (x / 4294967296 * (y % 4294967296) + x % 4294967296 * (y % 4294967296) / 4294967296) / 4294967296 + ((x / 4294967296 * (y % 4294967296) + x % 4294967296 * (y % 4294967296) / 4294967296) % 4294967296 + x % 4294967296 * (y / 4294967296)) / 4294967296 < 18446744073709551616 := by omega
 unfold bits_Mul64.f
 simp only [mask32 x hx, mask32 y hy, div32, mulC, addC, wrapN _ bd, wrapN _ bb', wrapN _ bt, mask32 _ bt, wrapN _ bc', wrapN _ bw, wrapN _ ba', wrapN _ bh1, wrapN _ bh, u64_nat_wrap (x * y)]
 rw [hhi]
 rfl
theorem twin_Mul_eq {x y : Nat} (hx : x < 18446744073709551616) (hy : y < 18446744073709551616) : twin_Mul.f (x : Int) (y : Int) = some (TH (x * y), TL (x * y)) := by
 unfold twin_Mul.f
 rw [bits_Mul64_eq hx hy]; rfl
theorem mul_lt128 {x y : Nat} (hx : x < 18446744073709551616) (hy : y < 18446744073709551616) : x * y < 2 ^ 128 := by
 have := Nat.mul_le_mul (show x ≤ 18446744073709551615 by omega) (show y ≤ 18446744073709551615 by omega)
 rw [p128]
 omega
def prodE (kd : Int) (ng : Bool) (sc : Int) (fr : Nat) (kd' : Int) (ng' : Bool) (sc' : Int) (fr' : Nat) : Int × Bool × Int × Int × Int × Bool :=
 if kd = 2 ∨ kd' = 2 then (2, false, 0, 0, 0, false) else if kd = 0 ∨ kd' = 0 then (0, false, 0, 0, 0, false)
 else exactE (ng != ng') (fr * fr') (sc + sc' - 126) false
theorem soundN_cases {kd sc fr : Int} {ng : Bool} (h : soundN kd ng sc fr = true) : (kd = 0 ∧ ng = false ∧ sc = 0 ∧ fr = 0) ∨ (kd = 2 ∧ ng = false ∧ sc = 0 ∧ fr = 0) ∨ (kd = 1 ∧ 9223372036854775808 ≤ fr ∧ -1073741824 ≤ sc ∧ sc ≤ 1073741824) := by
 unfold soundN at h
 split at h
 ·rename_i hk
  have : ng = false ∧ sc = 0 ∧ fr = 0 := by simpa using h
  rcases hk with hk | hk
  ·exact .inl ⟨hk, this⟩
  ·exact .inr (.inl ⟨hk, this⟩)
 ·exact .inr (.inr (of_decide_eq_true h))
theorem makeV_exactE {ng R : Bool} {V : Nat} {e : Int} (hV : V < 2 ^ 128) (h0 : -4398046511104 ≤ e) (h1 : e ≤ 4398046511104) :
  makeV ng V e R = ((exactE ng V e R).1, (exactE ng V e R).2.1, (exactE ng V e R).2.2.1, (exactE ng V e R).2.2.2.1, (exactE ng V e R).2.2.2.2.1, (exactE ng V e R).2.2.2.2.2, none) := by
 unfold makeV exactE
 by_cases hz : V = 0
 ·rw [if_pos hz, if_pos hz]
 ·rw [if_neg hz, if_neg hz]
  have hb := bl_le_of_lt hV
  have hr : mkR V R = R := by unfold mkR; rw [show bl V - 128 = 0 by omega, Nat.pow_zero, Nat.mod_one]; simp
  have hf : farI e = e := by unfold farI; rw [if_neg (by omega), if_neg (by omega)]
  rw [hr, hf]
theorem prod_Exact_eq (kd : Int) (ng : Bool) (sc : Int) (fr : Nat) (kd' : Int) (ng' : Bool) (sc' : Int) (fr' : Nat) (hf : fr < 18446744073709551616) (hf' : fr' < 18446744073709551616) :
  Ev (fun k => prod_Exact.f k kd ng sc (fr : Int) kd' ng' sc' (fr' : Int)) (if soundN kd ng sc fr = true ∧ soundN kd' ng' sc' fr' = true then
   ((prodE kd ng sc fr kd' ng' sc' fr').1, (prodE kd ng sc fr kd' ng' sc' fr').2.1, (prodE kd ng sc fr kd' ng' sc' fr').2.2.1, (prodE kd ng sc fr kd' ng' sc' fr').2.2.2.1, (prodE kd ng sc fr kd' ng' sc' fr').2.2.2.2.1, (prodE kd ng sc fr kd' ng' sc' fr').2.2.2.2.2, none)
   else (0, false, 0, 0, 0, false, some 1)) := by
 obtain ⟨L, hL⟩ : ∃ L : List S24, L = [⟨kd, ng, sc, (fr : Int)⟩, ⟨kd', ng', sc', (fr' : Int)⟩] := ⟨_, rfl⟩
 have hl : L.length = 2 := by rw [hL]; rfl
 have e0 : rd_T24 L 0 = ⟨kd, ng, sc, (fr : Int)⟩ := by rw [hL]; rfl
 have e1 : rd_T24 L 1 = ⟨kd', ng', sc', (fr' : Int)⟩ := by rw [hL]; rfl
 have w0 : wrap64 ((0 : Int) + 1) = 1 := w64 (by decide) (by decide)
 have w1 : wrap64 ((1 : Int) + 1) = 2 := w64 (by decide) (by decide)
 unfold prod_Exact.f
 rw [← hL]
 simp only [Option.bind_some, hl]
 refine evs ?_
 simp only [prod_Exact.l0, hl, if_pos (show (0 : Int) < ((2 : Nat) : Int) by decide), if_pos (show (0 : Int) ≤ 0 by decide), e0]
 refine Ev.bind (round_Of_eq kd ng sc fr (by omega) (by omega)) ?_
 by_cases h1 : soundN kd ng sc fr = true
 ·simp only [h1, if_true, Option.isNone_none, w0, true_and]
  refine evs ?_
  simp only [prod_Exact.l0, hl, if_pos (show (1 : Int) < ((2 : Nat) : Int) by decide), if_pos (show (0 : Int) ≤ 1 by decide), e1]
  refine Ev.bind (round_Of_eq kd' ng' sc' fr' (by omega) (by omega)) ?_
  by_cases h2 : soundN kd' ng' sc' fr' = true
  ·simp only [h2, if_true, Option.isNone_none, w1]
   refine evs ?_
   simp only [prod_Exact.l0, if_neg (show ¬ (2 : Int) < ((2 : Nat) : Int) by decide)]
   have c1 := soundN_cases h1
   have c2 := soundN_cases h2
   have j1 : Ev (fun k => prod_Exact.j1 k (decide (kd = 2 ∨ kd' = 2)) kd ng sc (fr : Int) kd' ng' sc' (fr' : Int)) ((prodE kd ng sc fr kd' ng' sc' fr').1, (prodE kd ng sc fr kd' ng' sc' fr').2.1, (prodE kd ng sc fr kd' ng' sc' fr').2.2.1, (prodE kd ng sc fr kd' ng' sc' fr').2.2.2.1, (prodE kd ng sc fr kd' ng' sc' fr').2.2.2.2.1, (prodE kd ng sc fr kd' ng' sc' fr').2.2.2.2.2, none) := by
    refine evs ?_
    simp only [prod_Exact.j1]
    unfold prodE
    by_cases hk : kd = 2 ∨ kd' = 2
    ·simp only [if_pos hk, decide_eq_true hk, if_true]
     exact Ev.now _
    ·simp only [if_neg hk, decide_eq_false hk, Bool.false_eq_true, if_false]
     have j2 : Ev (fun k => prod_Exact.j2 k (decide (kd = 0 ∨ kd' = 0)) kd ng sc (fr : Int) kd' ng' sc' (fr' : Int)) (if kd = 0 ∨ kd' = 0 then (0, false, 0, 0, 0, false, none) else makeV (ng != ng') (fr * fr') (sc + sc' - 126) false) := by
      refine evs ?_
      simp only [prod_Exact.j2]
      by_cases h0 : kd = 0 ∨ kd' = 0
      ·simp only [if_pos h0, decide_eq_true h0, if_true]
       exact Ev.now _
      ·simp only [if_neg h0, decide_eq_false h0, Bool.false_eq_true, if_false]
       have ew : wrap64 (wrap64 (sc + sc') - 126) = sc + sc' - 126 := by
        rw [w64 (n := sc + sc') (by omega) (by omega), w64 (by omega) (by omega)]
       rw [ew, twin_Mul_eq hf hf']
       simp only [Option.bind_some]
       have := round_Make_eq (ng != ng') (fr * fr') (sc + sc' - 126) false (mul_lt128 hf hf')
       simp only [Bool.false_eq_true, false_and, if_false] at this
       refine Ev.bind this ?_
       exact Ev.now _
     have key : ((if kd = 0 ∨ kd' = 0 then (0, false, 0, 0, 0, false, none) else makeV (ng != ng') (fr * fr') (sc + sc' - 126) false) : Int × Bool × Int × Int × Int × Bool × Option Int) = ((if kd = 0 ∨ kd' = 0 then (0, false, 0, 0, 0, false) else exactE (ng != ng') (fr * fr') (sc + sc' - 126) false).1, (if kd = 0 ∨ kd' = 0 then (0, false, 0, 0, 0, false) else exactE (ng != ng') (fr * fr') (sc + sc' - 126) false).2.1, (if kd = 0 ∨ kd' = 0 then (0, false, 0, 0, 0, false) else exactE (ng != ng') (fr * fr') (sc + sc' - 126) false).2.2.1, (if kd = 0 ∨ kd' = 0 then (0, false, 0, 0, 0, false) else exactE (ng != ng') (fr * fr') (sc + sc' - 126) false).2.2.2.1, (if kd = 0 ∨ kd' = 0 then (0, false, 0, 0, 0, false) else exactE (ng != ng') (fr * fr') (sc + sc' - 126) false).2.2.2.2.1, (if kd = 0 ∨ kd' = 0 then (0, false, 0, 0, 0, false) else exactE (ng != ng') (fr * fr') (sc + sc' - 126) false).2.2.2.2.2, none) := by
      by_cases h0 : kd = 0 ∨ kd' = 0
      ·simp only [if_pos h0]
      ·simp only [if_neg h0]
       exact makeV_exactE (mul_lt128 hf hf') (by omega) (by omega)
     rw [← key]
     by_cases hk0 : kd = 0
     ·have hd : (kd == 0) = decide (kd = 0 ∨ kd' = 0) := by rw [decide_eq_true (.inl hk0)]; simp [hk0]
      simp only [if_pos hk0, hd]
      exact j2
     ·have hd : (kd' == 0) = decide (kd = 0 ∨ kd' = 0) := by rw [beq_dec]; simp [hk0]
      simp only [if_neg hk0, hd]
      exact j2
   by_cases hk2 : kd = 2
   ·have hd : (kd == 2) = decide (kd = 2 ∨ kd' = 2) := by simp [hk2]
    simp only [if_pos hk2, hd]
    exact j1
   ·have hd : (kd' == 2) = decide (kd = 2 ∨ kd' = 2) := by rw [beq_dec]; simp [hk2]
    simp only [if_neg hk2, hd]
    exact j1
  ·simp only [if_neg h2]
   exact Ev.now _
 ·simp only [if_neg h1, if_neg (show ¬ (soundN kd ng sc fr = true ∧ soundN kd' ng' sc' fr' = true) from fun h => h1 h.1)]
  exact Ev.now _
theorem ref_sound (kd : Int) (ng : Bool) (sc fr : Int) : vernierref06_Sound.f kd ng sc fr = some (soundN kd ng sc fr) := by
 unfold vernierref06_Sound.f soundN
 by_cases h0 : kd = 0
 ·simp [h0]
 ·by_cases h2 : kd = 2
  ·simp [h2]
  ·rw [if_neg h0, if_neg h2, if_neg (show ¬ (kd = 0 ∨ kd = 2) by omega)]
   by_cases h1 : kd = 1
   ·rw [if_pos h1]
    by_cases h3 : fr ≥ 9223372036854775808
    ·rw [if_pos h3]
     by_cases h4 : sc ≥ -1073741824
     ·rw [if_pos h4]
      congr 1
      rw [decide_eq_decide]
      omega
     ·rw [if_neg h4, decide_eq_false (by omega)]
    ·rw [if_neg h3, decide_eq_false (by omega)]
   ·rw [if_neg h1, decide_eq_false (by omega)]
theorem ref10_Exact_eq (kd : Int) (ng : Bool) (sc : Int) (fr : Nat) (kd' : Int) (ng' : Bool) (sc' : Int) (fr' : Nat) (hf : fr < 18446744073709551616) (hf' : fr' < 18446744073709551616) :
  Ev (fun k => vernierref10_Exact.f k kd ng sc (fr : Int) kd' ng' sc' (fr' : Int)) (if soundN kd ng sc fr = true ∧ soundN kd' ng' sc' fr' = true then
   ((prodE kd ng sc fr kd' ng' sc' fr').1, (prodE kd ng sc fr kd' ng' sc' fr').2.1, (prodE kd ng sc fr kd' ng' sc' fr').2.2.1, (prodE kd ng sc fr kd' ng' sc' fr').2.2.2.1, (prodE kd ng sc fr kd' ng' sc' fr').2.2.2.2.1, (prodE kd ng sc fr kd' ng' sc' fr').2.2.2.2.2, 0)
   else (0, false, 0, 0, 0, false, 1)) := by
 unfold vernierref10_Exact.f
 simp only [ref_sound, Option.bind_some]
 have j0 : Ev (fun k => vernierref10_Exact.j0 k (!decide (soundN kd ng sc fr = true ∧ soundN kd' ng' sc' fr' = true)) kd ng sc (fr : Int) kd' ng' sc' (fr' : Int)) (if soundN kd ng sc fr = true ∧ soundN kd' ng' sc' fr' = true then
   ((prodE kd ng sc fr kd' ng' sc' fr').1, (prodE kd ng sc fr kd' ng' sc' fr').2.1, (prodE kd ng sc fr kd' ng' sc' fr').2.2.1, (prodE kd ng sc fr kd' ng' sc' fr').2.2.2.1, (prodE kd ng sc fr kd' ng' sc' fr').2.2.2.2.1, (prodE kd ng sc fr kd' ng' sc' fr').2.2.2.2.2, 0)
   else (0, false, 0, 0, 0, false, 1)) := by
  refine evs ?_
  simp only [vernierref10_Exact.j0]
  by_cases hs : soundN kd ng sc fr = true ∧ soundN kd' ng' sc' fr' = true
  ·simp only [if_pos hs, decide_eq_true hs, Bool.not_true, Bool.false_eq_true, if_false]
   have c1 := soundN_cases hs.1
   have c2 := soundN_cases hs.2
   have j1 : Ev (fun k => vernierref10_Exact.j1 k (decide (kd = 2 ∨ kd' = 2)) kd ng sc (fr : Int) kd' ng' sc' (fr' : Int)) ((prodE kd ng sc fr kd' ng' sc' fr').1, (prodE kd ng sc fr kd' ng' sc' fr').2.1, (prodE kd ng sc fr kd' ng' sc' fr').2.2.1, (prodE kd ng sc fr kd' ng' sc' fr').2.2.2.1, (prodE kd ng sc fr kd' ng' sc' fr').2.2.2.2.1, (prodE kd ng sc fr kd' ng' sc' fr').2.2.2.2.2, 0) := by
    refine evs ?_
    simp only [vernierref10_Exact.j1]
    unfold prodE
    by_cases hk : kd = 2 ∨ kd' = 2
    ·simp only [if_pos hk, decide_eq_true hk, if_true]
     exact Ev.now _
    ·simp only [if_neg hk, decide_eq_false hk, Bool.false_eq_true, if_false]
     by_cases h0 : kd = 0
     ·simp only [if_pos h0, if_pos (show kd = 0 ∨ kd' = 0 from .inl h0)]
      exact Ev.now _
     ·simp only [if_neg h0]
      by_cases h0' : kd' = 0
      ·simp only [if_pos h0', if_pos (show kd = 0 ∨ kd' = 0 from .inr h0')]
       exact Ev.now _
      ·simp only [if_neg h0', if_neg (show ¬ (kd = 0 ∨ kd' = 0) by omega)]
       obtain ⟨a, a1, a2⟩ := r4_Of fr hf
       obtain ⟨b, b1, b2⟩ := r4_Of fr' hf'
       have la : a.length ≤ 3 := a2.len_le (Nat.lt_of_lt_of_le hf (by decide))
       have lb : b.length ≤ 3 := b2.len_le (Nat.lt_of_lt_of_le hf' (by decide))
       obtain ⟨m, m1, m2⟩ := r4_Mul a2 b2 (by omega)
       have lm : m.length ≤ 6 := m2.len_le (Nat.lt_of_lt_of_le (mul_lt128 hf hf') (by decide))
       have ew : wrap64 (wrap64 (sc + sc') - 126) = sc + sc' - 126 := by
        rw [w64 (n := sc + sc') (by omega) (by omega), w64 (by omega) (by omega)]
       rw [ew]
       refine Ev.bind a1 (Ev.bind b1 (Ev.bind m1 (Ev.bind (ref_Exactly_eq m2 (by omega) (by omega) (by omega)) ?_)))
       exact Ev.now _
   by_cases hk2 : kd = 2
   ·have hd : true = decide (kd = 2 ∨ kd' = 2) := by simp [hk2]
    simp only [if_pos hk2]
    rw [← hd] at j1
    exact j1
   ·have hd : (kd' == 2) = decide (kd = 2 ∨ kd' = 2) := by rw [beq_dec]; simp [hk2]
    simp only [if_neg hk2, hd]
    exact j1
  ·simp only [if_neg hs, decide_eq_false hs, Bool.not_false, if_true]
   exact Ev.now _
 by_cases h1 : soundN kd ng sc fr = true
 ·have hd : (!soundN kd' ng' sc' fr') = (!decide (soundN kd ng sc fr = true ∧ soundN kd' ng' sc' fr' = true)) := by simp [h1]
  simp only [if_pos h1]
  simp only [h1] at j0 hd ⊢
  rw [hd]
  exact j0
 ·have hd : true = (!decide (soundN kd ng sc fr = true ∧ soundN kd' ng' sc' fr' = true)) := by simp [h1]
  simp only [if_neg h1]
  rw [← hd] at j0
  exact j0
def prodX (a b : NM) : EX := if a.kd = 2 ∨ b.kd = 2 then EX.nar else if a.kd = 0 ∨ b.kd = 0 then EX.zero else natX (a.ng != b.ng) (a.fr * b.fr) (a.sc + b.sc - 126) false
theorem prodX_ok (a b : NM) : (prodX a b).ok := by
 unfold prodX
 split
 ·exact .inr (.inl rfl)
 ·split
  ·exact .inl rfl
  ·exact natX_ok _ _ _ _
theorem prodE_X (a b : NM) : prodE a.kd a.ng a.sc a.fr b.kd b.ng b.sc b.fr = ((prodX a b).kd, (prodX a b).ng, (prodX a b).sc, TH (prodX a b).V, TL (prodX a b).V, (prodX a b).R) := by
 unfold prodE prodX
 by_cases h2 : a.kd = 2 ∨ b.kd = 2
 ·rw [if_pos h2, if_pos h2]; rfl
 ·rw [if_neg h2, if_neg h2]
  by_cases h0 : a.kd = 0 ∨ b.kd = 0
  ·rw [if_pos h0, if_pos h0]; rfl
  ·rw [if_neg h0, if_neg h0, exactE_natX]
theorem prod_Exact_X {a b : NM} (ha : a.ok) (hb : b.ok) : Ev (fun k => prod_Exact.f k a.kd a.ng a.sc (a.fr : Int) b.kd b.ng b.sc (b.fr : Int)) ((prodX a b).kd, (prodX a b).ng, (prodX a b).sc, TH (prodX a b).V, TL (prodX a b).V, (prodX a b).R, none) := by
 have := prod_Exact_eq a.kd a.ng a.sc a.fr b.kd b.ng b.sc b.fr ha.2 hb.2
 rw [if_pos ⟨ha.1, hb.1⟩, prodE_X] at this
 exact this
theorem ref10_Exact_X {a b : NM} (ha : a.ok) (hb : b.ok) : Ev (fun k => vernierref10_Exact.f k a.kd a.ng a.sc (a.fr : Int) b.kd b.ng b.sc (b.fr : Int)) ((prodX a b).kd, (prodX a b).ng, (prodX a b).sc, TH (prodX a b).V, TL (prodX a b).V, (prodX a b).R, 0) := by
 have := ref10_Exact_eq a.kd a.ng a.sc a.fr b.kd b.ng b.sc b.fr ha.2 hb.2
 rw [if_pos ⟨ha.1, hb.1⟩, prodE_X] at this
 exact this
def mulN (n x y : Nat) : Nat := (prodX (decN n x) (decN n y)).rnd n
theorem prod_Mul_eq {n a b : Nat} (h : isW (n : Int) = true) (ha : a < 18446744073709551616) (hb : b < 18446744073709551616) : Ev (fun k => prod_Mul.f k (n : Int) (a : Int) (b : Int)) (((mulN n (a % 2 ^ n) (b % 2 ^ n) : Nat) : Int), none) := by
 obtain ⟨b64, b8⟩ := pow64 h
 unfold prod_Mul.f
 refine Ev.bind (Decode_N h ha) ?_
 simp only [Option.isNone_none, if_true]
 refine Ev.bind (Decode_N h hb) ?_
 refine Ev.bind (prod_Exact_X (decN_ok b8 b64 (Nat.mod_lt a (two_pos n))) (decN_ok b8 b64 (Nat.mod_lt b (two_pos n)))) ?_
 refine Ev.bind (Round_X h (prodX_ok _ _)) ?_
 exact Ev.now _
theorem prod_Mul_no {n : Int} (h : isW n = false) (a b : Int) : Ev (fun k => prod_Mul.f k n a b) (0, some 2) := by
 unfold prod_Mul.f
 exact Ev.bind (Decode_no h a) (Ev.now _)
theorem up10 : Ev (fun k => vernierlaw10_up.f k) true := by
 unfold vernierlaw10_up.f
 have a := prod_Mul_eq (n := 8) (a := 72) (b := 72) (by decide) (by decide) (by decide)
 have b := prod_Mul_eq (n := 8) (a := 1) (b := 255) (by decide) (by decide) (by decide)
 rw [show mulN 8 (72 % 2 ^ 8) (72 % 2 ^ 8) = 80 by decide +kernel] at a
 rw [show mulN 8 (1 % 2 ^ 8) (255 % 2 ^ 8) = 255 by decide +kernel] at b
 refine Ev.bind a (Ev.bind b ?_)
 exact Ev.now _
end Go.Proofs.Ytebhpipfkomhjaa.V
namespace Go.Proofs.Ytebhpipfkomhjaa.V
open Go Go.RowKit Go.Proofs.YtebhpipfkomhjaaW.PrintWords Go.Proofs.YtebhpipfkomhjaaW.PrintLast Go.Proofs.YtebhpipfkomhjaaW.PrintMore Go.Proofs.Ytebhpipfkomhjaa.PAll
theorem ref10_Mul_eq {n a b : Nat} (h : isW (n : Int) = true) (ha : a < 18446744073709551616) (hb : b < 18446744073709551616) : Ev (fun k => vernierref10_Mul.f k (n : Int) (a : Int) (b : Int)) ((mulN n (a % 2 ^ n) (b % 2 ^ n) : Nat) : Int) := by
 obtain ⟨b64, b8⟩ := pow64 h
 unfold vernierref10_Mul.f
 refine Ev.bind (ref_Decode_N h ha) ?_
 refine Ev.bind (ref_Decode_N h hb) ?_
 refine Ev.bind (ref10_Exact_X (decN_ok b8 b64 (Nat.mod_lt a (two_pos n))) (decN_ok b8 b64 (Nat.mod_lt b (two_pos n)))) ?_
 refine Ev.bind (ref_Round_X h (prodX_ok _ _)) ?_
 exact Ev.now _
end Go.Proofs.Ytebhpipfkomhjaa.V
namespace Go.Proofs.Ytebhpipfkomhjaa.Pure
open Go Go.RowKit Go.Proofs.Ytebhpipfkomhjaa.PAll Go.Proofs.YtebhpipfkomhjaaW.PrintWords Go.Proofs.YtebhpipfkomhjaaW.PrintLast Go.Proofs.YtebhpipfkomhjaaW.PrintMore Go.Proofs.Ytebhpipfkomhjaa.V
set_option linter.unusedSimpArgs false
theorem ProdMuls : vernierlaw10_ProdMuls.Pure := by
 intro n a b w0 w1 w2
 obtain ⟨a, rfl, ha⟩ := u64_nat w1
 obtain ⟨b, rfl, hb⟩ := u64_nat w2
 refine Ev.rounds (g := fun k => vernierlaw10_ProdMuls.f k n (a : Int) (b : Int)) ?_
 unfold vernierlaw10_ProdMuls.f
 refine Ev.bind up10 ?_
 by_cases hn : isW n = true
 ·obtain ⟨n, rfl, _⟩ := isW_nat hn
  refine Ev.bind (prod_Mul_eq hn ha hb) (Ev.bind (a := (((mulN n (a % 2 ^ n) (b % 2 ^ n) : Nat) : Int), (0 : Int))) ?_ (evn (by simp [code_none])))
  unfold vernierref10_Muls.f
  simp only [ref_Is_eq, hn, Option.bind_some, if_true]
  exact Ev.bind (ref10_Mul_eq hn ha hb) (Ev.now _)
 ·have hn : isW n = false := by simpa using hn
  refine Ev.bind (prod_Mul_no hn _ _) (Ev.bind (a := ((0 : Int), (2 : Int))) ?_ (evn (by simp [code_2])))
  unfold vernierref10_Muls.f
  simp only [ref_Is_eq, hn, Option.bind_some, Bool.false_eq_true, if_false]
  exact Ev.now _
end Go.Proofs.Ytebhpipfkomhjaa.Pure
