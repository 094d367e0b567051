-- Written by a program of this session out of its own texts (wip/tools/link.py).
import Derived.ArgAppend
import Derived.Below
import Derived.BigQuiet
import Derived.Deep.AppendLies
import Derived.Deep.CutBlock
import Derived.Deep.DeepCutAuto
import Derived.Deep.Draws
import Derived.Deep.LoopGhost
import Derived.Deep.OwnRows
import Derived.Deep.QuietTactic
import Derived.Deep.RegionHeld3
import Derived.KernelRfl
import Derived.LaidEql
import Derived.Laws.BitsLemmas
import Derived.Laws.BytesArg
import Derived.Laws.IdiomCopy
import Derived.Laws.MakeOwn
import Derived.Laws.OwnMore
import Derived.Laws.Rows
import Derived.Laws.Slices
import Derived.Laws.Strings
import Derived.Laws.StructEq
import Derived.Lib.AppendStr
import Derived.Lib.BitFns
import Derived.Lib.ConvBytes
import Derived.Lib.Mul64
import Derived.Lib.Slices
import Derived.Lib.Small
import Derived.Lib.Strings
import Derived.Lib.Walk
import Derived.Maps.AppendAt
import Derived.OrdersHeld
import Derived.OwnWalk
import Derived.RowKit
import Derived.RowKit3
import Derived.Tactics
import Derived.Test.YtebhpipfkomhjaaProg
import Derived.WalkKit
import Derived.WideLaws
import Derived.Test.YtebhpipfkomhjaaCProdLaws8
import Derived.Test.YtebhpipfkomhjaaCProdLaws10
import Derived.Test.YtebhpipfkomhjaaCProdLaws11
import Derived.Test.YtebhpipfkomhjaaCProdLaws12
namespace Go.Proofs.Ytebhpipfkomhjaa.V
open Go Go.RowKit Go.Proofs.YtebhpipfkomhjaaW.PrintWords Go.Proofs.YtebhpipfkomhjaaW.PrintLast Go.Proofs.YtebhpipfkomhjaaW.PrintMore Go.Proofs.Ytebhpipfkomhjaa.PAll
set_option linter.unusedVariables false
set_option linter.unusedSimpArgs false
theorem beq_dec (a b : Int) : (a == b) = decide (a = b) := by by_cases h : a = b <;> simp [h]
theorem mask32 (a : Nat) (ha : a < 18446744073709551616) : Go.bits .and .u64 (a : Int) 4294967295 = ((a % 4294967296 : Nat) : Int) := and_mask a 32 ha (by decide)
theorem div32 (a : Nat) : (a : Int) / 4294967296 = ((a / 4294967296 : Nat) : Int) := by omega
theorem mulC (a b : Nat) : (a : Int) * (b : Int) = ((a * b : Nat) : Int) := (Int.natCast_mul a b).symm
theorem addC (a b : Nat) : (a : Int) + (b : Int) = ((a + b : Nat) : Int) := (Int.natCast_add a b).symm
theorem wrapN (a : Nat) (ha : a < 18446744073709551616) : IntKind.u64.wrap (a : Int) = (a : Int) := u64_of (by omega) (by omega)
theorem bits_Mul64_eq {x y : Nat} (hx : x < 18446744073709551616) (hy : y < 18446744073709551616) : bits_Mul64.f (x : Int) (y : Int) = some (TH (x * y), TL (x * y)) := by
  obtain ⟨bd, bt, bw, hhi⟩ := Lib.mul64_hi x y hx hy
  have ba := Lib.half_mul_le (a := x / 4294967296) (b := y / 4294967296) (by omega) (by omega)
  have bb := Lib.half_mul_le (a := x / 4294967296) (b := y % 4294967296) (by omega) (by omega)
  have bc := Lib.half_mul_le (a := x % 4294967296) (b := y / 4294967296) (by omega) (by omega)
  have ba' : x / 4294967296 * (y / 4294967296) < 18446744073709551616 := by omega
  have bb' : x / 4294967296 * (y % 4294967296) < 18446744073709551616 := by omega
  have bc' : x % 4294967296 * (y / 4294967296) < 18446744073709551616 := by omega
  have bh1 : x / 4294967296 * (y / 4294967296) + (x / 4294967296 * (y % 4294967296) + x % 4294967296 * (y % 4294967296) / 4294967296) / 4294967296 < 18446744073709551616 := by omega
  have bh : x / 4294967296 * (y / 4294967296) + (x / 4294967296 * (y % 4294967296) + x % 4294967296 * (y % 4294967296) / 4294967296) / 4294967296 + ((x / 4294967296 * (y % 4294967296) + x % 4294967296 * (y % 4294967296) / 4294967296) % 4294967296 + x % 4294967296 * (y / 4294967296)) / 4294967296 < 18446744073709551616 := by omega
  unfold bits_Mul64.f
  simp only [mask32 x hx, mask32 y hy, div32, mulC, addC, wrapN _ bd, wrapN _ bb', wrapN _ bt, mask32 _ bt, wrapN _ bc', wrapN _ bw, wrapN _ ba', wrapN _ bh1, wrapN _ bh, u64_nat_wrap (x * y)]
  rw [hhi]
  rfl
theorem twin_Mul_eq {x y : Nat} (hx : x < 18446744073709551616) (hy : y < 18446744073709551616) : twin_Mul.f (x : Int) (y : Int) = some (TH (x * y), TL (x * y)) := by
  unfold twin_Mul.f
  rw [bits_Mul64_eq hx hy]; rfl
theorem mul_lt128 {x y : Nat} (hx : x < 18446744073709551616) (hy : y < 18446744073709551616) : x * y < 2 ^ 128 := by
  have := Nat.mul_le_mul (show x ≤ 18446744073709551615 by omega) (show y ≤ 18446744073709551615 by omega)
  rw [p128]
  omega
def prodE (kd : Int) (ng : Bool) (sc : Int) (fr : Nat) (kd' : Int) (ng' : Bool) (sc' : Int) (fr' : Nat) : Int × Bool × Int × Int × Int × Bool :=
  if kd = 2 ∨ kd' = 2 then (2, false, 0, 0, 0, false) else if kd = 0 ∨ kd' = 0 then (0, false, 0, 0, 0, false)
  else exactE (ng != ng') (fr * fr') (sc + sc' - 126) false
theorem soundN_cases {kd sc fr : Int} {ng : Bool} (h : soundN kd ng sc fr = true) : (kd = 0 ∧ ng = false ∧ sc = 0 ∧ fr = 0) ∨ (kd = 2 ∧ ng = false ∧ sc = 0 ∧ fr = 0) ∨ (kd = 1 ∧ 9223372036854775808 ≤ fr ∧ -1073741824 ≤ sc ∧ sc ≤ 1073741824) := by
  unfold soundN at h
  split at h
  · rename_i hk
    have : ng = false ∧ sc = 0 ∧ fr = 0 := by simpa using h
    rcases hk with hk | hk
    · exact .inl ⟨hk, this⟩
    · exact .inr (.inl ⟨hk, this⟩)
  · exact .inr (.inr (of_decide_eq_true h))
theorem makeV_exactE {ng R : Bool} {V : Nat} {e : Int} (hV : V < 2 ^ 128) (h0 : -4398046511104 ≤ e) (h1 : e ≤ 4398046511104) :
    makeV ng V e R = ((exactE ng V e R).1, (exactE ng V e R).2.1, (exactE ng V e R).2.2.1, (exactE ng V e R).2.2.2.1, (exactE ng V e R).2.2.2.2.1, (exactE ng V e R).2.2.2.2.2, none) := by
  unfold makeV exactE
  by_cases hz : V = 0
  · rw [if_pos hz, if_pos hz]
  · rw [if_neg hz, if_neg hz]
    have hb := bl_le_of_lt hV
    have hr : mkR V R = R := by unfold mkR; rw [show bl V - 128 = 0 by omega, Nat.pow_zero, Nat.mod_one]; simp
    have hf : farI e = e := by unfold farI; rw [if_neg (by omega), if_neg (by omega)]
    rw [hr, hf]
theorem prod_Exact_eq (kd : Int) (ng : Bool) (sc : Int) (fr : Nat) (kd' : Int) (ng' : Bool) (sc' : Int) (fr' : Nat) (hf : fr < 18446744073709551616) (hf' : fr' < 18446744073709551616) :
    Ev (fun k => prod_Exact.f k kd ng sc (fr : Int) kd' ng' sc' (fr' : Int)) (if soundN kd ng sc fr = true ∧ soundN kd' ng' sc' fr' = true then
      ((prodE kd ng sc fr kd' ng' sc' fr').1, (prodE kd ng sc fr kd' ng' sc' fr').2.1, (prodE kd ng sc fr kd' ng' sc' fr').2.2.1, (prodE kd ng sc fr kd' ng' sc' fr').2.2.2.1, (prodE kd ng sc fr kd' ng' sc' fr').2.2.2.2.1, (prodE kd ng sc fr kd' ng' sc' fr').2.2.2.2.2, none)
      else (0, false, 0, 0, 0, false, some 1)) := by
  obtain ⟨L, hL⟩ : ∃ L : List S24, L = [⟨kd, ng, sc, (fr : Int)⟩, ⟨kd', ng', sc', (fr' : Int)⟩] := ⟨_, rfl⟩
  have hl : L.length = 2 := by rw [hL]; rfl
  have e0 : rd_T24 L 0 = ⟨kd, ng, sc, (fr : Int)⟩ := by rw [hL]; rfl
  have e1 : rd_T24 L 1 = ⟨kd', ng', sc', (fr' : Int)⟩ := by rw [hL]; rfl
  have w0 : wrap64 ((0 : Int) + 1) = 1 := w64 (by decide) (by decide)
  have w1 : wrap64 ((1 : Int) + 1) = 2 := w64 (by decide) (by decide)
  unfold prod_Exact.f
  rw [← hL]
  simp only [Option.bind_some, hl]
  refine evs ?_
  simp only [prod_Exact.l0, hl, if_pos (show (0 : Int) < ((2 : Nat) : Int) by decide), if_pos (show (0 : Int) ≤ 0 by decide), e0]
  refine Ev.bind (round_Of_eq kd ng sc fr (by omega) (by omega)) ?_
  by_cases h1 : soundN kd ng sc fr = true
  · simp only [h1, if_true, Option.isNone_none, w0, true_and]
    refine evs ?_
    simp only [prod_Exact.l0, hl, if_pos (show (1 : Int) < ((2 : Nat) : Int) by decide), if_pos (show (0 : Int) ≤ 1 by decide), e1]
    refine Ev.bind (round_Of_eq kd' ng' sc' fr' (by omega) (by omega)) ?_
    by_cases h2 : soundN kd' ng' sc' fr' = true
    · simp only [h2, if_true, Option.isNone_none, w1]
      refine evs ?_
      simp only [prod_Exact.l0, if_neg (show ¬ (2 : Int) < ((2 : Nat) : Int) by decide)]
      have c1 := soundN_cases h1
      have c2 := soundN_cases h2
      have j1 : Ev (fun k => prod_Exact.j1 k (decide (kd = 2 ∨ kd' = 2)) kd ng sc (fr : Int) kd' ng' sc' (fr' : Int)) ((prodE kd ng sc fr kd' ng' sc' fr').1, (prodE kd ng sc fr kd' ng' sc' fr').2.1, (prodE kd ng sc fr kd' ng' sc' fr').2.2.1, (prodE kd ng sc fr kd' ng' sc' fr').2.2.2.1, (prodE kd ng sc fr kd' ng' sc' fr').2.2.2.2.1, (prodE kd ng sc fr kd' ng' sc' fr').2.2.2.2.2, none) := by
        refine evs ?_
        simp only [prod_Exact.j1]
        unfold prodE
        by_cases hk : kd = 2 ∨ kd' = 2
        · simp only [if_pos hk, decide_eq_true hk, if_true]
          exact Ev.now _
        · simp only [if_neg hk, decide_eq_false hk, Bool.false_eq_true, if_false]
          have j2 : Ev (fun k => prod_Exact.j2 k (decide (kd = 0 ∨ kd' = 0)) kd ng sc (fr : Int) kd' ng' sc' (fr' : Int)) (if kd = 0 ∨ kd' = 0 then (0, false, 0, 0, 0, false, none) else makeV (ng != ng') (fr * fr') (sc + sc' - 126) false) := by
            refine evs ?_
            simp only [prod_Exact.j2]
            by_cases h0 : kd = 0 ∨ kd' = 0
            · simp only [if_pos h0, decide_eq_true h0, if_true]
              exact Ev.now _
            · simp only [if_neg h0, decide_eq_false h0, Bool.false_eq_true, if_false]
              have ew : wrap64 (wrap64 (sc + sc') - 126) = sc + sc' - 126 := by
                rw [w64 (n := sc + sc') (by omega) (by omega), w64 (by omega) (by omega)]
              rw [ew, twin_Mul_eq hf hf']
              simp only [Option.bind_some]
              have := round_Make_eq (ng != ng') (fr * fr') (sc + sc' - 126) false (mul_lt128 hf hf')
              simp only [Bool.false_eq_true, false_and, if_false] at this
              refine Ev.bind this ?_
              exact Ev.now _
          have key : ((if kd = 0 ∨ kd' = 0 then (0, false, 0, 0, 0, false, none) else makeV (ng != ng') (fr * fr') (sc + sc' - 126) false) : Int × Bool × Int × Int × Int × Bool × Option Int) = ((if kd = 0 ∨ kd' = 0 then (0, false, 0, 0, 0, false) else exactE (ng != ng') (fr * fr') (sc + sc' - 126) false).1, (if kd = 0 ∨ kd' = 0 then (0, false, 0, 0, 0, false) else exactE (ng != ng') (fr * fr') (sc + sc' - 126) false).2.1, (if kd = 0 ∨ kd' = 0 then (0, false, 0, 0, 0, false) else exactE (ng != ng') (fr * fr') (sc + sc' - 126) false).2.2.1, (if kd = 0 ∨ kd' = 0 then (0, false, 0, 0, 0, false) else exactE (ng != ng') (fr * fr') (sc + sc' - 126) false).2.2.2.1, (if kd = 0 ∨ kd' = 0 then (0, false, 0, 0, 0, false) else exactE (ng != ng') (fr * fr') (sc + sc' - 126) false).2.2.2.2.1, (if kd = 0 ∨ kd' = 0 then (0, false, 0, 0, 0, false) else exactE (ng != ng') (fr * fr') (sc + sc' - 126) false).2.2.2.2.2, none) := by
            by_cases h0 : kd = 0 ∨ kd' = 0
            · simp only [if_pos h0]
            · simp only [if_neg h0]
              exact makeV_exactE (mul_lt128 hf hf') (by omega) (by omega)
          rw [← key]
          by_cases hk0 : kd = 0
          · have hd : (kd == 0) = decide (kd = 0 ∨ kd' = 0) := by rw [decide_eq_true (.inl hk0)]; simp [hk0]
            simp only [if_pos hk0, hd]
            exact j2
          · have hd : (kd' == 0) = decide (kd = 0 ∨ kd' = 0) := by rw [beq_dec]; simp [hk0]
            simp only [if_neg hk0, hd]
            exact j2
      by_cases hk2 : kd = 2
      · have hd : (kd == 2) = decide (kd = 2 ∨ kd' = 2) := by simp [hk2]
        simp only [if_pos hk2, hd]
        exact j1
      · have hd : (kd' == 2) = decide (kd = 2 ∨ kd' = 2) := by rw [beq_dec]; simp [hk2]
        simp only [if_neg hk2, hd]
        exact j1
    · simp only [if_neg h2]
      exact Ev.now _
  · simp only [if_neg h1, if_neg (show ¬ (soundN kd ng sc fr = true ∧ soundN kd' ng' sc' fr' = true) from fun h => h1 h.1)]
    exact Ev.now _
def prodX (a b : NM) : EX := if a.kd = 2 ∨ b.kd = 2 then EX.nar else if a.kd = 0 ∨ b.kd = 0 then EX.zero else natX (a.ng != b.ng) (a.fr * b.fr) (a.sc + b.sc - 126) false
theorem prodX_ok (a b : NM) : (prodX a b).ok := by
  unfold prodX
  split
  · exact .inr (.inl rfl)
  · split
    · exact .inl rfl
    · exact natX_ok _ _ _ _
theorem prodE_X (a b : NM) : prodE a.kd a.ng a.sc a.fr b.kd b.ng b.sc b.fr = ((prodX a b).kd, (prodX a b).ng, (prodX a b).sc, TH (prodX a b).V, TL (prodX a b).V, (prodX a b).R) := by
  unfold prodE prodX
  by_cases h2 : a.kd = 2 ∨ b.kd = 2
  · rw [if_pos h2, if_pos h2]; rfl
  · rw [if_neg h2, if_neg h2]
    by_cases h0 : a.kd = 0 ∨ b.kd = 0
    · rw [if_pos h0, if_pos h0]; rfl
    · rw [if_neg h0, if_neg h0, exactE_natX]
theorem prod_Exact_X {a b : NM} (ha : a.ok) (hb : b.ok) : Ev (fun k => prod_Exact.f k a.kd a.ng a.sc (a.fr : Int) b.kd b.ng b.sc (b.fr : Int)) ((prodX a b).kd, (prodX a b).ng, (prodX a b).sc, TH (prodX a b).V, TL (prodX a b).V, (prodX a b).R, none) := by
  have := prod_Exact_eq a.kd a.ng a.sc a.fr b.kd b.ng b.sc b.fr ha.2 hb.2
  rw [if_pos ⟨ha.1, hb.1⟩, prodE_X] at this
  exact this
def mulN (n x y : Nat) : Nat := (prodX (decN n x) (decN n y)).rnd n
theorem mulN_lt {n x y : Nat} (h8 : 8 ≤ n) (hn : n ≤ 64) : mulN n x y < 2 ^ n := EX.rnd_lt h8 hn (prodX_ok _ _)
theorem prod_Mul_eq {n a b : Nat} (h : isW (n : Int) = true) (ha : a < 18446744073709551616) (hb : b < 18446744073709551616) : Ev (fun k => prod_Mul.f k (n : Int) (a : Int) (b : Int)) (((mulN n (a % 2 ^ n) (b % 2 ^ n) : Nat) : Int), none) := by
  obtain ⟨b64, b8⟩ := pow64 h
  unfold prod_Mul.f
  refine Ev.bind (Decode_N h ha) ?_
  simp only [Option.isNone_none, if_true]
  refine Ev.bind (Decode_N h hb) ?_
  refine Ev.bind (prod_Exact_X (decN_ok b8 b64 (Nat.mod_lt a (two_pos n))) (decN_ok b8 b64 (Nat.mod_lt b (two_pos n)))) ?_
  refine Ev.bind (Round_X h (prodX_ok _ _)) ?_
  exact Ev.now _
theorem prod_Mul_no {n : Int} (h : isW n = false) (a b : Int) : Ev (fun k => prod_Mul.f k n a b) (0, some 2) := by
  unfold prod_Mul.f
  exact Ev.bind (Decode_no h a) (Ev.now _)
theorem up10 : Ev (fun k => vernierlaw10_up.f k) true := by
  unfold vernierlaw10_up.f
  have a := prod_Mul_eq (n := 8) (a := 72) (b := 72) (by decide) (by decide) (by decide)
  have b := prod_Mul_eq (n := 8) (a := 1) (b := 255) (by decide) (by decide) (by decide)
  rw [show mulN 8 (72 % 2 ^ 8) (72 % 2 ^ 8) = 80 by decide +kernel] at a
  rw [show mulN 8 (1 % 2 ^ 8) (255 % 2 ^ 8) = 255 by decide +kernel] at b
  refine Ev.bind a (Ev.bind b ?_)
  exact Ev.now _
end Go.Proofs.Ytebhpipfkomhjaa.V
namespace Go.Proofs.Ytebhpipfkomhjaa.V
open Go Go.RowKit Go.Proofs.YtebhpipfkomhjaaW.PrintWords Go.Proofs.YtebhpipfkomhjaaW.PrintLast Go.Proofs.YtebhpipfkomhjaaW.PrintMore
theorem prodX_comm (a b : NM) : prodX a b = prodX b a := by
  have e2 : (b.kd = 2 ∨ a.kd = 2) ↔ (a.kd = 2 ∨ b.kd = 2) := Or.comm
  have e0 : (b.kd = 0 ∨ a.kd = 0) ↔ (a.kd = 0 ∨ b.kd = 0) := Or.comm
  unfold prodX
  simp only [e2, e0, Nat.mul_comm b.fr, Int.add_comm b.sc, show (b.ng != a.ng) = (a.ng != b.ng) by cases a.ng <;> cases b.ng <;> rfl]
theorem prodX_neg {a : NM} (ha : a.ok) (b : NM) : prodX a.neg b = (prodX a b).neg := by
  rcases NM.cases ha with rfl | rfl | ⟨h, h2, h3, h4, h5⟩
  · rw [show (⟨0, false, 0, 0⟩ : NM).neg = ⟨0, false, 0, 0⟩ from rfl]
    unfold prodX
    split
    · rfl
    · rw [if_pos (.inl rfl)]; rfl
  · rw [show (⟨2, false, 0, 0⟩ : NM).neg = ⟨2, false, 0, 0⟩ from rfl]
    unfold prodX
    rw [if_pos (.inl rfl)]; rfl
  · unfold NM.neg
    rw [if_pos h]
    unfold prodX
    simp only
    by_cases h2 : a.kd = 2 ∨ b.kd = 2
    · rw [if_pos h2, if_pos h2]; rfl
    · rw [if_neg h2, if_neg h2]
      by_cases h0 : a.kd = 0 ∨ b.kd = 0
      · rw [if_pos h0, if_pos h0]; rfl
      · rw [if_neg h0, if_neg h0, ← natX_neg]
        congr 1
        cases a.ng <;> cases b.ng <;> rfl
theorem bl63 {f : Nat} (h : 2 ^ 63 ≤ f) (h2 : f < 2 ^ 64) : bl f = 64 := bl_unique (by decide) h h2
theorem prodX_one {a : NM} (ha : a.ok) : prodX a oneN = a.ex := by
  rcases NM.cases ha with rfl | rfl | ⟨h1, h2, h3, h4, h5⟩
  · rfl
  · rfl
  · unfold prodX
    rw [if_neg (by unfold oneN; simp only; omega), if_neg (by unfold oneN; simp only; omega)]
    unfold oneN natX
    simp only
    have hp : a.fr * 9223372036854775808 ≠ 0 := by rw [p63] at h2; omega
    have hb : bl (a.fr * 9223372036854775808) = 127 := by
      rw [show (9223372036854775808 : Nat) = 2 ^ 63 from p63.symm, bl_mul_pow 63 (by rw [p63] at h2; omega), bl63 h2 h3]
    rw [if_neg hp, hb]
    unfold NM.ex
    refine EX.ext' h1.symm ?_ ?_ ?_ ?_
    · simp
    · simp only
      unfold heldI
      rw [if_neg (by omega), if_neg (by omega)]
      omega
    · simp only
      unfold mkV
      rw [hb, if_pos (by decide), Nat.mul_assoc]
    · simp only
      unfold mkR
      rw [hb, Nat.pow_zero, Nat.mod_one]; rfl
theorem mulN_comm (n x y : Nat) : mulN n x y = mulN n y x := by unfold mulN; rw [prodX_comm]
theorem mulN_neg {n x y : Nat} (h8 : 8 ≤ n) (hn : n ≤ 64) (hx : x < 2 ^ n) : mulN n (negP n x) y = negP n (mulN n x y) := by
  unfold mulN
  rw [decN_neg (by omega) hx, prodX_neg (decN_ok h8 hn hx), EX.rnd_neg h8 hn (prodX_ok _ _)]
theorem mulN_one {n x : Nat} (h : isW (n : Int) = true) (h8 : 8 ≤ n) (hn : n ≤ 64) (hx : x < 2 ^ n) : mulN n x (2 ^ (n - 2)) = x := by
  unfold mulN
  rw [decN_one h, prodX_one (decN_ok h8 hn hx), dec_rnd h8 hn hx]
theorem decN_nar (n : Nat) : decN n (2 ^ (n - 1)) = ⟨2, false, 0, 0⟩ := by
  unfold decN
  rw [if_neg (Nat.ne_of_gt (two_pos (n - 1))), if_pos rfl]
theorem mulN_nar (n y : Nat) : mulN n (2 ^ (n - 1)) y = 2 ^ (n - 1) := by
  unfold mulN
  rw [decN_nar]
  unfold prodX
  rw [if_pos (.inl rfl), EX.rnd_nar]
theorem decN_kd {n x : Nat} (h : x ≠ 2 ^ (n - 1)) : (decN n x).kd ≠ 2 := by
  unfold decN
  by_cases h0 : x = 0
  · rw [if_pos h0]; show (0 : Int) ≠ 2; decide
  · rw [if_neg h0, if_neg h]; show (1 : Int) ≠ 2; decide
theorem mulN_zero {n x : Nat} (h : x ≠ 2 ^ (n - 1)) : mulN n x 0 = 0 := by
  unfold mulN prodX
  rw [show decN n 0 = ⟨0, false, 0, 0⟩ from rfl]
  have := decN_kd h
  rw [if_neg (by simp only; omega), if_pos (.inr rfl), EX.rnd_zero]
end Go.Proofs.Ytebhpipfkomhjaa.V
namespace Go.Proofs.Ytebhpipfkomhjaa.Pure
open Go Go.RowKit Go.Proofs.Ytebhpipfkomhjaa.PAll Go.Proofs.YtebhpipfkomhjaaW.PrintWords Go.Proofs.YtebhpipfkomhjaaW.PrintLast Go.Proofs.YtebhpipfkomhjaaW.PrintMore Go.Proofs.Ytebhpipfkomhjaa.V
set_option linter.unusedSimpArgs false
theorem ProdLaws : vernierlaw10_ProdLaws.Pure := by
  intro n a b w0 w1 w2
  obtain ⟨a, rfl, ha⟩ := u64_nat w1
  obtain ⟨b, rfl, hb⟩ := u64_nat w2
  refine Ev.rounds (g := fun k => vernierlaw10_ProdLaws.f k n (a : Int) (b : Int)) ?_
  unfold vernierlaw10_ProdLaws.f
  refine Ev.bind up10 ?_
  by_cases hn : isW n = true
  · obtain ⟨n, rfl, _⟩ := isW_nat hn
    obtain ⟨b64, b8⟩ := pow64 hn
    simp only [ref_Is_eq, hn, Option.bind_some, if_true]
    have e2 : wrap64 ((n : Int) - 2) = ((n - 2 : Nat) : Int) := by rw [w64 (by omega) (by omega)]; omega
    have e1 : wrap64 ((n : Int) - 1) = ((n - 1 : Nat) : Int) := by rw [w64 (by omega) (by omega)]; omega
    rw [e1, e2]
    clear e1 e2
    have hp2 : 2 ^ (n - 2) < 18446744073709551616 := by rw [← p64]; exact pow_lt (by omega)
    have hx := Nat.mod_lt a (two_pos n)
    have hy := Nat.mod_lt b (two_pos n)
    have hm2 : 2 ^ (n - 2) % 2 ^ n = 2 ^ (n - 2) := Nat.mod_eq_of_lt (pow_lt (by omega))
    have h2n : 2 ^ n ≤ 18446744073709551616 := by rw [← p64]; exact pow_le b64
    refine Ev.bind (prod_Mul_eq hn ha hb) (Ev.bind (prod_Mul_eq hn hb ha) (Ev.bind (ref_Power_eq (by omega)) (Ev.bind (ref_Power_eq (by omega)) (Ev.bind (prod_Mul_eq hn ha hp2) ?_))))
    rw [neg_wrap hp2, neg_wrap ha]
    refine Ev.bind (prod_Mul_eq hn (Nat.mod_lt _ (by decide)) ha) (Ev.bind (prod_Mul_eq (b := 0) hn ha (by decide)) (Ev.bind (prod_Mul_eq hn (Nat.mod_lt _ (by decide)) hb) (Ev.bind (ref_Fold_eq hn ha) ?_)))
    have g1 : (18446744073709551616 - 2 ^ (n - 2)) % 18446744073709551616 % 2 ^ n = negP n (2 ^ (n - 2)) := by
      have := negN_mod b64 hp2
      rw [hm2] at this
      exact this
    have g2 : (18446744073709551616 - a) % 18446744073709551616 % 2 ^ n = negP n (a % 2 ^ n) := negN_mod b64 ha
    have r1 : mulN n (b % 2 ^ n) (a % 2 ^ n) = mulN n (a % 2 ^ n) (b % 2 ^ n) := mulN_comm _ _ _
    have r2 : mulN n (a % 2 ^ n) (2 ^ (n - 2)) = a % 2 ^ n := mulN_one hn b8 b64 hx
    have r3 : mulN n (negP n (2 ^ (n - 2))) (a % 2 ^ n) = negP n (a % 2 ^ n) := by
      rw [mulN_neg b8 b64 (pow_lt (by omega)), mulN_comm, r2]
    have r4 : mulN n (negP n (a % 2 ^ n)) (b % 2 ^ n) = negP n (mulN n (a % 2 ^ n) (b % 2 ^ n)) := mulN_neg b8 b64 hx
    have hz : (0 : Nat) % 2 ^ n = 0 := Nat.zero_mod _
    simp only [g1, g2, hm2, hz, r1, r2, r3, r4, if_true, Option.isNone_none]
    have hpl := mulN_lt (n := n) (x := a % 2 ^ n) (y := b % 2 ^ n) b8 b64
    have n1 := ref_Neg_eq hn ha
    rw [negN_mod b64 ha] at n1
    have n2 := ref_Neg_eq hn (x := mulN n (a % 2 ^ n) (b % 2 ^ n)) (by omega)
    rw [negN_mod b64 (by omega), Nat.mod_eq_of_lt hpl] at n2
    refine Ev.bind n1 ?_
    simp only [if_true]
    refine Ev.bind n2 (evs ?_)
    simp only [bne_self_eq_false, vernierlaw10_ProdLaws.j0, Bool.false_eq_true, if_false]
    by_cases hnar : a % 2 ^ n = 2 ^ (n - 1)
    · rw [hnar, mulN_nar, mulN_nar]
      simp only [if_true]
      exact evn (by simp)
    · rw [mulN_zero hnar]
      simp only [if_neg (show ¬ ((a % 2 ^ n : Nat) : Int) = ((2 ^ (n - 1) : Nat) : Int) from fun h => hnar (Int.ofNat.inj h))]
      exact evn (by simp)
  · have hn : isW n = false := by simpa using hn
    simp only [ref_Is_eq, hn, Option.bind_some, Bool.false_eq_true, if_false]
    refine Ev.bind (prod_Mul_no hn _ _) (Ev.bind (prod_Mul_no hn _ _) (evn ?_))
    simp
end Go.Proofs.Ytebhpipfkomhjaa.Pure
