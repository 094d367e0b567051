-- Written by a program of this session out of its own texts (wip/tools/link.py).
import Derived.Below
import Derived.ChangeKeysEq
import Derived.Deep.MidRow
import Derived.Deep.RegionHeld3
import Derived.Great.BuildSlice
import Derived.IntWalk
import Derived.KernelRfl
import Derived.LaidEql
import Derived.Laws.Bits64
import Derived.Laws.BitsLemmas
import Derived.Laws.BytesArg
import Derived.Laws.IdiomCopy
import Derived.Laws.OwnMore
import Derived.Laws.Rows
import Derived.Laws.Slices
import Derived.Laws.Strings
import Derived.Laws.StructEq
import Derived.Laws.Tables
import Derived.Lib.BitFns
import Derived.Lib.Mul64
import Derived.Lib.Slices
import Derived.Lib.Small
import Derived.Lib.Strings
import Derived.Lib.Walk
import Derived.Maps.AppendAt
import Derived.OrdersHeld
import Derived.RowKit
import Derived.Test.YtebhpipfkomhjaaProg
import Derived.Test.YtebhpipfkomhjaaCProdTwos8
import Derived.Test.YtebhpipfkomhjaaCProdTwos9
namespace Go.Proofs.Ytebhpipfkomhjaa.V
open Go Go.RowKit Go.Proofs.Ytebhpipfkomhjaa.Ab Go.Proofs.Ytebhpipfkomhjaa.Fn
set_option linter.unusedVariables false
set_option linter.unusedSimpArgs false
theorem beq_dec (a b : Int) : (a == b) = decide (a = b) := by by_cases h : a = b <;> simp [h]
theorem mask32 (a : Nat) (ha : a < 18446744073709551616) : Go.bits .and .u64 (a : Int) 4294967295 = ((a % 4294967296 : Nat) : Int) := and_mask a 32 ha (by decide)
theorem div32 (a : Nat) : (a : Int) / 4294967296 = ((a / 4294967296 : Nat) : Int) := by omega
theorem mulC (a b : Nat) : (a : Int) * (b : Int) = ((a * b : Nat) : Int) := (Int.natCast_mul a b).symm
theorem addC (a b : Nat) : (a : Int) + (b : Int) = ((a + b : Nat) : Int) := (Int.natCast_add a b).symm
theorem wrapN (a : Nat) (ha : a < 18446744073709551616) : IntKind.u64.wrap (a : Int) = (a : Int) := u64_of (by omega) (by omega)
theorem bits_Mul64_eq {x y : Nat} (hx : x < 18446744073709551616) (hy : y < 18446744073709551616) : bits_Mul64.f (x : Int) (y : Int) = some (TH (x * y), TL (x * y)) := by
 obtain ⟨bd, bt, bw, hhi⟩ := Lib.mul64_hi x y hx hy
 have ba := Lib.half_mul_le (a := x / 4294967296) (b := y / 4294967296) (by omega) (by omega)
 have bb := Lib.half_mul_le (a := x / 4294967296) (b := y % 4294967296) (by omega) (by omega)
 have bc := Lib.half_mul_le (a := x % 4294967296) (b := y / 4294967296) (by omega) (by omega)
 have ba' : x / 4294967296 * (y / 4294967296) < 18446744073709551616 := by omega
 have bb' : x / 4294967296 * (y % 4294967296) < 18446744073709551616 := by omega
 have bc' : x % 4294967296 * (y / 4294967296) < 18446744073709551616 := by omega
 have bh1 : x / 4294967296 * (y / 4294967296) + (x / 4294967296 * (y % 4294967296) + x % 4294967296 * (y % 4294967296) / 4294967296) / 4294967296 < 18446744073709551616 := by omega
 have bh : x / 4294967296 * (y / 4294967296) + (x / 4294967296 * (y % 4294967296) + x % 4294967296 * (y % 4294967296) / 4294967296) / 4294967296 + ((x / 4294967296 * (y % 4294967296) + x % 4294967296 * (y % 4294967296) / 4294967296) % 4294967296 + x % 4294967296 * (y / 4294967296)) / 4294967296 < 18446744073709551616 := by omega
 unfold bits_Mul64.f
 simp only [mask32 x hx, mask32 y hy, div32, mulC, addC, wrapN _ bd, wrapN _ bb', wrapN _ bt, mask32 _ bt, wrapN _ bc', wrapN _ bw, wrapN _ ba', wrapN _ bh1, wrapN _ bh, u64_nat_wrap (x * y)]
 rw [hhi]
 rfl
theorem twin_Mul_eq {x y : Nat} (hx : x < 18446744073709551616) (hy : y < 18446744073709551616) : twin_Mul.f (x : Int) (y : Int) = some (TH (x * y), TL (x * y)) := by
 unfold twin_Mul.f
 rw [bits_Mul64_eq hx hy]; rfl
theorem mul_lt128 {x y : Nat} (hx : x < 18446744073709551616) (hy : y < 18446744073709551616) : x * y < 2 ^ 128 := by
 have := Nat.mul_le_mul (show x ≤ 18446744073709551615 by omega) (show y ≤ 18446744073709551615 by omega)
 rw [p128]
 omega
def prodE (kd : Int) (ng : Bool) (sc : Int) (fr : Nat) (kd' : Int) (ng' : Bool) (sc' : Int) (fr' : Nat) : Int × Bool × Int × Int × Int × Bool :=
 if kd = 2 ∨ kd' = 2 then (2, false, 0, 0, 0, false) else if kd = 0 ∨ kd' = 0 then (0, false, 0, 0, 0, false)
 else exactE (ng != ng') (fr * fr') (sc + sc' - 126) false
theorem soundN_cases {kd sc fr : Int} {ng : Bool} (h : soundN kd ng sc fr = true) : (kd = 0 ∧ ng = false ∧ sc = 0 ∧ fr = 0) ∨ (kd = 2 ∧ ng = false ∧ sc = 0 ∧ fr = 0) ∨ (kd = 1 ∧ 9223372036854775808 ≤ fr ∧ -1073741824 ≤ sc ∧ sc ≤ 1073741824) := by
 unfold soundN at h
 split at h
 ·rename_i hk
  have : ng = false ∧ sc = 0 ∧ fr = 0 := by simpa using h
  rcases hk with hk | hk
  ·exact .inl ⟨hk, this⟩
  ·exact .inr (.inl ⟨hk, this⟩)
 ·exact .inr (.inr (of_decide_eq_true h))
theorem makeV_exactE {ng R : Bool} {V : Nat} {e : Int} (hV : V < 2 ^ 128) (h0 : -4398046511104 ≤ e) (h1 : e ≤ 4398046511104) :
  makeV ng V e R = ((exactE ng V e R).1, (exactE ng V e R).2.1, (exactE ng V e R).2.2.1, (exactE ng V e R).2.2.2.1, (exactE ng V e R).2.2.2.2.1, (exactE ng V e R).2.2.2.2.2, none) := by
 unfold makeV exactE
 by_cases hz : V = 0
 ·rw [if_pos hz, if_pos hz]
 ·rw [if_neg hz, if_neg hz]
  have hb := bl_le_of_lt hV
  have hr : mkR V R = R := by unfold mkR; rw [show bl V - 128 = 0 by omega, Nat.pow_zero, Nat.mod_one]; simp
  have hf : farI e = e := by unfold farI; rw [if_neg (by omega), if_neg (by omega)]
  rw [hr, hf]
theorem prod_Exact_eq (kd : Int) (ng : Bool) (sc : Int) (fr : Nat) (kd' : Int) (ng' : Bool) (sc' : Int) (fr' : Nat) (hf : fr < 18446744073709551616) (hf' : fr' < 18446744073709551616) :
  Ev (fun k => prod_Exact.f k kd ng sc (fr : Int) kd' ng' sc' (fr' : Int)) (if soundN kd ng sc fr = true ∧ soundN kd' ng' sc' fr' = true then
   ((prodE kd ng sc fr kd' ng' sc' fr').1, (prodE kd ng sc fr kd' ng' sc' fr').2.1, (prodE kd ng sc fr kd' ng' sc' fr').2.2.1, (prodE kd ng sc fr kd' ng' sc' fr').2.2.2.1, (prodE kd ng sc fr kd' ng' sc' fr').2.2.2.2.1, (prodE kd ng sc fr kd' ng' sc' fr').2.2.2.2.2, none)
   else (0, false, 0, 0, 0, false, some 1)) := by
 unfold prod_Exact.f
 refine Ev.bind (round_Of_eq kd ng sc fr (by omega) (by omega)) ?_
 by_cases h1 : soundN kd ng sc fr = true
 ·simp only [h1, if_true, Option.isNone_none, true_and]
  refine Ev.bind (round_Of_eq kd' ng' sc' fr' (by omega) (by omega)) ?_
  by_cases h2 : soundN kd' ng' sc' fr' = true
  ·simp only [h2, if_true, Option.isNone_none]
   have c1 := soundN_cases h1
   have c2 := soundN_cases h2
   have j1 : Ev (fun k => prod_Exact.j0 k (decide (kd = 2 ∨ kd' = 2)) kd ng sc (fr : Int) kd' ng' sc' (fr' : Int)) ((prodE kd ng sc fr kd' ng' sc' fr').1, (prodE kd ng sc fr kd' ng' sc' fr').2.1, (prodE kd ng sc fr kd' ng' sc' fr').2.2.1, (prodE kd ng sc fr kd' ng' sc' fr').2.2.2.1, (prodE kd ng sc fr kd' ng' sc' fr').2.2.2.2.1, (prodE kd ng sc fr kd' ng' sc' fr').2.2.2.2.2, none) := by
    refine evs ?_
    simp only [prod_Exact.j0]
    unfold prodE
    by_cases hk : kd = 2 ∨ kd' = 2
    ·simp only [if_pos hk, decide_eq_true hk, if_true]
     exact Ev.now _
    ·simp only [if_neg hk, decide_eq_false hk, Bool.false_eq_true, if_false]
     have j2 : Ev (fun k => prod_Exact.j1 k (decide (kd = 0 ∨ kd' = 0)) ng sc (fr : Int) ng' sc' (fr' : Int)) (if kd = 0 ∨ kd' = 0 then (0, false, 0, 0, 0, false, none) else makeV (ng != ng') (fr * fr') (sc + sc' - 126) false) := by
      refine evs ?_
      simp only [prod_Exact.j1]
      by_cases h0 : kd = 0 ∨ kd' = 0
      ·simp only [if_pos h0, decide_eq_true h0, if_true]
       exact Ev.now _
      ·simp only [if_neg h0, decide_eq_false h0, Bool.false_eq_true, if_false]
       have ew : wrap64 (wrap64 (sc + sc') - 126) = sc + sc' - 126 := by
        rw [w64 (n := sc + sc') (by omega) (by omega), w64 (by omega) (by omega)]
       rw [ew, twin_Mul_eq hf hf']
       simp only [Option.bind_some]
       have := round_Make_eq (ng != ng') (fr * fr') (sc + sc' - 126) false (mul_lt128 hf hf')
       simp only [Bool.false_eq_true, false_and, if_false] at this
       refine Ev.bind this ?_
       exact Ev.now _
     have key : ((if kd = 0 ∨ kd' = 0 then (0, false, 0, 0, 0, false, none) else makeV (ng != ng') (fr * fr') (sc + sc' - 126) false) : Int × Bool × Int × Int × Int × Bool × Option Int) = ((if kd = 0 ∨ kd' = 0 then (0, false, 0, 0, 0, false) else exactE (ng != ng') (fr * fr') (sc + sc' - 126) false).1, (if kd = 0 ∨ kd' = 0 then (0, false, 0, 0, 0, false) else exactE (ng != ng') (fr * fr') (sc + sc' - 126) false).2.1, (if kd = 0 ∨ kd' = 0 then (0, false, 0, 0, 0, false) else exactE (ng != ng') (fr * fr') (sc + sc' - 126) false).2.2.1, (if kd = 0 ∨ kd' = 0 then (0, false, 0, 0, 0, false) else exactE (ng != ng') (fr * fr') (sc + sc' - 126) false).2.2.2.1, (if kd = 0 ∨ kd' = 0 then (0, false, 0, 0, 0, false) else exactE (ng != ng') (fr * fr') (sc + sc' - 126) false).2.2.2.2.1, (if kd = 0 ∨ kd' = 0 then (0, false, 0, 0, 0, false) else exactE (ng != ng') (fr * fr') (sc + sc' - 126) false).2.2.2.2.2, none) := by
      by_cases h0 : kd = 0 ∨ kd' = 0
      ·simp only [if_pos h0]
      ·simp only [if_neg h0]
       exact makeV_exactE (mul_lt128 hf hf') (by omega) (by omega)
     rw [← key]
     by_cases hk0 : kd = 0
     ·have hd : (kd == 0) = decide (kd = 0 ∨ kd' = 0) := by rw [decide_eq_true (.inl hk0)]; simp [hk0]
      simp only [if_pos hk0, hd]
      exact j2
     ·have hd : (kd' == 0) = decide (kd = 0 ∨ kd' = 0) := by rw [beq_dec]; simp [hk0]
      simp only [if_neg hk0, hd]
      exact j2
   by_cases hk2 : kd = 2
   ·have hd : (kd == 2) = decide (kd = 2 ∨ kd' = 2) := by simp [hk2]
    simp only [if_pos hk2, hd]
    exact j1
   ·have hd : (kd' == 2) = decide (kd = 2 ∨ kd' = 2) := by rw [beq_dec]; simp [hk2]
    simp only [if_neg hk2, hd]
    exact j1
  ·simp only [if_neg h2]
   exact Ev.now _
 ·simp only [if_neg h1, if_neg (show ¬ (soundN kd ng sc fr = true ∧ soundN kd' ng' sc' fr' = true) from fun h => h1 h.1)]
  exact Ev.now _
theorem ref_sound (kd : Int) (ng : Bool) (sc fr : Int) : vernierref06_Sound.f kd ng sc fr = some (soundN kd ng sc fr) := by
 unfold vernierref06_Sound.f soundN
 by_cases h0 : kd = 0
 ·simp [h0]
 ·by_cases h2 : kd = 2
  ·simp [h2]
  ·rw [if_neg h0, if_neg h2, if_neg (show ¬ (kd = 0 ∨ kd = 2) by omega)]
   by_cases h1 : kd = 1
   ·rw [if_pos h1]
    by_cases h3 : fr ≥ 9223372036854775808
    ·rw [if_pos h3]
     by_cases h4 : sc ≥ -1073741824
     ·rw [if_pos h4]
      congr 1
      rw [decide_eq_decide]
      omega
     ·rw [if_neg h4, decide_eq_false (by omega)]
    ·rw [if_neg h3, decide_eq_false (by omega)]
   ·rw [if_neg h1, decide_eq_false (by omega)]
def prodX (a b : NM) : EX := if a.kd = 2 ∨ b.kd = 2 then EX.nar else if a.kd = 0 ∨ b.kd = 0 then EX.zero else natX (a.ng != b.ng) (a.fr * b.fr) (a.sc + b.sc - 126) false
theorem prodX_ok (a b : NM) : (prodX a b).ok := by
 unfold prodX
 split
 ·exact .inr (.inl rfl)
 ·split
  ·exact .inl rfl
  ·exact natX_ok _ _ _ _
theorem prodE_X (a b : NM) : prodE a.kd a.ng a.sc a.fr b.kd b.ng b.sc b.fr = ((prodX a b).kd, (prodX a b).ng, (prodX a b).sc, TH (prodX a b).V, TL (prodX a b).V, (prodX a b).R) := by
 unfold prodE prodX
 by_cases h2 : a.kd = 2 ∨ b.kd = 2
 ·rw [if_pos h2, if_pos h2]; rfl
 ·rw [if_neg h2, if_neg h2]
  by_cases h0 : a.kd = 0 ∨ b.kd = 0
  ·rw [if_pos h0, if_pos h0]; rfl
  ·rw [if_neg h0, if_neg h0, exactE_natX]
theorem prod_Exact_X {a b : NM} (ha : a.ok) (hb : b.ok) : Ev (fun k => prod_Exact.f k a.kd a.ng a.sc (a.fr : Int) b.kd b.ng b.sc (b.fr : Int)) ((prodX a b).kd, (prodX a b).ng, (prodX a b).sc, TH (prodX a b).V, TL (prodX a b).V, (prodX a b).R, none) := by
 have := prod_Exact_eq a.kd a.ng a.sc a.fr b.kd b.ng b.sc b.fr ha.2 hb.2
 rw [if_pos ⟨ha.1, hb.1⟩, prodE_X] at this
 exact this
def mulN (n x y : Nat) : Nat := (prodX (decN n x) (decN n y)).rnd n
theorem prod_Mul_eq {n a b : Nat} (h : isW (n : Int) = true) (ha : a < 18446744073709551616) (hb : b < 18446744073709551616) : Ev (fun k => prod_Mul.f k (n : Int) (a : Int) (b : Int)) (((mulN n (a % 2 ^ n) (b % 2 ^ n) : Nat) : Int), none) := by
 obtain ⟨b64, b8⟩ := pow64 h
 unfold prod_Mul.f
 refine Ev.bind (Decode_N h ha) ?_
 simp only [Option.isNone_none, if_true]
 refine Ev.bind (Decode_N h hb) ?_
 refine Ev.bind (prod_Exact_X (decN_ok b8 b64 (Nat.mod_lt a (two_pos n))) (decN_ok b8 b64 (Nat.mod_lt b (two_pos n)))) ?_
 refine Ev.bind (Round_X h (prodX_ok _ _)) ?_
 exact Ev.now _
theorem up10 : Ev (fun k => vernierlaw10_up.f k) true := by
 unfold vernierlaw10_up.f
 have a := prod_Mul_eq (n := 8) (a := 72) (b := 72) (by decide) (by decide) (by decide)
 have b := prod_Mul_eq (n := 8) (a := 1) (b := 255) (by decide) (by decide) (by decide)
 rw [show mulN 8 (72 % 2 ^ 8) (72 % 2 ^ 8) = 80 by decide +kernel] at a
 rw [show mulN 8 (1 % 2 ^ 8) (255 % 2 ^ 8) = 255 by decide +kernel] at b
 refine Ev.bind a (Ev.bind b ?_)
 exact Ev.now _
end Go.Proofs.Ytebhpipfkomhjaa.V
namespace Go.Proofs.Ytebhpipfkomhjaa.V
open Go Go.RowKit Go.Proofs.Ytebhpipfkomhjaa.Ab Go.Proofs.Ytebhpipfkomhjaa.Fn
set_option linter.unusedVariables false
set_option linter.unusedSimpArgs false
theorem ref_Encode_X {n : Nat} {x : NM} (h : isW (n : Int) = true) (hx : x.ok) (h1 : x.kd = 1) :
  ∃ p bad, Ev (fun k => vernierref06_Encode.f k (n : Int) x.kd x.ng x.sc (x.fr : Int)) (p, bad) ∧ (bad = 0 → ∃ q : Nat, p = q ∧ q < 2 ^ n ∧ decN n q = x) := by
 obtain ⟨b64, b8⟩ := pow64 h
 have hfr : x.fr < 18446744073709551616 := hx.2
 have et : wrap64 (wrap64 (4 * (n : Int)) - 8) = 4 * (n : Int) - 8 := by rw [w64 (n := 4 * (n : Int)) (by omega) (by omega), w64 (by omega) (by omega)]
 have em : wrap64 (8 - wrap64 (4 * (n : Int))) = 8 - 4 * (n : Int) := by rw [w64 (n := 4 * (n : Int)) (by omega) (by omega), w64 (by omega) (by omega)]
 have ew : wrap64 ((n : Int) - 1) = ((n - 1 : Nat) : Int) := by rw [w64 (by omega) (by omega)]; omega
 have bad8 : Ev (fun k => vernierref06_Encode.j0 k (n : Int) true x.kd x.ng x.sc (x.fr : Int)) (0, 8) := by
  refine evs ?_
  simp only [vernierref06_Encode.j0, if_true]
  exact Ev.now _
 unfold vernierref06_Encode.f
 simp only [ref_Is_eq, ref_sound, h, hx.1, Option.bind_some, if_true, if_neg (show ¬ x.kd = 0 by omega), if_neg (show ¬ x.kd = 2 by omega), et, em]
 by_cases c1 : x.sc < 8 - 4 * (n : Int)
 ·simp only [if_pos c1]
  exact ⟨0, 8, bad8, fun h => absurd h (by decide)⟩
 ·simp only [if_neg c1]
  by_cases c2 : x.sc > 4 * (n : Int) - 8
  ·simp only [decide_eq_true c2]
   exact ⟨0, 8, bad8, fun h => absurd h (by decide)⟩
  ·simp only [decide_eq_false c2]
   obtain ⟨t, L, X, ht, hX, hL, hL0⟩ : ∃ (t : ByteArray) (L X : Nat), Ev (fun k => vernierref06_Head.f k x.sc) t ∧ BT t L X ∧ L ≤ 100 ∧ 0 < L := by
    rcases scale_cases x.sc with ⟨q, e, hs, he⟩ | ⟨q, e, hs, hq, he⟩
    ·obtain ⟨t, t1, t2⟩ := ref_Head_pos hs he (by omega)
     exact ⟨t, _, _, t1, t2, by omega, by omega⟩
    ·obtain ⟨t, t1, t2⟩ := ref_Head_neg hs hq he (by omega)
     exact ⟨t, _, _, t1, t2, by omega, by omega⟩
   obtain ⟨y, y1, y2⟩ := Text_eq x.fr 64 hfr (by decide)
   have yp := (y2.parts 1 (by decide)).2
   have g := hX.append yp
   have hp := (g.parts (n - 1) (by omega)).1
   have s1 := hX.size
   have s2 := y2.size
   have s3 := yp.size
   have s4 := g.size
   have hlt : (X * 2 ^ (64 - 1) + x.fr % 2 ^ 64 % 2 ^ (64 - 1)) / 2 ^ (L + (64 - 1) - (n - 1)) < 2 ^ (n - 1) := hp.lt
   generalize hz : (X * 2 ^ (64 - 1) + x.fr % 2 ^ 64 % 2 ^ (64 - 1)) / 2 ^ (L + (64 - 1) - (n - 1)) = z at hp hlt
   have h2 := two_halves (n := n) (by omega)
   have h2n : 2 ^ n ≤ 18446744073709551616 := by rw [← p64]; exact pow_le b64
   -- the pattern p that is tried
   have fin : ∀ q : Nat, q < 2 ^ n → ∃ p bad, Ev (fun k => (vernierref06_Decode.f k (n : Int) (q : Int)).bind fun t107 => (if ((t107.1 == x.kd) && ((t107.2.1 == x.ng) && ((t107.2.2.1 == x.sc) && (t107.2.2.2 == (x.fr : Int))))) = true then some ((q : Int), (0 : Int)) else some (0, 8))) (p, bad) ∧ (bad = 0 → ∃ q : Nat, p = q ∧ q < 2 ^ n ∧ decN n q = x) := by
    intro q hq
    have hd := ref_Decode_N h (p := q) (by omega)
    rw [Nat.mod_eq_of_lt hq] at hd
    by_cases hc : (((decN n q).kd == x.kd) && (((decN n q).ng == x.ng) && (((decN n q).sc == x.sc) && (((decN n q).fr : Int) == (x.fr : Int))))) = true
    ·refine ⟨q, 0, Ev.bind hd ?_, fun _ => ⟨q, rfl, hq, ?_⟩⟩
     ·simp only [if_pos hc]; exact Ev.now _
     ·simp only [Bool.and_eq_true, beq_iff_eq] at hc
      obtain ⟨e1, e2, e3, e4⟩ := hc
      cases hx' : decN n q
      cases hx2 : x
      rw [hx', hx2] at e1 e2 e3 e4
      simp only at e1 e2 e3 e4
      have e4' := Int.ofNat.inj e4
      subst e1 e2 e3 e4'
      rfl
    ·refine ⟨0, 8, Ev.bind hd ?_, fun h => absurd h (by decide)⟩
     simp only [if_neg hc]; exact Ev.now _
   have run : ∀ (p bad : Int), (x.ng = true → Ev (fun k => (vernierref06_Decode.f k (n : Int) ((negN n z : Nat) : Int)).bind fun t107 => (if ((t107.1 == x.kd) && ((t107.2.1 == x.ng) && ((t107.2.2.1 == x.sc) && (t107.2.2.2 == (x.fr : Int))))) = true then some (((negN n z : Nat) : Int), (0 : Int)) else some (0, 8))) (p, bad)) →
     (¬ x.ng = true → Ev (fun k => (vernierref06_Decode.f k (n : Int) (z : Int)).bind fun t107 => (if ((t107.1 == x.kd) && ((t107.2.1 == x.ng) && ((t107.2.2.1 == x.sc) && (t107.2.2.2 == (x.fr : Int))))) = true then some ((z : Int), (0 : Int)) else some (0, 8))) (p, bad)) →
     Ev (fun k => vernierref06_Encode.j0 k (n : Int) false x.kd x.ng x.sc (x.fr : Int)) (p, bad) := by
    intro p bad r1 r2
    refine evs ?_
    simp only [vernierref06_Encode.j0, nI_eq, Bool.false_eq_true, if_false]
    refine Ev.bind ht (Ev.bind y1 ?_)
    have s4' : (t ++ y.extract 1 y.size).size = L + (64 - 1) := s4
    simp only [if_pos (show (1 : Int) ≤ (y.size : Int) by omega), if_pos (show t.size + (y.extract 1 y.size).size ≤ 9223372036854775807 by omega), ew, if_pos (show (0 : Int) ≤ ((n - 1 : Nat) : Int) by omega), if_pos (show ((n - 1 : Nat) : Int) ≤ ((t ++ y.extract 1 y.size).size : Int) by omega), Int.toNat_natCast]
    refine Ev.bind (Number_eq hp (by omega)) ?_
    by_cases hg : x.ng = true
    ·simp only [if_pos hg]
     exact Ev.bind (ref_Neg_eq h (by omega)) (r1 hg)
    ·simp only [if_neg hg]
     exact r2 hg
   by_cases hg : x.ng = true
   ·obtain ⟨p, bad, e1, e2⟩ := fin (negN n z) (by unfold negN; exact Nat.mod_lt _ (two_pos n))
    exact ⟨p, bad, run p bad (fun _ => e1) (fun h => absurd hg h), e2⟩
   ·obtain ⟨p, bad, e1, e2⟩ := fin z (by omega)
    exact ⟨p, bad, run p bad (fun h => absurd h hg) (fun _ => e1), e2⟩
def twoN (s : Int) : NM := ⟨1, false, s, 9223372036854775808⟩
theorem twoN_ok {s : Int} (h0 : -1073741824 ≤ s) (h1 : s ≤ 1073741824) : (twoN s).ok := by
 refine ⟨?_, show (9223372036854775808 : Nat) < 18446744073709551616 by decide⟩
 show soundN 1 false s 9223372036854775808 = true
 unfold soundN
 rw [if_neg (show ¬ ((1 : Int) = 0 ∨ (1 : Int) = 2) by decide)]
 exact decide_eq_true ⟨rfl, by decide, h0, h1⟩
theorem prodX_two {a : NM} {t : Int} (h1 : a.kd = 1) (h2 : 2 ^ 63 ≤ a.fr) (h3 : a.fr < 2 ^ 64) (h4 : -1073741824 ≤ a.sc) (h5 : a.sc ≤ 1073741824) (h6 : -1073741824 ≤ t) (h7 : t ≤ 1073741824) :
  prodX a (twoN t) = ⟨1, a.ng, a.sc + t, a.fr * 18446744073709551616, false⟩ := by
 unfold prodX
 rw [if_neg (by unfold twoN; simp only; omega), if_neg (by unfold twoN; simp only; omega)]
 unfold twoN natX
 simp only
 have hp : a.fr * 9223372036854775808 ≠ 0 := by rw [p63] at h2; omega
 have hf : bl a.fr = 64 := bl_unique (by decide) h2 h3
 have hb : bl (a.fr * 9223372036854775808) = 127 := by
  rw [show (9223372036854775808 : Nat) = 2 ^ 63 from p63.symm, bl_mul_pow 63 (by rw [p63] at h2; omega), hf]
 rw [if_neg hp, hb]
 refine EX.ext' rfl ?_ ?_ ?_ ?_
 ·simp
 ·simp only
  unfold heldI
  rw [if_neg (by omega), if_neg (by omega)]
  omega
 ·simp only
  unfold mkV
  rw [hb, if_pos (by decide), Nat.mul_assoc]
 ·simp only
  unfold mkR
  rw [hb, Nat.pow_zero, Nat.mod_one]; rfl
end Go.Proofs.Ytebhpipfkomhjaa.V
namespace Go.Proofs.Ytebhpipfkomhjaa.Pure
open Go Go.RowKit Go.Proofs.Ytebhpipfkomhjaa.Ab Go.Proofs.Ytebhpipfkomhjaa.Fn Go.Proofs.Ytebhpipfkomhjaa.V
set_option linter.unusedSimpArgs false
theorem two_X {n : Nat} {s : Int} (h : isW (n : Int) = true) (h0 : -1000 ≤ s) (h1 : s ≤ 1000) : ∃ p b, Ev (fun k => vernierlaw10_two.f k (n : Int) s) (p, b) ∧ (b = true → ∃ q : Nat, p = q ∧ q < 2 ^ n ∧ decN n q = twoN s) := by
 obtain ⟨p, bad, e1, e2⟩ := ref_Encode_X h (twoN_ok (s := s) (by omega) (by omega)) rfl
 refine ⟨p, bad == 0, ?_, fun h => e2 (by simpa using h)⟩
 unfold vernierlaw10_two.f
 refine Ev.bind (ref_Power_eq (n := 63) (by decide)) ?_
 rw [show (((2 ^ 63 : Nat) : Int)) = 9223372036854775808 by decide]
 exact Ev.bind e1 (Ev.now _)
theorem prod_two {s t : Int} (h0 : -600 ≤ s) (h1 : s ≤ 600) (h2 : -600 ≤ t) (h3 : t ≤ 600) : prodX (twoN s) (twoN t) = (twoN (s + t)).ex :=
 prodX_two (a := twoN s) rfl (show 2 ^ 63 ≤ 9223372036854775808 by decide) (show 9223372036854775808 < 2 ^ 64 by decide) (show -1073741824 ≤ s by omega) (show s ≤ 1073741824 by omega) (by omega) (by omega)
theorem ProdTwos : vernierlaw10_ProdTwos.Pure := by
 intro n s t w0 w1 w2
 refine Ev.rounds (g := fun k => vernierlaw10_ProdTwos.f k n s t) ?_
 unfold vernierlaw10_ProdTwos.f
 refine Ev.bind up10 (Ev.bind (evn (ref_Is_eq _)) ?_)
 have triv : Ev (fun k => vernierlaw10_ProdTwos.j0 k n s t true true) true := by
  refine evs ?_
  simp only [vernierlaw10_ProdTwos.j0, if_true]
  exact Ev.now _
 by_cases hn : isW n = true
 ·simp only [if_pos hn]
  by_cases a1 : s < -300
  ·simp only [if_pos a1]; exact triv
  ·simp only [if_neg a1]
   by_cases a2 : s > 300
   ·simp only [if_pos a2]; exact triv
   ·simp only [if_neg a2]
    by_cases a3 : t < -300
    ·simp only [if_pos a3]; exact triv
    ·simp only [if_neg a3]
     by_cases a4 : t > 300
     ·simp only [decide_eq_true a4]; exact triv
     ·simp only [decide_eq_false a4]
      obtain ⟨n, rfl, _⟩ := isW_nat hn
      obtain ⟨b64, b8⟩ := pow64 hn
      have h2n : 2 ^ n ≤ 18446744073709551616 := by rw [← p64]; exact pow_le b64
      have h2 := two_halves (n := n) (by omega)
      have hp := two_pos (n - 1)
      obtain ⟨p, pb, p1, p2⟩ := two_X hn (s := s) (by omega) (by omega)
      obtain ⟨q, qb, q1, q2⟩ := two_X hn (s := t) (by omega) (by omega)
      obtain ⟨r, rb, r1, r2⟩ := two_X hn (s := s + t) (by omega) (by omega)
      have skip : Ev (fun k => vernierlaw10_ProdTwos.j1 k (n : Int) s t true p q true) true := by
       refine evs ?_
       simp only [vernierlaw10_ProdTwos.j1, if_true]
       exact Ev.now _
      refine evs ?_
      simp only [vernierlaw10_ProdTwos.j0, Bool.false_eq_true, if_false]
      refine Ev.bind p1 (Ev.bind q1 ?_)
      by_cases hpb : pb = true
      ·simp only [if_pos hpb]
       by_cases hqb : qb = true
       ·rw [hqb]
        obtain ⟨x, rfl, hx, dx⟩ := p2 hpb
        obtain ⟨y, rfl, hy, dy⟩ := q2 hqb
        refine evs ?_
        have es : wrap64 (s + t) = s + t := w64 (by omega) (by omega)
        have et : wrap64 (wrap64 (4 * (n : Int)) - 8) = 4 * (n : Int) - 8 := by rw [w64 (n := 4 * (n : Int)) (by omega) (by omega), w64 (by omega) (by omega)]
        have em : wrap64 (8 - wrap64 (4 * (n : Int))) = 8 - 4 * (n : Int) := by rw [w64 (n := 4 * (n : Int)) (by omega) (by omega), w64 (by omega) (by omega)]
        have e1 : wrap64 ((n : Int) - 1) = ((n - 1 : Nat) : Int) := by rw [w64 (by omega) (by omega)]; omega
        simp only [vernierlaw10_ProdTwos.j1, Bool.not_true, Bool.false_eq_true, if_false, es, et, em, e1]
        have hm := prod_Mul_eq hn (a := x) (b := y) (by omega) (by omega)
        rw [Nat.mod_eq_of_lt hx, Nat.mod_eq_of_lt hy] at hm
        have hmul : mulN n x y = posP n (s + t) (9223372036854775808 * 18446744073709551616) false := by
         unfold mulN
         rw [dx, dy, prod_two (by omega) (by omega) (by omega) (by omega)]
         exact rnd_pos (V := 9223372036854775808 * 18446744073709551616) b8 b64 (by decide) (by decide)
        refine Ev.bind hm ?_
        simp only [Option.isNone_none, if_true]
        refine Ev.bind r1 ?_
        have pbnd := posP_bounds (n := n) (s := s + t) (V := 9223372036854775808 * 18446744073709551616) (R := false) b8 b64 (by decide)
        by_cases c1 : s + t > 4 * (n : Int) - 8
        ·simp only [if_pos c1]
         refine Ev.bind (ref_Power_eq (by omega)) (evn ?_)
         have : mulN n x y = 2 ^ (n - 1) - 1 := by rw [hmul]; unfold posP; rw [if_pos (by omega)]
         rw [this, u64_of (by omega) (by omega), show ((2 ^ (n - 1) - 1 : Nat) : Int) = ((2 ^ (n - 1) : Nat) : Int) - 1 by omega]
         simp
        ·simp only [if_neg c1]
         by_cases c2 : s + t < 8 - 4 * (n : Int)
         ·simp only [if_pos c2]
          have : mulN n x y = 1 := by rw [hmul]; unfold posP; rw [if_neg (by omega), if_pos (by omega)]
          rw [this]
          exact Ev.now _
         ·simp only [if_neg c2]
          by_cases c3 : rb = true
          ·simp only [if_pos c3]
           obtain ⟨z, rfl, hz, dz⟩ := r2 c3
           have : mulN n x y = z := by
            unfold mulN
            rw [dx, dy, prod_two (by omega) (by omega) (by omega) (by omega), ← dz, dec_rnd b8 b64 hz]
           rw [this]
           exact evn (by simp)
          ·simp only [if_neg c3]
           rw [← hmul] at pbnd
           simp only [if_pos (show ((mulN n x y : Nat) : Int) > 0 by omega)]
           refine Ev.bind (ref_Power_eq (by omega)) (evn ?_)
           rw [decide_eq_true (by omega)]
       ·have : qb = false := by simpa using hqb
        rw [this]; exact skip
      ·simp only [if_neg hpb]; exact skip
 ·simp only [if_neg hn]; exact triv
end Go.Proofs.Ytebhpipfkomhjaa.Pure
