-- Written by a program of this session out of its own texts (wip/tools/link.py).
import Derived.Below
import Derived.ChangeKeysEq
import Derived.Deep.MidRow
import Derived.Deep.RegionHeld3
import Derived.Great.BuildSlice
import Derived.IntWalk
import Derived.KernelRfl
import Derived.LaidEql
import Derived.Laws.Bits64
import Derived.Laws.BitsLemmas
import Derived.Laws.BytesArg
import Derived.Laws.IdiomCopy
import Derived.Laws.OwnMore
import Derived.Laws.Rows
import Derived.Laws.Slices
import Derived.Laws.Strings
import Derived.Laws.StructEq
import Derived.Laws.Tables
import Derived.Lib.BitFns
import Derived.Lib.Mul64
import Derived.Lib.Slices
import Derived.Lib.Small
import Derived.Lib.Strings
import Derived.Lib.Walk
import Derived.Maps.AppendAt
import Derived.OrdersHeld
import Derived.RowKit
import Derived.Shelf.Spec.BitsCarry
import Derived.Test.YtkobihckebiheaaProg
import Derived.Test.YtkobihckebiheaaCRootSqrts7
import Derived.Test.YtkobihckebiheaaCRootSqrts9
import Derived.Test.YtkobihckebiheaaCRootSqrts10
import Derived.Test.YtkobihckebiheaaCRootSqrts11
namespace Go.Proofs.Ytkobihckebiheaa.V
open Go Go.RowKit Go.Proofs.Ytkobihckebiheaa.Ab Go.Proofs.Ytkobihckebiheaa.Fn
set_option linter.unusedVariables false
set_option linter.unusedSimpArgs false
theorem mask32 (a : Nat) (ha : a < 18446744073709551616) : Go.bits .and .u64 (a : Int) 4294967295 = ((a % 4294967296 : Nat) : Int) := and_mask a 32 ha (by decide)
theorem div32 (a : Nat) : (a : Int) / 4294967296 = ((a / 4294967296 : Nat) : Int) := by omega
theorem mulC (a b : Nat) : (a : Int) * (b : Int) = ((a * b : Nat) : Int) := (Int.natCast_mul a b).symm
theorem addC (a b : Nat) : (a : Int) + (b : Int) = ((a + b : Nat) : Int) := (Int.natCast_add a b).symm
theorem wrapN (a : Nat) (ha : a < 18446744073709551616) : IntKind.u64.wrap (a : Int) = (a : Int) := u64_of (by omega) (by omega)
theorem bits_Mul64_eq {x y : Nat} (hx : x < 18446744073709551616) (hy : y < 18446744073709551616) : bits_Mul64.f (x : Int) (y : Int) = some (TH (x * y), TL (x * y)) := by
 obtain ⟨bd, bt, bw, hhi⟩ := Lib.mul64_hi x y hx hy
 have ba := Lib.half_mul_le (a := x / 4294967296) (b := y / 4294967296) (by omega) (by omega)
 have bb := Lib.half_mul_le (a := x / 4294967296) (b := y % 4294967296) (by omega) (by omega)
 have bc := Lib.half_mul_le (a := x % 4294967296) (b := y / 4294967296) (by omega) (by omega)
 have ba' : x / 4294967296 * (y / 4294967296) < 18446744073709551616 := by omega
 have bb' : x / 4294967296 * (y % 4294967296) < 18446744073709551616 := by omega
 have bc' : x % 4294967296 * (y / 4294967296) < 18446744073709551616 := by omega
 have bh1 : x / 4294967296 * (y / 4294967296) + (x / 4294967296 * (y % 4294967296) + x % 4294967296 * (y % 4294967296) / 4294967296) / 4294967296 < 18446744073709551616 := by omega
 have bh : x / 4294967296 * (y / 4294967296) + (x / 4294967296 * (y % 4294967296) + x % 4294967296 * (y % 4294967296) / 4294967296) / 4294967296 + ((x / 4294967296 * (y % 4294967296) + x % 4294967296 * (y % 4294967296) / 4294967296) % 4294967296 + x % 4294967296 * (y / 4294967296)) / 4294967296 < 18446744073709551616 := by omega
 unfold bits_Mul64.f
 simp only [mask32 x hx, mask32 y hy, div32, mulC, addC, wrapN _ bd, wrapN _ bb', wrapN _ bt, mask32 _ bt, wrapN _ bc', wrapN _ bw, wrapN _ ba', wrapN _ bh1, wrapN _ bh, u64_nat_wrap (x * y)]
 rw [hhi]
 rfl
theorem twin_Mul_eq {x y : Nat} (hx : x < 18446744073709551616) (hy : y < 18446744073709551616) : twin_Mul.f (x : Int) (y : Int) = some (TH (x * y), TL (x * y)) := by
 unfold twin_Mul.f
 rw [bits_Mul64_eq hx hy]; rfl
theorem ref_sound (kd : Int) (ng : Bool) (sc fr : Int) : vernierref06_Sound.f kd ng sc fr = some (soundN kd ng sc fr) := by
 unfold vernierref06_Sound.f soundN
 by_cases h0 : kd = 0
 ·simp [h0]
 ·by_cases h2 : kd = 2
  ·simp [h2]
  ·rw [if_neg h0, if_neg h2, if_neg (show ¬ (kd = 0 ∨ kd = 2) by omega)]
   by_cases h1 : kd = 1
   ·rw [if_pos h1]
    by_cases h3 : fr ≥ 9223372036854775808
    ·rw [if_pos h3]
     by_cases h4 : sc ≥ -1073741824
     ·rw [if_pos h4]
      congr 1
      rw [decide_eq_decide]
      omega
     ·rw [if_neg h4, decide_eq_false (by omega)]
    ·rw [if_neg h3, decide_eq_false (by omega)]
   ·rw [if_neg h1, decide_eq_false (by omega)]
end Go.Proofs.Ytkobihckebiheaa.V
namespace Go.Proofs.Ytkobihckebiheaa.V
open Go Go.RowKit Go.Proofs.Ytkobihckebiheaa.Ab Go.Proofs.Ytkobihckebiheaa.Fn
set_option linter.unusedVariables false
set_option linter.unusedSimpArgs false
def rtL (m : Nat) : Nat → Nat → Nat
 | 0, r => r
 | k + 1, r => rtL m k (if (r + 2 ^ k) * (r + 2 ^ k) ≤ m then r + 2 ^ k else r)
theorem rtL_spec (m : Nat) : ∀ (k r : Nat), r * r ≤ m → m < (r + 2 ^ k) * (r + 2 ^ k) → rtL m k r * rtL m k r ≤ m ∧ m < (rtL m k r + 1) * (rtL m k r + 1)
 | 0, r, h1, h2 => ⟨h1, h2⟩
 | k + 1, r, h1, h2 => by
  unfold rtL
  have e : r + 2 ^ (k + 1) = r + 2 ^ k + 2 ^ k := by rw [Nat.pow_succ]; omega
  rw [e] at h2
  by_cases h : (r + 2 ^ k) * (r + 2 ^ k) ≤ m
  ·rw [if_pos h]; exact rtL_spec m k _ h h2
  ·rw [if_neg h]; exact rtL_spec m k _ h1 (by omega)
theorem rt_uniq {m r s : Nat} (h1 : r * r ≤ m) (h2 : m < (r + 1) * (r + 1)) (h3 : s * s ≤ m) (h4 : m < (s + 1) * (s + 1)) : r = s := by
 rcases Nat.lt_trichotomy r s with h | h | h
 ·have := Nat.mul_le_mul (show r + 1 ≤ s from h) (show r + 1 ≤ s from h); omega
 ·exact h
 ·have := Nat.mul_le_mul (show s + 1 ≤ r from h) (show s + 1 ≤ r from h); omega
theorem rtL_le (m : Nat) : ∀ (k r : Nat), r ≤ rtL m k r ∧ rtL m k r < r + 2 ^ k
 | 0, r => ⟨Nat.le_refl _, by show r < r + 2 ^ 0; omega⟩
 | k + 1, r => by
  unfold rtL
  have e : r + 2 ^ (k + 1) = r + 2 ^ k + 2 ^ k := by rw [Nat.pow_succ]; omega
  have hp := two_pos k
  split
  ·have := rtL_le m k (r + 2 ^ k); omega
  ·have := rtL_le m k r; omega
theorem twin_Cmp_eq (A B : Nat) : twin_Cmp.f (TH A) (TL A) (TH B) (TL B) = some (cmpN A B) := by
 unfold twin_Cmp.f
 by_cases h : A = B
 ·subst h
  rw [if_pos (by simp)]
  unfold cmpN; simp
 ·have hne : ¬ ((TH A == TH B && (TL A == TL B)) = true) := by
   intro hc
   simp only [Bool.and_eq_true, beq_iff_eq] at hc
   exact h (T_eq hc.1 hc.2)
  rw [if_neg hne]
  unfold cmpN
  rw [if_neg h]
  by_cases hl : A < B
  ·rw [if_pos hl]
   by_cases h1 : TH A < TH B
   ·rw [if_pos h1]
   ·rw [if_neg h1]
    have h2 : TH A = TH B := by unfold TH at *; omega
    have h3 : TL A < TL B := by unfold TH TL at *; omega
    rw [if_pos h2, if_pos h3]
  ·rw [if_neg hl]
   have h1 : ¬ TH A < TH B := by unfold TH at *; omega
   rw [if_neg h1]
   by_cases h2 : TH A = TH B
   ·have h3 : ¬ TL A < TL B := by unfold TH TL at *; omega
    rw [if_pos h2, if_neg h3]
   ·rw [if_neg h2]
theorem bits_Sub64_eq {x y b : Int} (hx : 0 ≤ x) (hy0 : 0 ≤ y) (hy : y < 18446744073709551616) (h0 : 0 ≤ b) (hb : b ≤ 1) : bits_Sub64.f x y b = some ((x - y - b) % 18446744073709551616, if x < y + b then 1 else 0) := by
 unfold bits_Sub64.f
 rw [if_pos ⟨hx, hy0, hy, h0, hb⟩]
theorem th_lt {A : Nat} (h : A < 2 ^ 128) : A / 18446744073709551616 < 18446744073709551616 := by rw [p128] at h; omega
theorem TL_range (A : Nat) : 0 ≤ TL A ∧ TL A < 18446744073709551616 := by unfold TL; omega
theorem TH_range {A : Nat} (h : A / 18446744073709551616 < 18446744073709551616) : 0 ≤ TH A ∧ TH A < 18446744073709551616 := by unfold TH; omega
theorem sub_T {A B : Nat} (hA : A / 18446744073709551616 < 18446744073709551616) (h : B ≤ A) (hc : TL A < TL B + 0) : (TH A - TH B - 1) % 18446744073709551616 = TH (A - B) ∧ (TL A - TL B - 0) % 18446744073709551616 = TL (A - B) ∧ ¬ TH A < TH B + 1 := by
 unfold TH TL at *; omega
theorem sub_T' {A B : Nat} (hA : A / 18446744073709551616 < 18446744073709551616) (h : B ≤ A) (hc : ¬ TL A < TL B + 0) : (TH A - TH B - 0) % 18446744073709551616 = TH (A - B) ∧ (TL A - TL B - 0) % 18446744073709551616 = TL (A - B) ∧ ¬ TH A < TH B + 0 := by
 unfold TH TL at *; omega
theorem twin_Sub_eq' {A B : Nat} (hA : A / 18446744073709551616 < 18446744073709551616) (h : B ≤ A) : twin_Sub.f (TH A) (TL A) (TH B) (TL B) = some (TH (A - B), TL (A - B), false) := by
 have hB : B / 18446744073709551616 < 18446744073709551616 := Nat.lt_of_le_of_lt (Nat.div_le_div_right h) hA
 have a := bits_Sub64_eq (b := 0) (TL_range A).1 (TL_range B).1 (TL_range B).2 (Int.le_refl 0) (by decide)
 have b0 := bits_Sub64_eq (b := 0) (TH_range hA).1 (TH_range hB).1 (TH_range hB).2 (Int.le_refl 0) (by decide)
 have b1 := bits_Sub64_eq (b := 1) (TH_range hA).1 (TH_range hB).1 (TH_range hB).2 (by decide) (Int.le_refl 1)
 unfold twin_Sub.f
 rw [a]
 by_cases hc : TL A < TL B + 0
 ·obtain ⟨c1, c2, c3⟩ := sub_T hA h hc
  rw [if_pos hc, Option.bind_some]
  rw [b1, if_neg c3, Option.bind_some, c1, c2]
  rfl
 ·obtain ⟨c1, c2, c3⟩ := sub_T' hA h hc
  rw [if_neg hc, Option.bind_some]
  rw [b0, if_neg c3, Option.bind_some, c1, c2]
  rfl
theorem twin_Sub_eq {A B : Nat} (hA : A < 2 ^ 128) (h : B ≤ A) : twin_Sub.f (TH A) (TL A) (TH B) (TL B) = some (TH (A - B), TL (A - B), false) := twin_Sub_eq' (th_lt hA) h
theorem cmpN_le {A B : Nat} : cmpN A B ≤ 0 ↔ A ≤ B := by
 unfold cmpN; split
 ·omega
 ·split <;> omega
theorem part_Root_l0 {m : Nat} (hm : ∀ r, r * r ≤ m → twin_Sub.f (TH m) (TL m) (TH (r * r)) (TL (r * r)) = some (TH (m - r * r), TL (m - r * r), false)) : ∀ (k r : Nat), r % 2 ^ k = 0 → r + 2 ^ k ≤ 18446744073709551616 → k ≤ 64 → r * r ≤ m → Ev (fun n => part_Root.l0 n (r : Int) ((k : Int) - 1) (TH m) (TL m)) (((rtL m k r : Nat) : Int), TH (m - rtL m k r * rtL m k r), TL (m - rtL m k r * rtL m k r))
 | 0, r, h0, h1, hk, hr => by
  rw [Nat.pow_zero] at h1
  refine evs ?_
  simp only [part_Root.l0, nI_eq, if_neg (show ¬ ((0 : Nat) : Int) - 1 ≥ 0 by decide), if_false]
  exact Ev.bind (evn (twin_Mul_eq (show r < 18446744073709551616 by omega) (show r < 18446744073709551616 by omega))) (Ev.bind (evn (hm r hr)) (Ev.now _))
 | k + 1, r, h0, h1, hk, hr => by
  have hp := two_pos k
  have e2 : 2 ^ (k + 1) = 2 ^ k * 2 := Nat.pow_succ ..
  have hpl : 2 ^ k < 18446744073709551616 := by rw [← p64]; exact pow_lt (by omega)
  have eor : Go.bits .or .u64 (r : Int) (shl .u64 1 (k : Int)) = ((r + 2 ^ k : Nat) : Int) := by
   have := shl_nat 1 k (by omega)
   rw [Nat.one_mul, Nat.mod_eq_of_lt hpl] at this
   have e1 : shl .u64 1 (k : Int) = ((2 ^ k : Nat) : Int) := this
   rw [e1]
   exact or_add r (2 ^ k) (k + 1) (by omega) h0 (by omega) hpl
  have ew : wrap64 ((k : Int) - 1) = (k : Int) - 1 := w64 (by omega) (by omega)
  have hd : r % 2 ^ k = 0 := by
   have := mod_pow_le (a := r) (b := k) (c := k + 1) (by omega)
   rw [h0, Nat.zero_mod] at this
   exact this.symm
  refine evs ?_
  simp only [part_Root.l0, nI_eq, show ((k + 1 : Nat) : Int) - 1 = (k : Int) by omega, if_pos (show (k : Int) ≥ 0 by omega), if_pos (show (0 : Int) ≤ (k : Int) by omega), eor, ew]
  refine Ev.bind (evn (twin_Mul_eq (show r + 2 ^ k < 18446744073709551616 by omega) (show r + 2 ^ k < 18446744073709551616 by omega))) (Ev.bind (evn (twin_Cmp_eq _ _)) ?_)
  unfold rtL
  by_cases h : (r + 2 ^ k) * (r + 2 ^ k) ≤ m
  ·simp only [if_pos (cmpN_le.mpr h), if_pos h]
   exact part_Root_l0 hm k (r + 2 ^ k) (by rw [Nat.add_mod_right]; exact hd) (by omega) (by omega) h
  ·simp only [if_neg (fun hc => h (cmpN_le.mp hc)), if_neg h]
   exact part_Root_l0 hm k r hd (by omega) (by omega) hr
theorem part_Root_eq {m : Nat} (hm : m < 2 ^ 128) : Ev (fun n => part_Root.f n (TH m) (TL m)) (((rtL m 64 0 : Nat) : Int), TH (m - rtL m 64 0 * rtL m 64 0), TL (m - rtL m 64 0 * rtL m 64 0)) := by
 unfold part_Root.f
 exact part_Root_l0 (fun r hr => twin_Sub_eq hm hr) 64 0 (Nat.zero_mod _) (by rw [p64]; omega) (by decide) (Nat.zero_le _)
theorem and_i64_1 (s : Int) : Go.bits .and .i64 s 1 = s % 2 := by
 simp only [Go.bits]
 have h1 : (BitVec.ofInt IntKind.i64.bits s) &&& (BitVec.ofInt IntKind.i64.bits 1) = BitVec.ofNat 64 (s % 2).toNat := by
  show (BitVec.ofInt 64 s) &&& (BitVec.ofInt 64 1) = BitVec.ofNat 64 (s % 2).toNat
  apply BitVec.eq_of_toNat_eq
  rw [BitVec.toNat_and, BitVec.toNat_ofInt, BitVec.toNat_ofInt, BitVec.toNat_ofNat]
  rw [show ((1 : Int) % ((2 ^ 64 : Nat) : Int)).toNat = 2 ^ 1 - 1 by decide, Nat.and_two_pow_sub_one_eq_mod]
  omega
 have h3 : (BitVec.ofNat 64 (s % 2).toNat).toNat = (s % 2).toNat := by rw [BitVec.toNat_ofNat]; omega
 rw [h1]
 show IntKind.i64.wrap ((BitVec.ofNat 64 (s % 2).toNat).toNat : Int) = _
 rw [h3, IntKind.wrap_i64]
 omega
def rootW (x : EX) : Nat := if x.sc % 2 = 0 then x.V / 2 else x.V
def rootX (x : EX) : EX := if x.kd = 0 then EX.zero else if x.kd = 2 ∨ x.ng = true then EX.nar else
 ⟨1, false, x.sc / 2, rtL (rootW x) 64 0 * 18446744073709551616, x.R || (decide (x.sc % 2 = 0 ∧ x.V % 2 ≠ 0) || decide (rtL (rootW x) 64 0 * rtL (rootW x) 64 0 ≠ rootW x))⟩
theorem rt_facts {m : Nat} (h0 : 2 ^ 126 ≤ m) (h1 : m < 2 ^ 128) : rtL m 64 0 * rtL m 64 0 ≤ m ∧ m < (rtL m 64 0 + 1) * (rtL m 64 0 + 1) ∧ 9223372036854775808 ≤ rtL m 64 0 ∧ rtL m 64 0 < 18446744073709551616 := by
 obtain ⟨a, b⟩ := rtL_spec m 64 0 (Nat.zero_le _) (by rw [Nat.zero_add, ← Nat.pow_add]; exact h1)
 have c := (rtL_le m 64 0).2
 rw [p64] at c
 refine ⟨a, b, ?_, by omega⟩
 generalize rtL m 64 0 = r at *
 rcases Nat.lt_or_ge r 9223372036854775808 with h | h
 ·have := Nat.mul_le_mul (show r + 1 ≤ 9223372036854775808 by omega) (show r + 1 ≤ 9223372036854775808 by omega)
  have e : (9223372036854775808 : Nat) * 9223372036854775808 = 2 ^ 126 := by decide
  omega
 ·exact h
theorem rootW_bounds {x : EX} (h1 : 2 ^ 127 ≤ x.V) (h2 : x.V < 2 ^ 128) : 2 ^ 126 ≤ rootW x ∧ rootW x < 2 ^ 128 := by
 have e : (2 : Nat) ^ 127 = 2 * 2 ^ 126 := by decide
 unfold rootW
 generalize (2 : Nat) ^ 128 = z at *
 generalize (2 : Nat) ^ 126 = y at *
 split <;> omega
theorem rootX_ok {x : EX} (hx : x.ok) : (rootX x).ok := by
 unfold rootX
 split
 ·exact .inl rfl
 ·split
  ·exact .inr (.inl rfl)
  ·rename_i h0 h2
   rcases hx with rfl | rfl | ⟨k1, k2, k3, k4, k5⟩
   ·exact absurd rfl h0
   ·exact absurd (.inl rfl) h2
   ·obtain ⟨w1, w2⟩ := rootW_bounds k2 k3
    obtain ⟨_, _, r1, r2⟩ := rt_facts w1 w2
    refine .inr (.inr ⟨rfl, ?_, ?_, ?_, ?_⟩)
    ·show 2 ^ 127 ≤ rtL (rootW x) 64 0 * 18446744073709551616
     rw [p127]; omega
    ·show rtL (rootW x) 64 0 * 18446744073709551616 < 2 ^ 128
     rw [p128]; omega
    ·show -1099511627776 ≤ x.sc / 2
     omega
    ·show x.sc / 2 ≤ 1099511627776
     omega
theorem T_hi (r : Nat) : TH (r * 18446744073709551616) = (r : Int) ∧ TL (r * 18446744073709551616) = 0 := by
 unfold TH TL; omega
theorem left_ne {m r : Nat} (h : r * r ≤ m) : (!((TH (m - r * r) == 0) && (TL (m - r * r) == 0))) = decide (r * r ≠ m) := by
 by_cases e : r * r = m
 ·rw [e, Nat.sub_self, decide_eq_false (by omega)]; rfl
 ·rw [decide_eq_true e]
  generalize hd : m - r * r = d
  have h0 : d ≠ 0 := by omega
  by_cases h1 : TH d = 0
  ·have h2 : TL d ≠ 0 := by unfold TH TL at *; omega
   simp [h2]
  ·simp [h1]
theorem root_Exact_X {x : EX} (hx : x.ok) : Ev (fun k => root_Exact.f k x.kd x.ng x.sc (TH x.V) (TL x.V) x.R) ((rootX x).kd, (rootX x).ng, (rootX x).sc, TH (rootX x).V, TL (rootX x).V, (rootX x).R, none) := by
 unfold root_Exact.f
 refine Ev.bind (Round_X (n := 8) (by decide) hx) ?_
 simp only [Option.isNone_none, if_true]
 rcases hx with rfl | rfl | ⟨k1, k2, k3, k4, k5⟩
 ·exact Ev.now _
 ·exact Ev.now _
 ·have hk0 : ¬ x.kd = 0 := by omega
  have hk2 : ¬ x.kd = 2 := by omega
  simp only [if_neg hk0, if_neg hk2]
  by_cases hn : x.ng = true
  ·have e : rootX x = EX.nar := by unfold rootX; rw [if_neg hk0, if_pos (.inr hn)]
   simp only [if_pos hn, e]
   exact Ev.now _
  ·obtain ⟨w1, w2⟩ := rootW_bounds k2 k3
   obtain ⟨r1, r2, r3, r4⟩ := rt_facts w1 w2
   have e : rootX x = ⟨1, false, x.sc / 2, rtL (rootW x) 64 0 * 18446744073709551616, x.R || (decide (x.sc % 2 = 0 ∧ x.V % 2 ≠ 0) || decide (rtL (rootW x) 64 0 * rtL (rootW x) 64 0 ≠ rootW x))⟩ := by
    unfold rootX; rw [if_neg hk0, if_neg (fun h => h.elim hk2 hn)]
   have hR := part_Root_eq w2
   simp only [if_neg hn]
   refine evs ?_
   simp only [root_Exact.j0, and_i64_1, e, (T_hi _).1, (T_hi _).2]
   by_cases hs : x.sc % 2 = 0
   ·have hw : rootW x = x.V / 2 ^ 1 := by unfold rootW; rw [if_pos hs]
    simp only [if_pos hs]
    have hsh := twin_Shr_eq x.V 1 k3 (by decide)
    have hsh' : twin_Shr.f (TH x.V) (TL x.V) 1 = _ := hsh
    simp only [hsh', Option.bind_some]
    rw [← hw]
    by_cases hr : x.R = true
    ·simp only [if_pos hr]
     refine Ev.bind hR (evn ?_)
     simp [hr]
    ·simp only [if_neg hr]
     refine Ev.bind hR ?_
     by_cases hl : x.V % 2 ^ 1 ≠ 0
     ·simp only [decide_eq_true hl, if_true]
      refine evn ?_
      have : x.V % 2 ≠ 0 := hl
      simp [hs, this]
     ·simp only [decide_eq_false hl, Bool.false_eq_true, if_false, left_ne r1]
      refine evn ?_
      have h0 : x.V % 2 = 0 := by simpa using hl
      simp [hr, h0]
   ·have hw : rootW x = x.V := by unfold rootW; rw [if_neg hs]
    simp only [if_neg hs]
    rw [hw] at hR r1 ⊢
    refine Ev.bind hR ?_
    by_cases hr : x.R = true
    ·simp only [if_pos hr]
     refine evn ?_
     simp [hr]
    ·simp only [if_neg hr, left_ne r1]
     refine evn ?_
     simp [hr, hs]
theorem ref_half_eq {s : Int} (h0 : -4398046511104 ≤ s) (h1 : s ≤ 4398046511104) : vernierref12_half.f s = some (s / 2) := by
 unfold vernierref12_half.f
 have q : (0 ≤ s ∧ Int.tdiv s 2 = s / 2) ∨ (s < 0 ∧ Int.tdiv s 2 = if s % 2 = 0 then s / 2 else s / 2 + 1) := by
  rcases (show s < 0 ∨ 0 ≤ s by omega) with h | h
  ·right
   refine ⟨h, ?_⟩
   rw [Int.tdiv_eq_ediv]
   by_cases hd : s % 2 = 0
   ·rw [if_pos hd, if_pos (Or.inr (by omega)), Int.add_zero]
   ·rw [if_neg hd, if_neg (by omega)]; rfl
  ·left; exact ⟨h, Int.tdiv_eq_ediv_of_nonneg h⟩
 have e : wrap64 (Int.tdiv s 2) = Int.tdiv s 2 := by
  rcases q with ⟨h, q⟩ | ⟨h, q⟩
  ·rw [q, w64 (by omega) (by omega)]
  ·rw [q]
   by_cases hd : s % 2 = 0
   ·rw [if_pos hd, w64 (by omega) (by omega)]
   ·rw [if_neg hd, w64 (by omega) (by omega)]
 rw [e]
 rcases q with ⟨h, q⟩ | ⟨h, q⟩
 ·rw [q, w64 (n := 2 * (s / 2)) (by omega) (by omega), if_neg (by omega)]
 ·by_cases hd : s % 2 = 0
  ·rw [if_pos hd] at q
   rw [q, w64 (n := 2 * (s / 2)) (by omega) (by omega), if_neg (by omega)]
  ·rw [if_neg hd] at q
   rw [q, w64 (n := 2 * (s / 2 + 1)) (by omega) (by omega), if_pos (by omega), w64 (by omega) (by omega), Int.add_sub_cancel]
end Go.Proofs.Ytkobihckebiheaa.V
namespace Go.Proofs.Ytkobihckebiheaa.V
open Go Go.RowKit Go.Proofs.Ytkobihckebiheaa.Ab Go.Proofs.Ytkobihckebiheaa.Fn
set_option linter.unusedVariables false
set_option linter.unusedSimpArgs false
theorem ref02_Of_eq {V : Nat} (hV : V < 2 ^ 128) : ∃ r, Ev (fun k => vernierref02_Of.f k (TH V) (TL V)) r ∧ DL r V := by
 have h1 : V / 18446744073709551616 < 18446744073709551616 := th_lt hV
 obtain ⟨a, a1, a2⟩ := r0_Of (V / 18446744073709551616) h1
 have la : a.length ≤ 3 := a2.len_le (Nat.lt_of_lt_of_le h1 (by decide))
 obtain ⟨b, b1, b2⟩ := r0_Shl (k := 64) a2 (by decide) (by omega)
 obtain ⟨c, c1, c2⟩ := r0_Of (V % 18446744073709551616) (Nat.mod_lt _ (by decide))
 have lc : c.length ≤ 3 := c2.len_le (Nat.lt_of_lt_of_le (Nat.mod_lt _ (by decide)) (show 18446744073709551616 ≤ W 3 by decide))
 have e : V / 18446744073709551616 * 2 ^ 64 ≤ V := by rw [p64]; exact Nat.div_mul_le_self _ _
 have lb : b.length ≤ 6 := b2.len_le (Nat.lt_of_le_of_lt e (Nat.lt_of_lt_of_le hV (by decide)))
 obtain ⟨d, d1, d2⟩ := r0_Add b2 c2 (by omega) (by omega)
 refine ⟨d, ?_, ?_⟩
 ·unfold vernierref02_Of.f
  exact Ev.bind a1 (Ev.bind b1 (Ev.bind c1 (Ev.bind d1 (Ev.now _))))
 ·rw [show V / 18446744073709551616 * 2 ^ 64 + V % 18446744073709551616 = V by rw [p64]; omega] at d2
  exact d2
theorem rt_div {M r b : Nat} (hb : 0 < b) (h1 : r * r ≤ M) (h2 : M < (r + 1) * (r + 1)) : (r / b) * (r / b) ≤ M / (b * b) ∧ M / (b * b) < (r / b + 1) * (r / b + 1) := by
 have hd := Nat.div_add_mod r b
 have hm := Nat.mod_lt r hb
 generalize r / b = q at *
 generalize r % b = c at *
 subst hd
 constructor
 ·rw [Nat.le_div_iff_mul_le (Nat.mul_pos hb hb)]
  refine Nat.le_trans ?_ h1
  have e : q * q * (b * b) = (b * q) * (b * q) := by grind
  rw [e]
  exact Nat.mul_le_mul (by omega) (by omega)
 ·rw [Nat.div_lt_iff_lt_mul (Nat.mul_pos hb hb)]
  refine Nat.lt_of_lt_of_le h2 ?_
  have e : (q + 1) * (q + 1) * (b * b) = (b * q + b) * (b * q + b) := by grind
  rw [e]
  exact Nat.mul_le_mul (by omega) (by omega)
theorem rt_eq {M r b : Nat} (hb : 0 < b) (h1 : r * r ≤ M) (h2 : M < (r + 1) * (r + 1)) : (r % b ≠ 0 ∨ r * r ≠ M) ↔ (M % (b * b) ≠ 0 ∨ (r / b) * (r / b) ≠ M / (b * b)) := by
 have hd := Nat.div_add_mod r b
 have hm := Nat.div_add_mod M (b * b)
 rw [← Decidable.not_iff_not]
 simp only [not_or, Decidable.not_not]
 constructor
 ·rintro ⟨ha, hc⟩
  rw [ha, Nat.add_zero] at hd
  have e : M = (b * b) * ((r / b) * (r / b)) := by
   rw [← hc]
   generalize r / b = q at *
   subst hd; grind
  rw [e, Nat.mul_mod_right, Nat.mul_div_cancel_left _ (Nat.mul_pos hb hb)]
  exact ⟨rfl, rfl⟩
 ·rintro ⟨ha, hc⟩
  rw [ha, Nat.add_zero, ← hc] at hm
  have e : b * (r / b) * (b * (r / b)) = M := by rw [← hm]; grind
  have hq : b * (r / b) = r := rt_uniq (m := M) (by omega) (by
   rw [← e]; exact Nat.mul_self_lt_mul_self (Nat.lt_succ_self _)) h1 h2
  rw [hq] at e
  refine ⟨?_, e⟩
  omega
theorem bl71 {r : Nat} (h1 : 2 ^ 70 ≤ r) (h2 : r < 2 ^ 71) : bl r = 71 := bl_unique (by decide) h1 h2
theorem one_DL : DL ([1] : List Int) 1 := by
 refine ⟨?_, by decide, fun _ => by decide⟩
 intro d hd
 have : d = 1 := by simpa using hd
 subst this
 exact ⟨by decide, by decide⟩
theorem ref11_Cut_eq (kd : Int) (ng : Bool) (sc hi lo : Int) (R : Bool) : vernierref11_Cut.f kd ng sc hi lo R = some (kd, ng, sc, hi, 0, R || decide (lo ≠ 0)) := by
 unfold vernierref11_Cut.f
 cases R
 ·simp only [Bool.false_eq_true, if_false, Bool.false_or]
  congr 6
  by_cases h : lo = 0 <;> simp [h]
 ·simp
theorem ref12_l0 {M : Nat} {m : List Int} {s : Int} {R : Bool} {y : Int × Bool × Int × Int × Int × Bool × Int} (hm : DL m M) (lm : m.length ≤ 6) : ∀ (k r : Nat) (l : List Int), DL l r → r + 2 ^ k ≤ 2 ^ 71 → k ≤ 71 →
  (∀ l', DL l' (rtL M k r) → rtL M k r < 2 ^ 71 → Ev (fun n => vernierref12_Exact.l0 n s m l' (-1) R) y) → Ev (fun n => vernierref12_Exact.l0 n s m l ((k : Int) - 1) R) y
 | 0, r, l, hl, hr, hk, H => by
  have := H l hl (by unfold rtL; rw [Nat.pow_zero] at hr; omega)
  exact this
 | k + 1, r, l, hl, hr, hk, H => by
  have hp := two_pos k
  have e2 : 2 ^ (k + 1) = 2 ^ k * 2 := Nat.pow_succ ..
  refine evs ?_
  have ew : wrap64 ((k : Int) - 1) = (k : Int) - 1 := w64 (by omega) (by omega)
  simp only [vernierref12_Exact.l0, nI_eq, show ((k + 1 : Nat) : Int) - 1 = (k : Int) by omega, if_pos (show (k : Int) ≥ 0 by omega), ew]
  obtain ⟨a, a1, a2⟩ := r4_Shl (k := k) one_DL (by omega) (by decide)
  rw [Nat.one_mul] at a2
  have hW : (2 : Nat) ^ 71 ≤ W 3 := by decide
  have la : a.length ≤ 3 := a2.len_le (by omega)
  have ll : l.length ≤ 3 := hl.len_le (by omega)
  obtain ⟨b, b1, b2⟩ := r4_Add hl a2 (by omega) (by omega)
  have lb : b.length ≤ 3 := b2.len_le (by omega)
  obtain ⟨c, c1, c2⟩ := r4_Mul b2 b2 (by omega)
  have hsq : (r + 2 ^ k) * (r + 2 ^ k) < W 6 := by
   have := Nat.mul_le_mul (show r + 2 ^ k ≤ 2 ^ 71 by omega) (show r + 2 ^ k ≤ 2 ^ 71 by omega)
   have e : (2 : Nat) ^ 71 * 2 ^ 71 < W 6 := by decide
   omega
  have lc : c.length ≤ 6 := c2.len_le hsq
  refine Ev.bind a1 (Ev.bind b1 (Ev.bind c1 (Ev.bind (r4_Cmp c2 hm (by omega) (by omega)) ?_)))
  unfold rtL at H
  by_cases h : (r + 2 ^ k) * (r + 2 ^ k) ≤ M
  ·simp only [if_pos (cmpN_le.mpr h)]
   rw [if_pos h] at H
   exact ref12_l0 hm lm k (r + 2 ^ k) b b2 (by omega) (by omega) H
  ·simp only [if_neg (fun hc => h (cmpN_le.mp hc))]
   rw [if_neg h] at H
   exact ref12_l0 hm lm k r l hl (by omega) (by omega) H
theorem ref12_Exact_X {x : EX} (hx : x.ok) : Ev (fun k => vernierref12_Exact.f k x.kd x.ng x.sc (TH x.V) (TL x.V) x.R) ((rootX x).kd, (rootX x).ng, (rootX x).sc, TH (rootX x).V, TL (rootX x).V, (rootX x).R, 0) := by
 unfold vernierref12_Exact.f
 simp only [ref_Sound_eq, EX.ok_sound hx, Option.bind_some, if_true]
 rcases hx with rfl | rfl | ⟨k1, k2, k3, k4, k5⟩
 ·exact evs (Ev.now _)
 ·exact evs (Ev.now _)
 ·have hk0 : ¬ x.kd = 0 := by omega
  have hk2 : ¬ x.kd = 2 := by omega
  simp only [if_neg hk2]
  refine evs ?_
  simp only [vernierref12_Exact.j0]
  by_cases hn : x.ng = true
  ·have e : rootX x = EX.nar := by unfold rootX; rw [if_neg hk0, if_pos (.inr hn)]
   simp only [if_pos hn, e]
   exact Ev.now _
  ·simp only [if_neg hn, if_neg hk0]
   refine Ev.bind (evn (ref_half_eq (by omega) (by omega))) ?_
   obtain ⟨v, v1, v2⟩ := ref02_Of_eq k3
   have lv : v.length ≤ 6 := v2.len_le (Nat.lt_of_lt_of_le k3 (by decide))
   have et : wrap64 (wrap64 (13 + x.sc) - wrap64 (2 * (x.sc / 2))) = ((13 + (x.sc % 2).toNat : Nat) : Int) := by
    rw [w64 (n := 13 + x.sc) (by omega) (by omega), w64 (n := 2 * (x.sc / 2)) (by omega) (by omega), w64 (by omega) (by omega)]; omega
   rw [et]
   have ht : (x.sc % 2).toNat < 2 := by omega
   have hse : x.sc % 2 = 0 ↔ (x.sc % 2).toNat = 0 := by omega
   generalize hte : (x.sc % 2).toNat = t at *
   obtain ⟨m, m1, m2⟩ := r4_Shl (k := 13 + t) v2 (by omega) (by omega)
   -- the number under the root
   have hM : x.V * 2 ^ (13 + t) / 16384 = rootW x ∧ (x.V * 2 ^ (13 + t) % 16384 ≠ 0 ↔ x.sc % 2 = 0 ∧ x.V % 2 ≠ 0) := by
    unfold rootW
    rcases (show t = 0 ∨ t = 1 by omega) with h | h
    ·rw [if_pos (hse.mpr h), h, show (2 : Nat) ^ (13 + 0) = 8192 by decide]
     have := hse.mpr h
     omega
    ·rw [if_neg (by rw [hse]; omega), h, show (2 : Nat) ^ (13 + 1) = 16384 by decide]
     have : ¬ x.sc % 2 = 0 := by rw [hse]; omega
     omega
   obtain ⟨hM1, hM2⟩ := hM
   have hMb : 2 ^ 140 ≤ x.V * 2 ^ (13 + t) ∧ x.V * 2 ^ (13 + t) < 2 ^ 142 := by
    rcases (show t = 0 ∨ t = 1 by omega) with h | h
    ·rw [h, show (2 : Nat) ^ (13 + 0) = 8192 by decide, show (2 : Nat) ^ 140 = 8192 * 2 ^ 127 by decide, show (2 : Nat) ^ 142 = 16384 * 2 ^ 128 by decide]
     generalize (2 : Nat) ^ 127 = y at *
     generalize (2 : Nat) ^ 128 = z at *
     omega
    ·rw [h, show (2 : Nat) ^ (13 + 1) = 16384 by decide, show (2 : Nat) ^ 140 = 8192 * 2 ^ 127 by decide, show (2 : Nat) ^ 142 = 16384 * 2 ^ 128 by decide]
     generalize (2 : Nat) ^ 127 = y at *
     generalize (2 : Nat) ^ 128 = z at *
     omega
   generalize x.V * 2 ^ (13 + t) = M at *
   have lm : m.length ≤ 6 := m2.len_le (Nat.lt_of_lt_of_le hMb.2 (by decide))
   obtain ⟨r1, r2⟩ := rtL_spec M 71 0 (Nat.zero_le _) (by rw [Nat.zero_add, ← Nat.pow_add]; exact hMb.2)
   refine Ev.bind v1 (Ev.bind m1 (ref12_l0 m2 lm 71 0 [] DL.nil (by decide) (by decide) ?_))
   intro l hl hlt
   generalize rtL M 71 0 = r at *
   have hrl : 2 ^ 70 ≤ r := by
    rcases Nat.lt_or_ge r (2 ^ 70) with h | h
    ·have := Nat.mul_le_mul (show r + 1 ≤ 2 ^ 70 by omega) (show r + 1 ≤ 2 ^ 70 by omega)
     have e : (2 : Nat) ^ 70 * 2 ^ 70 = 2 ^ 140 := by decide
     omega
    ·exact h
   obtain ⟨w1, w2⟩ := rootW_bounds k2 k3
   obtain ⟨q1, q2⟩ := rtL_spec (rootW x) 64 0 (Nat.zero_le _) (by rw [Nat.zero_add, ← Nat.pow_add]; exact w2)
   obtain ⟨d1, d2⟩ := rt_div (b := 128) (by decide) r1 r2
   have de := rt_eq (b := 128) (by decide) r1 r2
   rw [show (128 * 128 : Nat) = 16384 from rfl, hM1] at d1 d2 de
   have hq : r / 128 = rtL (rootW x) 64 0 := rt_uniq d1 d2 q1 q2
   have ll : l.length ≤ 3 := hl.len_le (Nat.lt_of_lt_of_le hlt (by decide))
   obtain ⟨sq, sq1, sq2⟩ := r4_Mul hl hl (by omega)
   have lsq : sq.length ≤ 6 := sq2.len_le (Nat.lt_of_le_of_lt r1 (Nat.lt_of_lt_of_le hMb.2 (by decide)))
   have e70 : wrap64 (x.sc / 2 - 70) = x.sc / 2 - 70 := w64 (by omega) (by omega)
   refine evs ?_
   simp only [vernierref12_Exact.l0, nI_eq, if_neg (show ¬ (-1 : Int) ≥ 0 by decide), e70]
   refine Ev.bind sq1 (Ev.bind (r4_Cmp sq2 m2 (by omega) (by omega)) (Ev.bind (ref_Exactly_eq hl (by omega) (by omega) (by omega)) ?_))
   have hb := bl71 hrl hlt
   have hex : exactE false r (x.sc / 2 - 70) false = (1, false, x.sc / 2, ((r / 128 : Nat) : Int), ((r % 128 * 144115188075855872 : Nat) : Int), false) := by
    unfold exactE
    rw [if_neg (by have := two_pos 70; omega), hb]
    have hh : heldI (x.sc / 2 - 70 + ((71 : Nat) : Int) - 1) = x.sc / 2 := by unfold heldI; rw [if_neg (by omega), if_neg (by omega)]; omega
    rw [hh]
    have hv : mkV r = r * 144115188075855872 := by
     have e57 : (2 : Nat) ^ (128 - 71) = 144115188075855872 := by decide
     unfold mkV; rw [hb, if_pos (by decide), e57]
    have hr : mkR r false = false := by unfold mkR; rw [hb, show (71 - 128 : Nat) = 0 from rfl, Nat.pow_zero, Nat.mod_one]; rfl
    rw [hv, hr]
    have t1 : TH (r * 144115188075855872) = ((r / 128 : Nat) : Int) := by unfold TH; omega
    have t2 : TL (r * 144115188075855872) = ((r % 128 * 144115188075855872 : Nat) : Int) := by unfold TL; omega
    rw [t1, t2]
   rw [hex]
   refine Ev.bind (evn (ref11_Cut_eq _ _ _ _ _ _)) ?_
   rw [Bool.false_or]
   have e : rootX x = ⟨1, false, x.sc / 2, rtL (rootW x) 64 0 * 18446744073709551616, x.R || (decide (x.sc % 2 = 0 ∧ x.V % 2 ≠ 0) || decide (rtL (rootW x) 64 0 * rtL (rootW x) 64 0 ≠ rootW x))⟩ := by
    unfold rootX; rw [if_neg hk0, if_neg (fun h => h.elim hk2 hn)]
   rw [← hq] at e
   rw [e]
   simp only [(T_hi _).1, (T_hi _).2]
   have hz : ((r % 128 * 144115188075855872 : Nat) : Int) ≠ 0 ↔ r % 128 ≠ 0 := by omega
   have hc : cmpN (r * r) M = 0 ↔ r * r = M := by
    unfold cmpN
    by_cases h : r * r = M
    ·rw [if_pos h]; simp [h]
    ·rw [if_neg h]; simp only [h, iff_false]; split <;> decide
   rw [hM2] at de
   by_cases c1 : r % 128 ≠ 0
   ·simp only [decide_eq_true (hz.mpr c1), if_true]
    refine evn ?_
    have := de.mp (.inl c1)
    have hb : (decide (x.sc % 2 = 0 ∧ x.V % 2 ≠ 0) || decide (r / 128 * (r / 128) ≠ rootW x)) = true := by simpa using this
    rw [hb]; simp
   ·simp only [decide_eq_false (fun h => c1 (hz.mp h)), Bool.false_eq_true, if_false]
    by_cases c2 : r * r = M
    ·simp only [if_pos (hc.mpr c2)]
     have hb : (decide (x.sc % 2 = 0 ∧ x.V % 2 ≠ 0) || decide (r / 128 * (r / 128) ≠ rootW x)) = false := by
      rw [Bool.eq_false_iff]
      intro h
      have h' := de.mpr (by simpa using h)
      exact h'.elim c1 (fun h => h c2)
     rw [hb, Bool.or_false]
     exact Ev.now _
    ·simp only [if_neg (fun h => c2 (hc.mp h))]
     refine evn ?_
     have := de.mp (.inr c2)
     have hb : (decide (x.sc % 2 = 0 ∧ x.V % 2 ≠ 0) || decide (r / 128 * (r / 128) ≠ rootW x)) = true := by simpa using this
     rw [hb]; simp
end Go.Proofs.Ytkobihckebiheaa.V
namespace Go.Proofs.Ytkobihckebiheaa.V
open Go Go.RowKit Go.Proofs.Ytkobihckebiheaa.Ab Go.Proofs.Ytkobihckebiheaa.Fn
set_option linter.unusedVariables false
set_option linter.unusedSimpArgs false
theorem Of_X {x : NM} (h : x.ok) : Ev (fun k => round_Of.f k x.kd x.ng x.sc (x.fr : Int)) (x.ex.kd, x.ex.ng, x.ex.sc, TH x.ex.V, TL x.ex.V, x.ex.R, none) := by
 have := round_Of_eq x.kd x.ng x.sc (x.fr : Int) (by have := h.2; omega) (by omega)
 rw [if_pos h.1] at this
 rw [(NM.ex_tup x h).1, (NM.ex_tup x h).2]
 exact this
theorem ref_Of_X {x : NM} (h : x.ok) : vernierref07_Of.f x.kd x.ng x.sc (x.fr : Int) = some (x.ex.kd, x.ex.ng, x.ex.sc, TH x.ex.V, TL x.ex.V, x.ex.R, 0) := by
 unfold vernierref07_Of.f
 rw [ref_sound, h.1, Option.bind_some, if_pos rfl, (NM.ex_tup x h).1, (NM.ex_tup x h).2]
 rfl
def sqrtN (n x : Nat) : Nat := (rootX (decN n x).ex).rnd n
theorem root_Sqrt_eq {n a : Nat} (h : isW (n : Int) = true) (ha : a < 18446744073709551616) : Ev (fun k => root_Sqrt.f k (n : Int) (a : Int)) (((sqrtN n (a % 2 ^ n) : Nat) : Int), none) := by
 obtain ⟨b64, b8⟩ := pow64 h
 have hok := decN_ok b8 b64 (Nat.mod_lt a (two_pos n))
 unfold root_Sqrt.f
 refine Ev.bind (Decode_N h ha) ?_
 simp only [Option.isNone_none, if_true]
 refine Ev.bind (Of_X hok) (Ev.bind (root_Exact_X (NM.ex_ok hok)) ?_)
 simp only [Option.isNone_none, if_true]
 exact Ev.bind (Round_X h (rootX_ok (NM.ex_ok hok))) (Ev.now _)
theorem root_Sqrt_no {n : Int} (h : isW n = false) (a : Int) : Ev (fun k => root_Sqrt.f k n a) (0, some 2) := by
 unfold root_Sqrt.f
 exact Ev.bind (Decode_no h a) (Ev.now _)
theorem ref_Sqrt_eq {n a : Nat} (h : isW (n : Int) = true) (ha : a < 18446744073709551616) : Ev (fun k => vernierref12_Sqrt.f k (n : Int) (a : Int)) ((sqrtN n (a % 2 ^ n) : Nat) : Int) := by
 obtain ⟨b64, b8⟩ := pow64 h
 have hok := decN_ok b8 b64 (Nat.mod_lt a (two_pos n))
 unfold vernierref12_Sqrt.f
 refine Ev.bind (ref_Decode_N h ha) (Ev.bind (evn (ref_Of_X hok)) (Ev.bind (ref12_Exact_X (NM.ex_ok hok)) ?_))
 exact Ev.bind (ref_Round_X h (rootX_ok (NM.ex_ok hok))) (Ev.now _)
theorem up12 : Ev (fun k => vernierlaw12_up.f k) true := by
 unfold vernierlaw12_up.f
 have a := root_Sqrt_eq (n := 8) (a := 80) (by decide) (by decide)
 have b := root_Sqrt_eq (n := 8) (a := 192) (by decide) (by decide)
 rw [show sqrtN 8 (80 % 2 ^ 8) = 72 by decide +kernel] at a
 rw [show sqrtN 8 (192 % 2 ^ 8) = 128 by decide +kernel] at b
 exact Ev.bind a (Ev.bind b (Ev.now _))
end Go.Proofs.Ytkobihckebiheaa.V
namespace Go.Proofs.Ytkobihckebiheaa.Pure
open Go Go.RowKit Go.Proofs.Ytkobihckebiheaa.Ab Go.Proofs.Ytkobihckebiheaa.Fn Go.Proofs.Ytkobihckebiheaa.V
set_option linter.unusedSimpArgs false
theorem RootSqrts : vernierlaw12_RootSqrts.Pure := by
 intro n a w0 w1
 obtain ⟨a, rfl, ha⟩ := u64_nat w1
 refine Ev.rounds (g := fun k => vernierlaw12_RootSqrts.f k n (a : Int)) ?_
 unfold vernierlaw12_RootSqrts.f
 refine Ev.bind up12 ?_
 by_cases hn : isW n = true
 ·obtain ⟨n, rfl, _⟩ := isW_nat hn
  refine Ev.bind (root_Sqrt_eq hn ha) (Ev.bind (a := (((sqrtN n (a % 2 ^ n) : Nat) : Int), (0 : Int))) ?_ (evn (by simp [code_none])))
  unfold vernierref12_Sqrts.f
  rw [ref_Is_eq, hn]
  simp only [Option.bind_some, if_true]
  exact Ev.bind (ref_Sqrt_eq hn ha) (Ev.now _)
 ·have hn : isW n = false := by simpa using hn
  refine Ev.bind (root_Sqrt_no hn _) (Ev.bind (a := ((0 : Int), (2 : Int))) ?_ (evn (by simp [code_2])))
  unfold vernierref12_Sqrts.f
  rw [ref_Is_eq, hn]
  exact Ev.now _
end Go.Proofs.Ytkobihckebiheaa.Pure
