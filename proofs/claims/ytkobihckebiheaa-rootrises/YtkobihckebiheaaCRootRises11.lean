-- Written by a program of this session out of its own texts (wip/tools/link.py).
import Derived.Below
import Derived.ChangeKeysEq
import Derived.Deep.MidRow
import Derived.Deep.RegionHeld3
import Derived.Great.BuildSlice
import Derived.IntWalk
import Derived.KernelRfl
import Derived.LaidEql
import Derived.Laws.Bits64
import Derived.Laws.BitsLemmas
import Derived.Laws.BytesArg
import Derived.Laws.IdiomCopy
import Derived.Laws.OwnMore
import Derived.Laws.Rows
import Derived.Laws.Slices
import Derived.Laws.Strings
import Derived.Laws.StructEq
import Derived.Laws.Tables
import Derived.Lib.BitFns
import Derived.Lib.Mul64
import Derived.Lib.Slices
import Derived.Lib.Small
import Derived.Lib.Strings
import Derived.Lib.Walk
import Derived.Maps.AppendAt
import Derived.OrdersHeld
import Derived.RowKit
import Derived.Shelf.Spec.BitsCarry
import Derived.Test.YtkobihckebiheaaProg
import Derived.Test.YtkobihckebiheaaCRootRises7
import Derived.Test.YtkobihckebiheaaCRootRises8
import Derived.Test.YtkobihckebiheaaCRootRises9
import Derived.Test.YtkobihckebiheaaCRootRises10
namespace Go.Proofs.Ytkobihckebiheaa.V
open Go Go.RowKit Go.Proofs.Ytkobihckebiheaa.Ab Go.Proofs.Ytkobihckebiheaa.Fn
set_option linter.unusedVariables false
set_option linter.unusedSimpArgs false
theorem mask32 (a : Nat) (ha : a < 18446744073709551616) : Go.bits .and .u64 (a : Int) 4294967295 = ((a % 4294967296 : Nat) : Int) := and_mask a 32 ha (by decide)
theorem div32 (a : Nat) : (a : Int) / 4294967296 = ((a / 4294967296 : Nat) : Int) := by omega
theorem mulC (a b : Nat) : (a : Int) * (b : Int) = ((a * b : Nat) : Int) := (Int.natCast_mul a b).symm
theorem addC (a b : Nat) : (a : Int) + (b : Int) = ((a + b : Nat) : Int) := (Int.natCast_add a b).symm
theorem wrapN (a : Nat) (ha : a < 18446744073709551616) : IntKind.u64.wrap (a : Int) = (a : Int) := u64_of (by omega) (by omega)
theorem bits_Mul64_eq {x y : Nat} (hx : x < 18446744073709551616) (hy : y < 18446744073709551616) : bits_Mul64.f (x : Int) (y : Int) = some (TH (x * y), TL (x * y)) := by
 obtain ⟨bd, bt, bw, hhi⟩ := Lib.mul64_hi x y hx hy
 have ba := Lib.half_mul_le (a := x / 4294967296) (b := y / 4294967296) (by omega) (by omega)
 have bb := Lib.half_mul_le (a := x / 4294967296) (b := y % 4294967296) (by omega) (by omega)
 have bc := Lib.half_mul_le (a := x % 4294967296) (b := y / 4294967296) (by omega) (by omega)
 have ba' : x / 4294967296 * (y / 4294967296) < 18446744073709551616 := by omega
 have bb' : x / 4294967296 * (y % 4294967296) < 18446744073709551616 := by omega
 have bc' : x % 4294967296 * (y / 4294967296) < 18446744073709551616 := by omega
 have bh1 : x / 4294967296 * (y / 4294967296) + (x / 4294967296 * (y % 4294967296) + x % 4294967296 * (y % 4294967296) / 4294967296) / 4294967296 < 18446744073709551616 := by omega
 have bh : x / 4294967296 * (y / 4294967296) + (x / 4294967296 * (y % 4294967296) + x % 4294967296 * (y % 4294967296) / 4294967296) / 4294967296 + ((x / 4294967296 * (y % 4294967296) + x % 4294967296 * (y % 4294967296) / 4294967296) % 4294967296 + x % 4294967296 * (y / 4294967296)) / 4294967296 < 18446744073709551616 := by omega
 unfold bits_Mul64.f
 simp only [mask32 x hx, mask32 y hy, div32, mulC, addC, wrapN _ bd, wrapN _ bb', wrapN _ bt, mask32 _ bt, wrapN _ bc', wrapN _ bw, wrapN _ ba', wrapN _ bh1, wrapN _ bh, u64_nat_wrap (x * y)]
 rw [hhi]
 rfl
theorem twin_Mul_eq {x y : Nat} (hx : x < 18446744073709551616) (hy : y < 18446744073709551616) : twin_Mul.f (x : Int) (y : Int) = some (TH (x * y), TL (x * y)) := by
 unfold twin_Mul.f
 rw [bits_Mul64_eq hx hy]; rfl
end Go.Proofs.Ytkobihckebiheaa.V
namespace Go.Proofs.Ytkobihckebiheaa.V
open Go Go.RowKit Go.Proofs.Ytkobihckebiheaa.Ab Go.Proofs.Ytkobihckebiheaa.Fn
set_option linter.unusedVariables false
set_option linter.unusedSimpArgs false
def rtL (m : Nat) : Nat → Nat → Nat
 | 0, r => r
 | k + 1, r => rtL m k (if (r + 2 ^ k) * (r + 2 ^ k) ≤ m then r + 2 ^ k else r)
theorem rtL_spec (m : Nat) : ∀ (k r : Nat), r * r ≤ m → m < (r + 2 ^ k) * (r + 2 ^ k) → rtL m k r * rtL m k r ≤ m ∧ m < (rtL m k r + 1) * (rtL m k r + 1)
 | 0, r, h1, h2 => ⟨h1, h2⟩
 | k + 1, r, h1, h2 => by
  unfold rtL
  have e : r + 2 ^ (k + 1) = r + 2 ^ k + 2 ^ k := by rw [Nat.pow_succ]; omega
  rw [e] at h2
  by_cases h : (r + 2 ^ k) * (r + 2 ^ k) ≤ m
  ·rw [if_pos h]; exact rtL_spec m k _ h h2
  ·rw [if_neg h]; exact rtL_spec m k _ h1 (by omega)
theorem rtL_le (m : Nat) : ∀ (k r : Nat), r ≤ rtL m k r ∧ rtL m k r < r + 2 ^ k
 | 0, r => ⟨Nat.le_refl _, by show r < r + 2 ^ 0; omega⟩
 | k + 1, r => by
  unfold rtL
  have e : r + 2 ^ (k + 1) = r + 2 ^ k + 2 ^ k := by rw [Nat.pow_succ]; omega
  have hp := two_pos k
  split
  ·have := rtL_le m k (r + 2 ^ k); omega
  ·have := rtL_le m k r; omega
theorem twin_Cmp_eq (A B : Nat) : twin_Cmp.f (TH A) (TL A) (TH B) (TL B) = some (cmpN A B) := by
 unfold twin_Cmp.f
 by_cases h : A = B
 ·subst h
  rw [if_pos (by simp)]
  unfold cmpN; simp
 ·have hne : ¬ ((TH A == TH B && (TL A == TL B)) = true) := by
   intro hc
   simp only [Bool.and_eq_true, beq_iff_eq] at hc
   exact h (T_eq hc.1 hc.2)
  rw [if_neg hne]
  unfold cmpN
  rw [if_neg h]
  by_cases hl : A < B
  ·rw [if_pos hl]
   by_cases h1 : TH A < TH B
   ·rw [if_pos h1]
   ·rw [if_neg h1]
    have h2 : TH A = TH B := by unfold TH at *; omega
    have h3 : TL A < TL B := by unfold TH TL at *; omega
    rw [if_pos h2, if_pos h3]
  ·rw [if_neg hl]
   have h1 : ¬ TH A < TH B := by unfold TH at *; omega
   rw [if_neg h1]
   by_cases h2 : TH A = TH B
   ·have h3 : ¬ TL A < TL B := by unfold TH TL at *; omega
    rw [if_pos h2, if_neg h3]
   ·rw [if_neg h2]
theorem bits_Sub64_eq {x y b : Int} (hx : 0 ≤ x) (hy0 : 0 ≤ y) (hy : y < 18446744073709551616) (h0 : 0 ≤ b) (hb : b ≤ 1) : bits_Sub64.f x y b = some ((x - y - b) % 18446744073709551616, if x < y + b then 1 else 0) := by
 unfold bits_Sub64.f
 rw [if_pos ⟨hx, hy0, hy, h0, hb⟩]
theorem th_lt {A : Nat} (h : A < 2 ^ 128) : A / 18446744073709551616 < 18446744073709551616 := by rw [p128] at h; omega
theorem TL_range (A : Nat) : 0 ≤ TL A ∧ TL A < 18446744073709551616 := by unfold TL; omega
theorem TH_range {A : Nat} (h : A / 18446744073709551616 < 18446744073709551616) : 0 ≤ TH A ∧ TH A < 18446744073709551616 := by unfold TH; omega
theorem sub_T {A B : Nat} (hA : A / 18446744073709551616 < 18446744073709551616) (h : B ≤ A) (hc : TL A < TL B + 0) : (TH A - TH B - 1) % 18446744073709551616 = TH (A - B) ∧ (TL A - TL B - 0) % 18446744073709551616 = TL (A - B) ∧ ¬ TH A < TH B + 1 := by
 unfold TH TL at *; omega
theorem sub_T' {A B : Nat} (hA : A / 18446744073709551616 < 18446744073709551616) (h : B ≤ A) (hc : ¬ TL A < TL B + 0) : (TH A - TH B - 0) % 18446744073709551616 = TH (A - B) ∧ (TL A - TL B - 0) % 18446744073709551616 = TL (A - B) ∧ ¬ TH A < TH B + 0 := by
 unfold TH TL at *; omega
theorem twin_Sub_eq' {A B : Nat} (hA : A / 18446744073709551616 < 18446744073709551616) (h : B ≤ A) : twin_Sub.f (TH A) (TL A) (TH B) (TL B) = some (TH (A - B), TL (A - B), false) := by
 have hB : B / 18446744073709551616 < 18446744073709551616 := Nat.lt_of_le_of_lt (Nat.div_le_div_right h) hA
 have a := bits_Sub64_eq (b := 0) (TL_range A).1 (TL_range B).1 (TL_range B).2 (Int.le_refl 0) (by decide)
 have b0 := bits_Sub64_eq (b := 0) (TH_range hA).1 (TH_range hB).1 (TH_range hB).2 (Int.le_refl 0) (by decide)
 have b1 := bits_Sub64_eq (b := 1) (TH_range hA).1 (TH_range hB).1 (TH_range hB).2 (by decide) (Int.le_refl 1)
 unfold twin_Sub.f
 rw [a]
 by_cases hc : TL A < TL B + 0
 ·obtain ⟨c1, c2, c3⟩ := sub_T hA h hc
  rw [if_pos hc, Option.bind_some]
  rw [b1, if_neg c3, Option.bind_some, c1, c2]
  rfl
 ·obtain ⟨c1, c2, c3⟩ := sub_T' hA h hc
  rw [if_neg hc, Option.bind_some]
  rw [b0, if_neg c3, Option.bind_some, c1, c2]
  rfl
theorem twin_Sub_eq {A B : Nat} (hA : A < 2 ^ 128) (h : B ≤ A) : twin_Sub.f (TH A) (TL A) (TH B) (TL B) = some (TH (A - B), TL (A - B), false) := twin_Sub_eq' (th_lt hA) h
theorem cmpN_le {A B : Nat} : cmpN A B ≤ 0 ↔ A ≤ B := by
 unfold cmpN; split
 ·omega
 ·split <;> omega
theorem part_Root_l0 {m : Nat} (hm : ∀ r, r * r ≤ m → twin_Sub.f (TH m) (TL m) (TH (r * r)) (TL (r * r)) = some (TH (m - r * r), TL (m - r * r), false)) : ∀ (k r : Nat), r % 2 ^ k = 0 → r + 2 ^ k ≤ 18446744073709551616 → k ≤ 64 → r * r ≤ m → Ev (fun n => part_Root.l0 n (r : Int) ((k : Int) - 1) (TH m) (TL m)) (((rtL m k r : Nat) : Int), TH (m - rtL m k r * rtL m k r), TL (m - rtL m k r * rtL m k r))
 | 0, r, h0, h1, hk, hr => by
  rw [Nat.pow_zero] at h1
  refine evs ?_
  simp only [part_Root.l0, nI_eq, if_neg (show ¬ ((0 : Nat) : Int) - 1 ≥ 0 by decide), if_false]
  exact Ev.bind (evn (twin_Mul_eq (show r < 18446744073709551616 by omega) (show r < 18446744073709551616 by omega))) (Ev.bind (evn (hm r hr)) (Ev.now _))
 | k + 1, r, h0, h1, hk, hr => by
  have hp := two_pos k
  have e2 : 2 ^ (k + 1) = 2 ^ k * 2 := Nat.pow_succ ..
  have hpl : 2 ^ k < 18446744073709551616 := by rw [← p64]; exact pow_lt (by omega)
  have eor : Go.bits .or .u64 (r : Int) (shl .u64 1 (k : Int)) = ((r + 2 ^ k : Nat) : Int) := by
   have := shl_nat 1 k (by omega)
   rw [Nat.one_mul, Nat.mod_eq_of_lt hpl] at this
   have e1 : shl .u64 1 (k : Int) = ((2 ^ k : Nat) : Int) := this
   rw [e1]
   exact or_add r (2 ^ k) (k + 1) (by omega) h0 (by omega) hpl
  have ew : wrap64 ((k : Int) - 1) = (k : Int) - 1 := w64 (by omega) (by omega)
  have hd : r % 2 ^ k = 0 := by
   have := mod_pow_le (a := r) (b := k) (c := k + 1) (by omega)
   rw [h0, Nat.zero_mod] at this
   exact this.symm
  refine evs ?_
  simp only [part_Root.l0, nI_eq, show ((k + 1 : Nat) : Int) - 1 = (k : Int) by omega, if_pos (show (k : Int) ≥ 0 by omega), if_pos (show (0 : Int) ≤ (k : Int) by omega), eor, ew]
  refine Ev.bind (evn (twin_Mul_eq (show r + 2 ^ k < 18446744073709551616 by omega) (show r + 2 ^ k < 18446744073709551616 by omega))) (Ev.bind (evn (twin_Cmp_eq _ _)) ?_)
  unfold rtL
  by_cases h : (r + 2 ^ k) * (r + 2 ^ k) ≤ m
  ·simp only [if_pos (cmpN_le.mpr h), if_pos h]
   exact part_Root_l0 hm k (r + 2 ^ k) (by rw [Nat.add_mod_right]; exact hd) (by omega) (by omega) h
  ·simp only [if_neg (fun hc => h (cmpN_le.mp hc)), if_neg h]
   exact part_Root_l0 hm k r hd (by omega) (by omega) hr
theorem part_Root_eq {m : Nat} (hm : m < 2 ^ 128) : Ev (fun n => part_Root.f n (TH m) (TL m)) (((rtL m 64 0 : Nat) : Int), TH (m - rtL m 64 0 * rtL m 64 0), TL (m - rtL m 64 0 * rtL m 64 0)) := by
 unfold part_Root.f
 exact part_Root_l0 (fun r hr => twin_Sub_eq hm hr) 64 0 (Nat.zero_mod _) (by rw [p64]; omega) (by decide) (Nat.zero_le _)
theorem and_i64_1 (s : Int) : Go.bits .and .i64 s 1 = s % 2 := by
 simp only [Go.bits]
 have h1 : (BitVec.ofInt IntKind.i64.bits s) &&& (BitVec.ofInt IntKind.i64.bits 1) = BitVec.ofNat 64 (s % 2).toNat := by
  show (BitVec.ofInt 64 s) &&& (BitVec.ofInt 64 1) = BitVec.ofNat 64 (s % 2).toNat
  apply BitVec.eq_of_toNat_eq
  rw [BitVec.toNat_and, BitVec.toNat_ofInt, BitVec.toNat_ofInt, BitVec.toNat_ofNat]
  rw [show ((1 : Int) % ((2 ^ 64 : Nat) : Int)).toNat = 2 ^ 1 - 1 by decide, Nat.and_two_pow_sub_one_eq_mod]
  omega
 have h3 : (BitVec.ofNat 64 (s % 2).toNat).toNat = (s % 2).toNat := by rw [BitVec.toNat_ofNat]; omega
 rw [h1]
 show IntKind.i64.wrap ((BitVec.ofNat 64 (s % 2).toNat).toNat : Int) = _
 rw [h3, IntKind.wrap_i64]
 omega
def rootW (x : EX) : Nat := if x.sc % 2 = 0 then x.V / 2 else x.V
def rootX (x : EX) : EX := if x.kd = 0 then EX.zero else if x.kd = 2 ∨ x.ng = true then EX.nar else
 ⟨1, false, x.sc / 2, rtL (rootW x) 64 0 * 18446744073709551616, x.R || (decide (x.sc % 2 = 0 ∧ x.V % 2 ≠ 0) || decide (rtL (rootW x) 64 0 * rtL (rootW x) 64 0 ≠ rootW x))⟩
theorem rt_facts {m : Nat} (h0 : 2 ^ 126 ≤ m) (h1 : m < 2 ^ 128) : rtL m 64 0 * rtL m 64 0 ≤ m ∧ m < (rtL m 64 0 + 1) * (rtL m 64 0 + 1) ∧ 9223372036854775808 ≤ rtL m 64 0 ∧ rtL m 64 0 < 18446744073709551616 := by
 obtain ⟨a, b⟩ := rtL_spec m 64 0 (Nat.zero_le _) (by rw [Nat.zero_add, ← Nat.pow_add]; exact h1)
 have c := (rtL_le m 64 0).2
 rw [p64] at c
 refine ⟨a, b, ?_, by omega⟩
 generalize rtL m 64 0 = r at *
 rcases Nat.lt_or_ge r 9223372036854775808 with h | h
 ·have := Nat.mul_le_mul (show r + 1 ≤ 9223372036854775808 by omega) (show r + 1 ≤ 9223372036854775808 by omega)
  have e : (9223372036854775808 : Nat) * 9223372036854775808 = 2 ^ 126 := by decide
  omega
 ·exact h
theorem rootW_bounds {x : EX} (h1 : 2 ^ 127 ≤ x.V) (h2 : x.V < 2 ^ 128) : 2 ^ 126 ≤ rootW x ∧ rootW x < 2 ^ 128 := by
 have e : (2 : Nat) ^ 127 = 2 * 2 ^ 126 := by decide
 unfold rootW
 generalize (2 : Nat) ^ 128 = z at *
 generalize (2 : Nat) ^ 126 = y at *
 split <;> omega
theorem rootX_ok {x : EX} (hx : x.ok) : (rootX x).ok := by
 unfold rootX
 split
 ·exact .inl rfl
 ·split
  ·exact .inr (.inl rfl)
  ·rename_i h0 h2
   rcases hx with rfl | rfl | ⟨k1, k2, k3, k4, k5⟩
   ·exact absurd rfl h0
   ·exact absurd (.inl rfl) h2
   ·obtain ⟨w1, w2⟩ := rootW_bounds k2 k3
    obtain ⟨_, _, r1, r2⟩ := rt_facts w1 w2
    refine .inr (.inr ⟨rfl, ?_, ?_, ?_, ?_⟩)
    ·show 2 ^ 127 ≤ rtL (rootW x) 64 0 * 18446744073709551616
     rw [p127]; omega
    ·show rtL (rootW x) 64 0 * 18446744073709551616 < 2 ^ 128
     rw [p128]; omega
    ·show -1099511627776 ≤ x.sc / 2
     omega
    ·show x.sc / 2 ≤ 1099511627776
     omega
theorem T_hi (r : Nat) : TH (r * 18446744073709551616) = (r : Int) ∧ TL (r * 18446744073709551616) = 0 := by
 unfold TH TL; omega
theorem left_ne {m r : Nat} (h : r * r ≤ m) : (!((TH (m - r * r) == 0) && (TL (m - r * r) == 0))) = decide (r * r ≠ m) := by
 by_cases e : r * r = m
 ·rw [e, Nat.sub_self, decide_eq_false (by omega)]; rfl
 ·rw [decide_eq_true e]
  generalize hd : m - r * r = d
  have h0 : d ≠ 0 := by omega
  by_cases h1 : TH d = 0
  ·have h2 : TL d ≠ 0 := by unfold TH TL at *; omega
   simp [h2]
  ·simp [h1]
theorem root_Exact_X {x : EX} (hx : x.ok) : Ev (fun k => root_Exact.f k x.kd x.ng x.sc (TH x.V) (TL x.V) x.R) ((rootX x).kd, (rootX x).ng, (rootX x).sc, TH (rootX x).V, TL (rootX x).V, (rootX x).R, none) := by
 unfold root_Exact.f
 refine Ev.bind (Round_X (n := 8) (by decide) hx) ?_
 simp only [Option.isNone_none, if_true]
 rcases hx with rfl | rfl | ⟨k1, k2, k3, k4, k5⟩
 ·exact Ev.now _
 ·exact Ev.now _
 ·have hk0 : ¬ x.kd = 0 := by omega
  have hk2 : ¬ x.kd = 2 := by omega
  simp only [if_neg hk0, if_neg hk2]
  by_cases hn : x.ng = true
  ·have e : rootX x = EX.nar := by unfold rootX; rw [if_neg hk0, if_pos (.inr hn)]
   simp only [if_pos hn, e]
   exact Ev.now _
  ·obtain ⟨w1, w2⟩ := rootW_bounds k2 k3
   obtain ⟨r1, r2, r3, r4⟩ := rt_facts w1 w2
   have e : rootX x = ⟨1, false, x.sc / 2, rtL (rootW x) 64 0 * 18446744073709551616, x.R || (decide (x.sc % 2 = 0 ∧ x.V % 2 ≠ 0) || decide (rtL (rootW x) 64 0 * rtL (rootW x) 64 0 ≠ rootW x))⟩ := by
    unfold rootX; rw [if_neg hk0, if_neg (fun h => h.elim hk2 hn)]
   have hR := part_Root_eq w2
   simp only [if_neg hn]
   refine evs ?_
   simp only [root_Exact.j0, and_i64_1, e, (T_hi _).1, (T_hi _).2]
   by_cases hs : x.sc % 2 = 0
   ·have hw : rootW x = x.V / 2 ^ 1 := by unfold rootW; rw [if_pos hs]
    simp only [if_pos hs]
    have hsh := twin_Shr_eq x.V 1 k3 (by decide)
    have hsh' : twin_Shr.f (TH x.V) (TL x.V) 1 = _ := hsh
    simp only [hsh', Option.bind_some]
    rw [← hw]
    by_cases hr : x.R = true
    ·simp only [if_pos hr]
     refine Ev.bind hR (evn ?_)
     simp [hr]
    ·simp only [if_neg hr]
     refine Ev.bind hR ?_
     by_cases hl : x.V % 2 ^ 1 ≠ 0
     ·simp only [decide_eq_true hl, if_true]
      refine evn ?_
      have : x.V % 2 ≠ 0 := hl
      simp [hs, this]
     ·simp only [decide_eq_false hl, Bool.false_eq_true, if_false, left_ne r1]
      refine evn ?_
      have h0 : x.V % 2 = 0 := by simpa using hl
      simp [hr, h0]
   ·have hw : rootW x = x.V := by unfold rootW; rw [if_neg hs]
    simp only [if_neg hs]
    rw [hw] at hR r1 ⊢
    refine Ev.bind hR ?_
    by_cases hr : x.R = true
    ·simp only [if_pos hr]
     refine evn ?_
     simp [hr]
    ·simp only [if_neg hr, left_ne r1]
     refine evn ?_
     simp [hr, hs]
end Go.Proofs.Ytkobihckebiheaa.V
namespace Go.Proofs.Ytkobihckebiheaa.V
open Go Go.RowKit Go.Proofs.Ytkobihckebiheaa.Ab Go.Proofs.Ytkobihckebiheaa.Fn
set_option linter.unusedVariables false
set_option linter.unusedSimpArgs false
theorem Of_X {x : NM} (h : x.ok) : Ev (fun k => round_Of.f k x.kd x.ng x.sc (x.fr : Int)) (x.ex.kd, x.ex.ng, x.ex.sc, TH x.ex.V, TL x.ex.V, x.ex.R, none) := by
 have := round_Of_eq x.kd x.ng x.sc (x.fr : Int) (by have := h.2; omega) (by omega)
 rw [if_pos h.1] at this
 rw [(NM.ex_tup x h).1, (NM.ex_tup x h).2]
 exact this
def sqrtN (n x : Nat) : Nat := (rootX (decN n x).ex).rnd n
theorem sqrtN_lt {n x : Nat} (h8 : 8 ≤ n) (hn : n ≤ 64) (hx : x < 2 ^ n) : sqrtN n x < 2 ^ n := EX.rnd_lt h8 hn (rootX_ok (NM.ex_ok (decN_ok h8 hn hx)))
theorem root_Sqrt_eq {n a : Nat} (h : isW (n : Int) = true) (ha : a < 18446744073709551616) : Ev (fun k => root_Sqrt.f k (n : Int) (a : Int)) (((sqrtN n (a % 2 ^ n) : Nat) : Int), none) := by
 obtain ⟨b64, b8⟩ := pow64 h
 have hok := decN_ok b8 b64 (Nat.mod_lt a (two_pos n))
 unfold root_Sqrt.f
 refine Ev.bind (Decode_N h ha) ?_
 simp only [Option.isNone_none, if_true]
 refine Ev.bind (Of_X hok) (Ev.bind (root_Exact_X (NM.ex_ok hok)) ?_)
 simp only [Option.isNone_none, if_true]
 exact Ev.bind (Round_X h (rootX_ok (NM.ex_ok hok))) (Ev.now _)
theorem root_Sqrt_no {n : Int} (h : isW n = false) (a : Int) : Ev (fun k => root_Sqrt.f k n a) (0, some 2) := by
 unfold root_Sqrt.f
 exact Ev.bind (Decode_no h a) (Ev.now _)
theorem up12 : Ev (fun k => vernierlaw12_up.f k) true := by
 unfold vernierlaw12_up.f
 have a := root_Sqrt_eq (n := 8) (a := 80) (by decide) (by decide)
 have b := root_Sqrt_eq (n := 8) (a := 192) (by decide) (by decide)
 rw [show sqrtN 8 (80 % 2 ^ 8) = 72 by decide +kernel] at a
 rw [show sqrtN 8 (192 % 2 ^ 8) = 128 by decide +kernel] at b
 exact Ev.bind a (Ev.bind b (Ev.now _))
theorem rtL_mono {m m' : Nat} (h1 : m < 2 ^ 128) (h2 : m' < 2 ^ 128) (h : m ≤ m') : rtL m 64 0 ≤ rtL m' 64 0 := by
 obtain ⟨a, b⟩ := rtL_spec m 64 0 (Nat.zero_le _) (by rw [Nat.zero_add, ← Nat.pow_add]; exact h1)
 obtain ⟨c, d⟩ := rtL_spec m' 64 0 (Nat.zero_le _) (by rw [Nat.zero_add, ← Nat.pow_add]; exact h2)
 rcases Nat.lt_or_ge (rtL m' 64 0) (rtL m 64 0) with k | k
 ·have := Nat.mul_le_mul (show rtL m' 64 0 + 1 ≤ rtL m 64 0 from k) (show rtL m' 64 0 + 1 ≤ rtL m 64 0 from k)
  omega
 ·exact k
theorem rootX_real {x : EX} (h : x.kd = 1) (hn : x.ng = false) : rootX x = ⟨1, false, x.sc / 2, rtL (rootW x) 64 0 * 18446744073709551616, x.R || (decide (x.sc % 2 = 0 ∧ x.V % 2 ≠ 0) || decide (rtL (rootW x) 64 0 * rtL (rootW x) 64 0 ≠ rootW x))⟩ := by
 unfold rootX
 rw [if_neg (by omega), if_neg (by rintro (h2 | h2); omega; rw [hn] at h2; cases h2)]
theorem rootX_num {x : EX} (hx : x.num) (hn : x.ng = false) : (rootX x).num := by
 refine EX.ok_num (rootX_ok hx.ok) ?_
 rcases hx with rfl | ⟨h1, -⟩
 ·show (0 : Int) ≠ 2; decide
 ·rw [rootX_real h1 hn]; show (1 : Int) ≠ 2; decide
theorem rootX_mono {x y : EX} (hx : x.num) (hy : y.num) (nx : x.ng = false) (ny : y.ng = false) (rx : x.R = false) (ry : y.R = false) (h : x.le y) : (rootX x).le (rootX y) := by
 have hkx : x.kd = 0 ∨ x.kd = 1 := by rcases hx with rfl | h; exact .inl rfl; exact .inr h.1
 have hky : y.kd = 0 ∨ y.kd = 1 := by rcases hy with rfl | h; exact .inl rfl; exact .inr h.1
 rcases hx with rfl | ⟨x1, x2, x3, x4, x5⟩
 ·rcases hy with rfl | ⟨y1, y2, y3, y4, y5⟩
  ·exact EX.le_refl _
  ·rw [rootX_real y1 ny]; left; show (0 : Int) < 1; decide
 ·rcases hy with rfl | ⟨y1, y2, y3, y4, y5⟩
  ·have hs : x.sg = 1 := by unfold EX.sg; rw [if_pos x1, nx]; rfl
   rcases h with h | ⟨h, -⟩
   ·rw [hs] at h; exact absurd h (by decide)
   ·rw [hs] at h; exact absurd h (by decide)
  ·have hl : lmE x.sc x.V x.R y.sc y.V y.R := by
    have hs : x.sg = 1 := by unfold EX.sg; rw [if_pos x1, nx]; rfl
    have ht : y.sg = 1 := by unfold EX.sg; rw [if_pos y1, ny]; rfl
    rcases h with h | ⟨-, h, -⟩
    ·omega
    ·exact h hs
   rw [rootX_real x1 nx, rootX_real y1 ny]
   refine .inr ⟨rfl, fun _ => ?_, fun h => absurd h (by show ¬ (1 : Int) = -1; decide)⟩
   show lmE (x.sc / 2) _ _ (y.sc / 2) _ _
   by_cases hsc : x.sc / 2 < y.sc / 2
   ·exact .inl hsc
   ·have hle : x.sc ≤ y.sc := by rcases hl with h | h <;> omega
    have he : x.sc / 2 = y.sc / 2 := by omega
    -- the number under the root, of either scale
    have hw : ∀ z : EX, z.kd = 1 → 2 * rootW z + (if z.sc % 2 = 0 then z.V % 2 else 0) = z.V * (if z.sc % 2 = 0 then 1 else 2) := fun z _ => by
     unfold rootW
     split <;> omega
    have hN : x.V * (if x.sc % 2 = 0 then 1 else 2) ≤ y.V * (if y.sc % 2 = 0 then 1 else 2) := by
     rcases hl with h | ⟨h, h'⟩
     ·rw [if_pos (by omega), if_neg (by omega)]
      have e : (2 : Nat) ^ 128 = 2 * 2 ^ 127 := by decide
      omega
     ·rw [h]
      refine Nat.mul_le_mul_right _ ?_
      omega
    obtain ⟨wx1, wx2⟩ := rootW_bounds x2 x3
    obtain ⟨wy1, wy2⟩ := rootW_bounds y2 y3
    obtain ⟨a1, a2, -, -⟩ := rt_facts wx1 wx2
    obtain ⟨b1, b2, -, -⟩ := rt_facts wy1 wy2
    have ex := hw x x1
    have ey := hw y y1
    have hW : rootW x ≤ rootW y := by
     split at ex <;> split at ey <;> split at hN <;> omega
    have hm := rtL_mono wx2 wy2 hW
    refine .inr ⟨he, ?_⟩
    rcases Nat.lt_or_ge (rtL (rootW x) 64 0) (rtL (rootW y) 64 0) with k | k
    ·exact .inl (Nat.mul_lt_mul_of_pos_right k (by decide))
    ·have e : rtL (rootW x) 64 0 = rtL (rootW y) 64 0 := by omega
     refine .inr ⟨by rw [e], ?_⟩
     rw [rx, ry, Bool.false_or, Bool.false_or, e]
     rw [e] at a1 a2
     generalize rtL (rootW y) 64 0 = r at *
     by_cases c : (decide (y.sc % 2 = 0 ∧ y.V % 2 ≠ 0) || decide (r * r ≠ rootW y)) = true
     ·rw [c]; unfold bR; split <;> simp
     ·have c' : ¬ ((y.sc % 2 = 0 ∧ y.V % 2 ≠ 0) ∨ r * r ≠ rootW y) := fun h => c (by simpa using h)
      have c1 : r * r = rootW y := Decidable.byContradiction fun h => c' (.inr h)
      have c2 : ¬ (y.sc % 2 = 0 ∧ y.V % 2 ≠ 0) := fun h => c' (.inl h)
      have c3 : rootW x = rootW y := by omega
      have c4 : ¬ ((x.sc % 2 = 0 ∧ x.V % 2 ≠ 0) ∨ r * r ≠ rootW x) := by
       rintro (h | h)
       ·simp only [if_pos h.1] at ex hN
        by_cases hs : y.sc % 2 = 0
        ·simp only [if_pos hs] at ey hN
         omega
        ·simp only [if_neg hs] at ey hN
         omega
       ·omega
      have c5 : (decide (x.sc % 2 = 0 ∧ x.V % 2 ≠ 0) || decide (r * r ≠ rootW x)) = false := by
       rw [Bool.eq_false_iff]; intro h; exact c4 (by simpa using h)
      rw [c5]; unfold bR; simp
end Go.Proofs.Ytkobihckebiheaa.V
namespace Go.Proofs.Ytkobihckebiheaa.Pure
open Go Go.RowKit Go.Proofs.Ytkobihckebiheaa.Ab Go.Proofs.Ytkobihckebiheaa.Fn Go.Proofs.Ytkobihckebiheaa.V
set_option linter.unusedSimpArgs false
theorem sqrt_nar {n x : Nat} (h8 : 8 ≤ n) (h : 2 ^ (n - 1) ≤ x) : sqrtN n x = 2 ^ (n - 1) := by
 have hp := two_pos (n - 1)
 unfold sqrtN
 have e : rootX (decN n x).ex = EX.nar := by
  unfold decN
  rw [if_neg (by omega)]
  by_cases h1 : x = 2 ^ (n - 1)
  ·rw [if_pos h1]; rfl
  ·rw [if_neg h1, decide_eq_true (by omega)]
   unfold rootX NM.ex
   rw [if_neg (show ¬ (1 : Int) = 0 by decide), if_pos (.inr rfl)]
 rw [e, EX.rnd_nar]
theorem sqrt_low {n x : Nat} (h8 : 8 ≤ n) (hn : n ≤ 64) (h : x < 2 ^ (n - 1)) : (decN n x).ex.num ∧ (decN n x).ex.ng = false ∧ (decN n x).ex.R = false := by
 have h2 := two_halves (n := n) (by omega)
 refine ⟨decN_num h8 hn (by omega) (by omega), ?_, rfl⟩
 unfold decN NM.ex
 by_cases h0 : x = 0
 ·rw [if_pos h0]
 ·rw [if_neg h0, if_neg (by omega)]
  exact decide_eq_false (by omega)
theorem rnd_low {n : Nat} {x : EX} (h8 : 8 ≤ n) (hn : n ≤ 64) (hx : x.num) (hg : x.ng = false) : x.rnd n < 2 ^ (n - 1) := by
 have hp := two_pos (n - 1)
 rcases hx with rfl | ⟨h1, h2, h3, h4, h5⟩
 ·rw [EX.rnd_zero]; exact hp
 ·unfold EX.rnd
  rw [h1, hg, rnd_pos h8 hn h3 h2]
  have := (posP_bounds (n := n) (s := x.sc) (V := x.V) (R := x.R) h8 hn h3).2
  omega
theorem RootRises : vernierlaw12_RootRises.Pure := by
 intro n a b w0 w1 w2
 obtain ⟨a, rfl, ha⟩ := u64_nat w1
 obtain ⟨b, rfl, hb⟩ := u64_nat w2
 refine Ev.rounds (g := fun k => vernierlaw12_RootRises.f k n (a : Int) (b : Int)) ?_
 unfold vernierlaw12_RootRises.f
 refine Ev.bind up12 ?_
 by_cases hn : isW n = true
 ·obtain ⟨n, rfl, _⟩ := isW_nat hn
  obtain ⟨b64, b8⟩ := pow64 hn
  have hx := Nat.mod_lt a (two_pos n)
  have hy := Nat.mod_lt b (two_pos n)
  have h2 := two_halves (n := n) (by omega)
  have h2n : 2 ^ n ≤ 18446744073709551616 := by rw [← p64]; exact pow_le b64
  have e1 : wrap64 ((n : Int) - 1) = ((n - 1 : Nat) : Int) := by rw [w64 (by omega) (by omega)]; omega
  refine Ev.bind (evn (ref_Is_eq _)) (Ev.bind (root_Sqrt_eq hn ha) (Ev.bind (root_Sqrt_eq hn hb) ?_))
  rw [hn, e1]
  simp only [if_true, Option.isNone_none]
  refine Ev.bind (ref_Power_eq (by omega)) (evs ?_)
  simp only [vernierlaw12_RootRises.j1, Bool.false_eq_true, if_false]
  refine Ev.bind (ref_Fold_eq hn ha) ?_
  have hsx := sqrtN_lt b8 b64 hx
  have hsy := sqrtN_lt b8 b64 hy
  have fb := ref_Fold_eq hn hb
  have fa := ref_Fold_eq hn ha
  have nx := sqrt_nar (n := n) (x := a % 2 ^ n) b8
  have ny := sqrt_nar (n := n) (x := b % 2 ^ n) b8
  by_cases c1 : 2 ^ (n - 1) ≤ a % 2 ^ n
  ·simp only [if_pos (show ((a % 2 ^ n : Nat) : Int) ≥ ((2 ^ (n - 1) : Nat) : Int) by omega)]
   refine evs ?_
   simp only [vernierlaw12_RootRises.j2, if_true]
   refine Ev.bind fa ?_
   simp only [if_neg (show ¬ ((a % 2 ^ n : Nat) : Int) < ((2 ^ (n - 1) : Nat) : Int) by omega), nx c1, if_true]
   refine Ev.bind fb ?_
   by_cases c2 : 2 ^ (n - 1) ≤ b % 2 ^ n
   ·simp only [if_neg (show ¬ ((b % 2 ^ n : Nat) : Int) < ((2 ^ (n - 1) : Nat) : Int) by omega), ny c2]
    exact evn (by simp)
   ·simp only [if_pos (show ((b % 2 ^ n : Nat) : Int) < ((2 ^ (n - 1) : Nat) : Int) by omega)]
    exact Ev.now _
  ·simp only [if_neg (show ¬ ((a % 2 ^ n : Nat) : Int) ≥ ((2 ^ (n - 1) : Nat) : Int) by omega)]
   refine Ev.bind fb (evs ?_)
   simp only [vernierlaw12_RootRises.j2]
   by_cases c2 : 2 ^ (n - 1) ≤ b % 2 ^ n
   ·simp only [decide_eq_true (show ((b % 2 ^ n : Nat) : Int) ≥ ((2 ^ (n - 1) : Nat) : Int) by omega), if_true]
    refine Ev.bind fa ?_
    simp only [if_pos (show ((a % 2 ^ n : Nat) : Int) < ((2 ^ (n - 1) : Nat) : Int) by omega)]
    refine Ev.bind fb ?_
    simp only [if_neg (show ¬ ((b % 2 ^ n : Nat) : Int) < ((2 ^ (n - 1) : Nat) : Int) by omega), ny c2]
    exact evn (by simp)
   ·simp only [decide_eq_false (show ¬ ((b % 2 ^ n : Nat) : Int) ≥ ((2 ^ (n - 1) : Nat) : Int) by omega), Bool.false_eq_true, if_false]
    refine Ev.bind (ref08_Cmp_eq hn ha hb) (Ev.bind (ref08_Cmp_eq hn (a := sqrtN n (a % 2 ^ n)) (b := sqrtN n (b % 2 ^ n)) (by omega) (by omega)) ?_)
    rw [Nat.mod_eq_of_lt hsx, Nat.mod_eq_of_lt hsy]
    obtain ⟨x1, x2, x3⟩ := sqrt_low b8 b64 (show a % 2 ^ n < 2 ^ (n - 1) by omega)
    obtain ⟨y1, y2, y3⟩ := sqrt_low b8 b64 (show b % 2 ^ n < 2 ^ (n - 1) by omega)
    have lx : sqrtN n (a % 2 ^ n) < 2 ^ (n - 1) := rnd_low b8 b64 (rootX_num x1 x2) (by
     rcases x1 with h | h
     ·rw [h]; rfl
     ·rw [rootX_real h.1 x2])
    have ly : sqrtN n (b % 2 ^ n) < 2 ^ (n - 1) := rnd_low b8 b64 (rootX_num y1 y2) (by
     rcases y1 with h | h
     ·rw [h]; rfl
     ·rw [rootX_real h.1 y2])
    have m1 : rkN n (a % 2 ^ n) ≤ rkN n (b % 2 ^ n) → rkN n (sqrtN n (a % 2 ^ n)) ≤ rkN n (sqrtN n (b % 2 ^ n)) := fun h =>
     EX.rnd_mono b8 b64 (rootX_num x1 x2) (rootX_num y1 y2) (rootX_mono x1 y1 x2 y2 x3 y3 (decN_le b8 b64 hx hy (by omega) (by omega) h))
    have m2 : rkN n (b % 2 ^ n) ≤ rkN n (a % 2 ^ n) → rkN n (sqrtN n (b % 2 ^ n)) ≤ rkN n (sqrtN n (a % 2 ^ n)) := fun h =>
     EX.rnd_mono b8 b64 (rootX_num y1 y2) (rootX_num x1 x2) (rootX_mono y1 x1 y2 x2 y3 x3 (decN_le b8 b64 hy hx (by omega) (by omega) h))
    generalize rkN n (a % 2 ^ n) = ra at *
    generalize rkN n (b % 2 ^ n) = rb at *
    generalize rkN n (sqrtN n (a % 2 ^ n)) = sa at *
    generalize rkN n (sqrtN n (b % 2 ^ n)) = sb at *
    simp only [if_pos (show ((sqrtN n (a % 2 ^ n) : Nat) : Int) < ((2 ^ (n - 1) : Nat) : Int) by omega), if_pos (show ((sqrtN n (b % 2 ^ n) : Nat) : Int) < ((2 ^ (n - 1) : Nat) : Int) by omega)]
    simp only [cmpI_pos, cmpI_neg, cmpI_le, cmpI_ge]
    refine evn ?_
    by_cases k1 : rb < ra
    ·rw [if_pos k1, if_neg (by omega), decide_eq_true (m2 (by omega))]
    ·rw [if_neg k1, if_pos (m1 (by omega))]
     by_cases k2 : ra < rb
     ·rw [if_pos k2]
     ·rw [if_neg k2, decide_eq_true (m2 (by omega))]
 ·have hn : isW n = false := by simpa using hn
  refine Ev.bind (evn (ref_Is_eq _)) (Ev.bind (root_Sqrt_no hn _) (Ev.bind (root_Sqrt_no hn _) ?_))
  rw [hn]
  exact evs (Ev.now _)
end Go.Proofs.Ytkobihckebiheaa.Pure
