-- Written by a program of this session out of its own texts (wip/tools/link.py).
import Derived.Below
import Derived.ChangeKeysEq
import Derived.Deep.MidRow
import Derived.Deep.RegionHeld3
import Derived.Great.BuildSlice
import Derived.IntWalk
import Derived.KernelRfl
import Derived.LaidEql
import Derived.Laws.Bits64
import Derived.Laws.BitsLemmas
import Derived.Laws.BytesArg
import Derived.Laws.IdiomCopy
import Derived.Laws.OwnMore
import Derived.Laws.Rows
import Derived.Laws.Slices
import Derived.Laws.Strings
import Derived.Laws.StructEq
import Derived.Laws.Tables
import Derived.Lib.BitFns
import Derived.Lib.Mul64
import Derived.Lib.Slices
import Derived.Lib.Small
import Derived.Lib.Strings
import Derived.Lib.Walk
import Derived.Maps.AppendAt
import Derived.OrdersHeld
import Derived.RowKit
import Derived.Shelf.Spec.BitsCarry
import Derived.Test.YtodnfniddkcioaaProg
import Derived.Test.YtodnfniddkcioaaCSumSubs9
import Derived.Test.YtodnfniddkcioaaCSumSubs10
import Derived.Test.YtodnfniddkcioaaCSumSubs11
namespace Go.Proofs.Ytodnfniddkcioaa.V
open Go Go.RowKit Go.Proofs.Ytodnfniddkcioaa.Ab Go.Proofs.Ytodnfniddkcioaa.Fn
set_option linter.unusedVariables false
set_option linter.unusedSimpArgs false
theorem ref_sound (kd : Int) (ng : Bool) (sc fr : Int) : vernierref06_Sound.f kd ng sc fr = some (soundN kd ng sc fr) := by
 unfold vernierref06_Sound.f soundN
 by_cases h0 : kd = 0
 ·simp [h0]
 ·by_cases h2 : kd = 2
  ·simp [h2]
  ·rw [if_neg h0, if_neg h2, if_neg (show ¬ (kd = 0 ∨ kd = 2) by omega)]
   by_cases h1 : kd = 1
   ·rw [if_pos h1]
    by_cases h3 : fr ≥ 9223372036854775808
    ·rw [if_pos h3]
     by_cases h4 : sc ≥ -1073741824
     ·rw [if_pos h4]
      congr 1
      rw [decide_eq_decide]
      omega
     ·rw [if_neg h4, decide_eq_false (by omega)]
    ·rw [if_neg h3, decide_eq_false (by omega)]
   ·rw [if_neg h1, decide_eq_false (by omega)]
end Go.Proofs.Ytodnfniddkcioaa.V
namespace Go.Proofs.Ytodnfniddkcioaa.V
open Go Go.RowKit Go.Proofs.Ytodnfniddkcioaa.Ab Go.Proofs.Ytodnfniddkcioaa.Fn
set_option linter.unusedVariables false
set_option linter.unusedSimpArgs false
def sumE (a b d : Nat) (g h : Bool) (e : Int) : EX := if g = h then natX g (a * 2 ^ d + b) e false else if b ≤ a * 2 ^ d then natX g (a * 2 ^ d - b) e false else natX h (b - a * 2 ^ d) e false
theorem EX.real {x : EX} (hx : x.ok) (kx : x.kd = 1) : 2 ^ 127 ≤ x.V ∧ x.V < 2 ^ 128 ∧ -1099511627776 ≤ x.sc ∧ x.sc ≤ 1099511627776 := by
 rcases hx with rfl | rfl | hx
 ·exact absurd kx (by decide)
 ·exact absurd kx (by decide)
 ·exact hx.2
theorem sumX_E {x y : EX} (hx : x.kd = 1) (hy : y.kd = 1) (h : y.sc ≤ x.sc) {d : Nat} (hd : (x.sc - y.sc).toNat = d) : sumX x y = sumE x.V y.V d x.ng y.ng (y.sc - 127) := by
 unfold sumE
 by_cases hs : x.ng = y.ng
 ·rw [if_pos hs, sumX_same hx hy h hd hs]
 ·rw [if_neg hs]
  by_cases hle : y.V ≤ x.V * 2 ^ d
  ·rw [if_pos hle, sumX_ge hx hy h hd hs hle]
  ·rw [if_neg hle, sumX_lt hx hy h hd hs (Nat.le_of_not_le hle)]
theorem far_add (g : Bool) {a b t : Nat} (e : Int) (ha : 2 ^ 127 ≤ a) (h0 : 0 < b) (h1 : b < 2 ^ t) : natX g (a * 2 ^ (200 + t) + b) e false = natX g (a * 2 ^ 200) (e + t) true := by
 have ea : a * 2 ^ (200 + t) + b = 2 ^ t * (a * 2 ^ 200) + b := by rw [Nat.pow_add]; grind
 have hT : (a * 2 ^ (200 + t) + b) / 2 ^ t = a * 2 ^ 200 := by rw [ea, Nat.mul_add_div (two_pos t), Nat.div_eq_of_lt h1, Nat.add_zero]
 have hm : (a * 2 ^ (200 + t) + b) % 2 ^ t = b := by rw [ea, Nat.mul_add_mod, Nat.mod_eq_of_lt h1]
 rw [natX_trunc g e false hT (Nat.le_trans ha (Nat.le_mul_of_pos_right a (two_pos 200))), hm, decide_eq_true (by omega), Bool.false_or]
theorem sub_form {P A b : Nat} (hA : 1 ≤ A) (hb : b < P) : P * A - b = P * (A - 1) + (P - b) := by
 obtain ⟨c, rfl⟩ : ∃ c, A = c + 1 := ⟨A - 1, by omega⟩
 rw [Nat.add_sub_cancel, Nat.mul_add, Nat.mul_one]
 omega
theorem far_sub (g : Bool) {a b t : Nat} (e : Int) (ha : 2 ^ 127 ≤ a) (h0 : 0 < b) (h1 : b < 2 ^ t) : natX g (a * 2 ^ (200 + t) - b) e false = natX g (a * 2 ^ 200 - 1) (e + t) true := by
 have p2 := two_pos 200
 have hA : 2 ^ 127 * 2 ^ 200 ≤ a * 2 ^ 200 := Nat.mul_le_mul_right _ ha
 have hA2 : 2 ^ 127 ≤ a * 2 ^ 200 - 1 := by
  have : (2 : Nat) ^ 127 + 1 ≤ 2 ^ 127 * 2 ^ 200 := by decide +kernel
  exact Nat.le_sub_of_add_le (Nat.le_trans this hA)
 have hA1 : 1 ≤ a * 2 ^ 200 := Nat.le_trans (two_pos 127) (Nat.le_trans hA2 (Nat.sub_le _ _))
 have ea : a * 2 ^ (200 + t) - b = 2 ^ t * (a * 2 ^ 200 - 1) + (2 ^ t - b) := by
  rw [Nat.pow_add, show a * (2 ^ 200 * 2 ^ t) = 2 ^ t * (a * 2 ^ 200) by grind]
  exact sub_form hA1 h1
 have hl : 2 ^ t - b < 2 ^ t := by omega
 have hT : (a * 2 ^ (200 + t) - b) / 2 ^ t = a * 2 ^ 200 - 1 := by rw [ea, Nat.mul_add_div (two_pos t), Nat.div_eq_of_lt hl, Nat.add_zero]
 have hm : (a * 2 ^ (200 + t) - b) % 2 ^ t = 2 ^ t - b := by rw [ea, Nat.mul_add_mod, Nat.mod_eq_of_lt hl]
 rw [natX_trunc g e false hT hA2, hm, decide_eq_true (by omega), Bool.false_or]
theorem sumE_far {a b d : Nat} {g h : Bool} {e : Int} (hd : 400 < d) (ha : 2 ^ 127 ≤ a) (h0 : 0 < b) (h1 : b < 2 ^ 128) : sumE a b d g h e = sumE a 1 400 g h (e + ((d : Int) - 400)) := by
 obtain ⟨t, rfl⟩ : ∃ t, d = 200 + t := ⟨d - 200, by omega⟩
 have hb : b < 2 ^ t := Nat.lt_trans h1 (pow_lt (by omega))
 obtain ⟨u, hu⟩ : ∃ u : Nat, u = 200 := ⟨_, rfl⟩
 have h2 : (1 : Nat) < 2 ^ u := pow_lt (a := 0) (by omega)
 have c1 : b ≤ a * 2 ^ (200 + t) := by
  have : 2 ^ t ≤ 2 ^ (200 + t) := pow_le (by omega)
  exact Nat.le_trans (Nat.le_of_lt hb) (Nat.le_trans this (Nat.le_mul_of_pos_left _ (Nat.lt_of_lt_of_le (two_pos 127) ha)))
 have c2 : 1 ≤ a * 2 ^ (200 + u) := Nat.le_trans (two_pos _) (Nat.le_mul_of_pos_left _ (Nat.lt_of_lt_of_le (two_pos 127) ha))
 have ee : e + (((200 + t : Nat) : Int) - 400) + (u : Int) = e + (t : Int) := by omega
 unfold sumE
 rw [if_pos c1]
 rw [show (400 : Nat) = 200 + u by omega, if_pos c2, far_add g e ha h0 hb, far_sub g e ha h0 hb, far_add g _ ha (by decide) h2, far_sub g _ ha (by decide) h2, ee]
theorem wide_W {x a b i : Nat} (h : x < 2 ^ a * 2 ^ b) (hi : a + b ≤ 24 * i) : x < W i := by
 rw [← Nat.pow_add] at h
 exact Nat.lt_of_lt_of_le h (pow_le hi)
theorem wide_add {x y a b : Nat} (h : x < 2 ^ a * 2 ^ b) (hy : y < 2 ^ a) : x + y < 2 ^ a * 2 ^ (b + 1) := by
 have h1 : 2 ^ a ≤ 2 ^ a * 2 ^ b := Nat.le_mul_of_pos_right _ (two_pos b)
 rw [Nat.pow_succ, ← Nat.mul_assoc]
 omega
theorem cmpN_ge {A B : Nat} : cmpN A B ≥ 0 ↔ B ≤ A := by
 unfold cmpN
 repeat' split
 all_goals omega
theorem ref_Exactly_tup {x : List Int} {m : Nat} {e : Int} {ng R : Bool} (hx : DL x m) (hn : x.length ≤ 800) (h0 : -2305843009213693952 ≤ e) (h1 : e ≤ 2305843009213693952) :
  Ev (fun k => vernierref07_Exactly.f k ng x e R) (natX ng m e R).tup := by
 have := ref_Exactly_eq (ng := ng) (R := R) hx hn h0 h1
 rw [exactE_natX] at this
 exact this
theorem ref09_Sum_0_j1 {a b : List Int} {A B d : Nat} (ha : DL a A) (hb : DL b B) (lA : A < 2 ^ 128) (lB : B < 2 ^ 128) (hd : d ≤ 400) {g h : Bool} {s : Int} (s0 : -1099511627776 ≤ s) (s1 : s ≤ 1099511627776) :
  Ev (fun k => vernierref09_Sum_0.j1 k a b (d : Int) g s h) (sumE A B d g h (s - 127 - d)).tup := by
 refine evs ?_
 simp only [vernierref09_Sum_0.j1]
 have la : a.length ≤ 6 := ha.len_le (Nat.lt_of_lt_of_le lA (by decide))
 have lb : b.length ≤ 6 := hb.len_le (Nat.lt_of_lt_of_le lB (by decide))
 obtain ⟨c, c1, c2⟩ := r4_Shl ha (k := d) (by omega) (by omega)
 obtain ⟨n, hn⟩ : ∃ n : Nat, n = 400 := ⟨_, rfl⟩
 have hAd : A * 2 ^ d < 2 ^ 128 * 2 ^ n := Nat.lt_of_lt_of_le (Nat.mul_lt_mul_of_pos_right lA (two_pos d)) (Nat.mul_le_mul_left _ (pow_le (by omega)))
 have lc : c.length ≤ 22 := c2.len_le (wide_W hAd (by omega))
 have he : wrap64 (wrap64 (s - 127) - (d : Int)) = s - 127 - d := by rw [w64 (n := s - 127) (by omega) (by omega), w64 (by omega) (by omega)]
 refine Ev.bind c1 ?_
 rw [he]
 unfold sumE
 by_cases hg : g = h
 ·simp only [if_pos (beq_iff_eq.2 hg), if_pos hg]
  obtain ⟨r, r1, r2⟩ := r4_Add c2 hb (by omega) (by omega)
  have hs : A * 2 ^ d + B < 2 ^ 128 * 2 ^ (n + 1) := wide_add hAd lB
  have lr : r.length ≤ 23 := r2.len_le (wide_W hs (by omega))
  refine Ev.bind r1 (Ev.bind (ref_Exactly_tup r2 (by omega) (by omega) (by omega)) (Ev.now _))
 ·simp only [if_neg (fun h => hg (beq_iff_eq.1 h) : ¬ (g == h) = true), if_neg hg]
  refine Ev.bind (r4_Cmp c2 hb (by omega) (by omega)) ?_
  have hc := @cmpN_ge (A * 2 ^ d) B
  by_cases hle : B ≤ A * 2 ^ d
  ·simp only [if_pos (hc.2 hle), if_pos hle]
   obtain ⟨r, r1, r2⟩ := r4_Sub c2 hb hle (by omega)
   have lr : r.length ≤ 22 := r2.len_le (wide_W (Nat.lt_of_le_of_lt (Nat.sub_le _ _) hAd) (by omega))
   refine Ev.bind r1 (Ev.bind (ref_Exactly_tup r2 (by omega) (by omega) (by omega)) (Ev.now _))
  ·simp only [if_neg (fun h => hle (hc.1 h)), if_neg hle]
   obtain ⟨r, r1, r2⟩ := r4_Sub hb c2 (Nat.le_of_not_le hle) (by omega)
   have lr : r.length ≤ 6 := r2.len_le (Nat.lt_of_le_of_lt (Nat.sub_le _ _) (Nat.lt_of_lt_of_le lB (by decide)))
   refine Ev.bind r1 (Ev.bind (ref_Exactly_tup r2 (by omega) (by omega) (by omega)) (Ev.now _))
theorem ref09_Sum_0_real {x y : EX} (hx : x.ok) (hy : y.ok) (kx : x.kd = 1) (ky : y.kd = 1) (h : y.sc ≤ x.sc) :
  Ev (fun k => vernierref09_Sum_0.j0 k false x.kd x.ng x.sc (TH x.V) (TL x.V) x.R y.kd y.ng y.sc (TH y.V) (TL y.V) y.R) (sumX x y).tup := by
 obtain ⟨vx, lx, s0, s1⟩ := EX.real hx kx
 obtain ⟨vy, ly, t0, t1⟩ := EX.real hy ky
 obtain ⟨d, hd⟩ : ∃ d, (x.sc - y.sc).toNat = d := ⟨_, rfl⟩
 have hd' : x.sc - y.sc = (d : Int) := by omega
 have hw : wrap64 (x.sc - y.sc) = (d : Int) := by rw [w64 (by omega) (by omega)]; exact hd'
 refine evs ?_
 simp only [vernierref09_Sum_0.j0]
 simp only [if_neg (show ¬ (false = true) by decide), if_neg (show ¬ x.kd = 0 by omega), if_neg (show ¬ y.kd = 0 by omega), if_neg (show ¬ x.sc < y.sc by omega), hw]
 obtain ⟨a, a1, a2⟩ := ref02_Of_eq lx
 obtain ⟨b, b1, b2⟩ := ref02_Of_eq ly
 refine Ev.bind a1 (Ev.bind b1 ?_)
 rw [sumX_E kx ky h hd]
 by_cases h4 : (d : Int) > 400
 ·simp only [if_pos h4]
  rw [sumE_far (by omega) vx (Nat.lt_of_lt_of_le (two_pos 127) vy) ly, show y.sc - 127 + ((d : Int) - 400) = x.sc - 127 - ((400 : Nat) : Int) by omega]
  exact ref09_Sum_0_j1 a2 one_DL lx (by decide) (by decide) s0 s1
 ·simp only [if_neg h4]
  rw [show y.sc - 127 = x.sc - 127 - (d : Int) by omega]
  exact ref09_Sum_0_j1 a2 b2 lx ly (by omega) s0 s1
theorem ref09_Sum_j1 {a b : List Int} {A B d : Nat} (ha : DL a A) (hb : DL b B) (lA : A < 2 ^ 128) (lB : B < 2 ^ 128) (hd : d ≤ 400) {g h : Bool} {s : Int} (s0 : -1099511627776 ≤ s) (s1 : s ≤ 1099511627776) :
  Ev (fun k => vernierref09_Sum.j1 k a b (d : Int) g s h) (sumE A B d g h (s - 127 - d)).tup := by
 refine evs ?_
 simp only [vernierref09_Sum.j1]
 have la : a.length ≤ 6 := ha.len_le (Nat.lt_of_lt_of_le lA (by decide))
 have lb : b.length ≤ 6 := hb.len_le (Nat.lt_of_lt_of_le lB (by decide))
 obtain ⟨c, c1, c2⟩ := r4_Shl ha (k := d) (by omega) (by omega)
 obtain ⟨n, hn⟩ : ∃ n : Nat, n = 400 := ⟨_, rfl⟩
 have hAd : A * 2 ^ d < 2 ^ 128 * 2 ^ n := Nat.lt_of_lt_of_le (Nat.mul_lt_mul_of_pos_right lA (two_pos d)) (Nat.mul_le_mul_left _ (pow_le (by omega)))
 have lc : c.length ≤ 22 := c2.len_le (wide_W hAd (by omega))
 have he : wrap64 (wrap64 (s - 127) - (d : Int)) = s - 127 - d := by rw [w64 (n := s - 127) (by omega) (by omega), w64 (by omega) (by omega)]
 refine Ev.bind c1 ?_
 rw [he]
 unfold sumE
 by_cases hg : g = h
 ·simp only [if_pos (beq_iff_eq.2 hg), if_pos hg]
  obtain ⟨r, r1, r2⟩ := r4_Add c2 hb (by omega) (by omega)
  have hs : A * 2 ^ d + B < 2 ^ 128 * 2 ^ (n + 1) := wide_add hAd lB
  have lr : r.length ≤ 23 := r2.len_le (wide_W hs (by omega))
  refine Ev.bind r1 (Ev.bind (ref_Exactly_tup r2 (by omega) (by omega) (by omega)) (Ev.now _))
 ·simp only [if_neg (fun h => hg (beq_iff_eq.1 h) : ¬ (g == h) = true), if_neg hg]
  refine Ev.bind (r4_Cmp c2 hb (by omega) (by omega)) ?_
  have hc := @cmpN_ge (A * 2 ^ d) B
  by_cases hle : B ≤ A * 2 ^ d
  ·simp only [if_pos (hc.2 hle), if_pos hle]
   obtain ⟨r, r1, r2⟩ := r4_Sub c2 hb hle (by omega)
   have lr : r.length ≤ 22 := r2.len_le (wide_W (Nat.lt_of_le_of_lt (Nat.sub_le _ _) hAd) (by omega))
   refine Ev.bind r1 (Ev.bind (ref_Exactly_tup r2 (by omega) (by omega) (by omega)) (Ev.now _))
  ·simp only [if_neg (fun h => hle (hc.1 h)), if_neg hle]
   obtain ⟨r, r1, r2⟩ := r4_Sub hb c2 (Nat.le_of_not_le hle) (by omega)
   have lr : r.length ≤ 6 := r2.len_le (Nat.lt_of_le_of_lt (Nat.sub_le _ _) (Nat.lt_of_lt_of_le lB (by decide)))
   refine Ev.bind r1 (Ev.bind (ref_Exactly_tup r2 (by omega) (by omega) (by omega)) (Ev.now _))
theorem ref09_Sum_real {x y : EX} (hx : x.ok) (hy : y.ok) (kx : x.kd = 1) (ky : y.kd = 1) (h : y.sc ≤ x.sc) :
  Ev (fun k => vernierref09_Sum.j0 k false x.kd x.ng x.sc (TH x.V) (TL x.V) x.R y.kd y.ng y.sc (TH y.V) (TL y.V) y.R) (sumX x y).tup := by
 obtain ⟨vx, lx, s0, s1⟩ := EX.real hx kx
 obtain ⟨vy, ly, t0, t1⟩ := EX.real hy ky
 obtain ⟨d, hd⟩ : ∃ d, (x.sc - y.sc).toNat = d := ⟨_, rfl⟩
 have hd' : x.sc - y.sc = (d : Int) := by omega
 have hw : wrap64 (x.sc - y.sc) = (d : Int) := by rw [w64 (by omega) (by omega)]; exact hd'
 refine evs ?_
 simp only [vernierref09_Sum.j0]
 simp only [if_neg (show ¬ (false = true) by decide), if_neg (show ¬ x.kd = 0 by omega), if_neg (show ¬ y.kd = 0 by omega), if_neg (show ¬ x.sc < y.sc by omega), hw]
 obtain ⟨a, a1, a2⟩ := ref02_Of_eq lx
 obtain ⟨b, b1, b2⟩ := ref02_Of_eq ly
 refine Ev.bind a1 (Ev.bind b1 ?_)
 rw [sumX_E kx ky h hd]
 by_cases h4 : (d : Int) > 400
 ·simp only [if_pos h4]
  rw [sumE_far (by omega) vx (Nat.lt_of_lt_of_le (two_pos 127) vy) ly, show y.sc - 127 + ((d : Int) - 400) = x.sc - 127 - ((400 : Nat) : Int) by omega]
  exact ref09_Sum_j1 a2 one_DL lx (by decide) (by decide) s0 s1
 ·simp only [if_neg h4]
  rw [show y.sc - 127 = x.sc - 127 - (d : Int) by omega]
  exact ref09_Sum_j1 a2 b2 lx ly (by omega) s0 s1
end Go.Proofs.Ytodnfniddkcioaa.V
namespace Go.Proofs.Ytodnfniddkcioaa.V
open Go Go.RowKit Go.Proofs.Ytodnfniddkcioaa.Ab Go.Proofs.Ytodnfniddkcioaa.Fn
set_option linter.unusedVariables false
set_option linter.unusedSimpArgs false
theorem Of_X {x : NM} (h : x.ok) : Ev (fun k => round_Of.f k x.kd x.ng x.sc (x.fr : Int)) (x.ex.kd, x.ex.ng, x.ex.sc, TH x.ex.V, TL x.ex.V, x.ex.R, none) := by
 have := round_Of_eq x.kd x.ng x.sc (x.fr : Int) (by have := h.2; omega) (by omega)
 rw [if_pos h.1] at this
 rw [(NM.ex_tup x h).1, (NM.ex_tup x h).2]
 exact this
theorem ref_Of_X {x : NM} (h : x.ok) : vernierref07_Of.f x.kd x.ng x.sc (x.fr : Int) = some (x.ex.kd, x.ex.ng, x.ex.sc, TH x.ex.V, TL x.ex.V, x.ex.R, 0) := by
 unfold vernierref07_Of.f
 rw [ref_sound, h.1, Option.bind_some, if_pos rfl, (NM.ex_tup x h).1, (NM.ex_tup x h).2]
 rfl
end Go.Proofs.Ytodnfniddkcioaa.V
namespace Go.Proofs.Ytodnfniddkcioaa.V
open Go Go.RowKit Go.Proofs.Ytodnfniddkcioaa.Ab Go.Proofs.Ytodnfniddkcioaa.Fn
set_option linter.unusedVariables false
set_option linter.unusedSimpArgs false
theorem EX.ok_kd {x : EX} (hx : x.ok) : x.kd = 0 ∨ x.kd = 1 ∨ x.kd = 2 := by
 rcases hx with rfl | rfl | hx
 ·exact .inl rfl
 ·exact .inr (.inr rfl)
 ·exact .inr (.inl hx.1)
theorem sumX_nar {x y : EX} (h : x.kd = 2 ∨ y.kd = 2) : sumX x y = EX.nar := by unfold sumX; rw [if_pos h]
theorem sumX_z1 {x y : EX} (h : ¬ (x.kd = 2 ∨ y.kd = 2)) (h1 : x.kd = 0) : sumX x y = y := by unfold sumX; rw [if_neg h, if_pos h1]
theorem sumX_z2 {x y : EX} (h : ¬ (x.kd = 2 ∨ y.kd = 2)) (h1 : ¬ x.kd = 0) (h2 : y.kd = 0) : sumX x y = x := by unfold sumX; rw [if_neg h, if_neg h1, if_pos h2]
theorem broad_Sum_j0 {x y : EX} (hx : x.ok) (hy : y.ok) : Ev (fun k => broad_Sum.j0 k (decide (x.kd = 2 ∨ y.kd = 2)) x.kd x.ng x.sc (TH x.V) (TL x.V) x.R y.kd y.ng y.sc (TH y.V) (TL y.V) y.R) (sumX x y).tup := by
 refine evs ?_
 simp only [broad_Sum.j0]
 by_cases h : x.kd = 2 ∨ y.kd = 2
 ·simp only [if_pos (decide_eq_true h)]
  rw [sumX_nar h]
  exact Ev.now _
 ·simp only [if_neg (fun h' => h (of_decide_eq_true h') : ¬ decide (x.kd = 2 ∨ y.kd = 2) = true)]
  by_cases a : x.kd = 0
  ·simp only [if_pos a]
   rw [sumX_z1 h a]
   exact Ev.now _
  ·simp only [if_neg a]
   by_cases b : y.kd = 0
   ·simp only [if_pos b]
    rw [sumX_z2 h a b]
    exact Ev.now _
   ·simp only [if_neg b]
    have kx : x.kd = 1 := by have := EX.ok_kd hx; omega
    have ky : y.kd = 1 := by have := EX.ok_kd hy; omega
    by_cases c : x.sc < y.sc
    ·simp only [if_pos c]
     rw [sumX_comm hx hy]
     exact Sum_j1 hy hx ky kx (Int.le_of_lt c)
    ·simp only [if_neg c]
     exact Sum_j1 hx hy kx ky (Int.not_lt.1 c)
theorem broad_Sum_X {x y : EX} (hx : x.ok) (hy : y.ok) : Ev (fun k => broad_Sum.f k x.kd x.ng x.sc (TH x.V) (TL x.V) x.R y.kd y.ng y.sc (TH y.V) (TL y.V) y.R) (sumX x y).tup := by
 have h := broad_Sum_j0 hx hy
 unfold broad_Sum.f
 by_cases a : x.kd = 2
 ·simp only [if_pos a]
  rw [decide_eq_true (Or.inl a)] at h
  exact h
 ·simp only [if_neg a]
  rw [show decide (x.kd = 2 ∨ y.kd = 2) = (y.kd == 2) by rw [Bool.eq_iff_iff]; simp [a]] at h
  exact h
theorem sum_Exact_X {a b : NM} (ha : a.ok) (hb : b.ok) : Ev (fun k => sum_Exact.f k a.kd a.ng a.sc (a.fr : Int) b.kd b.ng b.sc (b.fr : Int)) ((sumX a.ex b.ex).kd, (sumX a.ex b.ex).ng, (sumX a.ex b.ex).sc, TH (sumX a.ex b.ex).V, TL (sumX a.ex b.ex).V, (sumX a.ex b.ex).R, none) := by
 unfold sum_Exact.f
 refine Ev.bind (Of_X ha) ?_
 simp only [Option.isNone_none, if_true]
 refine Ev.bind (Of_X hb) ?_
 simp only [Option.isNone_none, if_true]
 exact Ev.bind (broad_Sum_X (NM.ex_ok ha) (NM.ex_ok hb)) (Ev.now _)
theorem ref09_Sum_0_X {x y : EX} (hx : x.ok) (hy : y.ok) (kx : x.kd = 1) (ky : y.kd = 1) (h : y.sc ≤ x.sc) : Ev (fun k => vernierref09_Sum_0.f k x.kd x.ng x.sc (TH x.V) (TL x.V) x.R y.kd y.ng y.sc (TH y.V) (TL y.V) y.R) (sumX x y).tup := by
 unfold vernierref09_Sum_0.f
 simp only [if_neg (show ¬ x.kd = 2 by omega)]
 rw [show (y.kd == 2) = false by rw [ky]; rfl]
 exact ref09_Sum_0_real hx hy kx ky h
theorem ref09_Sum_j0 {x y : EX} (hx : x.ok) (hy : y.ok) : Ev (fun k => vernierref09_Sum.j0 k (decide (x.kd = 2 ∨ y.kd = 2)) x.kd x.ng x.sc (TH x.V) (TL x.V) x.R y.kd y.ng y.sc (TH y.V) (TL y.V) y.R) (sumX x y).tup := by
 have main := ref09_Sum_real hx hy
 by_cases h : x.kd = 2 ∨ y.kd = 2
 ·refine evs ?_
  simp only [vernierref09_Sum.j0]
  simp only [if_pos (decide_eq_true h)]
  rw [sumX_nar h]
  exact Ev.now _
 ·have hf : decide (x.kd = 2 ∨ y.kd = 2) = false := decide_eq_false h
  by_cases a : x.kd = 0
  ·refine evs ?_
   simp only [vernierref09_Sum.j0]
   simp only [hf, if_neg (show ¬ (false = true) by decide), if_pos a]
   rw [sumX_z1 h a]
   exact Ev.now _
  ·by_cases b : y.kd = 0
   ·refine evs ?_
    simp only [vernierref09_Sum.j0]
    simp only [hf, if_neg (show ¬ (false = true) by decide), if_neg a, if_pos b]
    rw [sumX_z2 h a b]
    exact Ev.now _
   ·have kx : x.kd = 1 := by have := EX.ok_kd hx; omega
    have ky : y.kd = 1 := by have := EX.ok_kd hy; omega
    by_cases c : x.sc < y.sc
    ·refine evs ?_
     simp only [vernierref09_Sum.j0]
     simp only [hf, if_neg (show ¬ (false = true) by decide), if_neg a, if_neg b, if_pos c]
     rw [sumX_comm hx hy]
     exact Ev.bind (ref09_Sum_0_X hy hx ky kx (Int.le_of_lt c)) (Ev.now _)
    ·rw [hf]
     exact main kx ky (Int.not_lt.1 c)
theorem ref09_Sum_X {x y : EX} (hx : x.ok) (hy : y.ok) : Ev (fun k => vernierref09_Sum.f k x.kd x.ng x.sc (TH x.V) (TL x.V) x.R y.kd y.ng y.sc (TH y.V) (TL y.V) y.R) (sumX x y).tup := by
 have h := ref09_Sum_j0 hx hy
 unfold vernierref09_Sum.f
 by_cases a : x.kd = 2
 ·simp only [if_pos a]
  rw [decide_eq_true (Or.inl a)] at h
  exact h
 ·simp only [if_neg a]
  rw [show decide (x.kd = 2 ∨ y.kd = 2) = (y.kd == 2) by rw [Bool.eq_iff_iff]; simp [a]] at h
  exact h
theorem ref09_Exact_X {a b : NM} (ha : a.ok) (hb : b.ok) : Ev (fun k => vernierref09_Exact.f k a.kd a.ng a.sc (a.fr : Int) b.kd b.ng b.sc (b.fr : Int)) ((sumX a.ex b.ex).kd, (sumX a.ex b.ex).ng, (sumX a.ex b.ex).sc, TH (sumX a.ex b.ex).V, TL (sumX a.ex b.ex).V, (sumX a.ex b.ex).R, 0) := by
 unfold vernierref09_Exact.f
 refine Ev.bind (evn (ref_Of_X ha)) (Ev.bind (evn (ref_Of_X hb)) ?_)
 simp only [if_true]
 exact Ev.bind (ref09_Sum_X (NM.ex_ok ha) (NM.ex_ok hb)) (Ev.now _)
def addN (n x y : Nat) : Nat := (sumX (decN n x).ex (decN n y).ex).rnd n
theorem sum_Add_eq {n a b : Nat} (h : isW (n : Int) = true) (ha : a < 18446744073709551616) (hb : b < 18446744073709551616) : Ev (fun k => sum_Add.f k (n : Int) (a : Int) (b : Int)) (((addN n (a % 2 ^ n) (b % 2 ^ n) : Nat) : Int), none) := by
 obtain ⟨b64, b8⟩ := pow64 h
 have oa := decN_ok b8 b64 (Nat.mod_lt a (two_pos n))
 have ob := decN_ok b8 b64 (Nat.mod_lt b (two_pos n))
 unfold sum_Add.f
 refine Ev.bind (Decode_N h ha) ?_
 simp only [Option.isNone_none, if_true]
 refine Ev.bind (Decode_N h hb) (Ev.bind (sum_Exact_X oa ob) ?_)
 simp only [Option.isNone_none, if_true]
 exact Ev.bind (Round_X h (sumX_ok (NM.ex_ok oa) (NM.ex_ok ob))) (Ev.now _)
theorem sum_Add_no {n : Int} (h : isW n = false) (a b : Int) : Ev (fun k => sum_Add.f k n a b) (0, some 2) := by
 unfold sum_Add.f
 exact Ev.bind (Decode_no h a) (Ev.now _)
theorem ref09_Add_eq {n a b : Nat} (h : isW (n : Int) = true) (ha : a < 18446744073709551616) (hb : b < 18446744073709551616) : Ev (fun k => vernierref09_Add.f k (n : Int) (a : Int) (b : Int)) ((addN n (a % 2 ^ n) (b % 2 ^ n) : Nat) : Int) := by
 obtain ⟨b64, b8⟩ := pow64 h
 have oa := decN_ok b8 b64 (Nat.mod_lt a (two_pos n))
 have ob := decN_ok b8 b64 (Nat.mod_lt b (two_pos n))
 unfold vernierref09_Add.f
 exact Ev.bind (ref_Decode_N h ha) (Ev.bind (ref_Decode_N h hb) (Ev.bind (ref09_Exact_X oa ob) (Ev.bind (ref_Round_X h (sumX_ok (NM.ex_ok oa) (NM.ex_ok ob))) (Ev.now _))))
end Go.Proofs.Ytodnfniddkcioaa.V
namespace Go.Proofs.Ytodnfniddkcioaa.V
open Go Go.RowKit Go.Proofs.Ytodnfniddkcioaa.Ab Go.Proofs.Ytodnfniddkcioaa.Fn
set_option linter.unusedVariables false
set_option linter.unusedSimpArgs false
theorem sum_Sub_eq {n a b : Nat} (h : isW (n : Int) = true) (ha : a < 18446744073709551616) (hb : b < 18446744073709551616) : Ev (fun k => sum_Sub.f k (n : Int) (a : Int) (b : Int)) (((addN n (a % 2 ^ n) (negP n (b % 2 ^ n)) : Nat) : Int), none) := by
 obtain ⟨b64, b8⟩ := pow64 h
 have g : (18446744073709551616 - b) % 18446744073709551616 % 2 ^ n = negP n (b % 2 ^ n) := negN_mod b64 hb
 have q := sum_Add_eq h ha (Nat.mod_lt (18446744073709551616 - b) (show 0 < 18446744073709551616 by decide))
 rw [g, ← neg_wrap hb] at q
 unfold sum_Sub.f
 exact Ev.bind q (Ev.now _)
theorem sum_Sub_no {n : Int} (h : isW n = false) (a b : Int) : Ev (fun k => sum_Sub.f k n a b) (0, some 2) := by
 unfold sum_Sub.f
 exact Ev.bind (sum_Add_no h _ _) (Ev.now _)
theorem ref09_Sub_eq {n a b : Nat} (h : isW (n : Int) = true) (ha : a < 18446744073709551616) (hb : b < 18446744073709551616) : Ev (fun k => vernierref09_Sub.f k (n : Int) (a : Int) (b : Int)) ((addN n (a % 2 ^ n) (negP n (b % 2 ^ n)) : Nat) : Int) := by
 obtain ⟨b64, b8⟩ := pow64 h
 have hl := negP_lt (n := n) (Nat.mod_lt b (two_pos n))
 have h2 : 2 ^ n ≤ 18446744073709551616 := by rw [← p64]; exact pow_le b64
 have hN := ref_Neg_eq h hb
 rw [negN_mod b64 hb] at hN
 have hA := ref09_Add_eq h ha (b := negP n (b % 2 ^ n)) (Nat.lt_of_lt_of_le hl h2)
 rw [Nat.mod_eq_of_lt hl] at hA
 unfold vernierref09_Sub.f
 exact Ev.bind hN (Ev.bind hA (Ev.now _))
theorem up09 : Ev (fun k => vernierlaw09_up.f k) true := by
 unfold vernierlaw09_up.f
 have a := sum_Add_eq (n := 8) (a := 64) (b := 64) (by decide) (by decide) (by decide)
 have b := sum_Sub_eq (n := 8) (a := 1) (b := 127) (by decide) (by decide) (by decide)
 rw [show addN 8 (64 % 2 ^ 8) (64 % 2 ^ 8) = 72 by decide +kernel] at a
 rw [show addN 8 (1 % 2 ^ 8) (negP 8 (127 % 2 ^ 8)) = 129 by decide +kernel] at b
 exact Ev.bind a (Ev.bind b (Ev.now _))
end Go.Proofs.Ytodnfniddkcioaa.V
namespace Go.Proofs.Ytodnfniddkcioaa.Pure
open Go Go.RowKit Go.Proofs.Ytodnfniddkcioaa.Ab Go.Proofs.Ytodnfniddkcioaa.Fn Go.Proofs.Ytodnfniddkcioaa.V
set_option linter.unusedSimpArgs false
theorem SumSubs : vernierlaw09_SumSubs.Pure := by
 intro n a b w0 w1 w2
 obtain ⟨a, rfl, ha⟩ := u64_nat w1
 obtain ⟨b, rfl, hb⟩ := u64_nat w2
 refine Ev.rounds (g := fun k => vernierlaw09_SumSubs.f k n (a : Int) (b : Int)) ?_
 unfold vernierlaw09_SumSubs.f
 refine Ev.bind up09 ?_
 by_cases hn : isW n = true
 ·obtain ⟨n, rfl, _⟩ := isW_nat hn
  refine Ev.bind (sum_Sub_eq hn ha hb) (Ev.bind (a := (((addN n (a % 2 ^ n) (negP n (b % 2 ^ n)) : Nat) : Int), (0 : Int))) ?_ (evn (by simp [code_none])))
  unfold vernierref09_Subs.f
  rw [ref_Is_eq, hn]
  simp only [Option.bind_some, if_true]
  exact Ev.bind (ref09_Sub_eq hn ha hb) (Ev.now _)
 ·have hn : isW n = false := by simpa using hn
  refine Ev.bind (sum_Sub_no hn _ _) (Ev.bind (a := ((0 : Int), (2 : Int))) ?_ (evn (by simp [code_2])))
  unfold vernierref09_Subs.f
  rw [ref_Is_eq, hn]
  exact Ev.now _
end Go.Proofs.Ytodnfniddkcioaa.Pure
