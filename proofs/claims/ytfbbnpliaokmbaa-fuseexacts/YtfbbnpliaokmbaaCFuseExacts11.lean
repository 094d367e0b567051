-- Written by a program of this session out of its own texts (wip/tools/link.py).
import Derived.Below
import Derived.ChangeKeysEq
import Derived.Deep.MidRow
import Derived.Deep.RegionHeld3
import Derived.Great.BuildSlice
import Derived.IntWalk
import Derived.KernelRfl
import Derived.LaidEql
import Derived.Laws.Bits64
import Derived.Laws.BitsLemmas
import Derived.Laws.BytesArg
import Derived.Laws.IdiomCopy
import Derived.Laws.OwnMore
import Derived.Laws.Rows
import Derived.Laws.Slices
import Derived.Laws.StructEq
import Derived.Laws.Tables
import Derived.Lib.BitFns
import Derived.Lib.Slices
import Derived.Lib.Small
import Derived.Lib.Strings
import Derived.Lib.Walk
import Derived.Maps.AppendAt
import Derived.OrdersHeld
import Derived.RowKit
import Derived.Shelf.Spec.BitsCarry
import Derived.Test.YtfbbnpliaokmbaaProg
import Derived.Test.YtfbbnpliaokmbaaCFuseExacts9
import Derived.Test.YtfbbnpliaokmbaaCFuseExacts10
namespace Go.Proofs.Ytfbbnpliaokmbaa.V
open Go Go.RowKit Go.Proofs.Ytfbbnpliaokmbaa.Ab Go.Proofs.Ytfbbnpliaokmbaa.Fn
set_option linter.unusedVariables false
set_option linter.unusedSimpArgs false
theorem r4_digit {l : List Int} {m : Nat} (h : DL l m) (i : Nat) : vernierref04_digit.f l (i : Int) = some ((dg m i : Nat) : Int) := by
 unfold vernierref04_digit.f; rw [nI_eq]
 by_cases hi : i < l.length
 ·rw [if_pos (by omega), if_pos (by omega), h.rd]
 ·rw [if_neg (by omega), h.dg_out (by omega)]; rfl
theorem r4_two_l (n : Nat) (hn : n ≤ 24) : ∀ (d i : Nat), i + d = n → Ev (fun k => vernierref04_two.l0 k (n : Int) ((2 ^ i : Nat) : Int) (i : Int)) ((2 ^ n : Nat) : Int)
 | 0, i, h => by
  refine evs ?_
  simp only [vernierref04_two.l0, nI_eq, if_neg (show ¬ (i : Int) < (n : Int) by omega)]
  have : i = n := by omega
  subst this
  exact Ev.now _
 | d + 1, i, h => by
  refine evs ?_
  simp only [vernierref04_two.l0, nI_eq]
  have hp : 2 ^ i < 2 ^ 24 := pow_lt (by omega)
  have h24 : (2 : Nat) ^ 24 = 16777216 := by decide
  have e1 : wrap64 (2 * ((2 ^ i : Nat) : Int)) = ((2 ^ (i + 1) : Nat) : Int) := by
   rw [Nat.pow_succ]
   generalize 2 ^ i = z at *
   rw [w64 (by omega) (by omega)]; omega
  have e2 : wrap64 ((i : Int) + 1) = ((i + 1 : Nat) : Int) := by rw [w64 (by omega) (by omega)]; omega
  simp only [if_pos (show (i : Int) < (n : Int) by omega), e1, e2]
  exact r4_two_l n hn d (i + 1) (by omega)
theorem r4_two (n : Nat) (hn : n ≤ 24) : Ev (fun k => vernierref04_two.f k (n : Int)) ((2 ^ n : Nat) : Int) := by
 unfold vernierref04_two.f
 exact r4_two_l n hn n 0 (by omega)
theorem r4_Add_l {x y : List Int} {a b : Nat} (hx : DL x a) (hy : DL y b) (hn : x.length ≤ 1000) (hm : y.length ≤ 1000) : ∀ (d : Nat) (o : List Int) (c : Nat), o.length + d = max x.length y.length + 1 →
  okD o → c ≤ 1 → dv o + W o.length * c = a % W o.length + b % W o.length → (o.length = max x.length y.length + 1 → c = 0) → (o ≠ [] → W (o.length - 1) ≤ a + b) →
  ∃ r, Ev (fun k => vernierref04_Add.l0 k x y o (c : Int) (o.length : Int)) r ∧ DL r (a + b) := by
 intro d
 induction d with
 | zero =>
  intro o c hl hok hc hv hlast hcan
  have c0 := hlast (by omega)
  subst c0
  have ha := hx.mod_all (i := o.length) (by omega)
  have hb := hy.mod_all (i := o.length) (by omega)
  refine ⟨o, ?_, hok, by rw [ha, hb] at hv; simpa using hv, hcan⟩
  refine evs ?_
  simp only [vernierref04_Add.l0, nI_eq, if_neg (show ¬ (o.length : Int) < (x.length : Int) by omega), if_neg (show ¬ (o.length : Int) < (y.length : Int) by omega), decide_eq_false (show ¬ ((0 : Nat) : Int) > 0 by decide)]
  refine evs ?_
  simp only [vernierref04_Add.j1, nI_eq, Bool.false_eq_true, if_false]
  exact Ev.now _
 | succ d ih =>
  intro o c hl hok hc hv hlast hcan
  have stop : ¬ o.length < x.length → ¬ o.length < y.length → c = 0 → ∃ r, Ev (fun k => vernierref04_Add.l0 k x y o (c : Int) (o.length : Int)) r ∧ DL r (a + b) := by
   intro h1 h2 c0
   subst c0
   have ha := hx.mod_all (i := o.length) (by omega)
   have hb := hy.mod_all (i := o.length) (by omega)
   refine ⟨o, ?_, hok, by rw [ha, hb] at hv; simpa using hv, hcan⟩
   refine evs ?_
   simp only [vernierref04_Add.l0, nI_eq, if_neg (show ¬ (o.length : Int) < (x.length : Int) by omega), if_neg (show ¬ (o.length : Int) < (y.length : Int) by omega), decide_eq_false (show ¬ ((0 : Nat) : Int) > 0 by decide)]
   refine evs ?_
   simp only [vernierref04_Add.j1, nI_eq, Bool.false_eq_true, if_false]
   exact Ev.now _
  have go : (o.length < x.length ∨ o.length < y.length ∨ 0 < c) → ∃ r, Ev (fun k => vernierref04_Add.j1 k x y o (c : Int) (o.length : Int) true) r ∧ DL r (a + b) := by
   intro hg
   have da := dg_lt a o.length
   have db := dg_lt b o.length
   generalize ht : dg a o.length + dg b o.length + c = t
   have htb : t < 33554433 := by omega
   have ev : dv (o ++ [((t % 16777216 : Nat) : Int)]) + W (o.length + 1) * (t / 16777216) = a % W (o.length + 1) + b % W (o.length + 1) := by
    rw [dv_snoc, mod_W_succ, mod_W_succ, W_succ]
    exact add_step hv ht
   have hWl : W o.length ≤ a + b := by
    rcases hg with hg | hg | hg
    ·have := (hx.len_iff _).mp hg; omega
    ·have := (hy.len_iff _).mp hg; omega
    ·have : W o.length * 1 ≤ W o.length * c := Nat.mul_le_mul_left _ hg
     have h1 := Nat.mod_le a (W o.length)
     have h2 := Nat.mod_le b (W o.length)
     omega
   obtain ⟨r, h1, h2⟩ := ih (o ++ [((t % 16777216 : Nat) : Int)]) (t / 16777216) (by simp; omega) (okD_snoc hok (Nat.mod_lt _ (by decide))) (by omega) (by rw [List.length_append, List.length_singleton]; exact ev)
    (fun hlen => by
     rw [List.length_append, List.length_singleton] at hlen
     have := hx.dg_out (i := o.length) (by omega)
     have := hy.dg_out (i := o.length) (by omega)
     omega) (fun _ => by simpa using hWl)
   refine ⟨r, ?_, h2⟩
   refine evs ?_
   simp only [vernierref04_Add.j1, nI_eq, if_true]
   rw [List.length_append, List.length_singleton] at h1
   have hol : o.length < 4611686018427387904 := by omega
   have hol2 : o.length < 17592186044416 := by omega
   simp only [r4_digit hx, r4_digit hy, Option.bind_some, if_pos hol2, w_add3 ht (by omega), tmodL, w_div24 (show t < 4611686018427387904 by omega), w_succ hol]
   exact h1
  by_cases h1 : o.length < x.length
  ·obtain ⟨r, a1, a2⟩ := go (.inl h1)
   refine ⟨r, evs ?_, a2⟩
   simp only [vernierref04_Add.l0, nI_eq, if_pos (show (o.length : Int) < (x.length : Int) by omega)]
   exact a1
  ·by_cases h2 : o.length < y.length
   ·obtain ⟨r, a1, a2⟩ := go (.inr (.inl h2))
    refine ⟨r, evs ?_, a2⟩
    simp only [vernierref04_Add.l0, nI_eq, if_neg (show ¬ (o.length : Int) < (x.length : Int) by omega), if_pos (show (o.length : Int) < (y.length : Int) by omega)]
    exact a1
   ·by_cases h3 : c = 0
    ·exact stop h1 h2 h3
    ·obtain ⟨r, a1, a2⟩ := go (.inr (.inr (by omega)))
     refine ⟨r, evs ?_, a2⟩
     simp only [vernierref04_Add.l0, nI_eq, if_neg (show ¬ (o.length : Int) < (x.length : Int) by omega), if_neg (show ¬ (o.length : Int) < (y.length : Int) by omega), decide_eq_true (show (c : Int) > 0 by omega)]
     exact a1
theorem r4_Add {x y : List Int} {a b : Nat} (hx : DL x a) (hy : DL y b) (hn : x.length ≤ 1000) (hm : y.length ≤ 1000) : ∃ r, Ev (fun k => vernierref04_Add.f k x y) r ∧ DL r (a + b) := by
 have := r4_Add_l hx hy hn hm (max x.length y.length + 1) [] 0 (by simp) okD_nil (by omega) (by simp [dv, W_zero, Nat.mod_one]) (fun h => rfl) (fun h => absurd rfl h)
 simpa [vernierref04_Add.f] using this
theorem r4_times_l {x : List Int} {a q : Nat} (hx : DL x a) (hq : q ≤ 16777216) (hq0 : 0 < q) (hn : x.length ≤ 1000) : ∀ (d : Nat) (o : List Int) (c : Nat), o.length + d = x.length + 1 →
  okD o → c < q → dv o + W o.length * c = a % W o.length * q → (o.length = x.length + 1 → c = 0) → (o ≠ [] → W (o.length - 1) ≤ a * q) →
  ∃ r, Ev (fun k => vernierref04_times.l0 k x (q : Int) o (c : Int) (o.length : Int)) r ∧ DL r (a * q) := by
 intro d
 induction d with
 | zero =>
  intro o c hl hok hc hv hlast hcan
  have c0 := hlast (by omega)
  subst c0
  have ha := hx.mod_all (i := o.length) (by omega)
  refine ⟨o, ?_, hok, by rw [ha] at hv; simpa using hv, hcan⟩
  refine evs ?_
  simp only [vernierref04_times.l0, nI_eq, if_neg (show ¬ (o.length : Int) < (x.length : Int) by omega), if_neg (show ¬ ((0 : Nat) : Int) > 0 by decide)]
  exact Ev.now _
 | succ d ih =>
  intro o c hl hok hc hv hlast hcan
  have da := dg_lt a o.length
  have hmul : dg a o.length * q ≤ 16777215 * q := Nat.mul_le_mul_right _ (by omega)
  generalize ht : dg a o.length * q + c = t
  have htb : t < 16777216 * q := by omega
  have hb : t < 281474976710657 := by omega
  have hol : o.length < 4611686018427387904 := by omega
  have hol2 : o.length < 17592186044416 := by omega
  have hb2 : t < 4611686018427387904 := by omega
  have ev : dv (o ++ [((t % 16777216 : Nat) : Int)]) + W (o.length + 1) * (t / 16777216) = a % W (o.length + 1) * q := by
   rw [dv_snoc, mod_W_succ, W_succ]
   exact times_step hv ht
  have go : (o.length < x.length ∨ 0 < c) → ∃ r, Ev (fun k => vernierref04_times.l0 k x (q : Int) (o ++ [((t % 16777216 : Nat) : Int)]) ((t / 16777216 : Nat) : Int) ((o.length + 1 : Nat) : Int)) r ∧ DL r (a * q) := by
   intro hg
   have hWl : W o.length ≤ a * q := by
    rcases hg with hg | hg
    ·have := (hx.len_iff _).mp hg
     exact Nat.le_trans this (Nat.le_mul_of_pos_right _ hq0)
    ·have h1 : W o.length * 1 ≤ W o.length * c := Nat.mul_le_mul_left _ hg
     have h2 := Nat.mul_le_mul_right q (Nat.mod_le a (W o.length))
     omega
   obtain ⟨r, h1, h2⟩ := ih (o ++ [((t % 16777216 : Nat) : Int)]) (t / 16777216) (by simp; omega) (okD_snoc hok (Nat.mod_lt _ (by decide))) (by omega) (by rw [List.length_append, List.length_singleton]; exact ev)
    (fun hlen => by
     rw [List.length_append, List.length_singleton] at hlen
     have h0 := hx.dg_out (i := o.length) (by omega)
     rw [h0] at ht
     omega) (fun _ => by simpa using hWl)
   rw [List.length_append, List.length_singleton] at h1
   exact ⟨r, h1, h2⟩
  by_cases h1 : o.length < x.length
  ·obtain ⟨r, a1, a2⟩ := go (.inl h1)
   refine ⟨r, evs ?_, a2⟩
   simp only [vernierref04_times.l0, nI_eq, if_pos (show (o.length : Int) < (x.length : Int) by omega), if_pos (show (q : Int) > 0 by omega), r4_digit hx, Option.bind_some, if_pos hol2, w_muladd ht hb2, tmodL, w_div24 hb2, w_succ hol]
   exact a1
  ·by_cases h3 : c = 0
   ·subst h3
    have ha := hx.mod_all (i := o.length) (by omega)
    refine ⟨o, evs ?_, hok, by rw [ha] at hv; simpa using hv, hcan⟩
    simp only [vernierref04_times.l0, nI_eq, if_neg (show ¬ (o.length : Int) < (x.length : Int) by omega), if_neg (show ¬ ((0 : Nat) : Int) > 0 by omega)]
    exact Ev.now _
   ·obtain ⟨r, a1, a2⟩ := go (.inr (by omega))
    refine ⟨r, evs ?_, a2⟩
    simp only [vernierref04_times.l0, nI_eq, if_neg (show ¬ (o.length : Int) < (x.length : Int) by omega), if_pos (show (c : Int) > 0 by omega), r4_digit hx, Option.bind_some, if_pos hol2, w_muladd ht hb2, tmodL, w_div24 hb2, w_succ hol]
    exact a1
theorem r4_times {x : List Int} {a q : Nat} (hx : DL x a) (hq : q ≤ 16777216) (hn : x.length ≤ 1000) : ∃ r, Ev (fun k => vernierref04_times.f k x (q : Int)) r ∧ DL r (a * q) := by
 by_cases hq0 : q = 0
 ·subst hq0
  refine ⟨[], ?_, by rw [Nat.mul_zero]; exact DL.nil⟩
  unfold vernierref04_times.f; try simp only [nI_eq]
  refine evs ?_
  simp only [vernierref04_times.l0, nI_eq, if_neg (show ¬ ((0 : Nat) : Int) > 0 by decide), if_neg (show ¬ (0 : Int) > 0 by decide), ite_self]
  exact Ev.now _
 ·have := r4_times_l hx hq (by omega) hn (x.length + 1) [] 0 (by simp) okD_nil (by omega) (by simp [dv, W_zero, Nat.mod_one]) (fun h => rfl) (fun h => absurd rfl h)
  simpa [vernierref04_times.f] using this
theorem r4_Shl {x : List Int} {a k : Nat} (hx : DL x a) (hk : k ≤ 20000) (hn : x.length ≤ 1000) : ∃ r, Ev (fun n => vernierref04_Shl.f n x (k : Int)) r ∧ DL r (a * 2 ^ k) := by
 by_cases h0 : a = 0
 ·subst h0
  have := hx.zero
  subst this
  refine ⟨[], ?_, by rw [Nat.zero_mul]; exact DL.nil⟩
  unfold vernierref04_Shl.f; try simp only [nI_eq]
  exact evn rfl
 ·have hpos := hx.pos (by omega)
  have t := r4_two (k % 24) (by omega)
  have hp : (2 : Nat) ^ (k % 24) ≤ 2 ^ 24 := pow_le (by omega)
  obtain ⟨s, s1, s2⟩ := r4_times hx (q := 2 ^ (k % 24)) hp hn
  have hs : 0 < a * 2 ^ (k % 24) := Nat.mul_pos (by omega) (two_pos _)
  have hsl := s2.pos hs
  have hsl2 : s.length ≤ x.length + 1 := by
   refine s2.len_le ?_
   rw [W_succ, Nat.mul_comm 16777216]
   have hp' : 2 ^ (k % 24) < 16777216 := by
    have : (2 : Nat) ^ (k % 24) < 2 ^ 24 := pow_lt (by omega)
    exact this
   have h1 := hx.lt
   exact Nat.mul_lt_mul'' h1 hp'
  have ev : dv (List.replicate (k / 24) 0 ++ s) = a * 2 ^ k := by
   rw [dv_append, dv_zeros, s2.val, List.length_replicate]
   unfold W
   have e1 : (2 : Nat) ^ k = 2 ^ (24 * (k / 24)) * 2 ^ (k % 24) := by rw [← Nat.pow_add]; congr 1; omega
   rw [e1]; grind
  refine ⟨List.replicate (k / 24) 0 ++ s, ?_, ?_, ev, ?_⟩
  ·unfold vernierref04_Shl.f; try simp only [nI_eq]
   simp only [if_neg (show ¬ (x.length : Int) = 0 by omega), w_q24 hk, w_r24, if_pos (show (0 : Int) ≤ ((k / 24 : Nat) : Int) by omega), Int.toNat_natCast, if_pos (show k / 24 ≤ 35184372088832 by omega), Option.bind_some]
   refine Ev.bind t (Ev.bind s1 ?_)
   simp only [List.length_replicate, if_pos (show k / 24 + s.length ≤ 17592186044416 by omega)]
   exact Ev.now _
  ·intro d hd
   rcases List.mem_append.mp hd with h | h
   ·exact okD_zeros _ d h
   ·exact s2.ok d h
  ·intro _
   rw [List.length_append, List.length_replicate, show k / 24 + s.length - 1 = k / 24 + (s.length - 1) by omega, W_add]
   have c := s2.can (by intro e; rw [e] at hsl; simp at hsl)
   have e1 : (2 : Nat) ^ k = W (k / 24) * 2 ^ (k % 24) := by unfold W; rw [← Nat.pow_add]; congr 1; omega
   rw [e1]
   have := Nat.mul_le_mul_left (W (k / 24)) c
   rw [show a * (W (k / 24) * 2 ^ (k % 24)) = W (k / 24) * (a * 2 ^ (k % 24)) by grind]
   exact this
theorem r4_Cut {x : List Int} (hok : okD x) (hn : x.length ≤ 1000) : ∃ r, Ev (fun k => vernierref04_Cut.f k x) r ∧ DL r (dv x) := by
 have key : ∀ (n : Nat), n ≤ x.length → dv x < W n → ∃ r, Ev (fun k => vernierref04_Cut.l0 k x (n : Int)) r ∧ DL r (dv x) := by
  intro n
  induction n with
  | zero =>
   intro _ h0
   rw [W_zero] at h0
   refine ⟨[], evs ?_, by rw [show dv x = 0 by omega]; exact DL.nil⟩
   simp only [vernierref04_Cut.l0, nI_eq]
   simp only [if_neg (show ¬ ((0 : Nat) : Int) > 0 by decide), if_pos (show (0 : Int) ≤ ((0 : Nat) : Int) by decide), if_pos (show ((0 : Nat) : Int) ≤ (x.length : Int) by omega)]
   exact evn rfl
  | succ n ih =>
   intro hl hW
   have hn4 : n + 1 < 4611686018427387904 := by omega
   have er := rd_dg hok n
   by_cases hz : dg (dv x) n = 0
   ·have hlt : dv x < W n := by
     have h1 := mod_W_succ (dv x) n
     rw [Nat.mod_eq_of_lt hW, hz, Nat.mul_zero, Nat.add_zero] at h1
     rw [h1]; exact Nat.mod_lt _ (W_pos n)
    obtain ⟨r, a1, a2⟩ := ih (by omega) hlt
    refine ⟨r, evs ?_, a2⟩
    simp only [vernierref04_Cut.l0, nI_eq, w_pred hn4 (Nat.succ_pos n), Nat.add_sub_cancel, if_pos (show ((n + 1 : Nat) : Int) > 0 by omega), if_pos (show (0 : Int) ≤ (n : Int) by omega), if_pos (show (n : Int) < (x.length : Int) by omega), er, hz]
    exact a1
   ·have ht := dv_take hok (n + 1) hl
    rw [Nat.mod_eq_of_lt hW] at ht
    refine ⟨x.take (n + 1), evs ?_, okD_take _ hok, ht, ?_⟩
    ·simp only [vernierref04_Cut.l0, nI_eq, w_pred hn4 (Nat.succ_pos n), Nat.add_sub_cancel, if_pos (show ((n + 1 : Nat) : Int) > 0 by omega), if_pos (show (0 : Int) ≤ (n : Int) by omega), if_pos (show (n : Int) < (x.length : Int) by omega), er, if_neg (show ¬ ((dg (dv x) n : Nat) : Int) = 0 by omega), if_pos (show (0 : Int) ≤ ((n + 1 : Nat) : Int) by omega), if_pos (show ((n + 1 : Nat) : Int) ≤ (x.length : Int) by omega), Int.toNat_natCast]
     exact Ev.now _
    ·intro _
     rw [List.length_take, Nat.min_eq_left hl, Nat.add_sub_cancel]
     rcases Nat.lt_or_ge (dv x) (W n) with h | h
     ·exact absurd (by unfold dg; rw [Nat.div_eq_of_lt h]) hz
     ·exact h
 unfold vernierref04_Cut.f; try simp only [nI_eq]
 exact key x.length (Nat.le_refl _) (dv_lt hok)
theorem r4_Bits_l : ∀ (d t n : Nat), t < 2 ^ d → n + d < 4611686018427387904 → d ≤ 60 → Ev (fun k => vernierref04_Bits.l0 k (n : Int) (t : Int)) ((n + bl t : Nat) : Int)
 | 0, t, n, h, hn, _ => by
  have : t = 0 := by simpa using h
  subst this
  refine evs ?_
  simp only [vernierref04_Bits.l0, nI_eq, if_neg (show ¬ ((0 : Nat) : Int) > 0 by decide)]
  exact Ev.now _
 | d + 1, t, n, h, hn, hd => by
  refine evs ?_
  simp only [vernierref04_Bits.l0, nI_eq]
  by_cases h0 : t = 0
  ·subst h0
   simp only [if_neg (show ¬ ((0 : Nat) : Int) > 0 by decide)]
   exact Ev.now _
  ·have h60 : (2 : Nat) ^ (d + 1) ≤ 2 ^ 60 := pow_le hd
   have h60' : (2 : Nat) ^ 60 = 1152921504606846976 := by decide
   have n4 : n < 4611686018427387904 := by omega
   have t4 : t < 4611686018427387904 := by omega
   simp only [if_pos (show (t : Int) > 0 by omega), w_succ n4, w_half t4]
   have hb : bl t = bl (t / 2) + 1 := by
    have a := bl_lt (t / 2)
    by_cases h2 : t / 2 = 0
    ·have : t = 1 := by omega
     subst this; rfl
    ·have b := bl_le (x := t / 2) (by omega)
     have c := bl_pos (x := t / 2) (by omega)
     refine bl_unique (by omega) ?_ (by rw [Nat.pow_succ]; omega)
     rw [show bl (t / 2) + 1 - 1 = (bl (t / 2) - 1) + 1 by omega, Nat.pow_succ]; omega
   rw [hb, show n + (bl (t / 2) + 1) = n + 1 + bl (t / 2) by omega]
   exact r4_Bits_l d (t / 2) (n + 1) (by rw [Nat.pow_succ] at h; omega) (by omega) (by omega)
theorem r4_Bits {x : List Int} {a : Nat} (hx : DL x a) (hn : x.length ≤ 1000) : Ev (fun k => vernierref04_Bits.f k x) ((bl a : Nat) : Int) := by
 unfold vernierref04_Bits.f; try simp only [nI_eq]
 by_cases h0 : a = 0
 ·subst h0
  have := hx.zero
  subst this
  refine evn ?_
  rfl
 ·have hpos := hx.pos (by omega)
  have n4 : x.length < 4611686018427387904 := by omega
  have n5 : x.length - 1 < 20000 := by omega
  simp only [if_neg (show ¬ (x.length : Int) = 0 by omega), w_pred n4 hpos, w_24 n5, if_pos (show (0 : Int) ≤ ((x.length - 1 : Nat) : Int) by omega), if_pos (show ((x.length - 1 : Nat) : Int) < (x.length : Int) by omega), hx.rd]
  have hd := dg_lt a (x.length - 1)
  have b := r4_Bits_l 24 (dg a (x.length - 1)) (24 * (x.length - 1)) (by exact hd) (by omega) (by decide)
  have hb : bl a = 24 * (x.length - 1) + bl (dg a (x.length - 1)) := by
   have hc := hx.can (by intro e; rw [e] at hpos; simp at hpos)
   have hlt := hx.lt
   have edg : dg a (x.length - 1) = a / W (x.length - 1) := by
    unfold dg
    rw [Nat.mod_eq_of_lt]
    rw [Nat.div_lt_iff_lt_mul (W_pos _), ← W_succ, show x.length - 1 + 1 = x.length by omega]
    exact hlt
   have hq : 0 < dg a (x.length - 1) := by rw [edg]; exact Nat.div_pos hc (W_pos _)
   have u := bl_lt (dg a (x.length - 1))
   have v := bl_le hq
   have c := bl_pos hq
   have dm := Nat.div_add_mod a (W (x.length - 1))
   rw [← edg] at dm
   have ml := Nat.mod_lt a (W_pos (x.length - 1))
   refine bl_unique (by omega) ?_ ?_
   ·rw [show 24 * (x.length - 1) + bl (dg a (x.length - 1)) - 1 = 24 * (x.length - 1) + (bl (dg a (x.length - 1)) - 1) by omega, Nat.pow_add]
    have := Nat.mul_le_mul_left (W (x.length - 1)) v
    unfold W at *
    omega
   ·rw [Nat.pow_add]
    have := Nat.mul_le_mul_left (W (x.length - 1)) (show dg a (x.length - 1) + 1 ≤ 2 ^ bl (dg a (x.length - 1)) by omega)
    rw [Nat.mul_add] at this
    unfold W at *
    omega
  rw [hb]
  exact b
theorem r4_Shr_l {y : List Int} {A r : Nat} (hy : DL y A) (hr : r < 24) (hn : y.length ≤ 1000) : ∀ (d i : Nat) (l : List Int), i + d = y.length → okD l → l.length = y.length → dv l = A / 2 ^ r % W i →
  ∃ s, Ev (fun k => vernierref04_Shr.l0 k y ((2 ^ r : Nat) : Int) l (i : Int)) s ∧ DL s (A / 2 ^ r)
 | 0, i, l, h, hok, hl, hv => by
  have hA : A / 2 ^ r < W i := Nat.lt_of_le_of_lt (Nat.div_le_self _ _) (by have := hy.lt; rw [show i = y.length by omega]; exact this)
  rw [Nat.mod_eq_of_lt hA] at hv
  obtain ⟨s, s1, s2⟩ := r4_Cut hok (by omega)
  rw [hv] at s2
  refine ⟨s, evs ?_, s2⟩
  simp only [vernierref04_Shr.l0, nI_eq, if_neg (show ¬ (i : Int) < (y.length : Int) by omega)]
  exact Ev.bind s1 (Ev.now _)
 | d + 1, i, l, h, hok, hl, hv => by
  have hp := two_pos r
  have hd := dg_lt (A / 2 ^ r) i
  have hs := dv_set hok (n := i) (d := dg (A / 2 ^ r) i) (by omega) hd
  have hz : dg (dv l) i = 0 := by
   unfold dg; rw [Nat.div_eq_of_lt (by rw [hv]; exact Nat.mod_lt _ (W_pos i))]
  rw [hz, Nat.mul_zero, Nat.add_zero, hv, ← mod_W_succ] at hs
  obtain ⟨s, s1, s2⟩ := r4_Shr_l hy hr hn d (i + 1) (l.set i ((dg (A / 2 ^ r) i : Nat) : Int)) (by omega) (okD_set hok hd) (by rw [List.length_set]; exact hl) hs
  refine ⟨s, evs ?_, s2⟩
  have h4 : i < 4611686018427387904 := by omega
  have hne : ¬ ((2 ^ r : Nat) : Int) = 0 := by generalize 2 ^ r = z at *; omega
  simp only [vernierref04_Shr.l0, nI_eq, if_pos (show (i : Int) < (y.length : Int) by omega), if_pos (show (0 : Int) ≤ (i : Int) by omega), if_neg hne, w_succ h4, r4_digit hy, Option.bind_some, if_pos (show (i : Int) < (l.length : Int) by omega), hy.rd, w_shr' (dg_lt A i) (dg_lt A (i + 1)) hr, ← dg_shr A i r (by omega), Int.toNat_natCast]
  exact s1
theorem r4_Shr {x : List Int} {a k : Nat} (hx : DL x a) (hk : k ≤ 20000) (hn : x.length ≤ 1000) : ∃ r, Ev (fun n => vernierref04_Shr.f n x (k : Int)) r ∧ DL r (a / 2 ^ k) := by
 unfold vernierref04_Shr.f; try simp only [nI_eq]
 simp only [w_q24 hk, w_r24]
 by_cases hq : x.length ≤ k / 24
 ·refine ⟨[], ?_, ?_⟩
  ·simp only [if_pos (show ((k / 24 : Nat) : Int) ≥ (x.length : Int) by omega)]
   exact Ev.now _
  ·have : a < 2 ^ k := Nat.lt_of_lt_of_le hx.lt (by unfold W; exact pow_le (by omega))
   rw [Nat.div_eq_of_lt this]; exact DL.nil
 ·have hy : DL (x.drop (k / 24)) (a / W (k / 24)) := by
   refine ⟨okD_drop _ hx.ok, ?_, ?_⟩
   ·rw [dv_drop hx.ok _ (by omega), hx.val]
   ·intro _
    rw [List.length_drop, Nat.le_div_iff_mul_le (W_pos _), ← W_add, show x.length - k / 24 - 1 + k / 24 = x.length - 1 by omega]
    exact hx.can (by intro e; rw [e] at hq; simp at hq)
  have hl : (x.drop (k / 24)).length = x.length - k / 24 := List.length_drop
  have t := r4_two (k % 24) (by omega)
  obtain ⟨s, s1, s2⟩ := r4_Shr_l hy (r := k % 24) (by omega) (by omega) (x.drop (k / 24)).length 0 (List.replicate (x.drop (k / 24)).length 0) (by omega) (okD_zeros _) (by simp) (by rw [dv_zeros, W_zero, Nat.mod_one])
  refine ⟨s, ?_, ?_⟩
  ·simp only [if_neg (show ¬ ((k / 24 : Nat) : Int) ≥ (x.length : Int) by omega), if_pos (show (0 : Int) ≤ ((k / 24 : Nat) : Int) by omega), if_pos (show ((k / 24 : Nat) : Int) ≤ (x.length : Int) by omega), Int.toNat_natCast, Option.bind_some]
   refine Ev.bind t ?_
   simp only [if_pos (show (0 : Int) ≤ ((x.drop (k / 24)).length : Int) by omega), if_pos (show (x.drop (k / 24)).length ≤ 35184372088832 by omega)]
   exact s1
  ·have e : a / W (k / 24) / 2 ^ (k % 24) = a / 2 ^ k := by
    unfold W
    rw [div_div_pow]
    congr 2; omega
   rw [e] at s2
   exact s2
theorem r4_Low_l {x : List Int} {a k : Nat} (hx : DL x a) (hk : k ≤ 20000) (hn : x.length ≤ 1000) : ∀ (d i : Nat), i + d = x.length → (a % W i = 0 ∨ (k ≤ 24 * i ∧ a % 2 ^ k = 0)) →
  Ev (fun n => vernierref04_Low.l0 n x (k : Int) (i : Int)) (decide (a % 2 ^ k ≠ 0))
 | 0, i, h, hv => by
  have h0 : a % 2 ^ k = 0 := by
   rcases hv with hv | hv
   ·rw [hx.mod_all (by omega)] at hv
    rw [hv, Nat.zero_mod]
   ·exact hv.2
  refine evs ?_
  simp only [vernierref04_Low.l0, nI_eq, if_neg (show ¬ (i : Int) < (x.length : Int) by omega)]
  refine evs ?_
  simp only [vernierref04_Low.j1, nI_eq, Bool.false_eq_true, if_false]
  exact evn (by simp [h0])
 | d + 1, i, h, hv => by
  have h4 : i < 4611686018427387904 := by omega
  have h5 : i < 20000 := by omega
  refine evs ?_
  simp only [vernierref04_Low.l0, nI_eq, if_pos (show (i : Int) < (x.length : Int) by omega), w_24 h5]
  refine evs ?_
  by_cases hki : k ≤ 24 * i
  ·have h0 : a % 2 ^ k = 0 := by
    rcases hv with hv | hv
    ·have := mod_pow_le (a := a) hki
     unfold W at hv
     rw [hv, Nat.zero_mod] at this
     exact this.symm
    ·exact hv.2
   simp only [vernierref04_Low.j1, nI_eq, decide_eq_false (show ¬ ((24 * i : Nat) : Int) < (k : Int) by omega), Bool.false_eq_true, if_false]
   exact evn (by simp [h0])
  ·have hv : a % W i = 0 := hv.resolve_right (fun h => hki h.1)
   have e1 : ((k : Int) - ((24 * i : Nat) : Int)) = ((k - 24 * i : Nat) : Int) := by omega
   have e2 : wrap64 ((k - 24 * i : Nat) : Int) = ((k - 24 * i : Nat) : Int) := w64 (by omega) (by omega)
   simp only [vernierref04_Low.j1, nI_eq, decide_eq_true (show ((24 * i : Nat) : Int) < (k : Int) by omega), if_true, w_24 h5, e1, e2]
   by_cases hlt : k - 24 * i < 24
   ·simp only [if_pos (show ((k - 24 * i : Nat) : Int) < 24 by omega)]
    refine Ev.bind (r4_two (k - 24 * i) (by omega)) ?_
    have hp := two_pos (k - 24 * i)
    have hne : ¬ ((2 ^ (k - 24 * i) : Nat) : Int) = 0 := by generalize 2 ^ (k - 24 * i) = z at *; omega
    have hm : a % 2 ^ k = W i * (dg a i % 2 ^ (k - 24 * i)) := by
     have e : (2 : Nat) ^ k = W i * 2 ^ (k - 24 * i) := by unfold W; rw [← Nat.pow_add]; congr 1; omega
     rw [e, Nat.mod_mul, hv, Nat.zero_add]
     unfold dg
     rw [show (16777216 : Nat) = 2 ^ 24 by decide, mod_pow_le (by omega)]
    simp only [if_pos (show (0 : Int) ≤ (i : Int) by omega), if_pos (show (i : Int) < (x.length : Int) by omega), if_neg hne, hx.rd, tmodN]
    by_cases hz : dg a i % 2 ^ (k - 24 * i) = 0
    ·have h0 : a % 2 ^ k = 0 := by rw [hm, hz, Nat.mul_zero]
     simp only [if_pos (show ((dg a i % 2 ^ (k - 24 * i) : Nat) : Int) = 0 by omega), w_succ h4]
     exact r4_Low_l hx hk hn d (i + 1) (by omega) (.inr ⟨by omega, h0⟩)
    ·have h0 : a % 2 ^ k ≠ 0 := by
      rw [hm]; exact Nat.mul_ne_zero (Nat.ne_of_gt (W_pos i)) hz
     simp only [if_neg (show ¬ ((dg a i % 2 ^ (k - 24 * i) : Nat) : Int) = 0 by omega)]
     exact evn (by simp [h0])
   ·have hd := dg_lt a i
    have hm : a % W (i + 1) = W i * dg a i := by rw [mod_W_succ, hv, Nat.zero_add]
    simp only [if_neg (show ¬ ((k - 24 * i : Nat) : Int) < 24 by omega), if_pos (show (0 : Int) ≤ (i : Int) by omega), if_pos (show (i : Int) < (x.length : Int) by omega), hx.rd, tmodL, Nat.mod_eq_of_lt hd]
    by_cases hz : dg a i = 0
    ·simp only [if_pos (show ((dg a i : Nat) : Int) = 0 by omega), w_succ h4]
     exact r4_Low_l hx hk hn d (i + 1) (by omega) (.inl (by rw [hm, hz, Nat.mul_zero]))
    ·have h0 : a % 2 ^ k ≠ 0 := by
      intro h0
      have := mod_pow_le (a := a) (b := 24 * (i + 1)) (c := k) (by omega)
      rw [h0, Nat.zero_mod] at this
      have h1 : a % W (i + 1) = 0 := this.symm
      rw [hm] at h1
      exact Nat.mul_ne_zero (Nat.ne_of_gt (W_pos i)) hz h1
     simp only [if_neg (show ¬ ((dg a i : Nat) : Int) = 0 by omega)]
     exact evn (by simp [h0])
theorem r4_Low {x : List Int} {a k : Nat} (hx : DL x a) (hk : k ≤ 20000) (hn : x.length ≤ 1000) : Ev (fun n => vernierref04_Low.f n x (k : Int)) (decide (a % 2 ^ k ≠ 0)) := by
 unfold vernierref04_Low.f; try simp only [nI_eq]
 exact r4_Low_l hx hk hn x.length 0 (by omega) (.inl (by rw [W_zero, Nat.mod_one]))
theorem r4_Word {x : List Int} {a : Nat} (hx : DL x a) : Ev (fun k => vernierref04_Word.f k x) ((a % 18446744073709551616 : Nat) : Int) := by
 unfold vernierref04_Word.f
 have d0 := r4_digit hx 0
 have d1 := r4_digit hx 1
 have d2 := r4_digit hx 2
 have b0 := dg_lt a 0
 have b1 := dg_lt a 1
 have b2 := dg_lt a 2
 have w1 : wrap64 ((2 : Int) - 1) = 1 := w64 (by decide) (by decide)
 have w2 : wrap64 ((1 : Int) - 1) = 0 := w64 (by decide) (by decide)
 have w3 : wrap64 ((0 : Int) - 1) = -1 := w64 (by decide) (by decide)
 have d0' : vernierref04_digit.f x 0 = _ := d0
 have d1' : vernierref04_digit.f x 1 = _ := d1
 have d2' : vernierref04_digit.f x 2 = _ := d2
 refine evs ?_
 simp only [vernierref04_Word.l0, nI_eq, if_pos (show (2 : Int) ≥ 0 by decide), d2', Option.bind_some, w1]
 refine evs ?_
 simp only [vernierref04_Word.l0, nI_eq, if_pos (show (1 : Int) ≥ 0 by decide), d1', Option.bind_some, w2]
 refine evs ?_
 simp only [vernierref04_Word.l0, nI_eq, if_pos (show (0 : Int) ≥ 0 by decide), d0', Option.bind_some, w3]
 refine evs ?_
 simp only [vernierref04_Word.l0, nI_eq, if_neg (show ¬ (-1 : Int) ≥ 0 by decide)]
 refine evn ?_
 congr 1
 simp only [u64_wrap]
 have e0 : dg a 0 = a % 16777216 := by unfold dg; rw [W_zero, Nat.div_one]
 have e1 : dg a 1 = a / 16777216 % 16777216 := by unfold dg; rfl
 have e2 : dg a 2 = a / 281474976710656 % 16777216 := by unfold dg; rfl
 rw [e0, e1, e2]
 omega
theorem r4_Cmp_l0 {a b : List Int} {A B : Nat} (ha : DL a A) (hb : DL b B) (hl : a.length = b.length) (hn : a.length ≤ 1000) : ∀ (m : Nat), m ≤ a.length → A / W m = B / W m → Ev (fun k => vernierref04_Cmp.l0 k a b ((m : Int) - 1)) (cmpN A B) := by
 intro m
 induction m with
 | zero =>
  intro hm h
  rw [W_zero, Nat.div_one, Nat.div_one] at h
  refine evs ?_
  simp only [vernierref04_Cmp.l0, nI_eq, if_neg (show ¬ ((0 : Nat) : Int) - 1 ≥ 0 by decide)]
  refine evn ?_
  rw [h]; unfold cmpN; simp
 | succ m ih =>
  intro hm h
  obtain ⟨t1, t2⟩ := dg_top A B m h
  obtain ⟨_, t3⟩ := dg_top B A m h.symm
  have e : ((m + 1 : Nat) : Int) - 1 = (m : Int) := by omega
  have hm4 : m < 4611686018427387904 := by omega
  refine evs ?_
  simp only [vernierref04_Cmp.l0, nI_eq, e, if_pos (show (m : Int) ≥ 0 by omega), if_pos (show (0 : Int) ≤ (m : Int) by omega), if_pos (show (m : Int) < (a.length : Int) by omega), if_pos (show (m : Int) < (b.length : Int) by omega), ha.rd, hb.rd, w_less hm4]
  by_cases h1 : dg A m < dg B m
  ·have := t2.mpr h1
   have hlt : A < B := Nat.lt_of_not_le fun hc => absurd (Nat.div_le_div_right (c := W m) hc) (by omega)
   simp only [if_pos (show ((dg A m : Nat) : Int) < ((dg B m : Nat) : Int) by omega)]
   refine evn ?_
   unfold cmpN; rw [if_pos hlt]
  ·simp only [if_neg (show ¬ ((dg A m : Nat) : Int) < ((dg B m : Nat) : Int) by omega)]
   by_cases h2 : dg B m < dg A m
   ·have := t3.mpr h2
    have hlt : B < A := Nat.lt_of_not_le fun hc => absurd (Nat.div_le_div_right (c := W m) hc) (by omega)
    simp only [if_pos (show ((dg A m : Nat) : Int) > ((dg B m : Nat) : Int) by omega)]
    refine evn ?_
    unfold cmpN; rw [if_neg (by omega), if_neg (by omega)]
   ·simp only [if_neg (show ¬ ((dg A m : Nat) : Int) > ((dg B m : Nat) : Int) by omega)]
    exact ih (by omega) (t1.mpr (by omega))
theorem r4_Cmp {a b : List Int} {A B : Nat} (ha : DL a A) (hb : DL b B) (hn : a.length ≤ 1000) (hm : b.length ≤ 1000) : Ev (fun k => vernierref04_Cmp.f k a b) (cmpN A B) := by
 unfold vernierref04_Cmp.f; try simp only [nI_eq]
 by_cases hl : a.length = b.length
 ·have hn4 : a.length < 4611686018427387904 := by omega
  simp only [if_pos (show (a.length : Int) = (b.length : Int) by omega), w_less hn4]
  refine r4_Cmp_l0 ha hb hl hn a.length (Nat.le_refl _) ?_
  rw [Nat.div_eq_of_lt ha.lt, Nat.div_eq_of_lt (by rw [hl]; exact hb.lt)]
 ·simp only [if_neg (show ¬ (a.length : Int) = (b.length : Int) by omega)]
  rcases Nat.lt_or_ge a.length b.length with h | h
  ·have h1 := ha.lt
   have h2 := (hb.len_iff a.length).mp h
   simp only [if_pos (show (a.length : Int) < (b.length : Int) by omega)]
   refine evn ?_
   unfold cmpN; rw [if_pos (by omega)]
  ·have h1 := hb.lt
   have h2 := (ha.len_iff b.length).mp (by omega)
   simp only [if_neg (show ¬ (a.length : Int) < (b.length : Int) by omega)]
   refine evn ?_
   unfold cmpN; rw [if_neg (by omega), if_neg (by omega)]
theorem r4_Sub_l {x y : List Int} {a b : Nat} (hx : DL x a) (hy : DL y b) (hab : b ≤ a) (hn : x.length ≤ 1000) : ∀ (d : Nat) (o : List Int) (c : Nat), o.length + d = x.length → okD o → c ≤ 1 → dv o + b % W o.length = a % W o.length + W o.length * c →
  ∃ r, Ev (fun k => vernierref04_Sub.l0 k x y o (c : Int) (o.length : Int)) r ∧ DL r (a - b)
 | 0, o, c, hl, hok, hc, hv => by
  have hlt := hx.lt
  have hdo := dv_lt hok
  rw [show o.length = x.length by omega] at hv hdo
  rw [Nat.mod_eq_of_lt hlt, Nat.mod_eq_of_lt (show b < W x.length by omega)] at hv
  have hc0 : c = 0 := by
   rcases (show c = 0 ∨ c = 1 by omega) with h | h
   ·exact h
   ·rw [h, Nat.mul_one] at hv; omega
  rw [hc0, Nat.mul_zero, Nat.add_zero] at hv
  obtain ⟨r, s1, s2⟩ := r4_Cut hok (by omega)
  refine ⟨r, evs ?_, by rw [show a - b = dv o by omega]; exact s2⟩
  simp only [vernierref04_Sub.l0, nI_eq, if_neg (show ¬ (o.length : Int) < (x.length : Int) by omega)]
  exact Ev.bind s1 (Ev.now _)
 | d + 1, o, c, hl, hok, hc, hv => by
  have da := dg_lt a o.length
  have db := dg_lt b o.length
  have hol : o.length < 4611686018427387904 := by omega
  have hol2 : o.length < 17592186044416 := by omega
  have w1 : wrap64 (((dg a o.length : Nat) : Int) - ((dg b o.length : Nat) : Int)) = ((dg a o.length : Nat) : Int) - ((dg b o.length : Nat) : Int) := w64 (by omega) (by omega)
  have w2 : wrap64 (((dg a o.length : Nat) : Int) - ((dg b o.length : Nat) : Int) - (c : Int)) = ((dg a o.length : Nat) : Int) - ((dg b o.length : Nat) : Int) - (c : Int) := w64 (by omega) (by omega)
  have step : ∀ (u t : Nat), u < 16777216 → t ≤ 1 → dg a o.length + 16777216 * t = dg b o.length + c + u →
    ∃ r, Ev (fun k => vernierref04_Sub.l0 k x y (o ++ [(u : Int)]) (t : Int) ((o.length + 1 : Nat) : Int)) r ∧ DL r (a - b) := by
   intro u t hu ht he
   have ih := r4_Sub_l hx hy hab hn d (o ++ [(u : Int)]) t (by simp; omega) (okD_snoc hok hu) ht (by
    rw [List.length_append, List.length_singleton, dv_snoc, mod_W_succ, mod_W_succ, W_succ]
    have := sub_step hv he
    grind)
   rw [List.length_append, List.length_singleton] at ih
   exact ih
  by_cases h : dg a o.length < dg b o.length + c
  ·obtain ⟨r, r1, r2⟩ := step (dg a o.length + 16777216 - dg b o.length - c) 1 (by omega) (by omega) (by omega)
   refine ⟨r, evs ?_, r2⟩
   have w3 : wrap64 (((dg a o.length : Nat) : Int) - ((dg b o.length : Nat) : Int) - (c : Int) + 16777216) = ((dg a o.length + 16777216 - dg b o.length - c : Nat) : Int) := by rw [w64 (by omega) (by omega)]; omega
   simp only [vernierref04_Sub.l0, nI_eq, if_pos (show (o.length : Int) < (x.length : Int) by omega), if_pos (show (0 : Int) ≤ (o.length : Int) by omega), r4_digit hy, Option.bind_some, hx.rd, w1, w2, if_pos (show ((dg a o.length : Nat) : Int) - ((dg b o.length : Nat) : Int) - (c : Int) < 0 by omega), w3, if_pos hol2, w_succ hol]
   exact r1
  ·obtain ⟨r, r1, r2⟩ := step (dg a o.length - dg b o.length - c) 0 (by omega) (by omega) (by omega)
   refine ⟨r, evs ?_, r2⟩
   have w3 : wrap64 (((dg a o.length : Nat) : Int) - ((dg b o.length : Nat) : Int) - (c : Int)) = ((dg a o.length - dg b o.length - c : Nat) : Int) := by rw [w2]; omega
   simp only [vernierref04_Sub.l0, nI_eq, if_pos (show (o.length : Int) < (x.length : Int) by omega), if_pos (show (0 : Int) ≤ (o.length : Int) by omega), r4_digit hy, Option.bind_some, hx.rd, w1, w3, if_neg (show ¬ ((dg a o.length - dg b o.length - c : Nat) : Int) < 0 by omega), if_pos hol2, w_succ hol]
   exact r1
theorem r4_Sub {x y : List Int} {a b : Nat} (hx : DL x a) (hy : DL y b) (hab : b ≤ a) (hn : x.length ≤ 1000) : ∃ r, Ev (fun k => vernierref04_Sub.f k x y) r ∧ DL r (a - b) := by
 have := r4_Sub_l hx hy hab hn x.length [] 0 (by simp) okD_nil (by omega) (by simp [dv, W_zero, Nat.mod_one])
 simpa [vernierref04_Sub.f] using this
end Go.Proofs.Ytfbbnpliaokmbaa.V
namespace Go.Proofs.Ytfbbnpliaokmbaa.V
open Go Go.RowKit Go.Proofs.Ytfbbnpliaokmbaa.Ab Go.Proofs.Ytfbbnpliaokmbaa.Fn
set_option linter.unusedVariables false
set_option linter.unusedSimpArgs false
def n4 (a b c d : Nat) : Nat := ((a * 18446744073709551616 + b) * 18446744073709551616 + c) * 18446744073709551616 + d
structure W4 (a b c d W : Nat) : Prop where
 ha : a < 18446744073709551616
 hb : b < 18446744073709551616
 hc : c < 18446744073709551616
 hd : d < 18446744073709551616
 e : n4 a b c d = W
theorem W4.zero : W4 0 0 0 0 0 := ⟨by decide, by decide, by decide, by decide, rfl⟩
theorem W4.of {V : Nat} (h : V < 2 ^ 128) : W4 (V / 18446744073709551616) (V % 18446744073709551616) 0 0 (V * 2 ^ 128) := by
 rw [p128] at *
 refine ⟨by omega, by omega, by decide, by decide, ?_⟩
 unfold n4
 omega
theorem W4.lt {a b c d W : Nat} (h : W4 a b c d W) : W < 2 ^ 256 := by
 obtain ⟨ha, hb, hc, hd, e⟩ := h
 unfold n4 at e
 rw [show (2 : Nat) ^ 256 = 18446744073709551616 * 18446744073709551616 * 18446744073709551616 * 18446744073709551616 by decide]
 omega
theorem W4.eq0 {a b c d W : Nat} (h : W4 a b c d W) : W = 0 ↔ a = 0 ∧ b = 0 ∧ c = 0 ∧ d = 0 := by
 obtain ⟨ha, hb, hc, hd, e⟩ := h
 unfold n4 at e
 omega
theorem W4.parts {a b c d W : Nat} (h : W4 a b c d W) : 2 ^ 128 * (a * 18446744073709551616 + b) + (c * 18446744073709551616 + d) = W := by
 have e := h.e
 unfold n4 at e
 rw [p128]
 omega
theorem W4.lowlt {a b c d W : Nat} (h : W4 a b c d W) : c * 18446744073709551616 + d < 2 ^ 128 := by
 have e := h.hc
 have e := h.hd
 rw [p128]
 omega
theorem W4.top {a b c d W : Nat} (h : W4 a b c d W) : a * 18446744073709551616 + b = W / 2 ^ 128 := by
 have h2 := h.parts
 have h3 := h.lowlt
 rw [← h2, Nat.mul_add_div (two_pos 128), Nat.div_eq_of_lt h3, Nat.add_zero]
theorem W4.low {a b c d W : Nat} (h : W4 a b c d W) : W % 2 ^ 128 = c * 18446744073709551616 + d := by
 have h2 := h.parts
 have h3 := h.lowlt
 rw [← h2, Nat.mul_add_mod, Nat.mod_eq_of_lt h3]
theorem W4.hi {a b c d W : Nat} (h : W4 a b c d W) : (a : Int) = TH (W / 2 ^ 128) ∧ (b : Int) = TL (W / 2 ^ 128) := by
 rw [← h.top]
 have := h.hb
 exact ⟨(TH_of this).symm, (TL_of this).symm⟩
theorem n4_shift {B p q a b c d : Nat} (hB : p * q = B) (hp : 0 < p) (hq : 0 < q) (ha : a < B) (hb : b < B) (hc : c < B) (hd : d < B) :
  a / p < B ∧ b / p + a % p * q < B ∧ c / p + b % p * q < B ∧ d / p + c % p * q < B ∧
  (((a * B + b) * B + c) * B + d) / p = (((a / p) * B + (b / p + a % p * q)) * B + (c / p + b % p * q)) * B + (d / p + c % p * q) ∧
  (((a * B + b) * B + c) * B + d) % p = d % p := by
 have key : ∀ x y, x < B → x / p + y % p * q < B := by
  intro x y hx
  have h1 : x / p < q := by rw [Nat.div_lt_iff_lt_mul hp, Nat.mul_comm, hB]; exact hx
  have h2 := Nat.mul_le_mul_right q (show y % p + 1 ≤ p from Nat.mod_lt _ hp)
  rw [hB, Nat.add_mul] at h2
  omega
 have e : ((a * B + b) * B + c) * B + d = p * ((((a / p) * B + (b / p + a % p * q)) * B + (c / p + b % p * q)) * B + (d / p + c % p * q)) + d % p := by
  have da := Nat.div_add_mod a p
  have db := Nat.div_add_mod b p
  have dc := Nat.div_add_mod c p
  have dd := Nat.div_add_mod d p
  generalize a / p = a1 at *
  generalize a % p = a0 at *
  generalize b / p = b1 at *
  generalize b % p = b0 at *
  generalize c / p = c1 at *
  generalize c % p = c0 at *
  generalize d / p = d1 at *
  generalize d % p = d0 at *
  subst hB
  subst da db dc dd
  grind
 refine ⟨Nat.lt_of_le_of_lt (Nat.div_le_self _ _) ha, key b a hb, key c b hc, key d c hd, ?_, ?_⟩
 ·rw [e, Nat.mul_add_div hp, Nat.div_eq_of_lt (Nat.mod_lt _ hp), Nat.add_zero]
 ·rw [e, Nat.mul_add_mod, Nat.mod_mod]
theorem or_shift {x y s : Nat} (hs : s ≤ 64) (hx : x < 18446744073709551616) : Go.bits .or .u64 (shr .u64 (x : Int) (s : Int)) (shl .u64 (y : Int) ((64 - s : Nat) : Int)) = ((x / 2 ^ s + y % 2 ^ s * 2 ^ (64 - s) : Nat) : Int) := by
 have hq := pow_split hs
 have e : y * 2 ^ (64 - s) % 18446744073709551616 = y % 2 ^ s * 2 ^ (64 - s) := by
  rw [← p64, ← hq, Nat.mul_mod_mul_right]
 have h1 : x / 2 ^ s < 2 ^ (64 - s) := by
  rw [Nat.div_lt_iff_lt_mul (two_pos s), Nat.mul_comm, hq, p64]; exact hx
 rw [shr_nat x s hs, shl_nat y (64 - s) (by omega), e, or_nat _ _ (Nat.lt_of_le_of_lt (Nat.div_le_self _ _) hx) (by rw [← e]; exact Nat.mod_lt _ (by decide)), Nat.or_comm, or_parts h1, Nat.add_comm]
theorem under_l0 : ∀ (m s : Nat) (a b c d : Nat) (L : Bool), s / 64 = m → s < 4294967296 → a < 18446744073709551616 → b < 18446744073709551616 → c < 18446744073709551616 → d < 18446744073709551616 →
  ∃ a' b' c' d' : Nat, W4 a' b' c' d' (n4 a b c d / 2 ^ s) ∧ Ev (fun k => broad_wide_under.l0 k (s : Int) L (a : Int) (b : Int) (c : Int) (d : Int)) ((a' : Int), (b' : Int), (c' : Int), (d' : Int), L || decide (n4 a b c d % 2 ^ s ≠ 0))
 | 0, s, a, b, c, d, L, hm, hs, ha, hb, hc, hd => by
  have h64 : s < 64 := by omega
  have sp := pow_split (Nat.le_of_lt h64)
  rw [p64] at sp
  have e64 : wrap64 (64 - (s : Int)) = ((64 - s : Nat) : Int) := by rw [w64 (by omega) (by omega)]; omega
  have c1 : ¬ (s : Int) ≥ 64 := by omega
  have c2 : (0 : Int) ≤ (s : Int) := by omega
  have c3 : (0 : Int) ≤ ((64 - s : Nat) : Int) := by omega
  obtain ⟨k1, k2, k3, k4, k5, k6⟩ := n4_shift sp (two_pos s) (two_pos _) ha hb hc hd
  refine ⟨_, _, _, _, ⟨k1, k2, k3, k4, k5.symm⟩, evs ?_⟩
  rw [show n4 a b c d % 2 ^ s = d % 2 ^ s from k6]
  simp only [broad_wide_under.l0]
  simp only [if_neg c1]
  by_cases h0 : s = 0
  ·subst h0
   rw [if_pos (show ((0 : Nat) : Int) = 0 from rfl)]
   refine evn ?_
   simp only [Nat.pow_zero, Nat.div_one, Nat.mod_one, Nat.zero_mul, Nat.add_zero]
   cases L <;> rfl
  ·rw [if_neg (show ¬ (s : Int) = 0 from fun h => h0 (Int.ofNat.inj h)), e64]
   have hz : (shl .u64 (d : Int) ((64 - s : Nat) : Int) != 0) = decide (d % 2 ^ s ≠ 0) := by
    rw [shl_nat d (64 - s) (Nat.sub_le _ _), ← p64, ← pow_split (Nat.le_of_lt h64), Nat.mul_mod_mul_right]
    have := two_pos (64 - s)
    rw [Bool.eq_iff_iff]
    simp only [bne_iff_ne, decide_eq_true_eq, ne_eq, Int.natCast_eq_zero, Nat.mul_eq_zero]
    constructor
    ·intro h h'; exact h (.inl h')
    ·rintro h (h' | h')
     ·exact h h'
     ·omega
   rw [or_shift (Nat.le_of_lt h64) hb, or_shift (Nat.le_of_lt h64) hc, or_shift (Nat.le_of_lt h64) hd, shr_nat a s (Nat.le_of_lt h64), hz]
   cases L
   ·simp only [Bool.false_or]
    rw [if_neg (by decide), if_pos c3, if_pos c2]
    exact Ev.now _
   ·simp only [Bool.true_or]
    rw [if_pos trivial, if_pos c2, if_pos c3]
    exact Ev.now _
 | m + 1, s, a, b, c, d, L, hm, hs, ha, hb, hc, hd => by
  have h64 : 64 ≤ s := by omega
  have e64 : wrap64 ((s : Int) - 64) = ((s - 64 : Nat) : Int) := by rw [w64 (by omega) (by omega)]; omega
  obtain ⟨a', b', c', d', hw, hE⟩ := under_l0 m (s - 64) 0 a b c (L || decide (d ≠ 0)) (by omega) (by omega) (by decide) ha hb hc
  have hn : n4 0 a b c = n4 a b c d / 2 ^ 64 := by unfold n4; rw [p64]; omega
  have hd0 : n4 a b c d % 2 ^ 64 = d := by unfold n4; rw [p64]; omega
  have hsp : (2 : Nat) ^ s = 2 ^ 64 * 2 ^ (s - 64) := by rw [← Nat.pow_add]; congr 1; omega
  have e1 : n4 0 a b c / 2 ^ (s - 64) = n4 a b c d / 2 ^ s := by rw [hn, hsp, Nat.div_div_eq_div_mul]
  have e2 : (L || decide (d ≠ 0) || decide (n4 0 a b c % 2 ^ (s - 64) ≠ 0)) = (L || decide (n4 a b c d % 2 ^ s ≠ 0)) := by
   rw [hsp, Nat.mod_mul, hd0, ← hn, Bool.or_assoc]
   congr 1
   have := two_pos 64
   rw [Bool.eq_iff_iff]
   simp only [Bool.or_eq_true, decide_eq_true_eq, ne_eq, Nat.add_eq_zero_iff, Nat.mul_eq_zero]
   generalize n4 0 a b c % 2 ^ (s - 64) = r
   have : (2 : Nat) ^ 64 ≠ 0 := by omega
   constructor
   ·rintro (h | h) ⟨h1, h2⟩
    ·exact h h1
    ·rcases h2 with h2 | h2
     ·exact this h2
     ·exact h h2
   ·intro h
    by_cases h1 : d = 0
    ·exact .inr fun h2 => h ⟨h1, .inr h2⟩
    ·exact .inl h1
  rw [e1] at hw
  rw [e2] at hE
  refine ⟨a', b', c', d', hw, evs ?_⟩
  simp only [broad_wide_under.l0]
  simp only [if_pos (show (s : Int) ≥ 64 by omega), e64]
  have hne : ((d : Int) != 0) = decide (d ≠ 0) := by
   rw [Bool.eq_iff_iff]; simp
  simp only [hne]
  cases L
  ·simp only [if_neg (show ¬ (false = true) by decide)]; exact hE
  ·simp only [if_pos]; exact hE
theorem under_eq {a b c d W s : Nat} (h : W4 a b c d W) (hs : s < 9223372036854775808) : ∃ a' b' c' d' : Nat, W4 a' b' c' d' (W / 2 ^ s) ∧
  Ev (fun k => broad_wide_under.f k (a : Int) (b : Int) (c : Int) (d : Int) (s : Int)) ((a' : Int), (b' : Int), (c' : Int), (d' : Int), decide (W % 2 ^ s ≠ 0)) := by
 unfold broad_wide_under.f
 by_cases h2 : 256 ≤ s
 ·have hlt : W < 2 ^ s := Nat.lt_of_lt_of_le h.lt (pow_le h2)
  refine ⟨0, 0, 0, 0, by rw [Nat.div_eq_of_lt hlt]; exact W4.zero, ?_⟩
  simp only [if_pos (show (s : Int) ≥ 256 by omega)]
  rw [Nat.mod_eq_of_lt hlt]
  refine evn ?_
  have hb : (!(((a : Int) == 0) && (((b : Int) == 0) && (((c : Int) == 0) && ((d : Int) == 0))))) = decide (W ≠ 0) := by
   have := h.eq0
   rw [Bool.eq_iff_iff]
   simp only [Bool.not_eq_true', decide_eq_true_eq, ne_eq, this, Bool.and_eq_false_iff, beq_eq_false_iff_ne, Int.natCast_eq_zero]
   omega
  rw [hb]; rfl
 ·simp only [if_neg (show ¬ (s : Int) ≥ 256 by omega)]
  obtain ⟨a', b', c', d', hw, hE⟩ := under_l0 (s / 64) s a b c d false rfl (by omega) h.ha h.hb h.hc h.hd
  rw [h.e, Bool.false_or] at hE
  rw [h.e] at hw
  exact ⟨a', b', c', d', hw, hE⟩
theorem Ob {α β : Type} {o : Option α} {v : α} {f : α → Option β} {r : Option β} (h : o = some v) (h2 : f v = r) : o.bind f = r := by subst h; exact h2
theorem add64_nat {x y r : Nat} (hx : x < 18446744073709551616) (hy : y < 18446744073709551616) (hr : r ≤ 1) : ∃ m q : Nat, m < 18446744073709551616 ∧ q ≤ 1 ∧ x + y + r = 18446744073709551616 * q + m ∧ bits_Add64.f (x : Int) (y : Int) (r : Int) = some ((m : Int), (q : Int)) := by
 refine ⟨(x + y + r) % 18446744073709551616, (x + y + r) / 18446744073709551616, Nat.mod_lt _ (by decide), by omega, (Nat.div_add_mod _ _).symm, ?_⟩
 unfold bits_Add64.f
 rw [if_pos (by omega)]
 rfl
theorem p256 : (2 : Nat) ^ 256 = 18446744073709551616 * 18446744073709551616 * 18446744073709551616 * 18446744073709551616 := by decide
theorem sum4 {B a b c d a' b' c' d' q0 q1 q2 q3 w z y x : Nat} (w3 : d + d' + 0 = B * q0 + w) (z3 : c + c' + q0 = B * q1 + z) (y3 : b + b' + q1 = B * q2 + y) (x3 : a + a' + q2 = B * q3 + x) :
  (((a * B + b) * B + c) * B + d) + (((a' * B + b') * B + c') * B + d') = B * B * B * B * q3 + (((x * B + y) * B + z) * B + w) := by
 have e1 : (((a * B + b) * B + c) * B + d) + (((a' * B + b') * B + c') * B + d') = (((a + a') * B + (b + b')) * B + (c + c')) * B + (d + d' + 0) := by grind
 have e2 : (((a + a') * B + (b + b')) * B + (c + c')) * B + (B * q0 + w) = (((a + a') * B + (b + b')) * B + (c + c' + q0)) * B + w := by grind
 have e3 : (((a + a') * B + (b + b')) * B + (B * q1 + z)) * B + w = (((a + a') * B + (b + b' + q1)) * B + z) * B + w := by grind
 have e4 : (((a + a') * B + (B * q2 + y)) * B + z) * B + w = (((a + a' + q2) * B + y) * B + z) * B + w := by grind
 rw [e1, w3, e2, z3, e3, y3, e4, x3]
 grind
theorem dif4 {B a b c d a' b' c' d' q0 q1 q2 q3 w z y x r : Nat} (w3 : d + B * q0 = d' + r + w) (z3 : c + B * q1 = c' + q0 + z) (y3 : b + B * q2 = b' + q1 + y) (x3 : a + B * q3 = a' + q2 + x) :
  (((a * B + b) * B + c) * B + d) + B * B * B * B * q3 = (((a' * B + b') * B + c') * B + d') + r + (((x * B + y) * B + z) * B + w) := by
 have a1 := congrArg (fun t => t * (B * B * B)) x3
 have a2 := congrArg (fun t => t * (B * B)) y3
 have a3 := congrArg (fun t => t * B) z3
 grind
theorem plus_eq {a b c d W a' b' c' d' X : Nat} (h : W4 a b c d W) (h' : W4 a' b' c' d' X) : ∃ x y z w q : Nat, W4 x y z w ((W + X) % 2 ^ 256) ∧ q = (W + X) / 2 ^ 256 ∧
  broad_wide_plus.f (a : Int) (b : Int) (c : Int) (d : Int) (a' : Int) (b' : Int) (c' : Int) (d' : Int) = some ((x : Int), (y : Int), (z : Int), (w : Int), (q : Int)) := by
 obtain ⟨ha, hb, hc, hd, e⟩ := h
 obtain ⟨ga, gb, gc, gd, g⟩ := h'
 obtain ⟨w, q0, w1, w2, w3, w4⟩ := add64_nat (r := 0) hd gd (by decide)
 obtain ⟨z, q1, z1, z2, z3, z4⟩ := add64_nat hc gc w2
 obtain ⟨y, q2, y1, y2, y3, y4⟩ := add64_nat hb gb z2
 obtain ⟨x, q3, x1, x2, x3, x4⟩ := add64_nat ha ga y2
 have hw : W4 x y z w (n4 x y z w) := ⟨x1, y1, z1, w1, rfl⟩
 have hs : W + X = 2 ^ 256 * q3 + n4 x y z w := by
  have t := sum4 w3 z3 y3 x3
  rw [← p256] at t
  subst e g
  exact t
 refine ⟨x, y, z, w, q3, ?_, ?_, ?_⟩
 ·rw [hs, Nat.mul_add_mod, Nat.mod_eq_of_lt hw.lt]; exact hw
 ·rw [hs, Nat.mul_add_div (two_pos 256), Nat.div_eq_of_lt hw.lt]; rfl
 ·unfold broad_wide_plus.f
  rw [show (0 : Int) = ((0 : Nat) : Int) from rfl]
  exact Ob w4 (Ob z4 (Ob y4 (Ob x4 rfl)))
theorem sub64_nat {x y r : Nat} (hx : x < 18446744073709551616) (hy : y < 18446744073709551616) (hr : r ≤ 1) : ∃ m q : Nat, m < 18446744073709551616 ∧ q ≤ 1 ∧ x + 18446744073709551616 * q = y + r + m ∧ bits_Sub64.f (x : Int) (y : Int) (r : Int) = some ((m : Int), (q : Int)) := by
 by_cases h : x < y + r
 ·refine ⟨x + 18446744073709551616 - y - r, 1, by omega, by omega, by omega, ?_⟩
  unfold bits_Sub64.f
  rw [if_pos (by omega), if_pos (by omega)]
  congr 2
  omega
 ·refine ⟨x - y - r, 0, by omega, by omega, by omega, ?_⟩
  unfold bits_Sub64.f
  rw [if_pos (by omega), if_neg (by omega)]
  congr 2
  omega
theorem less_eq {a b c d W a' b' c' d' X r : Nat} (h : W4 a b c d W) (h' : W4 a' b' c' d' X) (hr : r ≤ 1) : ∃ x y z w q : Nat, W4 x y z w (n4 x y z w) ∧ q ≤ 1 ∧ W + 2 ^ 256 * q = X + r + n4 x y z w ∧
  broad_wide_less.f (a : Int) (b : Int) (c : Int) (d : Int) (a' : Int) (b' : Int) (c' : Int) (d' : Int) (r : Int) = some ((x : Int), (y : Int), (z : Int), (w : Int), (q : Int)) := by
 obtain ⟨ha, hb, hc, hd, e⟩ := h
 obtain ⟨ga, gb, gc, gd, g⟩ := h'
 obtain ⟨w, q0, w1, w2, w3, w4⟩ := sub64_nat hd gd hr
 obtain ⟨z, q1, z1, z2, z3, z4⟩ := sub64_nat hc gc w2
 obtain ⟨y, q2, y1, y2, y3, y4⟩ := sub64_nat hb gb z2
 obtain ⟨x, q3, x1, x2, x3, x4⟩ := sub64_nat ha ga y2
 refine ⟨x, y, z, w, q3, ⟨x1, y1, z1, w1, rfl⟩, x2, ?_, ?_⟩
 ·have t := dif4 w3 z3 y3 x3
  rw [← p256] at t
  subst e g
  exact t
 ·unfold broad_wide_less.f
  exact Ob w4 (Ob z4 (Ob y4 (Ob x4 rfl)))
theorem n4_up {B p q a b c d : Nat} (hB : p * q = B) (hp : 0 < p) (hq : 0 < q) (ha : a < q) (hb : b < B) (hc : c < B) (hd : d < B) :
  a * p + b / q < B ∧ b % q * p + c / q < B ∧ c % q * p + d / q < B ∧ d % q * p < B ∧
  (((a * p + b / q) * B + (b % q * p + c / q)) * B + (c % q * p + d / q)) * B + d % q * p = (((a * B + b) * B + c) * B + d) * p := by
 have key : ∀ x y, y < q → x < B → y * p + x / q < B := by
  intro x y hy hx
  have h1 : x / q < p := by rw [Nat.div_lt_iff_lt_mul hq, hB]; exact hx
  have h2 := Nat.mul_le_mul_right p (show y + 1 ≤ q from hy)
  rw [Nat.mul_comm q, hB, Nat.add_mul] at h2
  omega
 have k0 := key 0 (d % q) (Nat.mod_lt _ hq) (by omega)
 rw [Nat.zero_div, Nat.add_zero] at k0
 refine ⟨key b a ha hb, key c _ (Nat.mod_lt _ hq) hc, key d _ (Nat.mod_lt _ hq) hd, k0, ?_⟩
 have db := Nat.div_add_mod b q
 have dc := Nat.div_add_mod c q
 have dd := Nat.div_add_mod d q
 generalize b / q = b1 at *
 generalize b % q = b0 at *
 generalize c / q = c1 at *
 generalize c % q = c0 at *
 generalize d / q = d1 at *
 generalize d % q = d0 at *
 subst hB
 subst db dc dd
 grind
theorem or_up {x y s : Nat} (hs : s ≤ 64) (hy : y < 18446744073709551616) : Go.bits .or .u64 (shl .u64 (x : Int) (s : Int)) (shr .u64 (y : Int) ((64 - s : Nat) : Int)) = ((x % 2 ^ (64 - s) * 2 ^ s + y / 2 ^ (64 - s) : Nat) : Int) := by
 have hq := pow_split hs
 have e : x * 2 ^ s % 18446744073709551616 = x % 2 ^ (64 - s) * 2 ^ s := by
  rw [← p64, ← hq, Nat.mul_comm (2 ^ s), Nat.mul_mod_mul_right]
 have h1 : y / 2 ^ (64 - s) < 2 ^ s := by
  rw [Nat.div_lt_iff_lt_mul (two_pos _), hq, p64]; exact hy
 rw [shl_nat x s hs, shr_nat y (64 - s) (Nat.sub_le _ _), e, or_nat _ _ (by rw [← e]; exact Nat.mod_lt _ (by decide)) (Nat.lt_of_le_of_lt (Nat.div_le_self _ _) hy), or_parts h1]
theorem shl_up {x s : Nat} (hs : s ≤ 64) : shl .u64 (x : Int) (s : Int) = ((x % 2 ^ (64 - s) * 2 ^ s : Nat) : Int) := by
 have hq := pow_split hs
 rw [shl_nat x s hs, ← p64, ← hq, Nat.mul_comm (2 ^ s), Nat.mul_mod_mul_right]
theorem n4_bl {a b c d : Nat} (h0 : 0 < a) (hb : b < 18446744073709551616) (hc : c < 18446744073709551616) (hd : d < 18446744073709551616) : bl (n4 a b c d) = bl a + 192 := by
 have c0 := bl_pos h0
 have c1 := bl_le h0
 have c2 := bl_lt a
 have p192 : (2 : Nat) ^ 192 = 18446744073709551616 * 18446744073709551616 * 18446744073709551616 := by decide
 have lo : 18446744073709551616 * 18446744073709551616 * 18446744073709551616 * a ≤ n4 a b c d := by unfold n4; omega
 have hi : n4 a b c d < 18446744073709551616 * 18446744073709551616 * 18446744073709551616 * (a + 1) := by unfold n4; omega
 rw [← p192] at lo hi
 refine bl_unique (by omega) ?_ ?_
 ·rw [show bl a + 192 - 1 = 192 + (bl a - 1) by omega, Nat.pow_add]
  exact Nat.le_trans (Nat.mul_le_mul_left _ c1) lo
 ·rw [Nat.add_comm, Nat.pow_add]
  exact Nat.lt_of_lt_of_le hi (Nat.mul_le_mul_left _ c2)
def RaisedP (a b c d k : Nat) : Prop := ∃ a' b' c' d' : Nat, W4 a' b' c' d' (n4 a b c d * 2 ^ (256 - bl (n4 a b c d))) ∧
  Ev (fun n => broad_wide_raised.l0 n (k : Int) (a : Int) (b : Int) (c : Int) (d : Int)) ((a' : Int), (b' : Int), (c' : Int), (d' : Int), ((k + (256 - bl (n4 a b c d)) : Nat) : Int))
theorem raised_base {a b c d k : Nat} (h0 : 0 < a) (ha : a < 18446744073709551616) (hb : b < 18446744073709551616) (hc : c < 18446744073709551616) (hd : d < 18446744073709551616) (hk : k < 4294967296) : RaisedP a b c d k := by
 have hbl := n4_bl h0 hb hc hd
 have g0 := bl_pos h0
 have g1 := bl_le_of_lt (show a < 2 ^ 64 by rw [p64]; exact ha)
 have g2 := bl_lt a
 obtain ⟨s, hs⟩ : ∃ s, s = 64 - bl a := ⟨_, rfl⟩
 have s1 : 256 - bl (n4 a b c d) = s := by omega
 have s2 : 64 - s = bl a := by omega
 have s3 : s ≤ 64 := by omega
 have s4 : wrap64 (64 - (bl a : Int)) = (s : Int) := by rw [w64 (by omega) (by omega)]; omega
 have s5 : wrap64 (64 - (s : Int)) = ((64 - s : Nat) : Int) := by rw [w64 (by omega) (by omega)]; omega
 have s6 : wrap64 ((k : Int) + (s : Int)) = ((k + s : Nat) : Int) := by rw [w64 (by omega) (by omega)]; omega
 have s7 : ¬ (a : Int) = 0 := by omega
 have s8 : (0 : Int) ≤ (s : Int) := by omega
 have s9 : (0 : Int) ≤ ((64 - s : Nat) : Int) := by omega
 have sp := pow_split s3
 rw [p64] at sp
 obtain ⟨k1, k2, k3, k4, k5⟩ := n4_up sp (two_pos s) (two_pos _) (by rw [s2]; exact g2) hb hc hd
 have L : bits_LeadingZeros64.f (a : Int) = some (s : Int) := by
  unfold bits_LeadingZeros64.f bits_Len64.f
  rw [if_pos (by omega)]
  simp only [Option.bind_some]
  rw [Int.toNat_natCast, bitLen_bl (by rw [p64]; exact ha), s4]
 unfold RaisedP
 rw [s1]
 refine ⟨_, _, _, _, ⟨k1, k2, k3, k4, k5⟩, evs ?_⟩
 simp only [broad_wide_raised.l0]
 simp only [if_neg s7]
 refine Ev.bind (evn L) ?_
 by_cases z : s = 0
 ·rw [if_pos (by omega)]
  refine evn ?_
  subst z
  have e : ∀ x, x < 18446744073709551616 → x / 2 ^ (64 - 0) = 0 ∧ x % 2 ^ (64 - 0) = x := by
   intro x hx
   rw [← p64] at hx
   exact ⟨Nat.div_eq_of_lt hx, Nat.mod_eq_of_lt hx⟩
  rw [(e b hb).1, (e b hb).2, (e c hc).1, (e c hc).2, (e d hd).1, (e d hd).2]
  simp only [Nat.pow_zero, Nat.mul_one, Nat.add_zero]
 ·rw [if_neg (by omega), s5, if_pos s8, if_pos s9]
  rw [or_up s3 hb, or_up s3 hc, or_up s3 hd, shl_up s3, s6, Nat.mod_eq_of_lt (show a < 2 ^ (64 - s) by rw [s2]; exact g2)]
  exact Ev.now _
theorem raised_step {b c d k : Nat} (h0 : b ≠ 0 ∨ c ≠ 0 ∨ d ≠ 0) (hb : b < 18446744073709551616) (hc : c < 18446744073709551616) (hd : d < 18446744073709551616) (hk : k < 4294967296) (h : RaisedP b c d 0 (k + 64)) : RaisedP 0 b c d k := by
 unfold RaisedP at *
 have e : n4 b c d 0 = n4 0 b c d * 2 ^ 64 := by unfold n4; rw [p64]; omega
 have hp : 0 < n4 0 b c d := by unfold n4; omega
 have hlt : n4 0 b c d < 2 ^ 192 := by
  rw [show (2 : Nat) ^ 192 = 18446744073709551616 * 18446744073709551616 * 18446744073709551616 by decide]
  unfold n4; omega
 have l := bl_le_of_lt hlt
 rw [e, bl_mul_pow 64 hp, Nat.mul_assoc, ← Nat.pow_add] at h
 generalize n4 0 b c d = W at *
 have e1 : 64 + (256 - (bl W + 64)) = 256 - bl W := by omega
 have e2 : k + 64 + (256 - (bl W + 64)) = k + (256 - bl W) := by omega
 rw [e1, e2] at h
 obtain ⟨a', b', c', d', hw, hE⟩ := h
 refine ⟨a', b', c', d', hw, evs ?_⟩
 simp only [broad_wide_raised.l0]
 simp only [if_pos (show ((0 : Nat) : Int) = 0 from rfl)]
 rw [show wrap64 ((k : Int) + 64) = ((k + 64 : Nat) : Int) by rw [w64 (by omega) (by omega)]; omega]
 exact hE
theorem raised_eq {a b c d W : Nat} (h : W4 a b c d W) (h0 : 0 < W) : ∃ a' b' c' d' : Nat, W4 a' b' c' d' (W * 2 ^ (256 - bl W)) ∧
  Ev (fun n => broad_wide_raised.f n (a : Int) (b : Int) (c : Int) (d : Int)) ((a' : Int), (b' : Int), (c' : Int), (d' : Int), ((256 - bl W : Nat) : Int)) := by
 obtain ⟨ha, hb, hc, hd, e⟩ := h
 have key : RaisedP a b c d 0 := by
  by_cases z : a = 0
  ·subst z
   have h1 : b ≠ 0 ∨ c ≠ 0 ∨ d ≠ 0 := by unfold n4 at e; omega
   refine raised_step h1 hb hc hd (by decide) ?_
   by_cases z : b = 0
   ·subst z
    have h2 : c ≠ 0 ∨ d ≠ 0 := by omega
    refine raised_step (by omega) hc hd (by decide) (by decide) ?_
    by_cases z : c = 0
    ·subst z
     have h3 : d ≠ 0 := by omega
     refine raised_step (by omega) hd (by decide) (by decide) (by decide) ?_
     exact raised_base (by omega) hd (by decide) (by decide) (by decide) (by decide)
    ·exact raised_base (by omega) hc hd (by decide) (by decide) (by decide)
   ·exact raised_base (by omega) hb hc hd (by decide) (by decide)
  ·exact raised_base (by omega) ha hb hc hd (by decide)
 unfold RaisedP at key
 rw [e, Nat.zero_add] at key
 exact key
end Go.Proofs.Ytfbbnpliaokmbaa.V
namespace Go.Proofs.Ytfbbnpliaokmbaa.V
open Go Go.RowKit Go.Proofs.Ytfbbnpliaokmbaa.Ab Go.Proofs.Ytfbbnpliaokmbaa.Fn
set_option linter.unusedVariables false
set_option linter.unusedSimpArgs false
theorem r0_digit {l : List Int} {m : Nat} (h : DL l m) (i : Nat) : vernierref00_digit.f l (i : Int) = some ((dg m i : Nat) : Int) := by
 unfold vernierref00_digit.f; rw [nI_eq]
 by_cases hi : i < l.length
 ·rw [if_pos (by omega), if_pos (by omega), h.rd]
 ·rw [if_neg (by omega), h.dg_out (by omega)]; rfl
theorem r0_two_l (n : Nat) (hn : n ≤ 24) : ∀ (d i : Nat), i + d = n → Ev (fun k => vernierref00_two.l0 k (n : Int) ((2 ^ i : Nat) : Int) (i : Int)) ((2 ^ n : Nat) : Int)
 | 0, i, h => by
  refine evs ?_
  simp only [vernierref00_two.l0, nI_eq, if_neg (show ¬ (i : Int) < (n : Int) by omega)]
  have : i = n := by omega
  subst this
  exact Ev.now _
 | d + 1, i, h => by
  refine evs ?_
  simp only [vernierref00_two.l0, nI_eq]
  have hp : 2 ^ i < 2 ^ 24 := pow_lt (by omega)
  have h24 : (2 : Nat) ^ 24 = 16777216 := by decide
  have e1 : wrap64 (2 * ((2 ^ i : Nat) : Int)) = ((2 ^ (i + 1) : Nat) : Int) := by
   rw [Nat.pow_succ]
   generalize 2 ^ i = z at *
   rw [w64 (by omega) (by omega)]; omega
  have e2 : wrap64 ((i : Int) + 1) = ((i + 1 : Nat) : Int) := by rw [w64 (by omega) (by omega)]; omega
  simp only [if_pos (show (i : Int) < (n : Int) by omega), e1, e2]
  exact r0_two_l n hn d (i + 1) (by omega)
theorem r0_two (n : Nat) (hn : n ≤ 24) : Ev (fun k => vernierref00_two.f k (n : Int)) ((2 ^ n : Nat) : Int) := by
 unfold vernierref00_two.f
 exact r0_two_l n hn n 0 (by omega)
theorem r0_Of_l (v : Nat) (hv : v < 18446744073709551616) : ∀ (d : Nat) (l : List Int), l.length + d = 3 → okD l → dv l + W l.length * (v / W l.length) = v → (l ≠ [] → W (l.length - 1) ≤ v) →
  ∃ r, Ev (fun k => vernierref00_Of.l0 k ((v / W l.length : Nat) : Int) l) r ∧ DL r v := by
 intro d
 induction d with
 | zero =>
  intro l hl hok hval hcan
  have h3 : v / W l.length = 0 := by
   rw [show l.length = 3 by omega, Nat.div_eq_of_lt (Nat.lt_of_lt_of_le hv (by decide))]
  refine ⟨l, ?_, hok, by rw [h3] at hval; simpa using hval, hcan⟩
  refine evs ?_
  simp only [vernierref00_Of.l0, nI_eq, h3, if_neg (show ¬ ((0 : Nat) : Int) > 0 by decide)]
  exact Ev.now _
 | succ d ih =>
  intro l hl hok hval hcan
  by_cases h0 : v / W l.length = 0
  ·refine ⟨l, ?_, hok, by rw [h0] at hval; simpa using hval, hcan⟩
   refine evs ?_
   simp only [vernierref00_Of.l0, nI_eq, h0, if_neg (show ¬ ((0 : Nat) : Int) > 0 by decide)]
   exact Ev.now _
  ·have hlt : v / W l.length < 18446744073709551616 := Nat.lt_of_le_of_lt (Nat.div_le_self _ _) hv
   have e1 : wrap64 (Int.tmod ((v / W l.length : Nat) : Int) 16777216) = ((dg v l.length : Nat) : Int) := by
    unfold dg
    generalize v / W l.length = q at *
    rw [tmodL, w64 (by omega) (by omega)]
   have e2 : IntKind.u64.wrap (Int.tdiv ((v / W l.length : Nat) : Int) 16777216) = ((v / W (l.length + 1) : Nat) : Int) := by
    rw [W_succ, Nat.mul_comm, ← Nat.div_div_eq_div_mul]
    generalize v / W l.length = q at *
    rw [tdivL, u64_of (by omega) (by omega)]
   have ev : dv (l ++ [((dg v l.length : Nat) : Int)]) = v % W (l.length + 1) := by
    rw [dv_snoc, mod_W_succ]
    have := Nat.div_add_mod v (W l.length)
    have := Nat.mul_comm (W l.length) (v / W l.length)
    omega
   have hW : W l.length ≤ v := by
    rcases Nat.lt_or_ge v (W l.length) with h | h
    ·exact absurd (Nat.div_eq_of_lt h) h0
    ·exact h
   obtain ⟨r, h1, h2⟩ := ih (l ++ [((dg v l.length : Nat) : Int)]) (by simp; omega) (okD_snoc hok (dg_lt _ _)) (by
    rw [ev, List.length_append, List.length_singleton]
    have := Nat.div_add_mod v (W (l.length + 1)); omega) (fun _ => by simpa using hW)
   refine ⟨r, ?_, h2⟩
   refine evs ?_
   simp only [vernierref00_Of.l0, nI_eq]
   rw [List.length_append, List.length_singleton] at h1
   have hq0 : ((v / W l.length : Nat) : Int) > 0 := by generalize v / W l.length = q at *; omega
   simp only [if_pos hq0, if_pos (show l.length < 17592186044416 by omega), e1, e2]
   exact h1
theorem r0_Of (v : Nat) (hv : v < 18446744073709551616) : ∃ r, Ev (fun k => vernierref00_Of.f k (v : Int)) r ∧ DL r v := by
 have := r0_Of_l v hv 3 [] rfl okD_nil (by simp [dv, W_zero]) (fun h => absurd rfl h)
 simpa [vernierref00_Of.f, W_zero] using this
theorem r0_Add_l {x y : List Int} {a b : Nat} (hx : DL x a) (hy : DL y b) (hn : x.length ≤ 1000) (hm : y.length ≤ 1000) : ∀ (d : Nat) (o : List Int) (c : Nat), o.length + d = max x.length y.length + 1 →
  okD o → c ≤ 1 → dv o + W o.length * c = a % W o.length + b % W o.length → (o.length = max x.length y.length + 1 → c = 0) → (o ≠ [] → W (o.length - 1) ≤ a + b) →
  ∃ r, Ev (fun k => vernierref00_Add.l0 k x y o (c : Int) (o.length : Int)) r ∧ DL r (a + b) := by
 intro d
 induction d with
 | zero =>
  intro o c hl hok hc hv hlast hcan
  have c0 := hlast (by omega)
  subst c0
  have ha := hx.mod_all (i := o.length) (by omega)
  have hb := hy.mod_all (i := o.length) (by omega)
  refine ⟨o, ?_, hok, by rw [ha, hb] at hv; simpa using hv, hcan⟩
  refine evs ?_
  simp only [vernierref00_Add.l0, nI_eq, if_neg (show ¬ (o.length : Int) < (x.length : Int) by omega), if_neg (show ¬ (o.length : Int) < (y.length : Int) by omega), decide_eq_false (show ¬ ((0 : Nat) : Int) > 0 by decide)]
  refine evs ?_
  simp only [vernierref00_Add.j1, nI_eq, Bool.false_eq_true, if_false]
  exact Ev.now _
 | succ d ih =>
  intro o c hl hok hc hv hlast hcan
  have stop : ¬ o.length < x.length → ¬ o.length < y.length → c = 0 → ∃ r, Ev (fun k => vernierref00_Add.l0 k x y o (c : Int) (o.length : Int)) r ∧ DL r (a + b) := by
   intro h1 h2 c0
   subst c0
   have ha := hx.mod_all (i := o.length) (by omega)
   have hb := hy.mod_all (i := o.length) (by omega)
   refine ⟨o, ?_, hok, by rw [ha, hb] at hv; simpa using hv, hcan⟩
   refine evs ?_
   simp only [vernierref00_Add.l0, nI_eq, if_neg (show ¬ (o.length : Int) < (x.length : Int) by omega), if_neg (show ¬ (o.length : Int) < (y.length : Int) by omega), decide_eq_false (show ¬ ((0 : Nat) : Int) > 0 by decide)]
   refine evs ?_
   simp only [vernierref00_Add.j1, nI_eq, Bool.false_eq_true, if_false]
   exact Ev.now _
  have go : (o.length < x.length ∨ o.length < y.length ∨ 0 < c) → ∃ r, Ev (fun k => vernierref00_Add.j1 k x y o (c : Int) (o.length : Int) true) r ∧ DL r (a + b) := by
   intro hg
   have da := dg_lt a o.length
   have db := dg_lt b o.length
   generalize ht : dg a o.length + dg b o.length + c = t
   have htb : t < 33554433 := by omega
   have ev : dv (o ++ [((t % 16777216 : Nat) : Int)]) + W (o.length + 1) * (t / 16777216) = a % W (o.length + 1) + b % W (o.length + 1) := by
    rw [dv_snoc, mod_W_succ, mod_W_succ, W_succ]
    exact add_step hv ht
   have hWl : W o.length ≤ a + b := by
    rcases hg with hg | hg | hg
    ·have := (hx.len_iff _).mp hg; omega
    ·have := (hy.len_iff _).mp hg; omega
    ·have : W o.length * 1 ≤ W o.length * c := Nat.mul_le_mul_left _ hg
     have h1 := Nat.mod_le a (W o.length)
     have h2 := Nat.mod_le b (W o.length)
     omega
   obtain ⟨r, h1, h2⟩ := ih (o ++ [((t % 16777216 : Nat) : Int)]) (t / 16777216) (by simp; omega) (okD_snoc hok (Nat.mod_lt _ (by decide))) (by omega) (by rw [List.length_append, List.length_singleton]; exact ev)
    (fun hlen => by
     rw [List.length_append, List.length_singleton] at hlen
     have := hx.dg_out (i := o.length) (by omega)
     have := hy.dg_out (i := o.length) (by omega)
     omega) (fun _ => by simpa using hWl)
   refine ⟨r, ?_, h2⟩
   refine evs ?_
   simp only [vernierref00_Add.j1, nI_eq, if_true]
   rw [List.length_append, List.length_singleton] at h1
   have hol : o.length < 4611686018427387904 := by omega
   have hol2 : o.length < 17592186044416 := by omega
   simp only [r0_digit hx, r0_digit hy, Option.bind_some, if_pos hol2, w_add3 ht (by omega), tmodL, w_div24 (show t < 4611686018427387904 by omega), w_succ hol]
   exact h1
  by_cases h1 : o.length < x.length
  ·obtain ⟨r, a1, a2⟩ := go (.inl h1)
   refine ⟨r, evs ?_, a2⟩
   simp only [vernierref00_Add.l0, nI_eq, if_pos (show (o.length : Int) < (x.length : Int) by omega)]
   exact a1
  ·by_cases h2 : o.length < y.length
   ·obtain ⟨r, a1, a2⟩ := go (.inr (.inl h2))
    refine ⟨r, evs ?_, a2⟩
    simp only [vernierref00_Add.l0, nI_eq, if_neg (show ¬ (o.length : Int) < (x.length : Int) by omega), if_pos (show (o.length : Int) < (y.length : Int) by omega)]
    exact a1
   ·by_cases h3 : c = 0
    ·exact stop h1 h2 h3
    ·obtain ⟨r, a1, a2⟩ := go (.inr (.inr (by omega)))
     refine ⟨r, evs ?_, a2⟩
     simp only [vernierref00_Add.l0, nI_eq, if_neg (show ¬ (o.length : Int) < (x.length : Int) by omega), if_neg (show ¬ (o.length : Int) < (y.length : Int) by omega), decide_eq_true (show (c : Int) > 0 by omega)]
     exact a1
theorem r0_Add {x y : List Int} {a b : Nat} (hx : DL x a) (hy : DL y b) (hn : x.length ≤ 1000) (hm : y.length ≤ 1000) : ∃ r, Ev (fun k => vernierref00_Add.f k x y) r ∧ DL r (a + b) := by
 have := r0_Add_l hx hy hn hm (max x.length y.length + 1) [] 0 (by simp) okD_nil (by omega) (by simp [dv, W_zero, Nat.mod_one]) (fun h => rfl) (fun h => absurd rfl h)
 simpa [vernierref00_Add.f] using this
theorem r0_times_l {x : List Int} {a q : Nat} (hx : DL x a) (hq : q ≤ 16777216) (hq0 : 0 < q) (hn : x.length ≤ 1000) : ∀ (d : Nat) (o : List Int) (c : Nat), o.length + d = x.length + 1 →
  okD o → c < q → dv o + W o.length * c = a % W o.length * q → (o.length = x.length + 1 → c = 0) → (o ≠ [] → W (o.length - 1) ≤ a * q) →
  ∃ r, Ev (fun k => vernierref00_times.l0 k x (q : Int) o (c : Int) (o.length : Int)) r ∧ DL r (a * q) := by
 intro d
 induction d with
 | zero =>
  intro o c hl hok hc hv hlast hcan
  have c0 := hlast (by omega)
  subst c0
  have ha := hx.mod_all (i := o.length) (by omega)
  refine ⟨o, ?_, hok, by rw [ha] at hv; simpa using hv, hcan⟩
  refine evs ?_
  simp only [vernierref00_times.l0, nI_eq, if_neg (show ¬ (o.length : Int) < (x.length : Int) by omega), if_neg (show ¬ ((0 : Nat) : Int) > 0 by decide)]
  exact Ev.now _
 | succ d ih =>
  intro o c hl hok hc hv hlast hcan
  have da := dg_lt a o.length
  have hmul : dg a o.length * q ≤ 16777215 * q := Nat.mul_le_mul_right _ (by omega)
  generalize ht : dg a o.length * q + c = t
  have htb : t < 16777216 * q := by omega
  have hb : t < 281474976710657 := by omega
  have hol : o.length < 4611686018427387904 := by omega
  have hol2 : o.length < 17592186044416 := by omega
  have hb2 : t < 4611686018427387904 := by omega
  have ev : dv (o ++ [((t % 16777216 : Nat) : Int)]) + W (o.length + 1) * (t / 16777216) = a % W (o.length + 1) * q := by
   rw [dv_snoc, mod_W_succ, W_succ]
   exact times_step hv ht
  have go : (o.length < x.length ∨ 0 < c) → ∃ r, Ev (fun k => vernierref00_times.l0 k x (q : Int) (o ++ [((t % 16777216 : Nat) : Int)]) ((t / 16777216 : Nat) : Int) ((o.length + 1 : Nat) : Int)) r ∧ DL r (a * q) := by
   intro hg
   have hWl : W o.length ≤ a * q := by
    rcases hg with hg | hg
    ·have := (hx.len_iff _).mp hg
     exact Nat.le_trans this (Nat.le_mul_of_pos_right _ hq0)
    ·have h1 : W o.length * 1 ≤ W o.length * c := Nat.mul_le_mul_left _ hg
     have h2 := Nat.mul_le_mul_right q (Nat.mod_le a (W o.length))
     omega
   obtain ⟨r, h1, h2⟩ := ih (o ++ [((t % 16777216 : Nat) : Int)]) (t / 16777216) (by simp; omega) (okD_snoc hok (Nat.mod_lt _ (by decide))) (by omega) (by rw [List.length_append, List.length_singleton]; exact ev)
    (fun hlen => by
     rw [List.length_append, List.length_singleton] at hlen
     have h0 := hx.dg_out (i := o.length) (by omega)
     rw [h0] at ht
     omega) (fun _ => by simpa using hWl)
   rw [List.length_append, List.length_singleton] at h1
   exact ⟨r, h1, h2⟩
  by_cases h1 : o.length < x.length
  ·obtain ⟨r, a1, a2⟩ := go (.inl h1)
   refine ⟨r, evs ?_, a2⟩
   simp only [vernierref00_times.l0, nI_eq, if_pos (show (o.length : Int) < (x.length : Int) by omega), if_pos (show (q : Int) > 0 by omega), r0_digit hx, Option.bind_some, if_pos hol2, w_muladd ht hb2, tmodL, w_div24 hb2, w_succ hol]
   exact a1
  ·by_cases h3 : c = 0
   ·subst h3
    have ha := hx.mod_all (i := o.length) (by omega)
    refine ⟨o, evs ?_, hok, by rw [ha] at hv; simpa using hv, hcan⟩
    simp only [vernierref00_times.l0, nI_eq, if_neg (show ¬ (o.length : Int) < (x.length : Int) by omega), if_neg (show ¬ ((0 : Nat) : Int) > 0 by omega)]
    exact Ev.now _
   ·obtain ⟨r, a1, a2⟩ := go (.inr (by omega))
    refine ⟨r, evs ?_, a2⟩
    simp only [vernierref00_times.l0, nI_eq, if_neg (show ¬ (o.length : Int) < (x.length : Int) by omega), if_pos (show (c : Int) > 0 by omega), r0_digit hx, Option.bind_some, if_pos hol2, w_muladd ht hb2, tmodL, w_div24 hb2, w_succ hol]
    exact a1
theorem r0_times {x : List Int} {a q : Nat} (hx : DL x a) (hq : q ≤ 16777216) (hn : x.length ≤ 1000) : ∃ r, Ev (fun k => vernierref00_times.f k x (q : Int)) r ∧ DL r (a * q) := by
 by_cases hq0 : q = 0
 ·subst hq0
  refine ⟨[], ?_, by rw [Nat.mul_zero]; exact DL.nil⟩
  unfold vernierref00_times.f; try simp only [nI_eq]
  refine evs ?_
  simp only [vernierref00_times.l0, nI_eq, if_neg (show ¬ ((0 : Nat) : Int) > 0 by decide), if_neg (show ¬ (0 : Int) > 0 by decide), ite_self]
  exact Ev.now _
 ·have := r0_times_l hx hq (by omega) hn (x.length + 1) [] 0 (by simp) okD_nil (by omega) (by simp [dv, W_zero, Nat.mod_one]) (fun h => rfl) (fun h => absurd rfl h)
  simpa [vernierref00_times.f] using this
theorem r0_Shl {x : List Int} {a k : Nat} (hx : DL x a) (hk : k ≤ 20000) (hn : x.length ≤ 1000) : ∃ r, Ev (fun n => vernierref00_Shl.f n x (k : Int)) r ∧ DL r (a * 2 ^ k) := by
 by_cases h0 : a = 0
 ·subst h0
  have := hx.zero
  subst this
  refine ⟨[], ?_, by rw [Nat.zero_mul]; exact DL.nil⟩
  unfold vernierref00_Shl.f; try simp only [nI_eq]
  exact evn rfl
 ·have hpos := hx.pos (by omega)
  have t := r0_two (k % 24) (by omega)
  have hp : (2 : Nat) ^ (k % 24) ≤ 2 ^ 24 := pow_le (by omega)
  obtain ⟨s, s1, s2⟩ := r0_times hx (q := 2 ^ (k % 24)) hp hn
  have hs : 0 < a * 2 ^ (k % 24) := Nat.mul_pos (by omega) (two_pos _)
  have hsl := s2.pos hs
  have hsl2 : s.length ≤ x.length + 1 := by
   refine s2.len_le ?_
   rw [W_succ, Nat.mul_comm 16777216]
   have hp' : 2 ^ (k % 24) < 16777216 := by
    have : (2 : Nat) ^ (k % 24) < 2 ^ 24 := pow_lt (by omega)
    exact this
   have h1 := hx.lt
   exact Nat.mul_lt_mul'' h1 hp'
  have ev : dv (List.replicate (k / 24) 0 ++ s) = a * 2 ^ k := by
   rw [dv_append, dv_zeros, s2.val, List.length_replicate]
   unfold W
   have e1 : (2 : Nat) ^ k = 2 ^ (24 * (k / 24)) * 2 ^ (k % 24) := by rw [← Nat.pow_add]; congr 1; omega
   rw [e1]; grind
  refine ⟨List.replicate (k / 24) 0 ++ s, ?_, ?_, ev, ?_⟩
  ·unfold vernierref00_Shl.f; try simp only [nI_eq]
   simp only [if_neg (show ¬ (x.length : Int) = 0 by omega), w_q24 hk, w_r24, if_pos (show (0 : Int) ≤ ((k / 24 : Nat) : Int) by omega), Int.toNat_natCast, if_pos (show k / 24 ≤ 35184372088832 by omega), Option.bind_some]
   refine Ev.bind t (Ev.bind s1 ?_)
   simp only [List.length_replicate, if_pos (show k / 24 + s.length ≤ 17592186044416 by omega)]
   exact Ev.now _
  ·intro d hd
   rcases List.mem_append.mp hd with h | h
   ·exact okD_zeros _ d h
   ·exact s2.ok d h
  ·intro _
   rw [List.length_append, List.length_replicate, show k / 24 + s.length - 1 = k / 24 + (s.length - 1) by omega, W_add]
   have c := s2.can (by intro e; rw [e] at hsl; simp at hsl)
   have e1 : (2 : Nat) ^ k = W (k / 24) * 2 ^ (k % 24) := by unfold W; rw [← Nat.pow_add]; congr 1; omega
   rw [e1]
   have := Nat.mul_le_mul_left (W (k / 24)) c
   rw [show a * (W (k / 24) * 2 ^ (k % 24)) = W (k / 24) * (a * 2 ^ (k % 24)) by grind]
   exact this
end Go.Proofs.Ytfbbnpliaokmbaa.V
namespace Go.Proofs.Ytfbbnpliaokmbaa.V
open Go Go.RowKit Go.Proofs.Ytfbbnpliaokmbaa.Ab Go.Proofs.Ytfbbnpliaokmbaa.Fn
set_option linter.unusedVariables false
set_option linter.unusedSimpArgs false
theorem ref02_Of_eq {V : Nat} (hV : V < 2 ^ 128) : ∃ r, Ev (fun k => vernierref02_Of.f k (TH V) (TL V)) r ∧ DL r V := by
 have h1 : V / 18446744073709551616 < 18446744073709551616 := by rw [p128] at hV; omega
 obtain ⟨a, a1, a2⟩ := r0_Of (V / 18446744073709551616) h1
 have la : a.length ≤ 3 := a2.len_le (Nat.lt_of_lt_of_le h1 (by decide))
 obtain ⟨b, b1, b2⟩ := r0_Shl (k := 64) a2 (by decide) (by omega)
 obtain ⟨c, c1, c2⟩ := r0_Of (V % 18446744073709551616) (Nat.mod_lt _ (by decide))
 have lc : c.length ≤ 3 := c2.len_le (Nat.lt_of_lt_of_le (Nat.mod_lt _ (by decide)) (show 18446744073709551616 ≤ W 3 by decide))
 have e : V / 18446744073709551616 * 2 ^ 64 ≤ V := by rw [p64]; exact Nat.div_mul_le_self _ _
 have lb : b.length ≤ 6 := b2.len_le (Nat.lt_of_le_of_lt e (Nat.lt_of_lt_of_le hV (by decide)))
 obtain ⟨d, d1, d2⟩ := r0_Add b2 c2 (by omega) (by omega)
 refine ⟨d, ?_, ?_⟩
 ·unfold vernierref02_Of.f
  exact Ev.bind a1 (Ev.bind b1 (Ev.bind c1 (Ev.bind d1 (Ev.now _))))
 ·rw [show V / 18446744073709551616 * 2 ^ 64 + V % 18446744073709551616 = V by rw [p64]; omega] at d2
  exact d2
theorem one_DL : DL ([1] : List Int) 1 := by
 refine ⟨?_, by decide, fun _ => by decide⟩
 intro d hd
 have : d = 1 := by simpa using hd
 subst this
 exact ⟨by decide, by decide⟩
end Go.Proofs.Ytfbbnpliaokmbaa.V
namespace Go.Proofs.Ytfbbnpliaokmbaa.V
open Go Go.RowKit Go.Proofs.Ytfbbnpliaokmbaa.Ab Go.Proofs.Ytfbbnpliaokmbaa.Fn
set_option linter.unusedVariables false
set_option linter.unusedSimpArgs false
theorem code_none : vernierlaw00_Code.f none = some 0 := rfl
theorem code_1 : vernierlaw00_Code.f (some 1) = some 1 := rfl
end Go.Proofs.Ytfbbnpliaokmbaa.V
