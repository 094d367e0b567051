-- Written by a program of this session out of its own texts (wip/tools/link.py).
import Derived.Below
import Derived.ChangeKeysEq
import Derived.Deep.MidRow
import Derived.Deep.RegionHeld3
import Derived.Great.BuildSlice
import Derived.IntWalk
import Derived.KernelRfl
import Derived.LaidEql
import Derived.Laws.Bits64
import Derived.Laws.BitsLemmas
import Derived.Laws.BytesArg
import Derived.Laws.IdiomCopy
import Derived.Laws.OwnMore
import Derived.Laws.Rows
import Derived.Laws.Slices
import Derived.Laws.Strings
import Derived.Laws.StructEq
import Derived.Laws.Tables
import Derived.Lib.BitFns
import Derived.Lib.Slices
import Derived.Lib.Small
import Derived.Lib.Strings
import Derived.Lib.Walk
import Derived.Maps.AppendAt
import Derived.OrdersHeld
import Derived.RowKit
import Derived.Test.YtgcihaapajbdbaaProg
import Derived.Test.YtgcihaapajbdbaaCQuotExacts7
import Derived.Test.YtgcihaapajbdbaaCQuotExacts9
namespace Go.Proofs.Ytgcihaapajbdbaa.V
open Go Go.RowKit Go.Proofs.Ytgcihaapajbdbaa.Ab Go.Proofs.Ytgcihaapajbdbaa.Fn
set_option linter.unusedVariables false
set_option linter.unusedSimpArgs false
def exactE (ng : Bool) (m : Nat) (e : Int) (R : Bool) : Int × Bool × Int × Int × Int × Bool :=
 if m = 0 then (0, false, 0, 0, 0, false) else (1, ng, heldI (e + (bl m : Int) - 1), TH (mkV m), TL (mkV m), mkR m R)
theorem pow_eq {a b : Nat} (h : a = b) : (2 : Nat) ^ a = 2 ^ b := by rw [h]
theorem mkV_lt {m : Nat} (hm : 0 < m) : mkV m < 2 ^ 128 := by
 have h1 := bl_lt m
 unfold mkV
 split
 ·rename_i h
  have : 2 ^ bl m * 2 ^ (128 - bl m) = 2 ^ 128 := pow_split h
  rw [← this]
  exact Nat.mul_lt_mul_of_pos_right h1 (two_pos _)
 ·rename_i h
  rw [Nat.div_lt_iff_lt_mul (two_pos _), ← Nat.pow_add]
  exact Nat.lt_of_lt_of_eq h1 (pow_eq (by omega))
theorem T_top {V : Nat} (h : V < 2 ^ 128) : ((V / 2 ^ 64 % 18446744073709551616 : Nat) : Int) = TH V := by
 unfold TH
 rw [p64, Nat.mod_eq_of_lt]
 rw [p128] at h; omega
theorem ref_Held_eq (s : Int) : vernierref07_Held.f s = some (heldI s) := by
 unfold vernierref07_Held.f heldI
 by_cases h1 : s < -1099511627776
 ·rw [if_pos h1, if_pos h1]
 ·rw [if_neg h1, if_neg h1]
  by_cases h2 : s > 1099511627776
  ·rw [if_pos h2, if_pos (by omega)]
  ·rw [if_neg h2, if_neg (by omega)]
theorem ref_tail {s : List Int} {V : Nat} (h : DL s V) (hn : s.length ≤ 1000) (hV : V < 2 ^ 128) {α : Type} (g : Int → Int → α) :
  Ev (fun k => (vernierref04_Word.f k s).bind fun a => (vernierref04_Shr.f k s 64).bind fun b => (vernierref04_Word.f k b).bind fun c => some (g c a)) (g (TH V) (TL V)) := by
 obtain ⟨b, b1, b2⟩ := r4_Shr (k := 64) h (by decide) hn
 have w := r4_Word b2
 rw [T_top hV] at w
 exact Ev.bind (r4_Word h) (Ev.bind b1 (Ev.bind w (Ev.now _)))
theorem ref_Exactly_eq {x : List Int} {m : Nat} {e : Int} {ng R : Bool} (hx : DL x m) (hn : x.length ≤ 800) (h0 : -2305843009213693952 ≤ e) (h1 : e ≤ 2305843009213693952) :
  Ev (fun k => vernierref07_Exactly.f k ng x e R) (exactE ng m e R) := by
 unfold vernierref07_Exactly.f exactE
 refine Ev.bind (r4_Bits hx (by omega)) ?_
 by_cases hm : m = 0
 ·subst hm
  rw [bl_zero]
  simp only [if_true]
  exact Ev.now _
 ·have hb := bl_pos (x := m) (by omega)
  have hbl : bl m ≤ 24 * x.length := bl_W hx.lt
  have ew : wrap64 (wrap64 (e + ((bl m : Nat) : Int)) - 1) = e + (bl m : Int) - 1 := by
   rw [w64 (n := e + ((bl m : Nat) : Int)) (by omega) (by omega), w64 (by omega) (by omega)]
  have hlt := mkV_lt (m := m) (by omega)
  have hne : ¬ ((bl m : Nat) : Int) = 0 := by omega
  rw [if_neg hm]
  simp only [if_neg hne]
  simp only [ew]
  simp only [ref_Held_eq, Option.bind_some]
  clear ew
  generalize heldI (e + (bl m : Int) - 1) = sc
  by_cases h2 : bl m < 128
  ·have e1 : wrap64 (128 - ((bl m : Nat) : Int)) = ((128 - bl m : Nat) : Int) := by rw [w64 (by omega) (by omega)]; omega
   obtain ⟨s, s1, s2⟩ := r4_Shl (k := 128 - bl m) hx (by omega) (by omega)
   simp only [if_pos (show ((bl m : Nat) : Int) < 128 by omega), e1]
   clear e1
   refine Ev.bind s1 (evs ?_)
   have hv : m * 2 ^ (128 - bl m) = mkV m := by unfold mkV; rw [if_pos (by omega)]
   rw [hv] at s2
   have hr : mkR m R = R := by unfold mkR; rw [show bl m - 128 = 0 by omega, Nat.pow_zero, Nat.mod_one]; simp
   have hl : s.length ≤ 6 := s2.len_le (Nat.lt_of_lt_of_le hlt (by decide))
   simp only [vernierref07_Exactly.j0, nI_eq, if_neg (show ¬ ((bl m : Nat) : Int) > 128 by omega), hr]
   exact ref_tail s2 (by omega) hlt (fun a b => (1, ng, sc, a, b, R))
  ·simp only [if_neg (show ¬ ((bl m : Nat) : Int) < 128 by omega)]
   refine evs ?_
   by_cases h3 : bl m = 128
   ·have hv : m = mkV m := by unfold mkV; rw [if_pos (by omega), h3]; simp
    have hr : mkR m R = R := by unfold mkR; rw [show bl m - 128 = 0 by omega, Nat.pow_zero, Nat.mod_one]; simp
    rw [hr]
    simp only [vernierref07_Exactly.j0, nI_eq, if_neg (show ¬ ((bl m : Nat) : Int) > 128 by omega)]
    rw [← hv]
    rw [← hv] at hlt
    exact ref_tail hx (by omega) hlt (fun a b => (1, ng, sc, a, b, R))
   ·have e1 : wrap64 (((bl m : Nat) : Int) - 128) = ((bl m - 128 : Nat) : Int) := by rw [w64 (by omega) (by omega)]; omega
    have hv : m / 2 ^ (bl m - 128) = mkV m := by unfold mkV; rw [if_neg (by omega)]
    obtain ⟨s, s1, s2⟩ := r4_Shr (k := bl m - 128) hx (by omega) (by omega)
    rw [hv] at s2
    have hl : s.length ≤ 6 := s2.len_le (Nat.lt_of_lt_of_le hlt (by decide))
    have j1 : ∀ b : Bool, Ev (fun k => vernierref07_Exactly.j1 k x ((bl m : Nat) : Int) 1 ng sc b) (1, ng, sc, TH (mkV m), TL (mkV m), b) := by
     intro b
     refine evs ?_
     simp only [vernierref07_Exactly.j1, nI_eq, e1]
     refine Ev.bind s1 ?_
     exact ref_tail s2 (by omega) hlt (fun c a => (1, ng, sc, c, a, b))
    simp only [vernierref07_Exactly.j0, nI_eq, if_pos (show ((bl m : Nat) : Int) > 128 by omega), e1]
    refine Ev.bind (r4_Low (k := bl m - 128) hx (by omega) (by omega)) ?_
    cases R
    ·simp only [Bool.false_eq_true, if_false]
     exact j1 _
    ·simp only [if_true]
     exact j1 true
end Go.Proofs.Ytgcihaapajbdbaa.V
namespace Go.Proofs.Ytgcihaapajbdbaa.V
open Go Go.RowKit Go.Proofs.Ytgcihaapajbdbaa.Ab Go.Proofs.Ytgcihaapajbdbaa.Fn
set_option linter.unusedVariables false
set_option linter.unusedSimpArgs false
structure NM where
 kd : Int
 ng : Bool
 sc : Int
 fr : Nat
structure EX where
 kd : Int
 ng : Bool
 sc : Int
 V : Nat
 R : Bool
def NM.ok (x : NM) : Prop := soundN x.kd x.ng x.sc (x.fr : Int) = true ∧ x.fr < 18446744073709551616
def EX.zero : EX := ⟨0, false, 0, 0, false⟩
def EX.nar : EX := ⟨2, false, 0, 0, false⟩
def EX.ok (x : EX) : Prop := x = EX.zero ∨ x = EX.nar ∨ (x.kd = 1 ∧ 2 ^ 127 ≤ x.V ∧ x.V < 2 ^ 128 ∧ -1099511627776 ≤ x.sc ∧ x.sc ≤ 1099511627776)
theorem EX.ok_lt {x : EX} (h : x.ok) : x.V < 2 ^ 128 := by
 rcases h with rfl | rfl | h
 ·exact two_pos 128
 ·exact two_pos 128
 ·exact h.2.2.1
theorem EX.ok_sound {x : EX} (h : x.ok) : soundE x.kd x.ng x.sc (TH x.V) (TL x.V) x.R = true := by
 rcases h with rfl | rfl | ⟨h1, h2, h3, h4, h5⟩
 ·rfl
 ·rfl
 ·unfold soundE
  rw [if_neg (by omega)]
  refine decide_eq_true ⟨h1, ?_, h4, h5⟩
  unfold TH
  rw [p127] at h2
  omega
def EX.rnd (n : Nat) (x : EX) : Nat := V.rnd n x.kd x.ng x.sc x.V x.R
def natX (ng : Bool) (m : Nat) (e : Int) (R : Bool) : EX := if m = 0 then EX.zero else ⟨1, ng, heldI (e + (bl m : Int) - 1), mkV m, mkR m R⟩
theorem exactE_natX (ng : Bool) (m : Nat) (e : Int) (R : Bool) : exactE ng m e R = ((natX ng m e R).kd, (natX ng m e R).ng, (natX ng m e R).sc, TH (natX ng m e R).V, TL (natX ng m e R).V, (natX ng m e R).R) := by
 unfold exactE natX
 by_cases h : m = 0
 ·rw [if_pos h, if_pos h]; rfl
 ·rw [if_neg h, if_neg h]
def decN (n x : Nat) : NM := if x = 0 then ⟨0, false, 0, 0⟩ else if x = 2 ^ (n - 1) then ⟨2, false, 0, 0⟩ else ⟨1, decide (2 ^ (n - 1) < x), decS (n - 1) (magN n x), decFr (n - 1) (magN n x)⟩
theorem decE_N (n x : Nat) : decE n x = ((decN n x).kd, (decN n x).ng, (decN n x).sc, ((decN n x).fr : Int), none) := by
 unfold decE decN
 by_cases h0 : x = 0
 ·rw [if_pos h0, if_pos h0]; rfl
 ·rw [if_neg h0, if_neg h0]
  by_cases h1 : x = 2 ^ (n - 1)
  ·rw [if_pos h1, if_pos h1]; rfl
  ·rw [if_neg h1, if_neg h1]
theorem decN_ok {n x : Nat} (h8 : 8 ≤ n) (hn : n ≤ 64) (hx : x < 2 ^ n) : (decN n x).ok := by
 unfold decN
 by_cases h0 : x = 0
 ·rw [if_pos h0]; exact ⟨rfl, by decide⟩
 ·rw [if_neg h0]
  by_cases h1 : x = 2 ^ (n - 1)
  ·rw [if_pos h1]; exact ⟨rfl, by decide⟩
  ·rw [if_neg h1]
   have hm := magN_bounds (by omega) hx h0 h1
   refine ⟨dec_soundN h8 hn hm.1 hm.2, ?_⟩
   have := (decFr_range (dLf_le (m := n - 1) (w := magN n x) (by omega))).2
   rw [p64] at this
   exact this
def NM.ex (a : NM) : EX := ⟨a.kd, a.ng, a.sc, a.fr * 18446744073709551616, false⟩
theorem NM.cases {x : NM} (h : x.ok) : x = ⟨0, false, 0, 0⟩ ∨ x = ⟨2, false, 0, 0⟩ ∨ (x.kd = 1 ∧ 2 ^ 63 ≤ x.fr ∧ x.fr < 2 ^ 64 ∧ -1073741824 ≤ x.sc ∧ x.sc ≤ 1073741824) := by
 obtain ⟨h1, h2⟩ := h
 obtain ⟨kd, ng, sc, fr⟩ := x
 unfold soundN at h1
 simp only at h1 h2 ⊢
 split at h1
 ·rename_i hk
  have : ng = false ∧ sc = 0 ∧ fr = 0 := by simpa using h1
  obtain ⟨rfl, rfl, rfl⟩ := this
  rcases hk with rfl | rfl
  ·exact .inl rfl
  ·exact .inr (.inl rfl)
 ·have := of_decide_eq_true h1
  rw [p63, p64]
  exact .inr (.inr (by omega))
theorem NM.ex_tup (x : NM) (h : x.ok) : TH x.ex.V = (x.fr : Int) ∧ TL x.ex.V = 0 := by
 have := h.2
 unfold NM.ex TH TL
 simp only
 omega
theorem Round_X {n : Nat} {x : EX} (h : isW (n : Int) = true) (hx : x.ok) : Ev (fun k => round_Round.f k (n : Int) x.kd x.ng x.sc (TH x.V) (TL x.V) x.R) (((x.rnd n : Nat) : Int), none) := by
 have hl := EX.ok_lt hx
 have hs := EX.ok_sound hx
 rw [p128] at hl
 have := round_Round_eq (n := n) (hi := x.V / 18446744073709551616) (lo := x.V % 18446744073709551616) h (by omega) (by omega) hs
 rw [show x.V / 18446744073709551616 * 18446744073709551616 + x.V % 18446744073709551616 = x.V by omega] at this
 exact this
theorem Decode_N {n p : Nat} (h : isW (n : Int) = true) (hp : p < 18446744073709551616) :
  Ev (fun k => codec_Decode.f k (n : Int) (p : Int)) ((decN n (p % 2 ^ n)).kd, (decN n (p % 2 ^ n)).ng, (decN n (p % 2 ^ n)).sc, ((decN n (p % 2 ^ n)).fr : Int), none) := by
 rw [← decE_N]; exact Decode_eq h hp
end Go.Proofs.Ytgcihaapajbdbaa.V
namespace Go.Proofs.Ytgcihaapajbdbaa.V
open Go Go.RowKit Go.Proofs.Ytgcihaapajbdbaa.Ab
set_option linter.unusedVariables false
set_option linter.unusedSimpArgs false
def NM.neg (a : NM) : NM := if a.kd = 1 then ⟨a.kd, !a.ng, a.sc, a.fr⟩ else a
def EX.neg (a : EX) : EX := if a.kd = 1 then ⟨a.kd, !a.ng, a.sc, a.V, a.R⟩ else a
end Go.Proofs.Ytgcihaapajbdbaa.V
