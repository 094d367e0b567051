-- Written by a program of this session out of its own texts (wip/tools/link.py).
import Derived.Below
import Derived.ChangeKeysEq
import Derived.Deep.MidRow
import Derived.Deep.RegionHeld3
import Derived.Great.BuildSlice
import Derived.IntWalk
import Derived.KernelRfl
import Derived.LaidEql
import Derived.Laws.Bits64
import Derived.Laws.BitsLemmas
import Derived.Laws.BytesArg
import Derived.Laws.IdiomCopy
import Derived.Laws.OwnMore
import Derived.Laws.Rows
import Derived.Laws.Slices
import Derived.Laws.Strings
import Derived.Laws.StructEq
import Derived.Laws.Tables
import Derived.Lib.BitFns
import Derived.Lib.Mul64
import Derived.Lib.Slices
import Derived.Lib.Small
import Derived.Lib.Strings
import Derived.Lib.Walk
import Derived.LoopIn
import Derived.LoopNIn
import Derived.Maps.AppendAt
import Derived.OrdersHeld
import Derived.OwnWalkIn
import Derived.RangeFuncBound
import Derived.RangeFuncCalls
import Derived.RangeFuncLeaves
import Derived.RangeFuncNested
import Derived.RowKit
import Derived.Scope
import Derived.Shelf.Abstract
import Derived.Shelf.RegionOpen
import Derived.Shelf.Spec.BitsCarry
import Derived.TacticsInMore
import Derived.Test.YthofoolgbngobaaProg
import Derived.WalkKit
import Derived.Test.YthofoolgbngobaaCTopPairs9
import Derived.Test.YthofoolgbngobaaCTopPairs10
import Derived.Test.YthofoolgbngobaaCTopPairs13
import Derived.Test.YthofoolgbngobaaCTopPairs14
import Derived.Test.YthofoolgbngobaaCTopPairs15
import Derived.Test.YthofoolgbngobaaCTopPairs16
namespace Go.Proofs.Ythofoolgbngobaa.V
open Go Go.RowKit Go.Proofs.Ythofoolgbngobaa.Ab Go.Proofs.Ythofoolgbngobaa.Fn
set_option linter.unusedVariables false
set_option linter.unusedSimpArgs false
noncomputable def enc (s : Nat) (z : Int) : Nat := (z % (PW s : Int)).toNat
theorem PW_posI (s : Nat) : (0 : Int) < (PW s : Int) := by have := PW_pos s; omega
theorem enc_int (s : Nat) (z : Int) : (enc s z : Int) = z % (PW s : Int) := Int.toNat_of_nonneg (Int.emod_nonneg _ (Int.ne_of_gt (PW_posI s)))
theorem enc_lt (s : Nat) (z : Int) : enc s z < PW s := by
 have h := Int.emod_lt_of_pos z (PW_posI s)
 rw [← enc_int] at h
 exact Int.ofNat_lt.1 h
theorem enc_zero (s : Nat) : enc s 0 = 0 := by unfold enc; rw [Int.zero_emod]; rfl
theorem enc_eq {s : Nat} {z : Int} {V : Nat} (hV : V < PW s) (h : ∃ q : Int, z = V + PW s * q) : enc s z = V := by
 obtain ⟨q, rfl⟩ := h
 have : (enc s ((V : Int) + PW s * q) : Int) = V := by
  rw [enc_int, Int.add_mul_emod_self_left]
  exact Int.emod_eq_of_lt (Int.natCast_nonneg _) (Int.ofNat_lt.2 hV)
 exact Int.ofNat.inj this
theorem enc_mod (s : Nat) (z : Int) : ∃ q : Int, z = (enc s z : Int) + PW s * q := ⟨z / (PW s : Int), by rw [enc_int]; exact (Int.emod_add_mul_ediv z _).symm⟩
theorem fin_enc (b : Bool) (s : Nat) (z : Int) (X : Nat) : finW b s (enc s z) X = enc s (if b then z - X else z + X) := by
 have hp := PW_pos s
 obtain ⟨q, hq⟩ := enc_mod s z
 cases b
 ·rw [if_neg (by decide)]
  unfold finW
  rw [if_neg (by decide)]
  refine (enc_eq (Nat.mod_lt _ hp) ?_).symm
  have hd := Nat.div_add_mod (enc s z + X) (PW s)
  refine ⟨q + ((enc s z + X) / PW s : Nat), ?_⟩
  have hd' : ((enc s z : Nat) : Int) + (X : Int) = (PW s : Int) * ((enc s z + X) / PW s : Nat) + ((enc s z + X) % PW s : Nat) := by exact_mod_cast hd.symm
  rw [Int.mul_add]
  generalize (PW s : Int) * q = A at *
  generalize (PW s : Int) * ((enc s z + X) / PW s : Nat) = B at *
  generalize ((enc s z + X) % PW s : Nat) = C at *
  omega
 ·rw [if_pos rfl]
  unfold finW
  rw [if_pos rfl]
  refine (enc_eq (Nat.mod_lt _ hp) ?_).symm
  have hX := Nat.mod_lt X hp
  have hd := Nat.div_add_mod (enc s z + PW s - X % PW s) (PW s)
  have hx := Nat.div_add_mod X (PW s)
  refine ⟨q + ((enc s z + PW s - X % PW s) / PW s : Nat) - 1 - (X / PW s : Nat), ?_⟩
  have hd' : (PW s : Int) * ((enc s z + PW s - X % PW s) / PW s : Nat) + ((enc s z + PW s - X % PW s) % PW s : Nat) = ((enc s z + PW s - X % PW s : Nat) : Int) := by exact_mod_cast hd
  have hx' : (PW s : Int) * (X / PW s : Nat) + (X % PW s : Nat) = (X : Int) := by exact_mod_cast hx
  have hs : ((enc s z + PW s - X % PW s : Nat) : Int) = (enc s z : Int) + PW s - (X % PW s : Nat) := by
   generalize X % PW s = R at *
   omega
  rw [hs] at hd'
  simp only [Int.mul_add, Int.mul_sub, Int.mul_one]
  generalize (PW s : Int) * q = A at *
  generalize (PW s : Int) * ((enc s z + PW s - X % PW s) / PW s : Nat) = B at *
  generalize ((enc s z + PW s - X % PW s) % PW s : Nat) = C at *
  generalize (PW s : Int) * (X / PW s : Nat) = D at *
  generalize X % PW s = R at *
  omega
theorem enc_sign {s : Nat} {z : Int} (hs : 0 < s) (h0 : -(HW s : Int) ≤ z) (h1 : z < (HW s : Int)) : decide (HW s ≤ enc s z) = decide (z < 0) ∧ (if HW s ≤ enc s z then PW s - enc s z else enc s z) = z.natAbs := by
 have h2 := HW_two hs
 by_cases hz : z < 0
 ·have he : enc s z = PW s - z.natAbs := enc_eq (by omega) ⟨-1, by omega⟩
  rw [he, decide_eq_true hz, if_pos (by omega)]
  exact ⟨decide_eq_true (by omega), by omega⟩
 ·have he : enc s z = z.natAbs := enc_eq (by omega) ⟨0, by omega⟩
  rw [he, decide_eq_false hz, if_neg (by omega)]
  exact ⟨decide_eq_false (by omega), rfl⟩
theorem Round_z {n : Nat} {t : Int} {z : Int} (hn : isW (n : Int) = true) (h0 : -(HW (n / 4) : Int) ≤ z) (h1 : z < (HW (n / 4) : Int)) :
  Ev (fun k => accum_Acc_Round.f k (n : Int) false t (ws (enc (n / 4) z))) ((), (), (((intX z (16 - 8 * n)).rnd n : Nat) : Int)) := by
 have h := Round_eq (t := t) hn (enc_lt (n / 4) z)
 obtain ⟨h2, h3⟩ := enc_sign (s := n / 4) (by have := size_bounds hn; omega) h0 h1
 rw [h2, h3] at h
 exact h
def prM (n : Nat) (a b : NM) : Nat := if 0 ≤ a.sc + b.sc - 126 + 8 * n - 16 then a.fr * b.fr * 2 ^ (a.sc + b.sc - 126 + 8 * n - 16).toNat else a.fr * b.fr / 2 ^ (-(a.sc + b.sc - 126 + 8 * n - 16)).toNat
def prI (n : Nat) (a b : NM) : Int := if a.kd = 1 ∧ b.kd = 1 then (if a.ng != b.ng then -(prM n a b : Int) else (prM n a b : Int)) else 0
def depS (n : Nat) (nar : Bool) (z : Int) (p q : NM) (take : Bool) : Bool × Int := if nar = true ∨ p.kd = 2 ∨ q.kd = 2 then (true, 0) else (false, if take then z - prI n p q else z + prI n p q)
theorem half_words (m : Nat) : TH m / 2 = TH (m / 2) ∧ Go.bits .or .u64 (TL m / 2) (IntKind.u64.wrap (TH m * 9223372036854775808)) = TL (m / 2) := by
 have h1 : TH m / 2 = TH (m / 2) := by unfold TH; omega
 refine ⟨h1, ?_⟩
 have h2 : IntKind.u64.wrap (TH m * 9223372036854775808) = ((m / 18446744073709551616 % 2 * 9223372036854775808 : Nat) : Int) := by
  unfold TH; rw [u64_wrap]; omega
 have h3 : TL m / 2 = ((m % 18446744073709551616 / 2 : Nat) : Int) := by unfold TL; omega
 rw [h2, h3, or_nat _ _ (by omega) (by omega), Nat.or_comm, ← or_nat _ _ (by omega) (by omega), or_add _ _ 63 (by omega) (by rw [p63]; omega) (by rw [p63]; omega) (by omega)]
 unfold TL
 omega
theorem dep_l0 {n : Nat} {t : Int} {take ng ng' : Bool} {z : Int} (hn : isW (n : Int) = true) : ∀ (d m : Nat) (u : Int), m < 2 ^ 128 → u < 4294967296 → -4294967296 < u → (-u).toNat = d →
  Ev (fun k => accum_Acc_deposit.l0 k (n : Int) false t (ws (enc (n / 4) z)) take (TH m) (TL m) u ng ng') (((n : Int), false, t, ws (enc (n / 4) (if ((ng != ng') != take) then z - ((if 0 ≤ u then m * 2 ^ u.toNat else m / 2 ^ d : Nat) : Int) else z + ((if 0 ≤ u then m * 2 ^ u.toNat else m / 2 ^ d : Nat) : Int)))), (), none) := by
 intro d
 induction d with
 | zero =>
  intro m u hm hu hu2 hd
  refine evs ?_
  simp only [accum_Acc_deposit.l0]
  simp only [if_neg (show ¬ (u < 0) by omega), if_pos (show 0 ≤ u by omega)]
  obtain ⟨up, rfl⟩ : ∃ up : Nat, u = up := ⟨u.toNat, by omega⟩
  have hb : (!((!(ng == ng')) == take)) = ((ng != ng') != take) := by cases ng <;> cases ng' <;> cases take <;> rfl
  have he := enter_eq (n := n) (nar := false) (t := t) (V := enc (n / 4) z) (hi := m / 18446744073709551616) (lo := m % 18446744073709551616) (up := up) (b := ((ng != ng') != take)) hn (enc_lt _ _) (by rw [p128] at hm; omega) (Nat.mod_lt _ (by decide)) (by omega)
  rw [fin_enc, show m / 18446744073709551616 * 18446744073709551616 + m % 18446744073709551616 = m by omega] at he
  rw [hb]
  refine Ev.bind (f := fun _ (z : (Int × Bool × Int × List Int) × Unit × Unit) => some ((z.1.1, z.1.2.1, z.1.2.2.1, z.1.2.2.2), (), none)) he ?_
  simp only [Int.toNat_natCast]
  exact Ev.now _
 | succ d ih =>
  intro m u hm hu hu2 hd
  refine evs ?_
  simp only [accum_Acc_deposit.l0]
  obtain ⟨h1, h2⟩ := half_words m
  have hw : wrap64 (u + 1) = u + 1 := w64 (by omega) (by omega)
  ·simp only [if_pos (show u < 0 by omega), if_neg (show ¬ (0 ≤ u) by omega), h1, h2, hw]
   have := ih (m / 2) (u + 1) (by omega) (by omega) (by omega) (by omega)
   have e : (if 0 ≤ u + 1 then m / 2 * 2 ^ (u + 1).toNat else m / 2 / 2 ^ d) = m / 2 ^ (d + 1) := by
    have h3 : m / 2 / 2 ^ d = m / 2 ^ (d + 1) := by rw [Nat.div_div_eq_div_mul, Nat.pow_succ, Nat.mul_comm]
    by_cases hu0 : 0 ≤ u + 1
    ·rw [if_pos hu0, show (u + 1).toNat = 0 by omega, ← h3, show d = 0 by omega, Nat.pow_zero, Nat.mul_one, Nat.div_one]
    ·rw [if_neg hu0, h3]
   rw [e] at this
   exact this
theorem deposit_eq {n a b : Nat} {t : Int} {z : Int} {nar take : Bool} (hn : isW (n : Int) = true) (ht0 : 0 ≤ t) (ht : t < 2147483647) (ha : a < 18446744073709551616) (hb : b < 18446744073709551616) (hz : nar = true → z = 0) :
  Ev (fun k => accum_Acc_deposit.f k (n : Int) nar t (ws (enc (n / 4) z)) (a : Int) (b : Int) take) (((n : Int), (depS n nar z (decN n (a % 2 ^ n)) (decN n (b % 2 ^ n)) take).1, t + 1, ws (enc (n / 4) (depS n nar z (decN n (a % 2 ^ n)) (decN n (b % 2 ^ n)) take).2)), (), none) := by
 unfold accum_Acc_deposit.f
 have hnb := isW_cases hn
 have h8 : 8 ≤ n := by omega
 have h64 : n ≤ 64 := by omega
 have hp := decN_ok h8 h64 (Nat.mod_lt a (two_pos n))
 have hq := decN_ok h8 h64 (Nat.mod_lt b (two_pos n))
 have hwt : wrap64 (t + 1) = t + 1 := w64 (by omega) (by omega)
 simp only [if_neg (show ¬ (t = 2147483647) by omega), hwt]
 refine Ev.bind (Decode_N hn ha) ?_
 simp only [Option.isNone_none, if_true]
 refine Ev.bind (Decode_N hn hb) ?_
 simp only [Option.isNone_none, if_true]
 generalize decN n (a % 2 ^ n) = p at *
 generalize decN n (b % 2 ^ n) = q at *
 have jt : ∀ (nar' : Bool) (x3 : Bool) (x5 : Int) (x6 : Bool) (x7 x8 x9 : Int) (x10 : Bool) (x11 x12 : Int), (nar = true ∨ p.kd = 2 ∨ q.kd = 2) → Ev (fun k => accum_Acc_deposit.j0 k (n : Int) nar' (t + 1) (ws (enc (n / 4) z)) x3 true x5 x6 x7 x8 x9 x10 x11 x12) (((n : Int), (depS n nar z p q take).1, t + 1, ws (enc (n / 4) (depS n nar z p q take).2)), (), none) := by
  intro nar' x3 x5 x6 x7 x8 x9 x10 x11 x12 hc
  refine evs ?_
  simp only [accum_Acc_deposit.j0, if_true]
  unfold depS
  rw [if_pos hc]
  simp only [enc_zero, ws_zero]
  exact Ev.now _
 cases nar
 ·simp only [Bool.false_eq_true, if_false]
  by_cases h1 : p.kd = 2
  ·simp only [if_pos h1]
   exact jt _ _ _ _ _ _ _ _ _ _ (.inr (.inl h1))
  ·simp only [if_neg h1]
   by_cases h2 : q.kd = 2
   ·simp only [h2, beq_self_eq_true]
    exact jt _ _ _ _ _ _ _ _ _ _ (.inr (.inr h2))
   ·have hb2 : (q.kd == 2) = false := by simpa using h2
    simp only [hb2]
    have hd : depS n false z p q take = (false, if take then z - prI n p q else z + prI n p q) := by
     unfold depS; rw [if_neg (by simp [h1, h2])]
    rw [hd]
    refine evs ?_
    simp only [accum_Acc_deposit.j0, Bool.false_eq_true, if_false]
    have none1 : ∀ (x74 : Bool), x74 = decide (p.kd = 1 ∧ q.kd = 1) → Ev (fun k => accum_Acc_deposit.j1 k (n : Int) false (t + 1) (ws (enc (n / 4) z)) take x74 p.ng p.sc (p.fr : Int) q.ng q.sc (q.fr : Int)) (((n : Int), false, t + 1, ws (enc (n / 4) (if take then z - prI n p q else z + prI n p q))), (), none) := by
     intro x74 hx
     refine evs ?_
     simp only [accum_Acc_deposit.j1]
     by_cases h11 : p.kd = 1 ∧ q.kd = 1
     ·rw [decide_eq_true h11] at hx
      subst hx
      simp only [if_true]
      rcases NM.cases hp with rfl | rfl | ⟨-, p1, p2, p3, p4⟩
      ·exact absurd h11.1 (by decide)
      ·exact absurd rfl h1
      rcases NM.cases hq with rfl | rfl | ⟨-, q1, q2, q3, q4⟩
      ·exact absurd h11.2 (by decide)
      ·exact absurd rfl h2
      rw [p64] at p2 q2
      simp only [bits_Mul64_eq p2 q2, Option.bind_some]
      have hw : wrap64 ((wrap64 ((wrap64 ((wrap64 (p.sc + q.sc)) - 126)) + (wrap64 (8 * (n : Int))))) - 16) = p.sc + q.sc - 126 + 8 * n - 16 := by
       rw [w64 (n := p.sc + q.sc) (by omega) (by omega), w64 (n := p.sc + q.sc - 126) (by omega) (by omega), w64 (n := 8 * (n : Int)) (by omega) (by omega), w64 (n := p.sc + q.sc - 126 + 8 * n) (by omega) (by omega), w64 (by omega) (by omega)]
      simp only [hw]
      have := dep_l0 (t := t + 1) (take := take) (ng := p.ng) (ng' := q.ng) (z := z) hn _ (p.fr * q.fr) (p.sc + q.sc - 126 + 8 * n - 16) (mul_lt128 p2 q2) (by omega) (by omega) rfl
      have hres : (if ((p.ng != q.ng) != take) then z - ((prM n p q : Nat) : Int) else z + ((prM n p q : Nat) : Int)) = (if take then z - prI n p q else z + prI n p q) := by
       unfold prI
       rw [if_pos h11]
       cases take <;> cases (p.ng != q.ng) <;> simp <;> omega
      rw [← hres]
      exact this
     ·rw [decide_eq_false h11] at hx
      subst hx
      simp only [Bool.false_eq_true, if_false]
      have hr : (if take then z - prI n p q else z + prI n p q) = z := by
       unfold prI
       rw [if_neg h11]
       cases take <;> simp
      rw [hr]
      exact Ev.now _
    by_cases hp1 : p.kd = 1
    ·simp only [if_pos hp1]
     refine none1 _ ?_
     rw [beq_dec]
     simp [hp1]
    ·simp only [if_neg hp1]
     refine none1 _ ?_
     simp [hp1]
 ·simp only [if_true]
  exact jt _ _ _ _ _ _ _ _ _ _ (.inl rfl)
theorem New_eq {n : Nat} (hn : isW (n : Int) = true) : Ev (fun k => accum_New.f k (n : Int)) ((), (true, ((n : Int), false, 0, ws 0)), none) := by
 unfold accum_New.f
 have h := Decode_N (p := 0) hn (by decide)
 refine Ev.bind h ?_
 simp only [Option.isNone_none, if_true, ws_zero]
 exact Ev.now _
theorem State_eq {n V : Nat} {nar : Bool} {t : Int} (hn : isW (n : Int) = true) : accum_Acc_State.f (n : Int) nar t (ws V) = some ((), (), ((n : Int), nar, t, (ws V).take (n / 4))) := by
 unfold accum_Acc_State.f
 obtain ⟨h1, h2⟩ := size_bounds hn
 rw [size_eq hn]
 simp only [Option.bind_some, Int.toNat_natCast]
 rw [if_pos (by omega), if_pos (by omega), if_pos (by rw [List.length_take, ws_len]; omega)]
theorem Put_of {n a b : Int} {t : Int} {l : List Int} {nar : Bool} {n' t' : Int} {l' : List Int} {nar' : Bool} {e : Option Int} (h : Ev (fun k => accum_Acc_deposit.f k n nar t l a b false) ((n', nar', t', l'), (), e)) : Ev (fun k => accum_Acc_Put.f k n nar t l a b) ((n', nar', t', l'), (), e) := by
 unfold accum_Acc_Put.f
 exact Ev.bind (f := fun _ (z : (Int × Bool × Int × List Int) × Unit × Option Int) => some ((z.1.1, z.1.2.1, z.1.2.2.1, z.1.2.2.2), (), z.2.2)) h (Ev.now _)
theorem Take_of {n a b : Int} {t : Int} {l : List Int} {nar : Bool} {n' t' : Int} {l' : List Int} {nar' : Bool} {e : Option Int} (h : Ev (fun k => accum_Acc_deposit.f k n nar t l a b true) ((n', nar', t', l'), (), e)) : Ev (fun k => accum_Acc_Take.f k n nar t l a b) ((n', nar', t', l'), (), e) := by
 unfold accum_Acc_Take.f
 exact Ev.bind (f := fun _ (z : (Int × Bool × Int × List Int) × Unit × Option Int) => some ((z.1.1, z.1.2.1, z.1.2.2.1, z.1.2.2.2), (), z.2.2)) h (Ev.now _)
theorem Add_of {n : Nat} {a : Int} {t : Int} {l : List Int} {nar : Bool} {n' t' : Int} {l' : List Int} {nar' : Bool} {e : Option Int} (hn : isW (n : Int) = true) (h : Ev (fun k => accum_Acc_deposit.f k (n : Int) nar t l a ((2 ^ (n - 2) : Nat) : Int) false) ((n', nar', t', l'), (), e)) : Ev (fun k => accum_Acc_Add.f k (n : Int) nar t l a) ((n', nar', t', l'), (), e) := by
 unfold accum_Acc_Add.f
 have hnb := isW_cases hn
 have w1 : wrap64 ((n : Int) - 2) = ((n - 2 : Nat) : Int) := by rw [w64 (by omega) (by omega)]; omega
 have hs : shl .u64 1 ((n - 2 : Nat) : Int) = ((2 ^ (n - 2) : Nat) : Int) := by
  have := shl_nat 1 (n - 2) (by omega)
  rw [Nat.one_mul, Nat.mod_eq_of_lt (by rw [← p64]; exact pow_lt (by omega))] at this
  exact this
 simp only [w1, if_pos (show (0 : Int) ≤ ((n - 2 : Nat) : Int) by omega), hs]
 exact Ev.bind (f := fun _ (z : (Int × Bool × Int × List Int) × Unit × Option Int) => some ((z.1.1, z.1.2.1, z.1.2.2.1, z.1.2.2.2), (), z.2.2)) h (Ev.now _)
end Go.Proofs.Ythofoolgbngobaa.V
namespace Go.Proofs.Ythofoolgbngobaa.V
open Go Go.RowKit Go.Proofs.Ythofoolgbngobaa.Ab Go.Proofs.Ythofoolgbngobaa.Fn
set_option linter.unusedVariables false
set_option linter.unusedSimpArgs false
theorem depS_nar {n : Nat} {nar take : Bool} {z : Int} {p q : NM} (h : (depS n nar z p q take).1 = true) : (depS n nar z p q take).2 = 0 := by
 unfold depS at h ⊢
 split at h
 ·rename_i hc; rw [if_pos hc]
 ·cases h
end Go.Proofs.Ythofoolgbngobaa.V
namespace Go.Proofs.Ythofoolgbngobaa.V
open Go Go.RowKit Go.Proofs.Ythofoolgbngobaa.Ab Go.Proofs.Ythofoolgbngobaa.Fn
set_option linter.unusedVariables false
set_option linter.unusedSimpArgs false
abbrev Tm := Int × Int × Bool
def tmNar (n : Nat) (x : Tm) : Bool := decide ((decN n (x.1.toNat % 2 ^ n)).kd = 2 ∨ (decN n (x.2.1.toNat % 2 ^ n)).kd = 2)
def tmVal (n : Nat) (x : Tm) : Int := if x.2.2 then -(prI n (decN n (x.1.toNat % 2 ^ n)) (decN n (x.2.1.toNat % 2 ^ n))) else prI n (decN n (x.1.toNat % 2 ^ n)) (decN n (x.2.1.toNat % 2 ^ n))
def narL (n : Nat) : List Tm → Bool
 | [] => false
 | x :: l => tmNar n x || narL n l
def sumL (n : Nat) : List Tm → Int
 | [] => 0
 | x :: l => tmVal n x + sumL n l
def finN (n : Nat) (nar : Bool) (L : List Tm) : Bool := nar || narL n L
def finZ (n : Nat) (nar : Bool) (z : Int) (L : List Tm) : Int := if finN n nar L then 0 else z + sumL n L
theorem dep_one {n : Nat} {nar take : Bool} {z : Int} {p q : NM} : (depS n nar z p q take).1 = (nar || decide (p.kd = 2 ∨ q.kd = 2)) := by
 unfold depS
 by_cases h : nar = true ∨ p.kd = 2 ∨ q.kd = 2
 ·rw [if_pos h]
  rcases h with h | h
  ·rw [h]; rfl
  ·rw [decide_eq_true h, Bool.or_true]
 ·rw [if_neg h]
  have h1 : nar = false := by
   cases nar
   ·rfl
   ·exact absurd (.inl rfl) h
  rw [h1, decide_eq_false (fun h2 => h (.inr h2))]; rfl
theorem dep_two {n : Nat} {nar take : Bool} {z : Int} {p q : NM} (hd : (depS n nar z p q take).1 = false) : (depS n nar z p q take).2 = z + (if take = true then -(prI n p q) else prI n p q) := by
 unfold depS at hd ⊢
 split at hd
 ·cases hd
 ·rename_i h
  rw [if_neg h]
  cases take
  ·simp
  ·simp only [if_true]; omega
theorem dep_fin {n : Nat} {nar take : Bool} {z : Int} {a b : Nat} {L : List Tm} : finN n (depS n nar z (decN n (a % 2 ^ n)) (decN n (b % 2 ^ n)) take).1 L = finN n nar (((a : Int), ((b : Int), take)) :: L) ∧
  finZ n (depS n nar z (decN n (a % 2 ^ n)) (decN n (b % 2 ^ n)) take).1 (depS n nar z (decN n (a % 2 ^ n)) (decN n (b % 2 ^ n)) take).2 L = finZ n nar z (((a : Int), ((b : Int), take)) :: L) := by
 have hN : (depS n nar z (decN n (a % 2 ^ n)) (decN n (b % 2 ^ n)) take).1 = (nar || tmNar n ((a : Int), ((b : Int), take))) := by
  unfold tmNar
  simp only [Int.toNat_natCast]
  exact dep_one
 have h1 : finN n (depS n nar z (decN n (a % 2 ^ n)) (decN n (b % 2 ^ n)) take).1 L = finN n nar (((a : Int), ((b : Int), take)) :: L) := by
  unfold finN
  rw [hN]
  simp only [narL, Bool.or_assoc]
 refine ⟨h1, ?_⟩
 unfold finZ
 rw [h1]
 by_cases hf : finN n nar (((a : Int), ((b : Int), take)) :: L) = true
 ·rw [if_pos hf, if_pos hf]
 ·rw [if_neg hf, if_neg hf]
  have hd : (depS n nar z (decN n (a % 2 ^ n)) (decN n (b % 2 ^ n)) take).1 = false := by
   rw [← h1] at hf
   unfold finN at hf
   cases h : (depS n nar z (decN n (a % 2 ^ n)) (decN n (b % 2 ^ n)) take).1
   ·rfl
   ·rw [h] at hf; exact absurd rfl hf
  have hz : (depS n nar z (decN n (a % 2 ^ n)) (decN n (b % 2 ^ n)) take).2 = z + tmVal n ((a : Int), ((b : Int), take)) := by
   unfold tmVal
   simp only [Int.toNat_natCast]
   exact dep_two hd
  rw [hz]
  simp only [sumL]
  omega
theorem finZ_nar {n : Nat} {nar : Bool} {z : Int} {L : List Tm} (h : finN n nar L = true) : finZ n nar z L = 0 := by unfold finZ; rw [if_pos h]
end Go.Proofs.Ythofoolgbngobaa.V
namespace Go.Proofs.Ythofoolgbngobaa.V
open Go Go.RowKit Go.Proofs.Ythofoolgbngobaa.Ab Go.Proofs.Ythofoolgbngobaa.Fn
set_option linter.unusedVariables false
set_option linter.unusedSimpArgs false
theorem fr_lat {m w : Nat} (h7 : 7 ≤ m) (hm : m ≤ 64) (hw0 : 0 < w) (hw : w < 2 ^ m) : ∃ M : Nat, decFr m w * 2 ^ (decS m w + 4 * (m : Int) - 4).toNat = M * 2 ^ 63 ∧ M ≤ 2 ^ (8 * m - 8) ∧ 0 ≤ decS m w + 4 * (m : Int) - 4 := by
 obtain ⟨-, s1, s2, r1, r2⟩ := dec_sig h7 hm hw0 hw
 have hex := decEx_lt (m := m) (w := w)
 have hs : decS m w = 4 * decK m w + (decEx m w : Int) := rfl
 have hk : decK m w = (runL m w : Int) - 1 ∨ decK m w = -(runL m w : Int) := by unfold decK; split; exact .inl rfl; exact .inr rfl
 have hd : dL1 m w = m - runL m w - 1 := rfl
 have hlf : dLf m w ≤ dL1 m w := by unfold dLf; omega
 have hlf2 : dLf m w ≤ 63 := dLf_le hm
 have hK : ((dLf m w : Nat) : Int) ≤ decS m w + 4 * (m : Int) - 4 := by omega
 have htop : decS m w + 4 * (m : Int) - 4 = ((8 * m - 8 : Nat) : Int) → dLf m w = 0 := by omega
 have hKle : decS m w + 4 * (m : Int) - 4 ≤ ((8 * m - 8 : Nat) : Int) := by omega
 have hf := Nat.mod_lt w (two_pos (dLf m w))
 unfold decFr
 generalize decS m w + 4 * (m : Int) - 4 = K at *
 generalize w % 2 ^ dLf m w = f at *
 generalize dLf m w = lf at *
 obtain ⟨K, rfl⟩ : ∃ k : Nat, K = k := ⟨K.toNat, by omega⟩
 rw [Int.toNat_natCast]
 have hKl : lf ≤ K := by omega
 refine ⟨(2 ^ lf + f) * 2 ^ (K - lf), ?_, ?_, by omega⟩
 ·have e1 : (2 : Nat) ^ 63 = 2 ^ lf * 2 ^ (63 - lf) := (pow_split hlf2).symm
  have e2 : (2 : Nat) ^ K = 2 ^ lf * 2 ^ (K - lf) := (pow_split hKl).symm
  rw [e1, e2]
  generalize 2 ^ lf = A
  generalize 2 ^ (63 - lf) = B
  generalize 2 ^ (K - lf) = C
  grind
 ·by_cases ht : (K : Int) = ((8 * m - 8 : Nat) : Int)
  ·have h0 := htop ht
   subst h0
   have : f = 0 := by simpa using hf
   subst this
   have : K = 8 * m - 8 := by omega
   subst this
   simp
  ·have h1 : (2 ^ lf + f) * 2 ^ (K - lf) ≤ 2 ^ (lf + 1) * 2 ^ (K - lf) := Nat.mul_le_mul_right _ (by rw [Nat.pow_succ]; omega)
   refine Nat.le_trans h1 ?_
   rw [← Nat.pow_add]
   exact pow_le (by omega)
theorem dec_lat {n x : Nat} (h8 : 8 ≤ n) (hn : n ≤ 64) (hx : x < 2 ^ n) (hk : (decN n x).kd = 1) : ∃ M k : Nat, (decN n x).fr * 2 ^ k = M * 2 ^ 63 ∧ M ≤ 2 ^ (8 * n - 16) ∧ (k : Int) = (decN n x).sc + 4 * (n : Int) - 8 := by
 unfold decN at hk ⊢
 by_cases h0 : x = 0
 ·rw [if_pos h0] at hk; exact absurd hk (by decide)
 ·rw [if_neg h0] at hk ⊢
  by_cases h1 : x = 2 ^ (n - 1)
  ·rw [if_pos h1] at hk; exact absurd hk (by decide)
  ·rw [if_neg h1]
   obtain ⟨b1, b2⟩ := magN_bounds (by omega) hx h0 h1
   obtain ⟨M, m1, m2, m3⟩ := fr_lat (m := n - 1) (by omega) (by omega) b1 b2
   refine ⟨M, _, m1, ?_, ?_⟩
   ·rw [show 8 * n - 16 = 8 * (n - 1) - 8 by omega]; exact m2
   ·show (((decS (n - 1) (magN n x) + 4 * ((n - 1 : Nat) : Int) - 4).toNat : Nat) : Int) = decS (n - 1) (magN n x) + 4 * (n : Int) - 8
    omega
theorem prM_lat {n : Nat} {a b : NM} {Ma Mb ka kb : Nat} (h8 : 8 ≤ n) (ha : a.fr * 2 ^ ka = Ma * 2 ^ 63) (hb : b.fr * 2 ^ kb = Mb * 2 ^ 63) (ea : (ka : Int) = a.sc + 4 * (n : Int) - 8) (eb : (kb : Int) = b.sc + 4 * (n : Int) - 8) :
  prM n a b = Ma * Mb ∧ (16 - 8 * (n : Int) ≤ a.sc + b.sc - 126 → prM n a b = a.fr * b.fr * 2 ^ (a.sc + b.sc - 126 - (16 - 8 * (n : Int))).toNat) ∧ (a.sc + b.sc - 126 < 16 - 8 * (n : Int) → a.fr * b.fr = prM n a b * 2 ^ (16 - 8 * (n : Int) - (a.sc + b.sc - 126)).toNat) := by
 have hprod : a.fr * b.fr * 2 ^ (ka + kb) = Ma * Mb * 2 ^ 126 := by
  rw [Nat.pow_add, show (126 : Nat) = 63 + 63 by rfl, Nat.pow_add]
  calc a.fr * b.fr * (2 ^ ka * 2 ^ kb) = (a.fr * 2 ^ ka) * (b.fr * 2 ^ kb) := by grind
   _ = (Ma * 2 ^ 63) * (Mb * 2 ^ 63) := by rw [ha, hb]
   _ = Ma * Mb * (2 ^ 63 * 2 ^ 63) := by grind
 have hs : a.sc + b.sc - 126 + 8 * (n : Int) - 16 = (ka : Int) + kb - 126 := by omega
 have hs2 : a.sc + b.sc - 126 - (16 - 8 * (n : Int)) = (ka : Int) + kb - 126 := by omega
 have hs3 : 16 - 8 * (n : Int) - (a.sc + b.sc - 126) = -((ka : Int) + kb - 126) := by omega
 unfold prM
 rw [hs, hs2, hs3]
 generalize a.fr * b.fr = F at *
 by_cases h : 126 ≤ ka + kb
 ·obtain ⟨t, ht⟩ : ∃ t, ka + kb = t + 126 := ⟨ka + kb - 126, by omega⟩
  rw [if_pos (by omega), show ((ka : Int) + kb - 126).toNat = t by omega]
  have h1 : F * 2 ^ t = Ma * Mb := by
   rw [ht, Nat.pow_add, ← Nat.mul_assoc] at hprod
   exact Nat.eq_of_mul_eq_mul_right (two_pos 126) hprod
  exact ⟨h1, fun _ => rfl, fun h2 => by omega⟩
 ·obtain ⟨t, ht⟩ : ∃ t, ka + kb + t = 126 := ⟨126 - (ka + kb), by omega⟩
  rw [if_neg (by omega), show (-((ka : Int) + kb - 126)).toNat = t by omega]
  have h1 : F = Ma * Mb * 2 ^ t := by
   have e : (2 : Nat) ^ 126 = 2 ^ t * 2 ^ (ka + kb) := by rw [← Nat.pow_add]; exact pow_congr (by omega)
   rw [e, ← Nat.mul_assoc] at hprod
   exact Nat.eq_of_mul_eq_mul_right (two_pos (ka + kb)) hprod
  have h2 : F / 2 ^ t = Ma * Mb := by rw [h1]; exact Nat.mul_div_cancel _ (two_pos t)
  rw [h2]
  exact ⟨rfl, fun h3 => by omega, fun _ => h1⟩
def EX.exa (x : EX) (z u : Int) : Prop := x.kd = 1 ∧ ∀ e, e ≤ x.sc → (e - 127 ≤ u → x.val e = z * 2 ^ (u - (e - 127)).toNat) ∧ (u ≤ e - 127 → z = x.val e * 2 ^ (e - 127 - u).toNat)
theorem sumX_exa {x y : EX} {z w u : Int} (hx : x.exa z u) (hy : y.exa w u) : sumX x y = intX (z + w) u := by
 obtain ⟨kx, hx⟩ := hx
 obtain ⟨ky, hy⟩ := hy
 obtain ⟨x1, x2⟩ := hx (min x.sc y.sc) (by omega)
 obtain ⟨y1, y2⟩ := hy (min x.sc y.sc) (by omega)
 unfold sumX
 rw [if_neg (by omega), if_neg (by omega), if_neg (by omega)]
 generalize min x.sc y.sc = e at *
 by_cases h : e - 127 ≤ u
 ·rw [x1 h, y1 h, ← Int.add_mul, intX_shift]
  congr 1
  omega
 ·have h' : u ≤ e - 127 := by omega
  rw [x2 h', y2 h', ← Int.add_mul, intX_shift]
  congr 1
  omega
theorem natX_exa {g : Bool} {M N : Nat} {e0 u : Int} (hM : 0 < M) (hb : bl M ≤ 128) (b0 : -1099511627776 ≤ e0 + (bl M : Int) - 1) (b1 : e0 + (bl M : Int) - 1 ≤ 1099511627776) (h1 : u ≤ e0 → N = M * 2 ^ (e0 - u).toNat) (h2 : e0 < u → M = N * 2 ^ (u - e0).toNat) :
  (natX g M e0 false).exa (if g then -(N : Int) else (N : Int)) u ∧ natX g M e0 false = intX (if g then -(N : Int) else (N : Int)) u := by
 constructor
 ·unfold natX
  rw [if_neg (by omega)]
  refine ⟨rfl, fun e he => ?_⟩
  have hsc : heldI (e0 + (bl M : Int) - 1) = e0 + (bl M : Int) - 1 := by unfold heldI; rw [if_neg (by omega), if_neg (by omega)]
  simp only [hsc] at he
  have hv : (⟨1, g, heldI (e0 + (bl M : Int) - 1), mkV M, mkR M false⟩ : EX).val e = if g then -((M * 2 ^ (e0 + 127 - e).toNat : Nat) : Int) else ((M * 2 ^ (e0 + 127 - e).toNat : Nat) : Int) := by
   unfold EX.val mkV
   simp only [hsc, if_pos hb]
   rw [Nat.mul_assoc, ← Nat.pow_add, show 128 - bl M + (e0 + (bl M : Int) - 1 - e).toNat = (e0 + 127 - e).toNat by omega]
  rw [hv]
  have hM2 : e - 127 ≤ u → M * 2 ^ (e0 + 127 - e).toNat = N * 2 ^ (u - (e - 127)).toNat := by
   intro hu
   by_cases h : u ≤ e0
   ·rw [h1 h, Nat.mul_assoc, ← Nat.pow_add]
    congr 2
    omega
   ·rw [h2 (by omega), Nat.mul_assoc, ← Nat.pow_add]
    congr 2
    omega
  have hM3 : u ≤ e - 127 → N = M * 2 ^ (e0 + 127 - e).toNat * 2 ^ (e - 127 - u).toNat := by
   intro hu
   rw [h1 (by omega), Nat.mul_assoc, ← Nat.pow_add]
   congr 2
   omega
  refine ⟨fun hu => ?_, fun hu => ?_⟩
  ·rw [hM2 hu]
   cases g
   ·simp only [Bool.false_eq_true, if_false]
    rw [pow_cast, ← Int.natCast_mul]
   ·simp only [if_true]
    rw [pow_cast, Int.neg_mul, ← Int.natCast_mul]
  ·rw [hM3 hu]
   cases g
   ·simp only [Bool.false_eq_true, if_false]
    rw [pow_cast, ← Int.natCast_mul]
   ·simp only [if_true]
    rw [pow_cast, Int.neg_mul, ← Int.natCast_mul]
 ·rw [intX_nat]
  by_cases h : u ≤ e0
  ·rw [h1 h, natX_shift]
   congr 1
   omega
  ·rw [h2 (by omega), natX_shift]
   congr 1
   omega
theorem pr_real {n : Nat} {a b : NM} (h8 : 8 ≤ n) (hn : n ≤ 64) (ha : a.ok) (hb : b.ok) (ka : a.kd = 1) (kb : b.kd = 1) (la : ∃ M k : Nat, a.fr * 2 ^ k = M * 2 ^ 63 ∧ M ≤ 2 ^ (8 * n - 16) ∧ (k : Int) = a.sc + 4 * (n : Int) - 8) (lb : ∃ M k : Nat, b.fr * 2 ^ k = M * 2 ^ 63 ∧ M ≤ 2 ^ (8 * n - 16) ∧ (k : Int) = b.sc + 4 * (n : Int) - 8) :
  (prodX a b).exa (prI n a b) (16 - 8 * (n : Int)) ∧ prodX a b = intX (prI n a b) (16 - 8 * (n : Int)) ∧ prM n a b ≤ 2 ^ (16 * n - 32) := by
 obtain ⟨Ma, k1, a1, a2, a3⟩ := la
 obtain ⟨Mb, k2, b1, b2, b3⟩ := lb
 obtain ⟨e1, e2, e3⟩ := prM_lat h8 a1 b1 a3 b3
 rcases NM.cases ha with rfl | rfl | ⟨-, p1, p2, p3, p4⟩
 ·exact absurd ka (by decide)
 ·exact absurd ka (by decide)
 rcases NM.cases hb with rfl | rfl | ⟨-, q1, q2, q3, q4⟩
 ·exact absurd kb (by decide)
 ·exact absurd kb (by decide)
 have hle : prM n a b ≤ 2 ^ (16 * n - 32) := by
  rw [e1, show 16 * n - 32 = 8 * n - 16 + (8 * n - 16) by omega, Nat.pow_add]
  exact Nat.mul_le_mul a2 b2
 have h128 : a.fr * b.fr < 2 ^ 128 := by
  rw [p64] at p2 q2
  exact mul_lt128 p2 q2
 have hpos : 0 < a.fr * b.fr := Nat.mul_pos (Nat.lt_of_lt_of_le (two_pos 63) p1) (Nat.lt_of_lt_of_le (two_pos 63) q1)
 have hbl := bl_le_of_lt h128
 unfold prodX prI
 rw [if_neg (by omega), if_neg (by omega), if_pos ⟨ka, kb⟩]
 obtain ⟨h1, h2⟩ := natX_exa (g := a.ng != b.ng) (N := prM n a b) (e0 := a.sc + b.sc - 126) (u := 16 - 8 * (n : Int)) hpos hbl (by omega) (by omega) e2 e3
 exact ⟨h1, h2, hle⟩
theorem intX_zero (u : Int) : intX 0 u = EX.zero := by unfold intX; rw [Int.natAbs_zero, natX_zero]
theorem pr_any {n x y : Nat} (h8 : 8 ≤ n) (hn : n ≤ 64) (hx : x < 2 ^ n) (hy : y < 2 ^ n) (kx : (decN n x).kd ≠ 2) (ky : (decN n y).kd ≠ 2) :
  prodX (decN n x) (decN n y) = intX (prI n (decN n x) (decN n y)) (16 - 8 * (n : Int)) ∧ (prI n (decN n x) (decN n y)).natAbs ≤ 2 ^ (16 * n - 32) ∧
  ((prodX (decN n x) (decN n y) = EX.zero ∧ prI n (decN n x) (decN n y) = 0) ∨ (prodX (decN n x) (decN n y)).exa (prI n (decN n x) (decN n y)) (16 - 8 * (n : Int))) := by
 have ox := decN_ok h8 hn hx
 have oy := decN_ok h8 hn hy
 have cx : (decN n x).kd = 0 ∨ (decN n x).kd = 1 := by
  rcases NM.cases ox with h | h | h
  ·left; rw [h]
  ·rw [h] at kx; exact absurd rfl kx
  ·exact .inr h.1
 have cy : (decN n y).kd = 0 ∨ (decN n y).kd = 1 := by
  rcases NM.cases oy with h | h | h
  ·left; rw [h]
  ·rw [h] at ky; exact absurd rfl ky
  ·exact .inr h.1
 by_cases hr : (decN n x).kd = 1 ∧ (decN n y).kd = 1
 ·obtain ⟨h1, h2, h3⟩ := pr_real h8 hn ox oy hr.1 hr.2 (dec_lat h8 hn hx hr.1) (dec_lat h8 hn hy hr.2)
  refine ⟨h2, ?_, .inr h1⟩
  unfold prI
  rw [if_pos hr]
  split
  ·rw [Int.natAbs_neg, Int.natAbs_natCast]; exact h3
  ·rw [Int.natAbs_natCast]; exact h3
 ·have h0 : prodX (decN n x) (decN n y) = EX.zero := by
   unfold prodX
   rw [if_neg (by omega), if_pos (by omega)]
  have h1 : prI n (decN n x) (decN n y) = 0 := by unfold prI; rw [if_neg hr]
  rw [h0, h1, intX_zero]
  exact ⟨rfl, by simp, .inl ⟨rfl, rfl⟩⟩
theorem exa_neg {x : EX} {z u : Int} (h : x.exa z u) : x.neg.exa (-z) u := by
 obtain ⟨h1, h2⟩ := h
 refine ⟨(EX.neg_kd x).trans h1, fun e he => ?_⟩
 rw [EX.neg_sc] at he
 rw [EX.neg_val h1]
 obtain ⟨h3, h4⟩ := h2 e he
 refine ⟨fun h => ?_, fun h => ?_⟩
 ·rw [h3 h, Int.neg_mul]
 ·rw [Int.neg_mul, ← h4 h]
theorem sum_units {x y : EX} {z w u : Int} (ox : x.ok) (hx : (x = EX.zero ∧ z = 0) ∨ x.exa z u) (hy : (y = EX.zero ∧ w = 0) ∨ y.exa w u) (ex : x = intX z u) (ey : y = intX w u) : sumX x y = intX (z + w) u := by
 rcases hx with ⟨rfl, rfl⟩ | hx
 ·rcases hy with ⟨rfl, rfl⟩ | hy
  ·rw [sumX_zero_r ox, Int.zero_add]; exact ex
  ·rw [sumX_z1 (by rintro (h | h); exact absurd h (by decide); rw [hy.1] at h; exact absurd h (by decide)) rfl, Int.zero_add]
   exact ey
 ·rcases hy with ⟨rfl, rfl⟩ | hy
  ·rw [sumX_zero_r ox, Int.add_zero]; exact ex
  ·exact sumX_exa hx hy
theorem HW_pow {n : Nat} (hn : isW (n : Int) = true) : HW (n / 4) = 2 ^ (16 * n - 1) := by
 have hb := isW_cases hn
 have : n = 8 ∨ n = 16 ∨ n = 32 ∨ n = 64 := by omega
 rcases this with rfl | rfl | rfl | rfl <;> rw [HW_def, PW_two] <;> decide +kernel
end Go.Proofs.Ythofoolgbngobaa.V
namespace Go.Proofs.Ythofoolgbngobaa.V
open Go Go.RowKit Go.Proofs.Ythofoolgbngobaa.Ab Go.Proofs.Ythofoolgbngobaa.Fn
set_option linter.unusedVariables false
set_option linter.unusedSimpArgs false
def prdX (n x y : Nat) : EX := prodX (decN n x) (decN n y)
theorem prdX_ok (n x y : Nat) : (prdX n x y).ok := prodX_ok _ _
def fmaN (n x y z : Nat) : Nat := (sumX (prdX n x y) (decN n z).ex).rnd n
def pairN (n x y z w : Nat) : Nat := (sumX (prdX n x y) (prdX n z w)).rnd n
theorem prdX_neg {n x y : Nat} (h8 : 8 ≤ n) (hn : n ≤ 64) (hx : x < 2 ^ n) : prdX n (negP n x) y = (prdX n x y).neg := by
 unfold prdX
 rw [decN_neg (by omega) hx, prodX_neg (decN_ok h8 hn hx)]
theorem prdX_one {n x : Nat} (h : isW (n : Int) = true) (h8 : 8 ≤ n) (hn : n ≤ 64) (hx : x < 2 ^ n) : prdX n x (2 ^ (n - 2)) = (decN n x).ex := by
 unfold prdX
 rw [decN_one h, prodX_one (decN_ok h8 hn hx)]
theorem fuse_product_eq {n a b : Nat} (h : isW (n : Int) = true) (ha : a < 18446744073709551616) (hb : b < 18446744073709551616) : Ev (fun k => fuse_product.f k (n : Int) (a : Int) (b : Int)) ((prdX n (a % 2 ^ n) (b % 2 ^ n)).kd, (prdX n (a % 2 ^ n) (b % 2 ^ n)).ng, (prdX n (a % 2 ^ n) (b % 2 ^ n)).sc, TH (prdX n (a % 2 ^ n) (b % 2 ^ n)).V, TL (prdX n (a % 2 ^ n) (b % 2 ^ n)).V, (prdX n (a % 2 ^ n) (b % 2 ^ n)).R, none) := by
 obtain ⟨b64, b8⟩ := pow64 h
 have oa := decN_ok b8 b64 (Nat.mod_lt a (two_pos n))
 have ob := decN_ok b8 b64 (Nat.mod_lt b (two_pos n))
 unfold fuse_product.f
 refine Ev.bind (Decode_N h ha) ?_
 simp only [Option.isNone_none, if_true]
 exact Ev.bind (Decode_N h hb) (Ev.bind (prod_Exact_X oa ob) (Ev.now _))
theorem fuse_Fma_eq {n a b c : Nat} (h : isW (n : Int) = true) (ha : a < 18446744073709551616) (hb : b < 18446744073709551616) (hc : c < 18446744073709551616) : Ev (fun k => fuse_Fma.f k (n : Int) (a : Int) (b : Int) (c : Int)) (((fmaN n (a % 2 ^ n) (b % 2 ^ n) (c % 2 ^ n) : Nat) : Int), none) := by
 obtain ⟨b64, b8⟩ := pow64 h
 have oc := decN_ok b8 b64 (Nat.mod_lt c (two_pos n))
 have op := prdX_ok n (a % 2 ^ n) (b % 2 ^ n)
 unfold fuse_Fma.f
 refine Ev.bind (fuse_product_eq h ha hb) ?_
 simp only [Option.isNone_none, if_true]
 exact Ev.bind (Decode_N h hc) (Ev.bind (Of_X oc) (Ev.bind (broad_Sum_X op (NM.ex_ok oc)) (Ev.bind (Round_X h (sumX_ok op (NM.ex_ok oc))) (Ev.now _))))
theorem fuse_Pair_eq {n a b c d : Nat} (h : isW (n : Int) = true) (ha : a < 18446744073709551616) (hb : b < 18446744073709551616) (hc : c < 18446744073709551616) (hd : d < 18446744073709551616) : Ev (fun k => fuse_Pair.f k (n : Int) (a : Int) (b : Int) (c : Int) (d : Int)) (((pairN n (a % 2 ^ n) (b % 2 ^ n) (c % 2 ^ n) (d % 2 ^ n) : Nat) : Int), none) := by
 have op := prdX_ok n (a % 2 ^ n) (b % 2 ^ n)
 have oq := prdX_ok n (c % 2 ^ n) (d % 2 ^ n)
 unfold fuse_Pair.f
 refine Ev.bind (fuse_product_eq h ha hb) ?_
 simp only [Option.isNone_none, if_true]
 exact Ev.bind (fuse_product_eq h hc hd) (Ev.bind (broad_Sum_X op oq) (Ev.bind (Round_X h (sumX_ok op oq)) (Ev.now _)))
theorem fuse_Cross_eq {n a b c d : Nat} (h : isW (n : Int) = true) (ha : a < 18446744073709551616) (hb : b < 18446744073709551616) (hc : c < 18446744073709551616) (hd : d < 18446744073709551616) : Ev (fun k => fuse_Cross.f k (n : Int) (a : Int) (b : Int) (c : Int) (d : Int)) (((pairN n (a % 2 ^ n) (b % 2 ^ n) (negP n (c % 2 ^ n)) (d % 2 ^ n) : Nat) : Int), none) := by
 obtain ⟨b64, b8⟩ := pow64 h
 have g : (18446744073709551616 - c) % 18446744073709551616 % 2 ^ n = negP n (c % 2 ^ n) := negN_mod b64 hc
 have q := fuse_Pair_eq h ha hb (Nat.mod_lt (18446744073709551616 - c) (show 0 < 18446744073709551616 by decide)) hd
 rw [g, ← neg_wrap hc] at q
 unfold fuse_Cross.f
 exact Ev.bind q (Ev.now _)
end Go.Proofs.Ythofoolgbngobaa.V
namespace Go.Proofs.Ythofoolgbngobaa.V
open Go Go.RowKit Go.Proofs.Ythofoolgbngobaa.Ab Go.Proofs.Ythofoolgbngobaa.Fn
set_option linter.unusedVariables false
set_option linter.unusedSimpArgs false
def RD (n : Nat) (nar : Bool) (z : Int) : Nat := if nar = true then 2 ^ (n - 1) else (intX z (16 - 8 * (n : Int))).rnd n
theorem cap_units {n : Nat} (hn : isW (n : Int) = true) : 2147483647 * 2 ^ (16 * n - 32) < HW (n / 4) := by
 have hh := HW_pow hn
 have hnb := isW_cases hn
 have h2 : 2147483648 * 2 ^ (16 * n - 32) = 2 ^ (16 * n - 1) := by
  rw [show (2147483648 : Nat) = 2 ^ 31 by decide, ← Nat.pow_add]
  exact pow_congr (by omega)
 have hp := two_pos (16 * n - 32)
 rw [hh, ← h2]
 exact Nat.mul_lt_mul_of_pos_right (by decide) hp
theorem Round_at {n : Nat} {t z : Int} {nar : Bool} (hn : isW (n : Int) = true) (hb : z.natAbs ≤ 2147483647 * 2 ^ (16 * n - 32)) : Ev (fun k => accum_Acc_Round.f k (n : Int) nar t (ws (enc (n / 4) z))) ((), (), ((RD n nar z : Nat) : Int)) := by
 have h2 := cap_units hn
 unfold RD
 cases nar
 ·exact Round_z hn (by omega) (by omega)
 ·exact Round_nar hn
theorem one_mod {n : Nat} (h8 : 8 ≤ n) : 2 ^ (n - 2) % 2 ^ n = 2 ^ (n - 2) := Nat.mod_eq_of_lt (pow_lt (by omega))
def tmX (n : Nat) (x : Tm) : EX := if x.2.2 then (prdX n (x.1.toNat % 2 ^ n) (x.2.1.toNat % 2 ^ n)).neg else prdX n (x.1.toNat % 2 ^ n) (x.2.1.toNat % 2 ^ n)
theorem tmX_ok (n : Nat) (x : Tm) : (tmX n x).ok := by
 unfold tmX
 split
 ·exact EX.neg_ok (prdX_ok _ _ _)
 ·exact prdX_ok _ _ _
theorem tmX_nar {n : Nat} {x : Tm} (h : tmNar n x = true) : tmX n x = EX.nar := by
 unfold tmNar at h
 have h := of_decide_eq_true h
 have hp : prdX n (x.1.toNat % 2 ^ n) (x.2.1.toNat % 2 ^ n) = EX.nar := by unfold prdX prodX; rw [if_pos h]
 unfold tmX
 rw [hp]
 split
 ·rfl
 ·rfl
theorem tm_units {n : Nat} {x : Tm} (h8 : 8 ≤ n) (hn : n ≤ 64) (h : tmNar n x = false) :
  tmX n x = intX (tmVal n x) (16 - 8 * (n : Int)) ∧ ((tmX n x = EX.zero ∧ tmVal n x = 0) ∨ (tmX n x).exa (tmVal n x) (16 - 8 * (n : Int))) := by
 unfold tmNar at h
 have h := of_decide_eq_false h
 obtain ⟨p1, p2, p3⟩ := pr_any h8 hn (Nat.mod_lt x.1.toNat (two_pos n)) (Nat.mod_lt x.2.1.toNat (two_pos n)) (fun e => h (.inl e)) (fun e => h (.inr e))
 unfold tmX tmVal
 have e : prdX n (x.1.toNat % 2 ^ n) (x.2.1.toNat % 2 ^ n) = prodX (decN n (x.1.toNat % 2 ^ n)) (decN n (x.2.1.toNat % 2 ^ n)) := rfl
 rw [e]
 split
 ·rw [intX_neg, ← p1]
  refine ⟨rfl, ?_⟩
  rcases p3 with ⟨q1, q2⟩ | q
  ·left; rw [q1, q2]; exact ⟨rfl, rfl⟩
  ·exact .inr (exa_neg q)
 ·exact ⟨p1, p3⟩
theorem tm_bound {n : Nat} {x : Tm} (h8 : 8 ≤ n) (hn : n ≤ 64) : (tmVal n x).natAbs ≤ 2 ^ (16 * n - 32) := by
 have h : (prI n (decN n (x.1.toNat % 2 ^ n)) (decN n (x.2.1.toNat % 2 ^ n))).natAbs ≤ 2 ^ (16 * n - 32) := by
  by_cases hk : (decN n (x.1.toNat % 2 ^ n)).kd = 2 ∨ (decN n (x.2.1.toNat % 2 ^ n)).kd = 2
  ·unfold prI
   rw [if_neg (by omega)]
   exact Nat.zero_le _
  ·exact (pr_any h8 hn (Nat.mod_lt x.1.toNat (two_pos n)) (Nat.mod_lt x.2.1.toNat (two_pos n)) (fun e => hk (.inl e)) (fun e => hk (.inr e))).2.1
 unfold tmVal
 split
 ·rw [Int.natAbs_neg]; exact h
 ·exact h
theorem sum_bound {n : Nat} (h8 : 8 ≤ n) (hn : n ≤ 64) : ∀ L : List Tm, (sumL n L).natAbs ≤ L.length * 2 ^ (16 * n - 32)
 | [] => by simp [sumL]
 | x :: L => by
  have h1 := sum_bound h8 hn L
  have h2 := tm_bound (x := x) h8 hn
  rw [List.length_cons, Nat.add_mul, Nat.one_mul]
  simp only [sumL]
  omega
theorem fin_bound {n : Nat} (h8 : 8 ≤ n) (hn : n ≤ 64) {L : List Tm} (hl : L.length ≤ 2147483647) : (finZ n false 0 L).natAbs ≤ 2147483647 * 2 ^ (16 * n - 32) := by
 unfold finZ
 split
 ·exact Nat.zero_le _
 ·rw [Int.zero_add]
  exact Nat.le_trans (sum_bound h8 hn L) (Nat.mul_le_mul_right _ hl)
def dotR (n : Nat) (L : List Tm) : Nat := RD n (narL n L) (finZ n false 0 L)
theorem dot_one {n : Nat} (h8 : 8 ≤ n) (hn : n ≤ 64) (x : Tm) : dotR n [x] = (tmX n x).rnd n := by
 unfold dotR RD finZ finN
 simp only [narL, sumL, Bool.or_false, Bool.false_or, Int.zero_add, Int.add_zero]
 cases h : tmNar n x
 ·rw [if_neg (by decide), if_neg (by decide), ← (tm_units h8 hn h).1]
 ·rw [if_pos rfl, tmX_nar h, EX.rnd_nar]
theorem dot_two {n : Nat} (h8 : 8 ≤ n) (hn : n ≤ 64) (x y : Tm) : dotR n [x, y] = (sumX (tmX n x) (tmX n y)).rnd n := by
 unfold dotR RD finZ finN
 simp only [narL, sumL, Bool.or_false, Bool.false_or, Int.zero_add, Int.add_zero]
 cases h : tmNar n x
 ·cases h' : tmNar n y
  ·obtain ⟨a1, a2⟩ := tm_units h8 hn h
   obtain ⟨b1, b2⟩ := tm_units h8 hn h'
   simp only [Bool.or_false, Bool.false_eq_true, if_false]
   rw [sum_units (tmX_ok n x) a2 b2 a1 b1]
  ·rw [show (false || true) = true from rfl, if_pos rfl, sumX_nar (.inr (by rw [tmX_nar h']; rfl)), EX.rnd_nar]
 ·rw [Bool.true_or, if_pos rfl, sumX_nar (.inl (by rw [tmX_nar h]; rfl)), EX.rnd_nar]
end Go.Proofs.Ythofoolgbngobaa.V
namespace Go.Proofs.Ythofoolgbngobaa.V
open Go Go.RowKit Go.Proofs.Ythofoolgbngobaa.Ab Go.Proofs.Ythofoolgbngobaa.Fn
set_option linter.unusedVariables false
set_option linter.unusedSimpArgs false
def tms (l : List (Int × Int)) : List Tm := l.map fun x => (x.1, (x.2, false))
theorem tms_len (l : List (Int × Int)) : (tms l).length = l.length := by unfold tms; rw [List.length_map]
theorem fin_nil {n : Nat} {nar : Bool} {z : Int} (hz : nar = true → z = 0) : finN n nar [] = nar ∧ finZ n nar z [] = z := by
 have e1 : finN n nar [] = nar := by unfold finN narL; rw [Bool.or_false]
 refine ⟨e1, ?_⟩
 unfold finZ
 rw [e1]
 cases nar
 ·simp [sumL]
 ·simp [hz rfl]
theorem u64_of_inK {x : Int} (h : inK .u64 x) : ∃ a : Nat, x = a ∧ a < 18446744073709551616 := by
 obtain ⟨h1, h2⟩ := h
 simp only [kLo, kHi] at h1 h2
 exact ⟨x.toNat, by omega, by omega⟩
theorem into_l0 {n : Nat} (hn : isW (n : Int) = true) : ∀ (l : List (Int × Int)) (nar : Bool) (t z : Int), (∀ x ∈ l, inK .u64 x.1 ∧ inK .u64 x.2) → 0 ≤ t → t + l.length ≤ 2147483647 → (nar = true → z = 0) →
  Ev (fun k => vec_Into.l0 k ((n : Int), nar, t, ws (enc (n / 4) z)) l) (((n : Int), finN n nar (tms l), t + l.length, ws (enc (n / 4) (finZ n nar z (tms l)))), (), none) := by
 intro l
 induction l with
 | nil =>
  intro nar t z hw ht0 ht hz
  obtain ⟨e1, e2⟩ := fin_nil (n := n) hz
  rw [show tms [] = [] from rfl, e1, e2, List.length_nil, Int.natCast_zero, Int.add_zero]
  exact Ev.now _
 | cons x l ih =>
  intro nar t z hw ht0 ht hz
  obtain ⟨p, q⟩ := x
  obtain ⟨h1, h2⟩ := hw _ List.mem_cons_self
  obtain ⟨a, rfl, ha⟩ := u64_of_inK h1
  obtain ⟨b, rfl, hb⟩ := u64_of_inK h2
  rw [List.length_cons] at ht ⊢
  have hd := deposit_eq (take := false) hn ht0 (by omega) ha hb hz
  obtain ⟨e1, e2⟩ := dep_fin (n := n) (nar := nar) (take := false) (z := z) (a := a) (b := b) (L := tms l)
  have hnext := ih (depS n nar z (decN n (a % 2 ^ n)) (decN n (b % 2 ^ n)) false).1 (t + 1) (depS n nar z (decN n (a % 2 ^ n)) (decN n (b % 2 ^ n)) false).2 (fun y hy => hw y (List.mem_cons_of_mem _ hy)) (by omega) (by omega) depS_nar
  rw [e1, e2, show t + 1 + (l.length : Int) = t + ((l.length + 1 : Nat) : Int) by omega] at hnext
  simp only [vec_Into.l0]
  refine Ev.bind (Put_of hd) ?_
  exact hnext
theorem Into_eq {n : Nat} {a b : List Int} {nar : Bool} {t z : Int} (hn : isW (n : Int) = true) (ha : ∀ x ∈ a, inK .u64 x) (hb : ∀ x ∈ b, inK .u64 x) (hl : a.length = b.length) (ht0 : 0 ≤ t) (ht : t + a.length ≤ 2147483647) (hz : nar = true → z = 0) :
  Ev (fun k => vec_Into.f k (n : Int) nar t (ws (enc (n / 4) z)) a b) (((n : Int), finN n nar (tms (a.zip b)), t + a.length, ws (enc (n / 4) (finZ n nar z (tms (a.zip b))))), (), none) := by
 have hzl : (a.zip b).length = a.length := by rw [List.length_zip]; omega
 have h := into_l0 hn (a.zip b) nar t z (fun x hx => ⟨ha _ (List.of_mem_zip hx).1, hb _ (List.of_mem_zip hx).2⟩) ht0 (by rw [hzl]; exact ht) hz
 rw [hzl] at h
 unfold vec_Into.f
 have hw : wrap64 (2147483647 - t) = 2147483647 - t := w64 (by omega) (by omega)
 simp only [if_pos hl, State_eq hn, Option.bind_some, hw, if_neg (show ¬ ((a.length : Int) > 2147483647 - t) by omega)]
 exact h
end Go.Proofs.Ythofoolgbngobaa.V
namespace Go.Proofs.Ythofoolgbngobaa.V
open Go Go.RowKit Go.Proofs.Ythofoolgbngobaa.Ab Go.Proofs.Ythofoolgbngobaa.Fn
set_option linter.unusedVariables false
set_option linter.unusedSimpArgs false
def ones (n : Nat) (l : List Int) : List (Int × Int) := l.map fun x => (x, ((2 ^ (n - 2) : Nat) : Int))
theorem ones_len (n : Nat) (l : List Int) : (ones n l).length = l.length := by unfold ones; rw [List.length_map]
theorem rd_at {l : List Int} {i : Nat} (h : i < l.length) : rd l (i : Int) = l[i] := by
 unfold rd
 rw [Int.toNat_natCast, List.getD_eq_getElem?_getD, List.getElem?_eq_getElem h]
 rfl
theorem Dot_eq {n : Nat} {a b : List Int} (hn : isW (n : Int) = true) (ha : ∀ x ∈ a, inK .u64 x) (hb : ∀ x ∈ b, inK .u64 x) (hl : a.length = b.length) (hm : a.length ≤ 2147483647) :
  Ev (fun k => vec_Dot.f k (n : Int) a b) (((dotR n (tms (a.zip b)) : Nat) : Int), none) := by
 obtain ⟨b64, b8⟩ := pow64 hn
 have hi := Into_eq (nar := false) (t := 0) (z := 0) hn ha hb hl (by decide) (by omega) (fun _ => rfl)
 rw [enc_zero] at hi
 have hzl : (tms (a.zip b)).length ≤ 2147483647 := by rw [tms_len, List.length_zip]; omega
 have hr := Round_at (t := 0 + (a.length : Int)) (nar := finN n false (tms (a.zip b))) hn (fin_bound b8 b64 hzl)
 have e : finN n false (tms (a.zip b)) = narL n (tms (a.zip b)) := by unfold finN; rw [Bool.false_or]
 unfold vec_Dot.f
 refine Ev.bind (New_eq hn) ?_
 simp only [if_true, Option.isNone_none]
 refine Ev.bind hi ?_
 simp only [if_true, Option.isNone_none]
 refine Ev.bind hr ?_
 rw [e]
 exact Ev.now _
theorem add_one {n x : Nat} {t z : Int} {nar : Bool} {L : List Tm} {N : Bool} {Z : Int} (hn : isW (n : Int) = true) (ht0 : 0 ≤ t) (ht : t < 2147483647) (hx : x < 18446744073709551616) (hz : nar = true → z = 0) (h1 : finN n nar (((x : Int), (((2 ^ (n - 2) : Nat) : Int), false)) :: L) = N) (h2 : finZ n nar z (((x : Int), (((2 ^ (n - 2) : Nat) : Int), false)) :: L) = Z) :
  ∃ (nar' : Bool) (z' : Int), Ev (fun k => accum_Acc_Add.f k (n : Int) nar t (ws (enc (n / 4) z)) (x : Int)) (((n : Int), nar', t + 1, ws (enc (n / 4) z')), (), none) ∧ (nar' = true → z' = 0) ∧ finN n nar' L = N ∧ finZ n nar' z' L = Z := by
 have h64 : 2 ^ (n - 2) < 18446744073709551616 := by
  obtain ⟨b64, b8⟩ := pow64 hn
  rw [← p64]
  exact pow_lt (by omega)
 obtain ⟨e1, e2⟩ := dep_fin (n := n) (nar := nar) (take := false) (z := z) (a := x) (b := 2 ^ (n - 2)) (L := L)
 exact ⟨_, _, Add_of hn (deposit_eq (take := false) hn ht0 ht hx h64 hz), depS_nar, e1.trans h1, e2.trans h2⟩
theorem Sum_l0 {n : Nat} {l : List Int} (hn : isW (n : Int) = true) (hl : ∀ x ∈ l, inK .u64 x) (hm : l.length ≤ 2147483647) {N : Bool} {Z : Int} (hbd : Z.natAbs ≤ 2147483647 * 2 ^ (16 * n - 32)) : ∀ (d i : Nat) (nar : Bool) (z : Int), i + d = l.length → (nar = true → z = 0) → finN n nar (tms (ones n (l.drop i))) = N → finZ n nar z (tms (ones n (l.drop i))) = Z →
  Ev (fun k => vec_Sum.l0 k l (l.length : Int) (i : Int) (n : Int) nar (i : Int) (ws (enc (n / 4) z))) (((RD n N Z : Nat) : Int), none) := by
 intro d
 induction d with
 | zero =>
  intro i nar z hi hz h1 h2
  have c1 : ¬ ((i : Int) < (l.length : Int)) := by omega
  have c2 : l.length ≤ i := by omega
  have : l.drop i = [] := List.drop_eq_nil_of_le c2
  rw [this] at h1 h2
  obtain ⟨e1, e2⟩ := fin_nil (n := n) hz
  rw [show tms (ones n []) = [] from rfl] at h1 h2
  rw [e1] at h1
  rw [e2] at h2
  subst h1 h2
  refine evs ?_
  simp only [vec_Sum.l0, if_neg c1]
  exact Ev.bind (Round_at hn hbd) (Ev.now _)
 | succ d ih =>
  intro i nar z hi hz h1 h2
  have hil : i < l.length := by omega
  have c1 : (i : Int) < (l.length : Int) := by omega
  have c2 : (0 : Int) ≤ (i : Int) := by omega
  have c3 : (i : Int) < 2147483647 := by omega
  have c4 : i + 1 + d = l.length := by omega
  have c5 : (i : Int) + 1 = ((i + 1 : Nat) : Int) := by omega
  have hw : wrap64 ((i : Int) + 1) = ((i + 1 : Nat) : Int) := by rw [w64 (by omega) (by omega)]; omega
  have hd : l.drop i = l[i] :: l.drop (i + 1) := List.drop_eq_getElem_cons hil
  obtain ⟨x, hx, hx64⟩ := u64_of_inK (hl _ (List.getElem_mem hil))
  rw [hd, hx] at h1 h2
  obtain ⟨nar', z', h3, h4, h5, h6⟩ := add_one (L := tms (ones n (l.drop (i + 1)))) hn c2 c3 hx64 hz h1 h2
  refine evs ?_
  simp only [vec_Sum.l0, nI_eq, rd_at hil, hx, if_pos c1, if_pos c2, hw]
  refine Ev.bind h3 ?_
  simp only [Option.isNone_none, if_true]
  have := ih (i + 1) nar' z' c4 h4 h5 h6
  rw [← c5] at this ⊢
  exact this
theorem Sum_eq {n : Nat} {l : List Int} (hn : isW (n : Int) = true) (hl : ∀ x ∈ l, inK .u64 x) (hm : l.length ≤ 2147483647) : Ev (fun k => vec_Sum.f k (n : Int) l) (((dotR n (tms (ones n l)) : Nat) : Int), none) := by
 obtain ⟨b64, b8⟩ := pow64 hn
 have hbd := fin_bound b8 b64 (L := tms (ones n l)) (by rw [tms_len, ones_len]; exact hm)
 have h := Sum_l0 (N := narL n (tms (ones n l))) hn hl hm hbd l.length 0 false 0 (Nat.zero_add _) (fun _ => rfl) (by unfold finN; rw [Bool.false_or]; rfl) rfl
 rw [enc_zero] at h
 unfold vec_Sum.f
 refine Ev.bind (New_eq hn) ?_
 simp only [if_true, Option.isNone_none, nI_eq]
 exact h
end Go.Proofs.Ythofoolgbngobaa.V
namespace Go.Proofs.Ythofoolgbngobaa.Pure
open Go Go.RowKit Go.Proofs.Ythofoolgbngobaa.Ab Go.Proofs.Ythofoolgbngobaa.Fn Go.Proofs.Ythofoolgbngobaa.V
set_option linter.unusedSimpArgs false
set_option linter.unusedVariables false
theorem wide_of {a : Int} (h : (Lit.int .i64 a).wf = true) : ∃ n : Nat, isW (n : Int) = true ∧ Ev (fun k => verniertop_wide.f k a) (n : Int) := by
 obtain ⟨h1, h2⟩ := inK_wf h
 simp only [kLo, kHi] at h1 h2
 have ht : ∃ t : Nat, t < 4 ∧ verniertop_turn.f a 4 = some (t : Int) := by
  unfold verniertop_turn.f
  simp only [if_neg (show ¬ (4 : Int) = 0 by decide)]
  by_cases ha : a < 0
  ·rw [if_pos ha, w64 (n := a + 1) (by omega) (by omega), w64 (by omega) (by omega), Int.tmod_eq_emod_of_nonneg (by omega)]
   exact ⟨((-(a + 1)) % 4).toNat, by omega, by congr 1; omega⟩
  ·rw [if_neg ha, Int.tmod_eq_emod_of_nonneg (by omega)]
   exact ⟨(a % 4).toNat, by omega, by congr 1; omega⟩
 obtain ⟨t, ht, e⟩ := ht
 have hl : ∀ (t x : Nat), t < 4 → x * 2 ^ t ≤ 64 → Ev (fun k => verniertop_wide.l0 k (x : Int) (t : Int)) ((x * 2 ^ t : Nat) : Int) := by
  intro t
  induction t with
  | zero =>
   intro x _ _
   refine evs ?_
   simp only [verniertop_wide.l0, if_neg (show ¬ ((0 : Nat) : Int) > 0 by omega)]
   rw [Nat.pow_zero, Nat.mul_one]
   exact Ev.now _
  | succ t ih =>
   intro x ht hx
   rw [Nat.pow_succ] at hx
   have hp := two_pos t
   have hx2 : 2 * x * 2 ^ t = x * (2 ^ t * 2) := by rw [Nat.mul_comm 2 x, Nat.mul_assoc, Nat.mul_comm 2]
   have hxs : x * 2 ≤ x * (2 ^ t * 2) := Nat.mul_le_mul_left x (by omega)
   refine evs ?_
   have e1 : wrap64 (2 * (x : Int)) = ((2 * x : Nat) : Int) := by rw [w64 (by omega) (by omega)]; omega
   have e2 : wrap64 (((t + 1 : Nat) : Int) - 1) = (t : Int) := by rw [w64 (by omega) (by omega)]; omega
   simp only [verniertop_wide.l0, if_pos (show ((t + 1 : Nat) : Int) > 0 by omega), e1, e2]
   have := ih (2 * x) (by omega) (by omega)
   rw [hx2] at this
   rw [Nat.pow_succ]
   exact this
 refine ⟨8 * 2 ^ t, ?_, ?_⟩
 ·obtain rfl | rfl | rfl | rfl : t = 0 ∨ t = 1 ∨ t = 2 ∨ t = 3 := by omega
  all_goals decide
 ·unfold verniertop_wide.f
  refine Ev.bind (evn e) (hl t 8 ht ?_)
  obtain rfl | rfl | rfl | rfl : t = 0 ∨ t = 1 ∨ t = 2 ∨ t = 3 := by omega
  all_goals decide
theorem in64 {a : Nat} (h : a < 18446744073709551616) : inK .u64 (a : Int) := by constructor <;> simp only [kLo, kHi] <;> omega
theorem tmX_put (n a b : Nat) : tmX n ((a : Int), ((b : Int), false)) = prdX n (a % 2 ^ n) (b % 2 ^ n) := by
 unfold tmX
 simp only [Int.toNat_natCast, Bool.false_eq_true, if_false]
theorem tmX_take (n a b : Nat) : tmX n ((a : Int), ((b : Int), true)) = (prdX n (a % 2 ^ n) (b % 2 ^ n)).neg := by
 unfold tmX
 simp only [Int.toNat_natCast, if_true]
section
variable {n : Nat} (hn : isW (n : Int) = true) {a b c d : Nat} (ha : a < 18446744073709551616) (hb : b < 18446744073709551616) (hc : c < 18446744073709551616) (hd : d < 18446744073709551616)
include hn
theorem one_X (c : Nat) : prdX n (c % 2 ^ n) (2 ^ (n - 2) % 2 ^ n) = (decN n (c % 2 ^ n)).ex := by
 obtain ⟨b64, b8⟩ := pow64 hn
 rw [one_mod b8]
 exact prdX_one hn b8 b64 (Nat.mod_lt c (two_pos n))
include ha hb hc hd
theorem pairs_j4 : Ev (fun k => verniertop_TopPairs.j4 k (n : Int) false (a : Int) (b : Int) (c : Int) (d : Int)) true := by
 obtain ⟨b64, b8⟩ := pow64 hn
 have h1 := deposit_eq (take := false) (t := 0) (z := 0) (nar := false) hn (by decide) (by decide) ha hb (fun _ => rfl)
 rw [enc_zero] at h1
 have h2 := deposit_eq (take := true) (t := 0 + 1) (z := (depS n false 0 (decN n (a % 2 ^ n)) (decN n (b % 2 ^ n)) false).2) (nar := (depS n false 0 (decN n (a % 2 ^ n)) (decN n (b % 2 ^ n)) false).1) hn (by decide) (by decide) hc hd depS_nar
 obtain ⟨e1, e2⟩ := dep_fin (n := n) (nar := false) (take := false) (z := 0) (a := a) (b := b) (L := [((c : Int), ((d : Int), true))])
 obtain ⟨e3, e4⟩ := dep_fin (n := n) (nar := (depS n false 0 (decN n (a % 2 ^ n)) (decN n (b % 2 ^ n)) false).1) (take := true) (z := (depS n false 0 (decN n (a % 2 ^ n)) (decN n (b % 2 ^ n)) false).2) (a := c) (b := d) (L := [])
 have hz2 : (depS n (depS n false 0 (decN n (a % 2 ^ n)) (decN n (b % 2 ^ n)) false).1 (depS n false 0 (decN n (a % 2 ^ n)) (decN n (b % 2 ^ n)) false).2 (decN n (c % 2 ^ n)) (decN n (d % 2 ^ n)) true).1 = true → (depS n (depS n false 0 (decN n (a % 2 ^ n)) (decN n (b % 2 ^ n)) false).1 (depS n false 0 (decN n (a % 2 ^ n)) (decN n (b % 2 ^ n)) false).2 (decN n (c % 2 ^ n)) (decN n (d % 2 ^ n)) true).2 = 0 := depS_nar
 generalize depS n (depS n false 0 (decN n (a % 2 ^ n)) (decN n (b % 2 ^ n)) false).1 (depS n false 0 (decN n (a % 2 ^ n)) (decN n (b % 2 ^ n)) false).2 (decN n (c % 2 ^ n)) (decN n (d % 2 ^ n)) true = s at *
 generalize depS n false 0 (decN n (a % 2 ^ n)) (decN n (b % 2 ^ n)) false = s1 at *
 have f1 := e3.trans e1
 have f2 := e4.trans e2
 have f0 : finN n s.1 [] = s.1 := by unfold finN narL; rw [Bool.or_false]
 rw [f0] at f1
 have hbound := fin_bound b8 b64 (L := [((a : Int), ((b : Int), false)), ((c : Int), ((d : Int), true))]) (by simp)
 have f3 : s.2 = finZ n false 0 [((a : Int), ((b : Int), false)), ((c : Int), ((d : Int), true))] := by
  cases hs : s.1
  ·rw [← f2]
   unfold finZ
   rw [f0, hs, if_neg (by decide)]
   simp [sumL]
  ·rw [hz2 hs, finZ_nar]
   rw [← f1]; exact hs
 have hr := Round_at (t := 0 + 1 + 1) (nar := s.1) (z := s.2) hn (by rw [f3]; exact hbound)
 have hv : RD n s.1 s.2 = pairN n (a % 2 ^ n) (b % 2 ^ n) (negP n (c % 2 ^ n)) (d % 2 ^ n) := by
  have := dot_two b8 b64 ((a : Int), ((b : Int), false)) ((c : Int), ((d : Int), true))
  rw [tmX_put, tmX_take] at this
  unfold pairN
  rw [prdX_neg b8 b64 (Nat.mod_lt c (two_pos n)), ← this]
  unfold dotR
  rw [f3, f1]
  unfold finN
  rw [Bool.false_or]
 rw [hv] at hr
 refine evs ?_
 simp only [verniertop_TopPairs.j4, Bool.false_eq_true, if_false]
 refine Ev.bind (New_eq hn) ?_
 simp only [if_true, Option.isNone_none]
 refine evs ?_
 simp only [verniertop_TopPairs.j5, Bool.false_eq_true, if_false]
 refine Ev.bind (Put_of h1) ?_
 refine Ev.bind (Take_of h2) ?_
 refine Ev.bind (fuse_Cross_eq hn ha hb hc hd) ?_
 simp only [if_true, Option.isNone_none]
 refine Ev.bind hr ?_
 simp only [beq_self_eq_true]
 exact Ev.now _
theorem pairs_j3 : Ev (fun k => verniertop_TopPairs.j3 k (n : Int) false (a : Int) (b : Int) (c : Int) (d : Int)) true := by
 obtain ⟨b64, b8⟩ := pow64 hn
 have h := Sum_eq (l := [(a : Int), (b : Int)]) hn (by intro x hx; simp only [List.mem_cons, List.not_mem_nil, or_false] at hx; rcases hx with rfl | rfl; exact in64 ha; exact in64 hb) (by simp)
 have e : tms (ones n [(a : Int), (b : Int)]) = [((a : Int), (((2 ^ (n - 2) : Nat) : Int), false)), ((b : Int), (((2 ^ (n - 2) : Nat) : Int), false))] := rfl
 have hv : dotR n (tms (ones n [(a : Int), (b : Int)])) = addN n (a % 2 ^ n) (b % 2 ^ n) := by
  rw [e, dot_two b8 b64, tmX_put, tmX_put, one_X hn, one_X hn]
  rfl
 rw [hv] at h
 refine evs ?_
 simp only [verniertop_TopPairs.j3, Bool.false_eq_true, if_false]
 refine Ev.bind h ?_
 refine Ev.bind (sum_Add_eq hn ha hb) ?_
 simp only [if_true, Option.isNone_none, bne_self_eq_false]
 exact pairs_j4 hn ha hb hc hd
theorem pairs_j2 : Ev (fun k => verniertop_TopPairs.j2 k (n : Int) false (a : Int) (b : Int) (c : Int) (d : Int)) true := by
 obtain ⟨b64, b8⟩ := pow64 hn
 have h := Dot_eq (a := [(a : Int), (c : Int)]) (b := [(b : Int), (d : Int)]) hn (by intro x hx; simp only [List.mem_cons, List.not_mem_nil, or_false] at hx; rcases hx with rfl | rfl; exact in64 ha; exact in64 hc) (by intro x hx; simp only [List.mem_cons, List.not_mem_nil, or_false] at hx; rcases hx with rfl | rfl; exact in64 hb; exact in64 hd) rfl (by simp)
 have hv : dotR n (tms (([(a : Int), (c : Int)] : List Int).zip [(b : Int), (d : Int)])) = pairN n (a % 2 ^ n) (b % 2 ^ n) (c % 2 ^ n) (d % 2 ^ n) := by
  show dotR n [((a : Int), ((b : Int), false)), ((c : Int), ((d : Int), false))] = _
  rw [dot_two b8 b64, tmX_put, tmX_put]
  rfl
 rw [hv] at h
 refine evs ?_
 simp only [verniertop_TopPairs.j2, Bool.false_eq_true, if_false]
 refine Ev.bind h ?_
 refine Ev.bind (fuse_Pair_eq hn ha hb hc hd) ?_
 simp only [if_true, Option.isNone_none, bne_self_eq_false]
 exact pairs_j3 hn ha hb hc hd
theorem pairs_j1 : Ev (fun k => verniertop_TopPairs.j1 k (n : Int) ((2 ^ (n - 2) : Nat) : Int) false (a : Int) (b : Int) (c : Int) (d : Int)) true := by
 obtain ⟨b64, b8⟩ := pow64 hn
 have h64 : 2 ^ (n - 2) < 18446744073709551616 := by rw [← p64]; exact pow_lt (by omega)
 have h := Dot_eq (a := [(c : Int), (a : Int)]) (b := [((2 ^ (n - 2) : Nat) : Int), (b : Int)]) hn (by intro x hx; simp only [List.mem_cons, List.not_mem_nil, or_false] at hx; rcases hx with rfl | rfl; exact in64 hc; exact in64 ha) (by intro x hx; simp only [List.mem_cons, List.not_mem_nil, or_false] at hx; rcases hx with rfl | rfl; exact in64 h64; exact in64 hb) rfl (by simp)
 have hv : dotR n (tms (([(c : Int), (a : Int)] : List Int).zip [((2 ^ (n - 2) : Nat) : Int), (b : Int)])) = fmaN n (a % 2 ^ n) (b % 2 ^ n) (c % 2 ^ n) := by
  show dotR n [((c : Int), (((2 ^ (n - 2) : Nat) : Int), false)), ((a : Int), ((b : Int), false))] = _
  rw [dot_two b8 b64, tmX_put, tmX_put, one_X hn, sumX_comm (NM.ex_ok (decN_ok b8 b64 (Nat.mod_lt c (two_pos n)))) (prdX_ok _ _ _)]
  rfl
 rw [hv] at h
 refine evs ?_
 simp only [verniertop_TopPairs.j1, Bool.false_eq_true, if_false]
 refine Ev.bind h ?_
 refine Ev.bind (fuse_Fma_eq hn ha hb hc) ?_
 simp only [if_true, Option.isNone_none, bne_self_eq_false]
 exact pairs_j2 hn ha hb hc hd
theorem pairs_l0 : ∀ (e i : Nat), i + e = n - 2 → Ev (fun k => verniertop_TopPairs.l0 k (n : Int) ((2 ^ i : Nat) : Int) (i : Int) (a : Int) (b : Int) (c : Int) (d : Int)) true := by
 obtain ⟨b64, b8⟩ := pow64 hn
 have hw2 : wrap64 ((n : Int) - 2) = ((n - 2 : Nat) : Int) := by rw [w64 (by omega) (by omega)]; omega
 intro e
 induction e with
 | zero =>
  intro i hi
  have hi : i = n - 2 := by omega
  subst hi
  have h := Dot_eq (a := [(a : Int)]) (b := [(b : Int)]) hn (by intro x hx; rw [List.mem_singleton] at hx; subst hx; exact in64 ha) (by intro x hx; rw [List.mem_singleton] at hx; subst hx; exact in64 hb) rfl (by simp)
  have hv : dotR n (tms (([(a : Int)] : List Int).zip [(b : Int)])) = mulN n (a % 2 ^ n) (b % 2 ^ n) := by
   show dotR n [((a : Int), ((b : Int), false))] = _
   rw [dot_one b8 b64, tmX_put]
   rfl
  rw [hv] at h
  refine evs ?_
  simp only [verniertop_TopPairs.l0, hw2, if_neg (show ¬ (((n - 2 : Nat) : Int) < ((n - 2 : Nat) : Int)) by omega)]
  refine Ev.bind h ?_
  refine Ev.bind (prod_Mul_eq hn ha hb) ?_
  simp only [if_true, Option.isNone_none, bne_self_eq_false]
  exact pairs_j1 hn ha hb hc hd
 | succ e ih =>
  intro i hi
  have hb2 : 2 ^ i ≤ 2 ^ 61 := pow_le (by omega)
  have e61 : (2 : Nat) ^ 61 = 2305843009213693952 := by decide
  have hx : IntKind.u64.wrap (2 * ((2 ^ i : Nat) : Int)) = ((2 ^ (i + 1) : Nat) : Int) := by
   rw [Nat.pow_succ]
   generalize 2 ^ i = q at *
   rw [u64_of (by omega) (by omega)]
   omega
  have hw : wrap64 ((i : Int) + 1) = ((i + 1 : Nat) : Int) := by rw [w64 (by omega) (by omega)]; omega
  refine evs ?_
  simp only [verniertop_TopPairs.l0, hw2, if_pos (show (i : Int) < ((n - 2 : Nat) : Int) by omega), hx, hw]
  exact ih (i + 1) (by omega)
end
theorem TopPairs : verniertop_TopPairs.Pure := by
 intro a0 a b c d w0 w1 w2 w3 w4
 obtain ⟨n, hn, hw⟩ := wide_of w0
 obtain ⟨a, rfl, ha⟩ := u64_nat w1
 obtain ⟨b, rfl, hb⟩ := u64_nat w2
 obtain ⟨c, rfl, hc⟩ := u64_nat w3
 obtain ⟨d, rfl, hd⟩ := u64_nat w4
 refine Ev.rounds (g := fun k => verniertop_TopPairs.f k a0 (a : Int) (b : Int) (c : Int) (d : Int)) ?_
 unfold verniertop_TopPairs.f
 refine Ev.bind hw ?_
 exact pairs_l0 hn ha hb hc hd (n - 2) 0 (by omega)
end Go.Proofs.Ythofoolgbngobaa.Pure
