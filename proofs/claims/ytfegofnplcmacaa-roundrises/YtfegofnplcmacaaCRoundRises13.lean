-- Written by a program of this session out of its own texts (wip/tools/link.py).
import Derived.ArgAppend
import Derived.Below
import Derived.BigQuiet
import Derived.Deep.AppendLies
import Derived.Deep.CutBlock
import Derived.Deep.DeepCutAuto
import Derived.Deep.Draws
import Derived.Deep.LoopGhost
import Derived.Deep.OwnRows
import Derived.Deep.QuietTactic
import Derived.Deep.RegionHeld3
import Derived.KernelRfl
import Derived.LaidEql
import Derived.Laws.BitsLemmas
import Derived.Laws.BytesArg
import Derived.Laws.IdiomCopy
import Derived.Laws.MakeOwn
import Derived.Laws.OwnMore
import Derived.Laws.Rows
import Derived.Laws.Slices
import Derived.Laws.StructEq
import Derived.Lib.AppendStr
import Derived.Lib.BitFns
import Derived.Lib.ConvBytes
import Derived.Lib.Slices
import Derived.Lib.Small
import Derived.Lib.Strings
import Derived.Lib.Walk
import Derived.Maps.AppendAt
import Derived.OrdersHeld
import Derived.OwnWalk
import Derived.RowKit
import Derived.RowKit3
import Derived.Tactics
import Derived.Test.YtfegofnplcmacaaProg
import Derived.WalkKit
import Derived.WideLaws
import Derived.Test.YtfegofnplcmacaaCRoundRises9
import Derived.Test.YtfegofnplcmacaaCRoundRises10
import Derived.Test.YtfegofnplcmacaaCRoundRises11
import Derived.Test.YtfegofnplcmacaaCRoundRises12
namespace Go.Proofs.Ytfegofnplcmacaa.PAll
open Go.RowKit Go.Proofs.YtfegofnplcmacaaW.PrintWords Go.Proofs.YtfegofnplcmacaaW.PrintLast Go.Proofs.YtfegofnplcmacaaW.PrintMore
attribute [local go_sem] max2_int min2_int max_two min_two max_three min_three max_four min_four
set_option linter.unusedVariables false
set_option linter.unusedSimpArgs false
mutual
def vernierref07_Cut.j0 : Nat → Int → ByteArray → Bool → Int → Bool → Int → Int → Int → Bool → Option (Int × Int × Int)
  | 0, _, _, _, _, _, _, _, _, _ => none
  | k + 1, x0, x10, x11, x220000, x220001, x220002, x220003, x220004, x220005 => if x220002 ≥ (wrap64 ((wrap64 (4 * x0)) - 8)) then ((vernierref05_Power.f k (wrap64 (x0 - 1))).bind fun t226 => (some (IntKind.u64.wrap (t226 - 1), 0, 0))) else (if x220002 < (wrap64 (-(wrap64 ((wrap64 (4 * x0)) - 8)))) then (vernierref07_Cut.j1 k x0 x10 true x220000 x220001 x220002 x220003 x220004 x220005) else (if x220002 = (wrap64 (-(wrap64 ((wrap64 (4 * x0)) - 8)))) then (vernierref07_Cut.j1 k x0 x10 x11 x220000 x220001 x220002 x220003 x220004 x220005) else (vernierref07_Cut.j1 k x0 x10 false x220000 x220001 x220002 x220003 x220004 x220005)))
def vernierref07_Cut.j1 : Nat → Int → ByteArray → Bool → Int → Bool → Int → Int → Int → Bool → Option (Int × Int × Int)
  | 0, _, _, _, _, _, _, _, _, _ => none
  | k + 1, x0, x10, x73, x220000, x220001, x220002, x220003, x220004, x220005 => if x73 = true then (some (1, 0, 0)) else ((vernierref06_Head.f k x220002).bind fun t227 => (if t227.size + x10.size ≤ 9223372036854775807 then (if 0 ≤ (wrap64 (x0 - 1)) then (if (wrap64 (x0 - 1)) ≤ ((t227 ++ x10).size : Int) then ((vernierref01_Number.f k ((t227 ++ x10).extract 0 ((wrap64 (x0 - 1)) : Int).toNat)).bind fun t228 => ((vernierref07_left.f k ((t227 ++ x10).extract ((wrap64 (x0 - 1)) : Int).toNat (t227 ++ x10).size) x220005).bind fun t229 => (some (t228, t229, 0)))) else (none)) else (none)) else (none)))
end
def vernierref07_Cut.f (k : Nat) (a0 : Int) (a1_0 : Int) (a1_1 : Bool) (a1_2 : Int) (a1_3 : Int) (a1_4 : Int) (a1_5 : Bool) : Option (Int × Int × Int) := (vernierref05_Is.f a0).bind fun t220 => ((vernierref07_Sound.f a1_0 a1_1 a1_2 a1_3 a1_4 a1_5).bind fun t221 => (if t220 = true then (if t221 = true then (if a1_0 = 1 then ((vernierref01_Text.f k a1_3 64).bind fun t223 => (if 1 ≤ (t223.size : Int) then ((vernierref01_Text.f k a1_4 64).bind fun t224 => (if (t223.extract 1 t223.size).size + t224.size ≤ 9223372036854775807 then (if a1_5 = true then (vernierref07_Cut.j0 k a0 ((t223.extract 1 t223.size) ++ t224) false a1_0 a1_1 a1_2 a1_3 a1_4 a1_5) else ((vernierref07_some.f k ((t223.extract 1 t223.size) ++ t224)).bind fun t225 => (vernierref07_Cut.j0 k a0 ((t223.extract 1 t223.size) ++ t224) (!t225) a1_0 a1_1 a1_2 a1_3 a1_4 a1_5))) else (none))) else (none))) else (if a1_0 = 2 then ((vernierref05_Power.f k (wrap64 (a0 - 1))).bind fun t222 => (some (t222, 0, 0))) else (some (0, 0, 0)))) else (some (0, 0, 1))) else (some (0, 0, 2))))
theorem vernierref07_Cut.mono_l : ∀ k, (∀ y0 y1 y2 y3 y4 y5 y6 y7 y8, LeO (vernierref07_Cut.j0 k y0 y1 y2 y3 y4 y5 y6 y7 y8) (vernierref07_Cut.j0 (k + 1) y0 y1 y2 y3 y4 y5 y6 y7 y8)) ∧ (∀ y0 y1 y2 y3 y4 y5 y6 y7 y8, LeO (vernierref07_Cut.j1 k y0 y1 y2 y3 y4 y5 y6 y7 y8) (vernierref07_Cut.j1 (k + 1) y0 y1 y2 y3 y4 y5 y6 y7 y8))
  | 0 => ⟨fun _ _ _ _ _ _ _ _ _ r h => by simp [vernierref07_Cut.j0] at h, fun _ _ _ _ _ _ _ _ _ r h => by simp [vernierref07_Cut.j1] at h⟩
  | k + 1 => by
    obtain ⟨ih0, ih1⟩ := vernierref07_Cut.mono_l k
    refine ⟨?_, ?_⟩
    · intro y0 y1 y2 y3 y4 y5 y6 y7 y8
      unfold vernierref07_Cut.j0
      repeat' first
      | (with_reducible exact ih0 _ _ _ _ _ _ _ _ _)
      | (with_reducible exact ih1 _ _ _ _ _ _ _ _ _)
      | (with_reducible exact vernierref01_Number.mono _ _)
      | (with_reducible exact vernierref01_Text.mono _ _ _)
      | (with_reducible exact vernierref05_Power.mono _ _)
      | (with_reducible exact vernierref06_Head.mono _ _)
      | (with_reducible exact vernierref07_left.mono _ _ _)
      | (with_reducible exact vernierref07_some.mono _ _)
      | (with_reducible exact LeO.refl _)
      | (with_reducible exact LeO.none _)
      | (with_reducible refine LeO.ite ?_ ?_)
      | (with_reducible refine LeO.bind ?_ (fun _ => ?_))
      | exact ih0 _ _ _ _ _ _ _ _ _
      | exact ih1 _ _ _ _ _ _ _ _ _
      | exact vernierref01_Number.mono _ _
      | exact vernierref01_Text.mono _ _ _
      | exact vernierref05_Power.mono _ _
      | exact vernierref06_Head.mono _ _
      | exact vernierref07_left.mono _ _ _
      | exact vernierref07_some.mono _ _
      | exact LeO.none _
      | refine LeO.ite ?_ ?_
      | refine LeO.bind ?_ (fun _ => ?_)
    · intro y0 y1 y2 y3 y4 y5 y6 y7 y8
      unfold vernierref07_Cut.j1
      repeat' first
      | (with_reducible exact ih0 _ _ _ _ _ _ _ _ _)
      | (with_reducible exact ih1 _ _ _ _ _ _ _ _ _)
      | (with_reducible exact vernierref01_Number.mono _ _)
      | (with_reducible exact vernierref01_Text.mono _ _ _)
      | (with_reducible exact vernierref05_Power.mono _ _)
      | (with_reducible exact vernierref06_Head.mono _ _)
      | (with_reducible exact vernierref07_left.mono _ _ _)
      | (with_reducible exact vernierref07_some.mono _ _)
      | (with_reducible exact LeO.refl _)
      | (with_reducible exact LeO.none _)
      | (with_reducible refine LeO.ite ?_ ?_)
      | (with_reducible refine LeO.bind ?_ (fun _ => ?_))
      | exact ih0 _ _ _ _ _ _ _ _ _
      | exact ih1 _ _ _ _ _ _ _ _ _
      | exact vernierref01_Number.mono _ _
      | exact vernierref01_Text.mono _ _ _
      | exact vernierref05_Power.mono _ _
      | exact vernierref06_Head.mono _ _
      | exact vernierref07_left.mono _ _ _
      | exact vernierref07_some.mono _ _
      | exact LeO.none _
      | refine LeO.ite ?_ ?_
      | refine LeO.bind ?_ (fun _ => ?_)
theorem vernierref07_Cut.mono : ∀ a0 a1 a2 a3 a4 a5 a6 k, LeO (vernierref07_Cut.f k a0 a1 a2 a3 a4 a5 a6) (vernierref07_Cut.f (k + 1) a0 a1 a2 a3 a4 a5 a6) := by
  intro a0 a1 a2 a3 a4 a5 a6 k
  obtain ⟨ih0, ih1⟩ := vernierref07_Cut.mono_l k
  unfold vernierref07_Cut.f
  repeat' first
      | (with_reducible exact ih0 _ _ _ _ _ _ _ _ _)
      | (with_reducible exact ih1 _ _ _ _ _ _ _ _ _)
      | (with_reducible exact vernierref01_Number.mono _ _)
      | (with_reducible exact vernierref01_Text.mono _ _ _)
      | (with_reducible exact vernierref05_Power.mono _ _)
      | (with_reducible exact vernierref06_Head.mono _ _)
      | (with_reducible exact vernierref07_left.mono _ _ _)
      | (with_reducible exact vernierref07_some.mono _ _)
      | (with_reducible exact LeO.refl _)
      | (with_reducible exact LeO.none _)
      | (with_reducible refine LeO.ite ?_ ?_)
      | (with_reducible refine LeO.bind ?_ (fun _ => ?_))
      | exact ih0 _ _ _ _ _ _ _ _ _
      | exact ih1 _ _ _ _ _ _ _ _ _
      | exact vernierref01_Number.mono _ _
      | exact vernierref01_Text.mono _ _ _
      | exact vernierref05_Power.mono _ _
      | exact vernierref06_Head.mono _ _
      | exact vernierref07_left.mono _ _ _
      | exact vernierref07_some.mono _ _
      | exact LeO.none _
      | refine LeO.ite ?_ ?_
      | refine LeO.bind ?_ (fun _ => ?_)
def vernierref07_Cut.T12 : Bool × List (List Nat × List Nat) := (true, [([], []), ([0], [0]), ([1], [1]), ([2], [2]), ([], []), ([4], [4]), ([5, 2], [5]), ([3, 6], [3, 6]), ([7, 6, 0, 1, 2, 3, 4, 5, 6, 7], [7])])
def vernierref07_Cut.B12 : List Nat := [0, 1, 3, 7, 0, 16, 55, 127, 255]
theorem vernierref07_Cut.tab12 : rtab .any (opsOf Try.f12 12) = vernierref07_Cut.T12 := by kernel_rfl
theorem vernierref07_Cut.bits12 : waitsOk vernierref07_Cut.T12.2 vernierref07_Cut.B12 = true := by kernel_rfl
def vernierref07_Cut.T20 : Bool × List (List Nat × List Nat) := (true, [([], []), ([], []), ([1], [1]), ([0, 2], [0, 2]), ([3], [3]), ([], []), ([], []), ([6], [6]), ([5, 7], [5, 7]), ([], []), ([9], [9]), ([8, 10, 4], [8, 10]), ([4, 11, 0, 1, 2, 3, 4], [4]), ([11, 12, 0, 1, 2, 3, 4, 5, 6, 7, 8, 9, 10, 11, 12], [11]), ([13, 0, 1, 2, 3, 4, 5, 6, 7, 8, 9, 10, 11, 12, 13], [])])
def vernierref07_Cut.B20 : List Nat := [0, 0, 2, 7, 15, 0, 0, 64, 224, 0, 512, 2047, 4095, 8191, 16383]
theorem vernierref07_Cut.tab20 : rtab .any (opsOf Try.f12 20) = vernierref07_Cut.T20 := by kernel_rfl
theorem vernierref07_Cut.bits20 : waitsOk vernierref07_Cut.T20.2 vernierref07_Cut.B20 = true := by kernel_rfl
set_option maxHeartbeats 8000000 in
set_option maxRecDepth 100000 in
theorem vernierref07_Cut.calls (k : Nat) (a0 : Int) (a1_0 : Int) (a1_1 : Bool) (a1_2 : Int) (a1_3 : Int) (a1_4 : Int) (a1_5 : Bool) (r1 : Int) (r2 : Int) (r3 : Int) (w : World) (h : vernierref07_Cut.f k a0 a1_0 a1_1 a1_2 a1_3 a1_4 a1_5 = some (r1, r2, r3)) :
    Calls Try.prog 12 #[.int .i64 a0, .agg #[.int .i64 a1_0, .bool a1_1, .int .i64 a1_2, .int .u64 a1_3, .int .u64 a1_4, .bool a1_5]] w fun e w' => e = .returned (.tuple #[.int .u64 r1, .int .i64 r2, .int .i64 r3]) ∧ Below w.heap.size w w' := by
  have hu24 := Try.underlying24
  have HB := Aside0.mk (Below.refl w.heap.size w)
  have H : ((vernierref05_Is.f a0).bind fun t220 => ((vernierref07_Sound.f a1_0 a1_1 a1_2 a1_3 a1_4 a1_5).bind fun t221 => (if t220 = true then (if t221 = true then (if a1_0 = 1 then ((vernierref01_Text.f k a1_3 64).bind fun t223 => (if 1 ≤ (t223.size : Int) then ((vernierref01_Text.f k a1_4 64).bind fun t224 => (if (t223.extract 1 t223.size).size + t224.size ≤ 9223372036854775807 then (if a1_5 = true then (vernierref07_Cut.j0 k a0 ((t223.extract 1 t223.size) ++ t224) false a1_0 a1_1 a1_2 a1_3 a1_4 a1_5) else ((vernierref07_some.f k ((t223.extract 1 t223.size) ++ t224)).bind fun t225 => (vernierref07_Cut.j0 k a0 ((t223.extract 1 t223.size) ++ t224) (!t225) a1_0 a1_1 a1_2 a1_3 a1_4 a1_5))) else (none))) else (none))) else (if a1_0 = 2 then ((vernierref05_Power.f k (wrap64 (a0 - 1))).bind fun t222 => (some (t222, 0, 0))) else (some (0, 0, 0)))) else (some (0, 0, 1))) else (some (0, 0, 2))))) = some (r1, r2, r3) := h
  clear h
  replace H := Option.bind_eq_some_iff.mp H
  obtain ⟨t220, A30, H⟩ := H
  replace H : ((vernierref07_Sound.f a1_0 a1_1 a1_2 a1_3 a1_4 a1_5).bind fun t221 => (if t220 = true then (if t221 = true then (if a1_0 = 1 then ((vernierref01_Text.f k a1_3 64).bind fun t223 => (if 1 ≤ (t223.size : Int) then ((vernierref01_Text.f k a1_4 64).bind fun t224 => (if (t223.extract 1 t223.size).size + t224.size ≤ 9223372036854775807 then (if a1_5 = true then (vernierref07_Cut.j0 k a0 ((t223.extract 1 t223.size) ++ t224) false a1_0 a1_1 a1_2 a1_3 a1_4 a1_5) else ((vernierref07_some.f k ((t223.extract 1 t223.size) ++ t224)).bind fun t225 => (vernierref07_Cut.j0 k a0 ((t223.extract 1 t223.size) ++ t224) (!t225) a1_0 a1_1 a1_2 a1_3 a1_4 a1_5))) else (none))) else (none))) else (if a1_0 = 2 then ((vernierref05_Power.f k (wrap64 (a0 - 1))).bind fun t222 => (some (t222, 0, 0))) else (some (0, 0, 0)))) else (some (0, 0, 1))) else (some (0, 0, 2)))) = some (r1, r2, r3) := H
  have A3 := Aside0.mk A30
  clear A30
  replace H := Option.bind_eq_some_iff.mp H
  obtain ⟨t221, A40, H⟩ := H
  replace H : (if t220 = true then (if t221 = true then (if a1_0 = 1 then ((vernierref01_Text.f k a1_3 64).bind fun t223 => (if 1 ≤ (t223.size : Int) then ((vernierref01_Text.f k a1_4 64).bind fun t224 => (if (t223.extract 1 t223.size).size + t224.size ≤ 9223372036854775807 then (if a1_5 = true then (vernierref07_Cut.j0 k a0 ((t223.extract 1 t223.size) ++ t224) false a1_0 a1_1 a1_2 a1_3 a1_4 a1_5) else ((vernierref07_some.f k ((t223.extract 1 t223.size) ++ t224)).bind fun t225 => (vernierref07_Cut.j0 k a0 ((t223.extract 1 t223.size) ++ t224) (!t225) a1_0 a1_1 a1_2 a1_3 a1_4 a1_5))) else (none))) else (none))) else (if a1_0 = 2 then ((vernierref05_Power.f k (wrap64 (a0 - 1))).bind fun t222 => (some (t222, 0, 0))) else (some (0, 0, 0)))) else (some (0, 0, 1))) else (some (0, 0, 2))) = some (r1, r2, r3) := H
  have A4 := Aside0.mk A40
  clear A40
  by_cases c5 : t220 = true
  · subst c5
    have H1 : (if t221 = true then (if a1_0 = 1 then ((vernierref01_Text.f k a1_3 64).bind fun t223 => (if 1 ≤ (t223.size : Int) then ((vernierref01_Text.f k a1_4 64).bind fun t224 => (if (t223.extract 1 t223.size).size + t224.size ≤ 9223372036854775807 then (if a1_5 = true then (vernierref07_Cut.j0 k a0 ((t223.extract 1 t223.size) ++ t224) false a1_0 a1_1 a1_2 a1_3 a1_4 a1_5) else ((vernierref07_some.f k ((t223.extract 1 t223.size) ++ t224)).bind fun t225 => (vernierref07_Cut.j0 k a0 ((t223.extract 1 t223.size) ++ t224) (!t225) a1_0 a1_1 a1_2 a1_3 a1_4 a1_5))) else (none))) else (none))) else (if a1_0 = 2 then ((vernierref05_Power.f k (wrap64 (a0 - 1))).bind fun t222 => (some (t222, 0, 0))) else (some (0, 0, 0)))) else (some (0, 0, 1))) = some (r1, r2, r3) := by rw [if_pos rfl] at H; exact H
    clear H
    have H := H1
    clear H1
    by_cases c6 : t221 = true
    · subst c6
      have H1 : (if a1_0 = 1 then ((vernierref01_Text.f k a1_3 64).bind fun t223 => (if 1 ≤ (t223.size : Int) then ((vernierref01_Text.f k a1_4 64).bind fun t224 => (if (t223.extract 1 t223.size).size + t224.size ≤ 9223372036854775807 then (if a1_5 = true then (vernierref07_Cut.j0 k a0 ((t223.extract 1 t223.size) ++ t224) false a1_0 a1_1 a1_2 a1_3 a1_4 a1_5) else ((vernierref07_some.f k ((t223.extract 1 t223.size) ++ t224)).bind fun t225 => (vernierref07_Cut.j0 k a0 ((t223.extract 1 t223.size) ++ t224) (!t225) a1_0 a1_1 a1_2 a1_3 a1_4 a1_5))) else (none))) else (none))) else (if a1_0 = 2 then ((vernierref05_Power.f k (wrap64 (a0 - 1))).bind fun t222 => (some (t222, 0, 0))) else (some (0, 0, 0)))) = some (r1, r2, r3) := by rw [if_pos rfl] at H; exact H
      clear H
      have H := H1
      clear H1
      by_cases c7 : a1_0 = 1
      · rw [if_pos c7] at H
        have c7b0 : (a1_0 == 1) = true := beq_iff_eq.mpr c7
        have c7b1 : (a1_0 != 1) = false := bne_eq_false_iff_eq.mpr c7
        clear c7
        replace H := Option.bind_eq_some_iff.mp H
        obtain ⟨t223, A80, H⟩ := H
        replace H : (if 1 ≤ (t223.size : Int) then ((vernierref01_Text.f k a1_4 64).bind fun t224 => (if (t223.extract 1 t223.size).size + t224.size ≤ 9223372036854775807 then (if a1_5 = true then (vernierref07_Cut.j0 k a0 ((t223.extract 1 t223.size) ++ t224) false a1_0 a1_1 a1_2 a1_3 a1_4 a1_5) else ((vernierref07_some.f k ((t223.extract 1 t223.size) ++ t224)).bind fun t225 => (vernierref07_Cut.j0 k a0 ((t223.extract 1 t223.size) ++ t224) (!t225) a1_0 a1_1 a1_2 a1_3 a1_4 a1_5))) else (none))) else (none)) = some (r1, r2, r3) := H
        have A8 := Aside0.mk A80
        clear A80
        by_cases c9 : 1 ≤ (t223.size : Int)
        · rw [if_pos c9] at H
          have c9b0 := eq_true c9
          have c9b1 : decide (1 ≤ (t223.size : Int)) = true := decide_eq_true c9
          clear c9
          replace H := Option.bind_eq_some_iff.mp H
          obtain ⟨t224, A100, H⟩ := H
          replace H : (if (t223.extract 1 t223.size).size + t224.size ≤ 9223372036854775807 then (if a1_5 = true then (vernierref07_Cut.j0 k a0 ((t223.extract 1 t223.size) ++ t224) false a1_0 a1_1 a1_2 a1_3 a1_4 a1_5) else ((vernierref07_some.f k ((t223.extract 1 t223.size) ++ t224)).bind fun t225 => (vernierref07_Cut.j0 k a0 ((t223.extract 1 t223.size) ++ t224) (!t225) a1_0 a1_1 a1_2 a1_3 a1_4 a1_5))) else (none)) = some (r1, r2, r3) := H
          have A10 := Aside0.mk A100
          clear A100
          by_cases c11 : (t223.extract 1 t223.size).size + t224.size ≤ 9223372036854775807
          · rw [if_pos c11] at H
            have c11b0 := eq_true c11
            have c11b1 : decide ((t223.extract 1 t223.size).size + t224.size ≤ 9223372036854775807) = true := decide_eq_true c11
            try have c11b2 : (9223372036854775807 < (t223.extract 1 t223.size).size + t224.size) = False := eq_false (Nat.not_lt.2 c11)
            (try (have c11e0 := c11b0; simp only [ByteArray.size_extract, Nat.min_self, Nat.sub_zero] at c11e0))
            (try (have c11e1 := c11b1; simp only [ByteArray.size_extract, Nat.min_self, Nat.sub_zero] at c11e1))
            (try (have c11e2 := c11b2; simp only [ByteArray.size_extract, Nat.min_self, Nat.sub_zero] at c11e2))
            obtain ⟨ji12, hji12⟩ : ∃ j_ : ByteArray, ((t223.extract 1 t223.size) ++ t224) = j_ := ⟨_, rfl⟩
            replace H : (if a1_5 = true then (vernierref07_Cut.j0 k a0 ji12 false a1_0 a1_1 a1_2 a1_3 a1_4 a1_5) else ((vernierref07_some.f k (ji12)).bind fun t225 => (vernierref07_Cut.j0 k a0 ji12 (!t225) a1_0 a1_1 a1_2 a1_3 a1_4 a1_5))) = some (r1, r2, r3) := by first | (rw [hji12] at H; exact H) | (simp only [hji12] at H ⊢; exact H)
            (try rw [hji12] at A3)
            (try rw [hji12] at A4)
            (try rw [hji12] at A8)
            (try rw [hji12] at A10)
            have HC13 := Aside0.mk H
            clear H
            go_enter Try.func12, Try.ntmps12
            try go_wp2_with (first | ((with_reducible refine gate_dst (N := 3) rfl ?_); refine box_event ?hg (N := 3) ?hd (cs := #[.int .i64 a1_0, .bool a1_1, .int .i64 a1_2, .int .u64 a1_3, .int .u64 a1_4, .bool a1_5]) (t := 24) ?hr ?_; (case hd => rfl); (case hg => rfl); (case hr => first | (go_simp; done) | (go_simp; rfl)); intro gb219 hg w14 hbox hb; have n0_ := Aside0.mk (below_step (by repeat (first | (with_reducible first | exact HB.out | apply below_alloc | apply pw_below_drewN | apply below_drew1) | exact HB.out)) hb); have n1_ := Aside0.mk (hbox); have n2_ := Aside0.mk ((by rw [hg]; exact (below_size (by repeat (first | (with_reducible first | exact HB.out | apply below_alloc | apply pw_below_drewN | apply below_drew1) | exact HB.out))) : w.heap.size ≤ gb219)); have n3_ := Aside0.mk ((by rw [hg]; exact (below_size (by repeat (first | (with_reducible first | exact HB.out | apply below_alloc | apply pw_below_drewN | apply below_drew1) | exact HB.out))) : w.heap.size ≤ gb219)); clear HB; have HB := n0_; have BK219 := n1_; have GW219 := n2_; have GE219 := n3_; clear n0_ n1_ n2_ n3_; clear hb hbox hg) | ((with_reducible refine gate_callee (f := 17) rfl ?_); refine goesL_ (some 15) rfl rfl Try.func17 (by kernel_rfl) rfl #[.int .i64 a0] rfl (by (try simp only [List.map_toArray, List.map_cons, List.map_nil]); first | done | rfl | (simp only [List.length_drop, List.length_take]; rfl)) ?_; (with_reducible refine (vernierref05_Is.calls a0 true _ A3.out).mono ?_); rintro e w' ⟨rfl, ⟨nd, rfl⟩⟩; refine ⟨_, rfl, ?_⟩; have hcz15_0 : w14.cell? ⟨gb219, 0, none⟩ = some (.int .i64 a1_0) := (blk_cell BK219.out 0).trans rfl; have hcz15_1 : w14.cell? ⟨gb219, 1, none⟩ = some (.bool a1_1) := (blk_cell BK219.out 1).trans rfl; have hcz15_2 : w14.cell? ⟨gb219, 2, none⟩ = some (.int .i64 a1_2) := (blk_cell BK219.out 2).trans rfl; have hcz15_3 : w14.cell? ⟨gb219, 3, none⟩ = some (.int .u64 a1_3) := (blk_cell BK219.out 3).trans rfl; have hcz15_4 : w14.cell? ⟨gb219, 4, none⟩ = some (.int .u64 a1_4) := (blk_cell BK219.out 4).trans rfl; have hcz15_5 : w14.cell? ⟨gb219, 5, none⟩ = some (.bool a1_5) := (blk_cell BK219.out 5).trans rfl; have hfz15_0 := blk_frozen BK219.out 0; have hfz15_1 := blk_frozen BK219.out 1; have hfz15_2 := blk_frozen BK219.out 2; have hfz15_3 := blk_frozen BK219.out 3; have hfz15_4 := blk_frozen BK219.out 4; have hfz15_5 := blk_frozen BK219.out 5) | ((with_reducible refine gate_callee (f := 16) rfl ?_); refine goesL_ (some 17) rfl rfl Try.func16 (by kernel_rfl) rfl #[.agg #[.int .i64 a1_0, .bool a1_1, .int .i64 a1_2, .int .u64 a1_3, .int .u64 a1_4, .bool a1_5]] rfl (by (try simp only [List.map_toArray, List.map_cons, List.map_nil]); first | done | rfl | (simp only [List.length_drop, List.length_take]; rfl)) ?_; (with_reducible refine (vernierref07_Sound.calls a1_0 a1_1 a1_2 a1_3 a1_4 a1_5 true _ A4.out).mono ?_); rintro e w16 ⟨rfl, hb⟩; refine ⟨_, rfl, ?_⟩; have n0_ := Aside0.mk (blk_below (g := gb219) (o := .cells #[.int .i64 a1_0, .bool a1_1, .int .i64 a1_2, .int .u64 a1_3, .int .u64 a1_4, .bool a1_5] 24 (0, 0)) (by (with_reducible repeat (first | refine blk_drewN ?_ _ | refine blk_drew ?_ | refine blk_alloc ?_ _)); exact BK219.out) hb); have n1_ := Aside0.mk (below_step (by repeat (first | (with_reducible first | exact HB.out | apply below_alloc | apply pw_below_drewN | apply below_drew1 | refine below_set ?_ GE219.out) | exact HB.out)) hb); clear BK219; clear HB; have BK219 := n0_; have HB := n1_; clear n0_ n1_; (try clear hb); (try clear hb2); (try clear hk); (try clear hi); have hcz17_0 : w16.cell? ⟨gb219, 0, none⟩ = some (.int .i64 a1_0) := (blk_cell BK219.out 0).trans rfl; have hcz17_1 : w16.cell? ⟨gb219, 1, none⟩ = some (.bool a1_1) := (blk_cell BK219.out 1).trans rfl; have hcz17_2 : w16.cell? ⟨gb219, 2, none⟩ = some (.int .i64 a1_2) := (blk_cell BK219.out 2).trans rfl; have hcz17_3 : w16.cell? ⟨gb219, 3, none⟩ = some (.int .u64 a1_3) := (blk_cell BK219.out 3).trans rfl; have hcz17_4 : w16.cell? ⟨gb219, 4, none⟩ = some (.int .u64 a1_4) := (blk_cell BK219.out 4).trans rfl; have hcz17_5 : w16.cell? ⟨gb219, 5, none⟩ = some (.bool a1_5) := (blk_cell BK219.out 5).trans rfl; have hfz17_0 := blk_frozen BK219.out 0; have hfz17_1 := blk_frozen BK219.out 1; have hfz17_2 := blk_frozen BK219.out 2; have hfz17_3 := blk_frozen BK219.out 3; have hfz17_4 := blk_frozen BK219.out 4; have hfz17_5 := blk_frozen BK219.out 5))
            have n0_ := Aside0.mk (blk_drew BK219.out)
            have n1_ := Aside0.mk (below_drew1 HB.out)
            clear BK219
            clear HB
            have BK219 := n0_
            have HB := n1_
            clear n0_ n1_
            refine start_ (n := 9) (S := fun w' => w'.cell? ⟨gb219, 0, none⟩ = some (.int .i64 a1_0) ∧ w'.cell? ⟨gb219, 1, none⟩ = some (.bool a1_1) ∧ w'.cell? ⟨gb219, 2, none⟩ = some (.int .i64 a1_2) ∧ w'.cell? ⟨gb219, 3, none⟩ = some (.int .u64 a1_3) ∧ w'.cell? ⟨gb219, 4, none⟩ = some (.int .u64 a1_4) ∧ w'.cell? ⟨gb219, 5, none⟩ = some (.bool a1_5)) (ds := []) #[false, false, false, false, false, false, false, false, false] (by kernel_rfl) rfl rfl ⟨(blk_cell BK219.out 0).trans rfl, (blk_cell BK219.out 1).trans rfl, (blk_cell BK219.out 2).trans rfl, (blk_cell BK219.out 3).trans rfl, (blk_cell BK219.out 4).trans rfl, (blk_cell BK219.out 5).trans rfl⟩ (fun hHeld => ?_); refine with_tabW vernierref07_Cut.tab12 vernierref07_Cut.bits12 (fun HT_ HW_ => ?_)
            generalize w16.drew = w18 at BK219 HB hHeld ⊢
            refine pure_ (i := 0) (N := some 32) (v := ?_) (a' := ?_) #[true, false, false, false, false, false, false, false, false] rfl rfl (any_of HT_.out (by kernel_rfl)) (fun _ _ _ h => h) (Or.inl ⟨by rfl, ?_⟩) ?_ ?_
            rotate_left
            · intro w'
              go_simp
              with_reducible rfl
            rotate_left
            · simp only [Act.put, List.setIfInBounds_toArray, List.set_cons_zero, List.set_cons_succ, i64_w, i32_w]
              rfl
            refine pure_ (i := 4) (N := some 36) (v := ?_) (a' := ?_) #[true, false, false, false, true, false, false, false, false] rfl rfl (any_of HT_.out (by kernel_rfl)) (fun _ _ _ h => h) (Or.inl ⟨by rfl, ?_⟩) ?_ ?_
            rotate_left
            · intro w'
              go_simp
              with_reducible rfl
            rotate_left
            · simp only [Act.put, List.setIfInBounds_toArray, List.set_cons_zero, List.set_cons_succ, i64_w, i32_w]
              rfl
            refine take_ (i := 1) (N := some 33) (v := ?_) (a' := ?_) #[true, true, false, false, true, false, false, false, false] rfl rfl (take_ofW HT_.out HW_.out (by kernel_rfl)) (fun _ _ _ h => h) (Or.inl ⟨by rfl, ?_⟩) hHeld ?_ ?_
            rotate_left
            · rintro w' ⟨s0, s1, s2, s3, s4, s5⟩
              go_simp
              with_reducible rfl
            rotate_left
            · simp only [Act.put, List.setIfInBounds_toArray, List.set_cons_zero, List.set_cons_succ, i64_w, i32_w]
              rfl
            refine take_ (i := 5) (N := some 37) (v := ?_) (a' := ?_) #[true, true, false, false, true, true, false, false, false] rfl rfl (take_ofW HT_.out HW_.out (by kernel_rfl)) (fun _ _ _ h => h) (Or.inl ⟨by rfl, ?_⟩) hHeld ?_ ?_
            rotate_left
            · rintro w' ⟨s0, s1, s2, s3, s4, s5⟩
              go_simp
              with_reducible rfl
            rotate_left
            · simp only [Act.put, List.setIfInBounds_toArray, List.set_cons_zero, List.set_cons_succ, i64_w, i32_w]
              rfl
            refine one_ (i := 2) (N := some 34) #[true, true, true, false, true, true, false, false, false] rfl rfl (one_of HT_.out (by kernel_rfl)) (by decide) (fun K hK => ?_)
            refine goes_ Try.func32 (by kernel_rfl) rfl #[.int .u64 a1_3, .int .i64 64] (by rfl) rfl rfl (by (try simp only [List.map_toArray, List.map_cons, List.map_nil]); first | done | rfl | (simp only [List.length_drop, List.length_take]; rfl)) ?_
            with_reducible refine (vernierref01_Text.calls k a1_3 64 t223 _ A8.out).mono ?_
            rintro e w19 ⟨rfl, hb⟩
            refine ⟨_, rfl, ?_⟩
            have n0_ := Aside0.mk (blk_below (g := gb219) (o := .cells #[.int .i64 a1_0, .bool a1_1, .int .i64 a1_2, .int .u64 a1_3, .int .u64 a1_4, .bool a1_5] 24 (0, 0)) (by (with_reducible repeat (first | refine blk_drewN ?_ _ | refine blk_drew ?_ | refine blk_alloc ?_ _)); exact BK219.out) hb)
            have n1_ := Aside0.mk (below_step (by repeat (first | (with_reducible first | exact HB.out | apply below_alloc | apply pw_below_drewN | apply below_drew1 | refine below_set ?_ GE219.out) | exact HB.out)) hb)
            clear BK219
            clear HB
            have BK219 := n0_
            have HB := n1_
            clear n0_ n1_
            (try clear hb)
            (try clear hb2)
            (try clear hk)
            (try clear hi)
            refine hK.out _ _ ⟨(blk_cell BK219.out 0).trans rfl, (blk_cell BK219.out 1).trans rfl, (blk_cell BK219.out 2).trans rfl, (blk_cell BK219.out 3).trans rfl, (blk_cell BK219.out 4).trans rfl, (blk_cell BK219.out 5).trans rfl⟩ (fun hHeld => ?_)
            clear hK K
            refine norm_ (a' := ?_) ?_ ?_
            rotate_left
            · show Act.put _ (some 34) _ = _
              simp only [Act.put, List.setIfInBounds_toArray, List.set_cons_zero, List.set_cons_succ, i64_w, i32_w]
              rfl
            refine pure_ (i := 3) (N := some 35) (v := ?_) (a' := ?_) #[true, true, true, true, true, true, false, false, false] rfl rfl (any_of HT_.out (by kernel_rfl)) (fun _ _ _ h => h) (Or.inl ⟨by rfl, ?_⟩) ?_ ?_
            rotate_left
            · intro w'
              go_simp
              with_reducible rfl
            rotate_left
            · simp only [Act.put, List.setIfInBounds_toArray, List.set_cons_zero, List.set_cons_succ, i64_w, i32_w]
              rfl
            refine one_ (i := 6) (N := some 38) #[true, true, true, true, true, true, true, false, false] rfl rfl (one_of HT_.out (by kernel_rfl)) (by decide) (fun K hK => ?_)
            refine goes_ Try.func32 (by kernel_rfl) rfl #[.int .u64 a1_4, .int .i64 64] (by rfl) rfl rfl (by (try simp only [List.map_toArray, List.map_cons, List.map_nil]); first | done | rfl | (simp only [List.length_drop, List.length_take]; rfl)) ?_
            with_reducible refine (vernierref01_Text.calls k a1_4 64 t224 _ A10.out).mono ?_
            rintro e w20 ⟨rfl, hb⟩
            refine ⟨_, rfl, ?_⟩
            have n0_ := Aside0.mk (blk_below (g := gb219) (o := .cells #[.int .i64 a1_0, .bool a1_1, .int .i64 a1_2, .int .u64 a1_3, .int .u64 a1_4, .bool a1_5] 24 (0, 0)) (by (with_reducible repeat (first | refine blk_drewN ?_ _ | refine blk_drew ?_ | refine blk_alloc ?_ _)); exact BK219.out) hb)
            have n1_ := Aside0.mk (below_step (by repeat (first | (with_reducible first | exact HB.out | apply below_alloc | apply pw_below_drewN | apply below_drew1 | refine below_set ?_ GE219.out) | exact HB.out)) hb)
            clear BK219
            clear HB
            have BK219 := n0_
            have HB := n1_
            clear n0_ n1_
            (try clear hb)
            (try clear hb2)
            (try clear hk)
            (try clear hi)
            refine hK.out _ _ ⟨(blk_cell BK219.out 0).trans rfl, (blk_cell BK219.out 1).trans rfl, (blk_cell BK219.out 2).trans rfl, (blk_cell BK219.out 3).trans rfl, (blk_cell BK219.out 4).trans rfl, (blk_cell BK219.out 5).trans rfl⟩ (fun hHeld => ?_)
            clear hK K
            refine norm_ (a' := ?_) ?_ ?_
            rotate_left
            · show Act.put _ (some 38) _ = _
              simp only [Act.put, List.setIfInBounds_toArray, List.set_cons_zero, List.set_cons_succ, i64_w, i32_w]
              rfl
            refine pure_ (i := 7) (N := some 39) (v := ?_) (a' := ?_) #[true, true, true, true, true, true, true, true, false] rfl rfl (any_of HT_.out (by kernel_rfl)) (fun _ _ _ h => h) (Or.inl ⟨by rfl, ?_⟩) ?_ ?_
            rotate_left
            · intro w'
              go_simp
              with_reducible rfl
            rotate_left
            · simp only [Act.put, List.setIfInBounds_toArray, List.set_cons_zero, List.set_cons_succ, i64_w, i32_w]
              rfl
            refine pure_ (i := 8) (N := some 10) (v := ?_) (a' := ?_) #[true, true, true, true, true, true, true, true, true] rfl rfl (any_of HT_.out (by kernel_rfl)) (fun _ _ _ h => h) (Or.inl ⟨by rfl, ?_⟩) ?_ ?_
            rotate_left
            · intro w'
              go_simp
              with_reducible rfl
            rotate_left
            · simp only [Act.put, List.setIfInBounds_toArray, List.set_cons_zero, List.set_cons_succ, i64_w, i32_w]
              rfl
            refine done_ (done_of HT_.out (by kernel_rfl)) ?_
            go_upto_region 13 with (fail)
            go_cut [11] (fun v11 wc => ∃ (kq : Nat) (x11_12 : Bool), v11 = .bool x11_12 ∧ Aside0 (vernierref07_Cut.j0 kq a0 ji12 x11_12 a1_0 a1_1 a1_2 a1_3 a1_4 a1_5 = some (r1, r2, r3)) ∧ Aside0 (kq ≤ k) ∧ Aside0 (wc.heap[gb219]? = some (.cells #[.int .i64 a1_0, .bool a1_1, .int .i64 a1_2, .int .u64 a1_3, .int .u64 a1_4, .bool a1_5] 24 (0, 0))) ∧ Aside0 (Below w.heap.size w wc))
            case first =>
              have H := HC13.out
              clear HC13
              by_cases c21 : a1_5 = true
              · subst c21
                have H1 : (vernierref07_Cut.j0 k a0 ji12 false a1_0 a1_1 a1_2 a1_3 a1_4 true) = some (r1, r2, r3) := by rw [if_pos rfl] at H; exact H
                clear H
                have H := H1
                clear H1
                have H' := Aside0.mk H
                clear H
                have hcz22_0 : w20.cell? ⟨gb219, 0, none⟩ = some (.int .i64 a1_0) := (blk_cell BK219.out 0).trans rfl
                have hcz22_1 : w20.cell? ⟨gb219, 1, none⟩ = some (.bool a1_1) := (blk_cell BK219.out 1).trans rfl
                have hcz22_2 : w20.cell? ⟨gb219, 2, none⟩ = some (.int .i64 a1_2) := (blk_cell BK219.out 2).trans rfl
                have hcz22_3 : w20.cell? ⟨gb219, 3, none⟩ = some (.int .u64 a1_3) := (blk_cell BK219.out 3).trans rfl
                have hcz22_4 : w20.cell? ⟨gb219, 4, none⟩ = some (.int .u64 a1_4) := (blk_cell BK219.out 4).trans rfl
                have hcz22_5 : w20.cell? ⟨gb219, 5, none⟩ = some (.bool true) := (blk_cell BK219.out 5).trans rfl
                have hfz22_0 := blk_frozen BK219.out 0
                have hfz22_1 := blk_frozen BK219.out 1
                have hfz22_2 := blk_frozen BK219.out 2
                have hfz22_3 := blk_frozen BK219.out 3
                have hfz22_4 := blk_frozen BK219.out 4
                have hfz22_5 := blk_frozen BK219.out 5
                go_wp2
                go_meet
                case rel => exact ⟨_, (false), (by first | rfl | (simp; done) | (simp [*]; done)), H', ⟨by first | omega | exact Nat.le_refl _⟩, ⟨by (with_reducible repeat (first | refine blk_drewN ?_ _ | refine blk_drew ?_ | refine blk_alloc ?_ _)); exact BK219.out⟩, ⟨by repeat (first | (with_reducible first | exact HB.out | apply below_alloc | apply pw_below_drewN | apply below_drew1 | refine below_set ?_ GE219.out) | exact HB.out)⟩⟩
              · replace c21 := Bool.eq_false_iff.mpr c21
                subst c21
                have H1 : ((vernierref07_some.f k (ji12)).bind fun t225 => (vernierref07_Cut.j0 k a0 ji12 (!t225) a1_0 a1_1 a1_2 a1_3 a1_4 false)) = some (r1, r2, r3) := by rw [if_neg (show ¬ (false = true) by decide)] at H; exact H
                clear H
                have H := H1
                clear H1
                replace H := Option.bind_eq_some_iff.mp H
                obtain ⟨t225, A230, H⟩ := H
                replace H : (vernierref07_Cut.j0 k a0 ji12 (!t225) a1_0 a1_1 a1_2 a1_3 a1_4 false) = some (r1, r2, r3) := H
                have A23 := Aside0.mk A230
                clear A230
                have H' := Aside0.mk H
                clear H
                have hcz24_0 : w20.cell? ⟨gb219, 0, none⟩ = some (.int .i64 a1_0) := (blk_cell BK219.out 0).trans rfl
                have hcz24_1 : w20.cell? ⟨gb219, 1, none⟩ = some (.bool a1_1) := (blk_cell BK219.out 1).trans rfl
                have hcz24_2 : w20.cell? ⟨gb219, 2, none⟩ = some (.int .i64 a1_2) := (blk_cell BK219.out 2).trans rfl
                have hcz24_3 : w20.cell? ⟨gb219, 3, none⟩ = some (.int .u64 a1_3) := (blk_cell BK219.out 3).trans rfl
                have hcz24_4 : w20.cell? ⟨gb219, 4, none⟩ = some (.int .u64 a1_4) := (blk_cell BK219.out 4).trans rfl
                have hcz24_5 : w20.cell? ⟨gb219, 5, none⟩ = some (.bool false) := (blk_cell BK219.out 5).trans rfl
                have hfz24_0 := blk_frozen BK219.out 0
                have hfz24_1 := blk_frozen BK219.out 1
                have hfz24_2 := blk_frozen BK219.out 2
                have hfz24_3 := blk_frozen BK219.out 3
                have hfz24_4 := blk_frozen BK219.out 4
                have hfz24_5 := blk_frozen BK219.out 5
                go_wp2_with (first | (go_at_call 33; (with_reducible refine (vernierref07_some.calls k ji12 t225 _ A23.out).mono ?_); rintro e w' ⟨rfl, ⟨nd, rfl⟩⟩))
                go_meet
                case rel => exact ⟨_, (!t225), (by first | rfl | (simp; done) | (simp [*]; done)), H', ⟨by first | omega | exact Nat.le_refl _⟩, ⟨by (with_reducible repeat (first | refine blk_drewN ?_ _ | refine blk_drew ?_ | refine blk_alloc ?_ _)); exact BK219.out⟩, ⟨by repeat (first | (with_reducible first | exact HB.out | apply below_alloc | apply pw_below_drewN | apply below_drew1 | refine below_set ?_ GE219.out) | exact HB.out)⟩⟩
            case rest =>
              clear HC13
              try clear c1
              try clear c2
              try clear p2
              try clear c3
              try clear c5
              try clear c6
              try clear p6
              try clear c7
              try clear c7b0
              try clear c7b1
              try clear c9
              try clear c9b0
              try clear c9b1
              try clear c11
              try clear c11b0
              try clear c11b1
              try clear c11b2
              try clear c12
              try clear c16
              try clear c17
              try clear c21
              try clear hcz15_0
              try clear hcz15_1
              try clear hcz15_2
              try clear hcz15_3
              try clear hcz15_4
              try clear hcz15_5
              try clear hcz17_0
              try clear hcz17_1
              try clear hcz17_2
              try clear hcz17_3
              try clear hcz17_4
              try clear hcz17_5
              try clear hcz22_0
              try clear hcz22_1
              try clear hcz22_2
              try clear hcz22_3
              try clear hcz22_4
              try clear hcz22_5
              try clear hcz24_0
              try clear hcz24_1
              try clear hcz24_2
              try clear hcz24_3
              try clear hcz24_4
              try clear hcz24_5
              try clear hfz15_0
              try clear hfz15_1
              try clear hfz15_2
              try clear hfz15_3
              try clear hfz15_4
              try clear hfz15_5
              try clear hfz17_0
              try clear hfz17_1
              try clear hfz17_2
              try clear hfz17_3
              try clear hfz17_4
              try clear hfz17_5
              try clear hfz22_0
              try clear hfz22_1
              try clear hfz22_2
              try clear hfz22_3
              try clear hfz22_4
              try clear hfz22_5
              try clear hfz24_0
              try clear hfz24_1
              try clear hfz24_2
              try clear hfz24_3
              try clear hfz24_4
              try clear hfz24_5
              obtain ⟨kq, x11_12, rfl, HA, HJ12, BK219, HB⟩ := hcut
              cases kq with
              | zero => exact absurd HA.out (by simp [vernierref07_Cut.j0])
              | succ kj12 =>
                have H := HA.out
                clear HA
                simp only [vernierref07_Cut.j0] at H
                by_cases c25 : a1_2 ≥ (wrap64 ((wrap64 (4 * a0)) - 8))
                · rw [if_pos c25] at H
                  have c25b0 : decide ((wrap64 ((wrap64 (4 * a0)) - 8)) ≤ a1_2) = true := decide_eq_true c25
                  clear c25
                  replace H := Option.bind_eq_some_iff.mp H
                  obtain ⟨t226, A260, H⟩ := H
                  replace H : (some (IntKind.u64.wrap (t226 - 1), 0, 0)) = some (r1, r2, r3) := H
                  have A26 := Aside0.mk A260
                  clear A260
                  simp only [Option.some.injEq, Prod.mk.injEq] at H
                  obtain ⟨rfl, rfl, rfl⟩ := H
                  have hcz27_0 : wc.cell? ⟨gb219, 0, none⟩ = some (.int .i64 a1_0) := (blk_cell BK219.out 0).trans rfl
                  have hcz27_1 : wc.cell? ⟨gb219, 1, none⟩ = some (.bool a1_1) := (blk_cell BK219.out 1).trans rfl
                  have hcz27_2 : wc.cell? ⟨gb219, 2, none⟩ = some (.int .i64 a1_2) := (blk_cell BK219.out 2).trans rfl
                  have hcz27_3 : wc.cell? ⟨gb219, 3, none⟩ = some (.int .u64 a1_3) := (blk_cell BK219.out 3).trans rfl
                  have hcz27_4 : wc.cell? ⟨gb219, 4, none⟩ = some (.int .u64 a1_4) := (blk_cell BK219.out 4).trans rfl
                  have hcz27_5 : wc.cell? ⟨gb219, 5, none⟩ = some (.bool a1_5) := (blk_cell BK219.out 5).trans rfl
                  have hfz27_0 := blk_frozen BK219.out 0
                  have hfz27_1 := blk_frozen BK219.out 1
                  have hfz27_2 := blk_frozen BK219.out 2
                  have hfz27_3 := blk_frozen BK219.out 3
                  have hfz27_4 := blk_frozen BK219.out 4
                  have hfz27_5 := blk_frozen BK219.out 5
                  go_wp2_with (first | ((with_reducible refine gate_callee (f := 26) rfl ?_); refine goesL_ (some 57) rfl rfl Try.func26 (by kernel_rfl) rfl #[.int .i64 (wrap64 (a0 - 1))] rfl (by (try simp only [List.map_toArray, List.map_cons, List.map_nil]); first | done | rfl | (simp only [List.length_drop, List.length_take]; rfl)) ?_; (with_reducible refine (vernierref05_Power.calls kj12 (wrap64 (a0 - 1)) t226 _ A26.out).mono ?_); rintro e w' ⟨rfl, ⟨nd, rfl⟩⟩; refine ⟨_, rfl, ?_⟩))
                  go_ret3
                  exact ⟨by first | rfl | (simp [errW_none, errW_some] <;> rfl) | (simp only [← hji12]; first | rfl | (simp [errW_none, errW_some] <;> rfl)) | (simp [*, errW_none, errW_some] <;> rfl), by repeat (first | (with_reducible first | exact HB.out | apply below_alloc | apply pw_below_drewN | apply below_drew1 | refine below_set ?_ GE219.out) | exact HB.out)⟩
                · rw [if_neg c25] at H
                  have c25b0 : decide ((wrap64 ((wrap64 (4 * a0)) - 8)) ≤ a1_2) = false := decide_eq_false c25
                  clear c25
                  have HC28 := Aside0.mk H
                  clear H
                  have hcz29_0 : wc.cell? ⟨gb219, 0, none⟩ = some (.int .i64 a1_0) := (blk_cell BK219.out 0).trans rfl
                  have hcz29_1 : wc.cell? ⟨gb219, 1, none⟩ = some (.bool a1_1) := (blk_cell BK219.out 1).trans rfl
                  have hcz29_2 : wc.cell? ⟨gb219, 2, none⟩ = some (.int .i64 a1_2) := (blk_cell BK219.out 2).trans rfl
                  have hcz29_3 : wc.cell? ⟨gb219, 3, none⟩ = some (.int .u64 a1_3) := (blk_cell BK219.out 3).trans rfl
                  have hcz29_4 : wc.cell? ⟨gb219, 4, none⟩ = some (.int .u64 a1_4) := (blk_cell BK219.out 4).trans rfl
                  have hcz29_5 : wc.cell? ⟨gb219, 5, none⟩ = some (.bool a1_5) := (blk_cell BK219.out 5).trans rfl
                  have hfz29_0 := blk_frozen BK219.out 0
                  have hfz29_1 := blk_frozen BK219.out 1
                  have hfz29_2 := blk_frozen BK219.out 2
                  have hfz29_3 := blk_frozen BK219.out 3
                  have hfz29_4 := blk_frozen BK219.out 4
                  have hfz29_5 := blk_frozen BK219.out 5
                  go_upto_region 17 with (fail)
                  go_cut [73] (fun v73 wc => ∃ (kq : Nat) (x73_27 : Bool), v73 = .bool x73_27 ∧ Aside0 (vernierref07_Cut.j1 kq a0 ji12 x73_27 a1_0 a1_1 a1_2 a1_3 a1_4 a1_5 = some (r1, r2, r3)) ∧ Aside0 (kq ≤ kj12) ∧ Aside0 (wc.heap[gb219]? = some (.cells #[.int .i64 a1_0, .bool a1_1, .int .i64 a1_2, .int .u64 a1_3, .int .u64 a1_4, .bool a1_5] 24 (0, 0))) ∧ Aside0 (Below w.heap.size w wc))
                  case first =>
                    have H := HC28.out
                    clear HC28
                    by_cases c30 : a1_2 < (wrap64 (-(wrap64 ((wrap64 (4 * a0)) - 8))))
                    · rw [if_pos c30] at H
                      have c30b0 : decide (a1_2 < (wrap64 (-(wrap64 ((wrap64 (4 * a0)) - 8))))) = true := decide_eq_true c30
                      clear c30
                      (first | rw [c30b0] | (simp only [i64_w, i32_w]; rw [c30b0]) | skip)
                      have H' := Aside0.mk H
                      clear H
                      have hcz31_0 : wc.cell? ⟨gb219, 0, none⟩ = some (.int .i64 a1_0) := (blk_cell BK219.out 0).trans rfl
                      have hcz31_1 : wc.cell? ⟨gb219, 1, none⟩ = some (.bool a1_1) := (blk_cell BK219.out 1).trans rfl
                      have hcz31_2 : wc.cell? ⟨gb219, 2, none⟩ = some (.int .i64 a1_2) := (blk_cell BK219.out 2).trans rfl
                      have hcz31_3 : wc.cell? ⟨gb219, 3, none⟩ = some (.int .u64 a1_3) := (blk_cell BK219.out 3).trans rfl
                      have hcz31_4 : wc.cell? ⟨gb219, 4, none⟩ = some (.int .u64 a1_4) := (blk_cell BK219.out 4).trans rfl
                      have hcz31_5 : wc.cell? ⟨gb219, 5, none⟩ = some (.bool a1_5) := (blk_cell BK219.out 5).trans rfl
                      have hfz31_0 := blk_frozen BK219.out 0
                      have hfz31_1 := blk_frozen BK219.out 1
                      have hfz31_2 := blk_frozen BK219.out 2
                      have hfz31_3 := blk_frozen BK219.out 3
                      have hfz31_4 := blk_frozen BK219.out 4
                      have hfz31_5 := blk_frozen BK219.out 5
                      go_wp2
                      go_meet
                      case rel => exact ⟨_, (true), (by first | rfl | (simp; done) | (simp [*]; done)), H', ⟨by have := HJ12.out; first | omega | exact Nat.le_refl _⟩, ⟨by (with_reducible repeat (first | refine blk_drewN ?_ _ | refine blk_drew ?_ | refine blk_alloc ?_ _)); exact BK219.out⟩, ⟨by repeat (first | (with_reducible first | exact HB.out | apply below_alloc | apply pw_below_drewN | apply below_drew1 | refine below_set ?_ GE219.out) | exact HB.out)⟩⟩
                    · rw [if_neg c30] at H
                      have c30b0 : decide (a1_2 < (wrap64 (-(wrap64 ((wrap64 (4 * a0)) - 8))))) = false := decide_eq_false c30
                      clear c30
                      (first | rw [c30b0] | (simp only [i64_w, i32_w]; rw [c30b0]) | skip)
                      by_cases c32 : a1_2 = (wrap64 (-(wrap64 ((wrap64 (4 * a0)) - 8))))
                      · rw [if_pos c32] at H
                        have c32b0 : (a1_2 == (wrap64 (-(wrap64 ((wrap64 (4 * a0)) - 8))))) = true := beq_iff_eq.mpr c32
                        have c32b1 : (a1_2 != (wrap64 (-(wrap64 ((wrap64 (4 * a0)) - 8))))) = false := bne_eq_false_iff_eq.mpr c32
                        clear c32
                        have H' := Aside0.mk H
                        clear H
                        have hcz33_0 : wc.cell? ⟨gb219, 0, none⟩ = some (.int .i64 a1_0) := (blk_cell BK219.out 0).trans rfl
                        have hcz33_1 : wc.cell? ⟨gb219, 1, none⟩ = some (.bool a1_1) := (blk_cell BK219.out 1).trans rfl
                        have hcz33_2 : wc.cell? ⟨gb219, 2, none⟩ = some (.int .i64 a1_2) := (blk_cell BK219.out 2).trans rfl
                        have hcz33_3 : wc.cell? ⟨gb219, 3, none⟩ = some (.int .u64 a1_3) := (blk_cell BK219.out 3).trans rfl
                        have hcz33_4 : wc.cell? ⟨gb219, 4, none⟩ = some (.int .u64 a1_4) := (blk_cell BK219.out 4).trans rfl
                        have hcz33_5 : wc.cell? ⟨gb219, 5, none⟩ = some (.bool a1_5) := (blk_cell BK219.out 5).trans rfl
                        have hfz33_0 := blk_frozen BK219.out 0
                        have hfz33_1 := blk_frozen BK219.out 1
                        have hfz33_2 := blk_frozen BK219.out 2
                        have hfz33_3 := blk_frozen BK219.out 3
                        have hfz33_4 := blk_frozen BK219.out 4
                        have hfz33_5 := blk_frozen BK219.out 5
                        go_wp2
                        go_meet
                        case rel => exact ⟨_, (x11_12), (by first | rfl | (simp; done) | (simp [*]; done)), H', ⟨by have := HJ12.out; first | omega | exact Nat.le_refl _⟩, ⟨by (with_reducible repeat (first | refine blk_drewN ?_ _ | refine blk_drew ?_ | refine blk_alloc ?_ _)); exact BK219.out⟩, ⟨by repeat (first | (with_reducible first | exact HB.out | apply below_alloc | apply pw_below_drewN | apply below_drew1 | refine below_set ?_ GE219.out) | exact HB.out)⟩⟩
                      · rw [if_neg c32] at H
                        have c32b0 : (a1_2 == (wrap64 (-(wrap64 ((wrap64 (4 * a0)) - 8))))) = false := beq_eq_false_iff_ne.mpr c32
                        have c32b1 : (a1_2 != (wrap64 (-(wrap64 ((wrap64 (4 * a0)) - 8))))) = true := bne_iff_ne.mpr c32
                        have H' := Aside0.mk H
                        clear H
                        have hcz34_0 : wc.cell? ⟨gb219, 0, none⟩ = some (.int .i64 a1_0) := (blk_cell BK219.out 0).trans rfl
                        have hcz34_1 : wc.cell? ⟨gb219, 1, none⟩ = some (.bool a1_1) := (blk_cell BK219.out 1).trans rfl
                        have hcz34_2 : wc.cell? ⟨gb219, 2, none⟩ = some (.int .i64 a1_2) := (blk_cell BK219.out 2).trans rfl
                        have hcz34_3 : wc.cell? ⟨gb219, 3, none⟩ = some (.int .u64 a1_3) := (blk_cell BK219.out 3).trans rfl
                        have hcz34_4 : wc.cell? ⟨gb219, 4, none⟩ = some (.int .u64 a1_4) := (blk_cell BK219.out 4).trans rfl
                        have hcz34_5 : wc.cell? ⟨gb219, 5, none⟩ = some (.bool a1_5) := (blk_cell BK219.out 5).trans rfl
                        have hfz34_0 := blk_frozen BK219.out 0
                        have hfz34_1 := blk_frozen BK219.out 1
                        have hfz34_2 := blk_frozen BK219.out 2
                        have hfz34_3 := blk_frozen BK219.out 3
                        have hfz34_4 := blk_frozen BK219.out 4
                        have hfz34_5 := blk_frozen BK219.out 5
                        go_wp2
                        go_meet
                        case rel => exact ⟨_, (false), (by first | rfl | (simp; done) | (simp [*]; done)), H', ⟨by have := HJ12.out; first | omega | exact Nat.le_refl _⟩, ⟨by (with_reducible repeat (first | refine blk_drewN ?_ _ | refine blk_drew ?_ | refine blk_alloc ?_ _)); exact BK219.out⟩, ⟨by repeat (first | (with_reducible first | exact HB.out | apply below_alloc | apply pw_below_drewN | apply below_drew1 | refine below_set ?_ GE219.out) | exact HB.out)⟩⟩
                  case rest =>
                    clear HC28
                    try clear c1
                    try clear c2
                    try clear p2
                    try clear c3
                    try clear c5
                    try clear c6
                    try clear p6
                    try clear c7
                    try clear c7b0
                    try clear c7b1
                    try clear c9
                    try clear c9b0
                    try clear c9b1
                    try clear c11
                    try clear c11b0
                    try clear c11b1
                    try clear c11b2
                    try clear c12
                    try clear c16
                    try clear c17
                    try clear c21
                    try clear c25
                    try clear c25b0
                    try clear c26
                    try clear c30
                    try clear c30b0
                    try clear c32
                    try clear c32b0
                    try clear c32b1
                    try clear hcz15_0
                    try clear hcz15_1
                    try clear hcz15_2
                    try clear hcz15_3
                    try clear hcz15_4
                    try clear hcz15_5
                    try clear hcz17_0
                    try clear hcz17_1
                    try clear hcz17_2
                    try clear hcz17_3
                    try clear hcz17_4
                    try clear hcz17_5
                    try clear hcz22_0
                    try clear hcz22_1
                    try clear hcz22_2
                    try clear hcz22_3
                    try clear hcz22_4
                    try clear hcz22_5
                    try clear hcz24_0
                    try clear hcz24_1
                    try clear hcz24_2
                    try clear hcz24_3
                    try clear hcz24_4
                    try clear hcz24_5
                    try clear hcz27_0
                    try clear hcz27_1
                    try clear hcz27_2
                    try clear hcz27_3
                    try clear hcz27_4
                    try clear hcz27_5
                    try clear hcz29_0
                    try clear hcz29_1
                    try clear hcz29_2
                    try clear hcz29_3
                    try clear hcz29_4
                    try clear hcz29_5
                    try clear hcz31_0
                    try clear hcz31_1
                    try clear hcz31_2
                    try clear hcz31_3
                    try clear hcz31_4
                    try clear hcz31_5
                    try clear hcz33_0
                    try clear hcz33_1
                    try clear hcz33_2
                    try clear hcz33_3
                    try clear hcz33_4
                    try clear hcz33_5
                    try clear hcz34_0
                    try clear hcz34_1
                    try clear hcz34_2
                    try clear hcz34_3
                    try clear hcz34_4
                    try clear hcz34_5
                    try clear hfz15_0
                    try clear hfz15_1
                    try clear hfz15_2
                    try clear hfz15_3
                    try clear hfz15_4
                    try clear hfz15_5
                    try clear hfz17_0
                    try clear hfz17_1
                    try clear hfz17_2
                    try clear hfz17_3
                    try clear hfz17_4
                    try clear hfz17_5
                    try clear hfz22_0
                    try clear hfz22_1
                    try clear hfz22_2
                    try clear hfz22_3
                    try clear hfz22_4
                    try clear hfz22_5
                    try clear hfz24_0
                    try clear hfz24_1
                    try clear hfz24_2
                    try clear hfz24_3
                    try clear hfz24_4
                    try clear hfz24_5
                    try clear hfz27_0
                    try clear hfz27_1
                    try clear hfz27_2
                    try clear hfz27_3
                    try clear hfz27_4
                    try clear hfz27_5
                    try clear hfz29_0
                    try clear hfz29_1
                    try clear hfz29_2
                    try clear hfz29_3
                    try clear hfz29_4
                    try clear hfz29_5
                    try clear hfz31_0
                    try clear hfz31_1
                    try clear hfz31_2
                    try clear hfz31_3
                    try clear hfz31_4
                    try clear hfz31_5
                    try clear hfz33_0
                    try clear hfz33_1
                    try clear hfz33_2
                    try clear hfz33_3
                    try clear hfz33_4
                    try clear hfz33_5
                    try clear hfz34_0
                    try clear hfz34_1
                    try clear hfz34_2
                    try clear hfz34_3
                    try clear hfz34_4
                    try clear hfz34_5
                    try clear p2
                    try clear p6
                    obtain ⟨kq, x73_27, rfl, HA, HJ27, BK219, HB⟩ := hcut
                    cases kq with
                    | zero => exact absurd HA.out (by simp [vernierref07_Cut.j1])
                    | succ kj27 =>
                      have H := HA.out
                      clear HA
                      simp only [vernierref07_Cut.j1] at H
                      by_cases c35 : x73_27 = true
                      · subst c35
                        have H1 : (some (1, 0, 0)) = some (r1, r2, r3) := by rw [if_pos rfl] at H; exact H
                        clear H
                        have H := H1
                        clear H1
                        simp only [Option.some.injEq, Prod.mk.injEq] at H
                        obtain ⟨rfl, rfl, rfl⟩ := H
                        go_wp2
                        go_ret3
                        exact ⟨by first | rfl | (simp [errW_none, errW_some] <;> rfl) | (simp only [← hji12]; first | rfl | (simp [errW_none, errW_some] <;> rfl)) | (simp [*, errW_none, errW_some] <;> rfl), by repeat (first | (with_reducible first | exact HB.out | apply below_alloc | apply pw_below_drewN | apply below_drew1 | refine below_set ?_ GE219.out) | exact HB.out)⟩
                      · replace c35 := Bool.eq_false_iff.mpr c35
                        subst c35
                        have H1 : ((vernierref06_Head.f kj27 a1_2).bind fun t227 => (if t227.size + ji12.size ≤ 9223372036854775807 then (if 0 ≤ (wrap64 (a0 - 1)) then (if (wrap64 (a0 - 1)) ≤ ((t227 ++ ji12).size : Int) then ((vernierref01_Number.f kj27 ((t227 ++ ji12).extract 0 ((wrap64 (a0 - 1)) : Int).toNat)).bind fun t228 => ((vernierref07_left.f kj27 ((t227 ++ ji12).extract ((wrap64 (a0 - 1)) : Int).toNat (t227 ++ ji12).size) a1_5).bind fun t229 => (some (t228, t229, 0)))) else (none)) else (none)) else (none))) = some (r1, r2, r3) := by rw [if_neg (show ¬ (false = true) by decide)] at H; exact H
                        clear H
                        have H := H1
                        clear H1
                        replace H := Option.bind_eq_some_iff.mp H
                        obtain ⟨t227, A360, H⟩ := H
                        replace H : (if t227.size + ji12.size ≤ 9223372036854775807 then (if 0 ≤ (wrap64 (a0 - 1)) then (if (wrap64 (a0 - 1)) ≤ ((t227 ++ ji12).size : Int) then ((vernierref01_Number.f kj27 ((t227 ++ ji12).extract 0 ((wrap64 (a0 - 1)) : Int).toNat)).bind fun t228 => ((vernierref07_left.f kj27 ((t227 ++ ji12).extract ((wrap64 (a0 - 1)) : Int).toNat (t227 ++ ji12).size) a1_5).bind fun t229 => (some (t228, t229, 0)))) else (none)) else (none)) else (none)) = some (r1, r2, r3) := H
                        have A36 := Aside0.mk A360
                        clear A360
                        by_cases c37 : t227.size + ji12.size ≤ 9223372036854775807
                        · rw [if_pos c37] at H
                          have c37b0 := eq_true c37
                          have c37b1 : decide (t227.size + ji12.size ≤ 9223372036854775807) = true := decide_eq_true c37
                          try have c37b2 : (9223372036854775807 < t227.size + ji12.size) = False := eq_false (Nat.not_lt.2 c37)
                          obtain ⟨ji38, hji38⟩ : ∃ j_ : ByteArray, (t227 ++ ji12) = j_ := ⟨_, rfl⟩
                          replace H : (if 0 ≤ (wrap64 (a0 - 1)) then (if (wrap64 (a0 - 1)) ≤ ((ji38).size : Int) then ((vernierref01_Number.f kj27 ((ji38).extract 0 ((wrap64 (a0 - 1)) : Int).toNat)).bind fun t228 => ((vernierref07_left.f kj27 ((ji38).extract ((wrap64 (a0 - 1)) : Int).toNat (ji38).size) a1_5).bind fun t229 => (some (t228, t229, 0)))) else (none)) else (none)) = some (r1, r2, r3) := by first | (rw [hji38] at H; exact H) | (simp only [hji38] at H ⊢; exact H)
                          (try rw [hji38] at A36)
                          obtain ⟨ji39, hji39⟩ : ∃ j_ : Int, (wrap64 (a0 - 1)) = j_ := ⟨_, rfl⟩
                          replace H : (if 0 ≤ (ji39) then (if (ji39) ≤ ((ji38).size : Int) then ((vernierref01_Number.f kj27 ((ji38).extract 0 ((ji39) : Int).toNat)).bind fun t228 => ((vernierref07_left.f kj27 ((ji38).extract ((ji39) : Int).toNat (ji38).size) a1_5).bind fun t229 => (some (t228, t229, 0)))) else (none)) else (none)) = some (r1, r2, r3) := by first | (rw [hji39] at H; exact H) | (simp only [hji39] at H ⊢; exact H)
                          (try rw [hji39] at A36)
                          have hji39w : (IntKind.i64.wrap (a0 - 1)) = ji39 := (i64_w _).trans hji39
                          by_cases c40 : 0 ≤ (ji39)
                          · rw [if_pos c40] at H
                            have c40b0 := eq_true c40
                            have c40b1 : decide (0 ≤ (ji39)) = true := decide_eq_true c40
                            clear c40
                            by_cases c41 : (ji39) ≤ ((ji38).size : Int)
                            · rw [if_pos c41] at H
                              have c41b0 := eq_true c41
                              have c41b1 : decide ((ji39) ≤ ((ji38).size : Int)) = true := decide_eq_true c41
                              clear c41
                              replace H := Option.bind_eq_some_iff.mp H
                              obtain ⟨t228, A420, H⟩ := H
                              replace H : ((vernierref07_left.f kj27 ((ji38).extract ((ji39) : Int).toNat (ji38).size) a1_5).bind fun t229 => (some (t228, t229, 0))) = some (r1, r2, r3) := H
                              have A42 := Aside0.mk A420
                              clear A420
                              have c43b0 := eq_true (of_decide_eq_true (by first | (with_reducible assumption) | assumption) : 0 ≤ (ji39))
                              have c44b0 := eq_true (of_decide_eq_true (by first | (with_reducible assumption) | assumption) : (ji39) ≤ ((ji38).size : Int))
                              replace H := Option.bind_eq_some_iff.mp H
                              obtain ⟨t229, A450, H⟩ := H
                              replace H : (some (t228, t229, 0)) = some (r1, r2, r3) := H
                              have A45 := Aside0.mk A450
                              clear A450
                              simp only [Option.some.injEq, Prod.mk.injEq] at H
                              obtain ⟨rfl, rfl, rfl⟩ := H
                              have hcz46_0 : wc.cell? ⟨gb219, 0, none⟩ = some (.int .i64 a1_0) := (blk_cell BK219.out 0).trans rfl
                              have hcz46_1 : wc.cell? ⟨gb219, 1, none⟩ = some (.bool a1_1) := (blk_cell BK219.out 1).trans rfl
                              have hcz46_2 : wc.cell? ⟨gb219, 2, none⟩ = some (.int .i64 a1_2) := (blk_cell BK219.out 2).trans rfl
                              have hcz46_3 : wc.cell? ⟨gb219, 3, none⟩ = some (.int .u64 a1_3) := (blk_cell BK219.out 3).trans rfl
                              have hcz46_4 : wc.cell? ⟨gb219, 4, none⟩ = some (.int .u64 a1_4) := (blk_cell BK219.out 4).trans rfl
                              have hcz46_5 : wc.cell? ⟨gb219, 5, none⟩ = some (.bool a1_5) := (blk_cell BK219.out 5).trans rfl
                              have hfz46_0 := blk_frozen BK219.out 0
                              have hfz46_1 := blk_frozen BK219.out 1
                              have hfz46_2 := blk_frozen BK219.out 2
                              have hfz46_3 := blk_frozen BK219.out 3
                              have hfz46_4 := blk_frozen BK219.out 4
                              have hfz46_5 := blk_frozen BK219.out 5
                              try go_wp2_with (first | ((with_reducible refine gate_callee (f := 34) rfl ?_); refine goesL_ (some 76) rfl rfl Try.func34 (by kernel_rfl) rfl #[.int .i64 a1_2] rfl (by (try simp only [List.map_toArray, List.map_cons, List.map_nil]); first | done | rfl | (simp only [List.length_drop, List.length_take]; rfl)) ?_; (with_reducible refine (vernierref06_Head.calls kj27 a1_2 t227 _ A36.out).mono ?_); rintro e w47 ⟨rfl, hb⟩; refine ⟨_, rfl, ?_⟩; have n0_ := Aside0.mk (blk_below (g := gb219) (o := .cells #[.int .i64 a1_0, .bool a1_1, .int .i64 a1_2, .int .u64 a1_3, .int .u64 a1_4, .bool a1_5] 24 (0, 0)) (by (with_reducible repeat (first | refine blk_drewN ?_ _ | refine blk_drew ?_ | refine blk_alloc ?_ _)); exact BK219.out) hb); have n1_ := Aside0.mk (below_step (by repeat (first | (with_reducible first | exact HB.out | apply below_alloc | apply pw_below_drewN | apply below_drew1 | refine below_set ?_ GE219.out) | exact HB.out)) hb); clear BK219; clear HB; have BK219 := n0_; have HB := n1_; clear n0_ n1_; (try clear hb); (try clear hb2); (try clear hk); (try clear hi)))
                              have n0_ := Aside0.mk (blk_drew BK219.out)
                              have n1_ := Aside0.mk (below_drew1 HB.out)
                              clear BK219
                              clear HB
                              have BK219 := n0_
                              have HB := n1_
                              clear n0_ n1_
                              refine start_ (n := 15) (S := fun w' => w'.cell? ⟨gb219, 0, none⟩ = some (.int .i64 a1_0) ∧ w'.cell? ⟨gb219, 1, none⟩ = some (.bool a1_1) ∧ w'.cell? ⟨gb219, 2, none⟩ = some (.int .i64 a1_2) ∧ w'.cell? ⟨gb219, 3, none⟩ = some (.int .u64 a1_3) ∧ w'.cell? ⟨gb219, 4, none⟩ = some (.int .u64 a1_4) ∧ w'.cell? ⟨gb219, 5, none⟩ = some (.bool a1_5)) (ds := []) #[false, false, false, false, false, false, false, false, false, false, false, false, false, false, false] (by kernel_rfl) rfl rfl ⟨(blk_cell BK219.out 0).trans rfl, (blk_cell BK219.out 1).trans rfl, (blk_cell BK219.out 2).trans rfl, (blk_cell BK219.out 3).trans rfl, (blk_cell BK219.out 4).trans rfl, (blk_cell BK219.out 5).trans rfl⟩ (fun hHeld => ?_); refine with_tabW vernierref07_Cut.tab20 vernierref07_Cut.bits20 (fun HT_ HW_ => ?_)
                              generalize w47.drew = w48 at BK219 HB hHeld ⊢
                              refine pure_ (i := 0) (N := some 79) (v := ?_) (a' := ?_) #[true, false, false, false, false, false, false, false, false, false, false, false, false, false, false] rfl rfl (any_of HT_.out (by kernel_rfl)) (fun _ _ _ h => h) (Or.inl ⟨by rfl, ?_⟩) ?_ ?_
                              rotate_left
                              · intro w'
                                go_simp
                                with_reducible rfl
                              rotate_left
                              · simp only [Act.put, List.setIfInBounds_toArray, List.set_cons_zero, List.set_cons_succ, i64_w, i32_w]
                                rfl
                              refine pure_ (i := 1) (N := some 80) (v := ?_) (a' := ?_) #[true, true, false, false, false, false, false, false, false, false, false, false, false, false, false] rfl rfl (any_of HT_.out (by kernel_rfl)) (fun _ _ _ h => h) (Or.inl ⟨by rfl, ?_⟩) ?_ ?_
                              rotate_left
                              · intro w'
                                go_simp
                                with_reducible rfl
                              rotate_left
                              · simp only [Act.put, List.setIfInBounds_toArray, List.set_cons_zero, List.set_cons_succ, i64_w, i32_w]
                                rfl
                              refine pure_ (i := 2) (N := some 81) (v := ?_) (a' := ?_) #[true, true, true, false, false, false, false, false, false, false, false, false, false, false, false] rfl rfl (any_of HT_.out (by kernel_rfl)) (fun _ _ _ h => h) (Or.inl ⟨by rfl, ?_⟩) ?_ ?_
                              rotate_left
                              · intro w'
                                go_simp
                                with_reducible rfl
                              rotate_left
                              · simp only [Act.put, List.setIfInBounds_toArray, List.set_cons_zero, List.set_cons_succ, i64_w, i32_w]
                                rfl
                              refine pure_ (i := 3) (N := some 82) (v := ?_) (a' := ?_) #[true, true, true, true, false, false, false, false, false, false, false, false, false, false, false] rfl rfl (any_of HT_.out (by kernel_rfl)) (fun _ _ _ h => h) (Or.inl ⟨by rfl, ?_⟩) ?_ ?_
                              rotate_left
                              · intro w'
                                go_simp
                                with_reducible rfl
                              rotate_left
                              · simp only [Act.put, List.setIfInBounds_toArray, List.set_cons_zero, List.set_cons_succ, i64_w, i32_w]
                                rfl
                              refine pure_ (i := 5) (N := some 84) (v := ?_) (a' := ?_) #[true, true, true, true, false, true, false, false, false, false, false, false, false, false, false] rfl rfl (any_of HT_.out (by kernel_rfl)) (fun _ _ _ h => h) (Or.inl ⟨by rfl, ?_⟩) ?_ ?_
                              rotate_left
                              · intro w'
                                go_simp
                                with_reducible rfl
                              rotate_left
                              · simp only [Act.put, List.setIfInBounds_toArray, List.set_cons_zero, List.set_cons_succ, i64_w, i32_w]
                                rfl
                              refine pure_ (i := 6) (N := some 85) (v := ?_) (a' := ?_) #[true, true, true, true, false, true, true, false, false, false, false, false, false, false, false] rfl rfl (any_of HT_.out (by kernel_rfl)) (fun _ _ _ h => h) (Or.inl ⟨by rfl, ?_⟩) ?_ ?_
                              rotate_left
                              · intro w'
                                go_simp
                                with_reducible rfl
                              rotate_left
                              · simp only [Act.put, List.setIfInBounds_toArray, List.set_cons_zero, List.set_cons_succ, i64_w, i32_w]
                                rfl
                              refine pure_ (i := 7) (N := some 86) (v := ?_) (a' := ?_) #[true, true, true, true, false, true, true, true, false, false, false, false, false, false, false] rfl rfl (any_of HT_.out (by kernel_rfl)) (fun _ _ _ h => h) (Or.inl ⟨by rfl, ?_⟩) ?_ ?_
                              rotate_left
                              · intro w'
                                go_simp
                                with_reducible rfl
                              rotate_left
                              · simp only [Act.put, List.setIfInBounds_toArray, List.set_cons_zero, List.set_cons_succ, i64_w, i32_w]
                                rfl
                              refine pure_ (i := 8) (N := some 87) (v := ?_) (a' := ?_) #[true, true, true, true, false, true, true, true, true, false, false, false, false, false, false] rfl rfl (any_of HT_.out (by kernel_rfl)) (fun _ _ _ h => h) (Or.inl ⟨by rfl, ?_⟩) ?_ ?_
                              rotate_left
                              · intro w'
                                go_simp
                                with_reducible rfl
                              rotate_left
                              · simp only [Act.put, List.setIfInBounds_toArray, List.set_cons_zero, List.set_cons_succ, i64_w, i32_w]
                                rfl
                              refine pure_ (i := 9) (N := some 88) (v := ?_) (a' := ?_) #[true, true, true, true, false, true, true, true, true, true, false, false, false, false, false] rfl rfl (any_of HT_.out (by kernel_rfl)) (fun _ _ _ h => h) (Or.inl ⟨by rfl, ?_⟩) ?_ ?_
                              rotate_left
                              · intro w'
                                go_simp
                                with_reducible rfl
                              rotate_left
                              · simp only [Act.put, List.setIfInBounds_toArray, List.set_cons_zero, List.set_cons_succ, i64_w, i32_w]
                                rfl
                              refine take_ (i := 10) (N := some 89) (v := ?_) (a' := ?_) #[true, true, true, true, false, true, true, true, true, true, true, false, false, false, false] rfl rfl (take_ofW HT_.out HW_.out (by kernel_rfl)) (fun _ _ _ h => h) (Or.inl ⟨by rfl, ?_⟩) hHeld ?_ ?_
                              rotate_left
                              · rintro w' ⟨s0, s1, s2, s3, s4, s5⟩
                                go_simp
                                with_reducible rfl
                              rotate_left
                              · simp only [Act.put, List.setIfInBounds_toArray, List.set_cons_zero, List.set_cons_succ, i64_w, i32_w]
                                rfl
                              refine one_ (i := 4) (N := some 83) #[true, true, true, true, true, true, true, true, true, true, true, false, false, false, false] rfl rfl (one_of HT_.out (by kernel_rfl)) (by decide) (fun K hK => ?_)
                              refine goes_ Try.func35 (by kernel_rfl) rfl #[.string ((ji38).extract 0 ((ji39) : Int).toNat)] (by rfl) rfl rfl (by (try simp only [List.map_toArray, List.map_cons, List.map_nil]); first | done | (simp only [hji38, hji39]; rfl) | rfl | (simp only [List.length_drop, List.length_take]; rfl)) ?_
                              with_reducible refine (vernierref01_Number.calls kj27 ((ji38).extract 0 ((ji39) : Int).toNat) t228 _ A42.out).mono ?_
                              rintro e w' ⟨rfl, ⟨nd, rfl⟩⟩
                              refine ⟨_, rfl, ?_⟩
                              refine hK.out _ _ ⟨(blk_cell BK219.out 0).trans rfl, (blk_cell BK219.out 1).trans rfl, (blk_cell BK219.out 2).trans rfl, (blk_cell BK219.out 3).trans rfl, (blk_cell BK219.out 4).trans rfl, (blk_cell BK219.out 5).trans rfl⟩ (fun hHeld => ?_)
                              clear hK K
                              refine norm_ (a' := ?_) ?_ ?_
                              rotate_left
                              · show Act.put _ (some 83) _ = _
                                simp only [Act.put, List.setIfInBounds_toArray, List.set_cons_zero, List.set_cons_succ, i64_w, i32_w]
                                rfl
                              refine one_ (i := 11) (N := some 90) #[true, true, true, true, true, true, true, true, true, true, true, true, false, false, false] rfl rfl (one_of HT_.out (by kernel_rfl)) (by decide) (fun K hK => ?_)
                              refine goes_ Try.func36 (by kernel_rfl) rfl #[.string ((ji38).extract ((ji39) : Int).toNat (ji38).size), .bool a1_5] (by rfl) rfl rfl (by (try simp only [List.map_toArray, List.map_cons, List.map_nil]); first | done | (simp only [hji38, hji39]; rfl) | rfl | (simp only [List.length_drop, List.length_take]; rfl)) ?_
                              with_reducible refine (vernierref07_left.calls kj27 ((ji38).extract ((ji39) : Int).toNat (ji38).size) a1_5 t229 _ A45.out).mono ?_
                              rintro e w' ⟨rfl, ⟨nd, rfl⟩⟩
                              refine ⟨_, rfl, ?_⟩
                              refine hK.out _ _ ⟨(blk_cell BK219.out 0).trans rfl, (blk_cell BK219.out 1).trans rfl, (blk_cell BK219.out 2).trans rfl, (blk_cell BK219.out 3).trans rfl, (blk_cell BK219.out 4).trans rfl, (blk_cell BK219.out 5).trans rfl⟩ (fun hHeld => ?_)
                              clear hK K
                              refine norm_ (a' := ?_) ?_ ?_
                              rotate_left
                              · show Act.put _ (some 90) _ = _
                                simp only [Act.put, List.setIfInBounds_toArray, List.set_cons_zero, List.set_cons_succ, i64_w, i32_w]
                                rfl
                              refine pure_ (i := 12) (N := some 4) (v := ?_) (a' := ?_) #[true, true, true, true, true, true, true, true, true, true, true, true, true, false, false] rfl rfl (any_of HT_.out (by kernel_rfl)) (fun _ _ _ h => h) (Or.inl ⟨by rfl, ?_⟩) ?_ ?_
                              rotate_left
                              · intro w'
                                go_simp
                                with_reducible rfl
                              rotate_left
                              · simp only [Act.put, List.setIfInBounds_toArray, List.set_cons_zero, List.set_cons_succ, i64_w, i32_w]
                                rfl
                              refine pure_ (i := 13) (N := some 5) (v := ?_) (a' := ?_) #[true, true, true, true, true, true, true, true, true, true, true, true, true, true, false] rfl rfl (any_of HT_.out (by kernel_rfl)) (fun _ _ _ h => h) (Or.inl ⟨by rfl, ?_⟩) ?_ ?_
                              rotate_left
                              · intro w'
                                go_simp
                                with_reducible rfl
                              rotate_left
                              · simp only [Act.put, List.setIfInBounds_toArray, List.set_cons_zero, List.set_cons_succ, i64_w, i32_w]
                                rfl
                              refine pure_ (i := 14) (N := some 6) (v := ?_) (a' := ?_) #[true, true, true, true, true, true, true, true, true, true, true, true, true, true, true] rfl rfl (any_of HT_.out (by kernel_rfl)) (fun _ _ _ h => h) (Or.inl ⟨by rfl, ?_⟩) ?_ ?_
                              rotate_left
                              · intro w'
                                go_simp
                                with_reducible rfl
                              rotate_left
                              · simp only [Act.put, List.setIfInBounds_toArray, List.set_cons_zero, List.set_cons_succ, i64_w, i32_w]
                                rfl
                              refine done_ (done_of HT_.out (by kernel_rfl)) ?_
                              try go_wp2
                              go_ret3
                              exact ⟨by first | rfl | (simp [errW_none, errW_some] <;> rfl) | (simp only [← hji12, ← hji38, ← hji39]; first | rfl | (simp [errW_none, errW_some] <;> rfl)) | (simp [*, errW_none, errW_some] <;> rfl), by repeat (first | (with_reducible first | exact HB.out | apply below_alloc | apply pw_below_drewN | apply below_drew1 | refine below_set ?_ GE219.out) | exact HB.out)⟩
                            · rw [if_neg c41] at H
                              exact absurd H (by simp)
                          · rw [if_neg c40] at H
                            exact absurd H (by simp)
                        · rw [if_neg c37] at H
                          exact absurd H (by simp)
          · rw [if_neg c11] at H
            exact absurd H (by simp)
        · rw [if_neg c9] at H
          exact absurd H (by simp)
      · rw [if_neg c7] at H
        have c7b0 : (a1_0 == 1) = false := beq_eq_false_iff_ne.mpr c7
        have c7b1 : (a1_0 != 1) = true := bne_iff_ne.mpr c7
        by_cases c49 : a1_0 = 2
        · rw [if_pos c49] at H
          have c49b0 : (a1_0 == 2) = true := beq_iff_eq.mpr c49
          have c49b1 : (a1_0 != 2) = false := bne_eq_false_iff_eq.mpr c49
          clear c49
          replace H := Option.bind_eq_some_iff.mp H
          obtain ⟨t222, A500, H⟩ := H
          replace H : (some (t222, 0, 0)) = some (r1, r2, r3) := H
          have A50 := Aside0.mk A500
          clear A500
          simp only [Option.some.injEq, Prod.mk.injEq] at H
          obtain ⟨rfl, rfl, rfl⟩ := H
          go_enter Try.func12, Try.ntmps12
          go_wp2_with (first | ((with_reducible refine gate_dst (N := 3) rfl ?_); refine box_event ?hg (N := 3) ?hd (cs := #[.int .i64 a1_0, .bool a1_1, .int .i64 a1_2, .int .u64 a1_3, .int .u64 a1_4, .bool a1_5]) (t := 24) ?hr ?_; (case hd => rfl); (case hg => rfl); (case hr => first | (go_simp; done) | (go_simp; rfl)); intro gb219 hg w51 hbox hb; have n0_ := Aside0.mk (below_step (by repeat (first | (with_reducible first | exact HB.out | apply below_alloc | apply pw_below_drewN | apply below_drew1) | exact HB.out)) hb); have n1_ := Aside0.mk (hbox); have n2_ := Aside0.mk ((by rw [hg]; exact (below_size (by repeat (first | (with_reducible first | exact HB.out | apply below_alloc | apply pw_below_drewN | apply below_drew1) | exact HB.out))) : w.heap.size ≤ gb219)); have n3_ := Aside0.mk ((by rw [hg]; exact (below_size (by repeat (first | (with_reducible first | exact HB.out | apply below_alloc | apply pw_below_drewN | apply below_drew1) | exact HB.out))) : w.heap.size ≤ gb219)); clear HB; have HB := n0_; have BK219 := n1_; have GW219 := n2_; have GE219 := n3_; clear n0_ n1_ n2_ n3_; clear hb hbox hg) | ((with_reducible refine gate_callee (f := 17) rfl ?_); refine goesL_ (some 15) rfl rfl Try.func17 (by kernel_rfl) rfl #[.int .i64 a0] rfl (by (try simp only [List.map_toArray, List.map_cons, List.map_nil]); first | done | rfl | (simp only [List.length_drop, List.length_take]; rfl)) ?_; (with_reducible refine (vernierref05_Is.calls a0 true _ A3.out).mono ?_); rintro e w' ⟨rfl, ⟨nd, rfl⟩⟩; refine ⟨_, rfl, ?_⟩; have hcz52_0 : w51.cell? ⟨gb219, 0, none⟩ = some (.int .i64 a1_0) := (blk_cell BK219.out 0).trans rfl; have hcz52_1 : w51.cell? ⟨gb219, 1, none⟩ = some (.bool a1_1) := (blk_cell BK219.out 1).trans rfl; have hcz52_2 : w51.cell? ⟨gb219, 2, none⟩ = some (.int .i64 a1_2) := (blk_cell BK219.out 2).trans rfl; have hcz52_3 : w51.cell? ⟨gb219, 3, none⟩ = some (.int .u64 a1_3) := (blk_cell BK219.out 3).trans rfl; have hcz52_4 : w51.cell? ⟨gb219, 4, none⟩ = some (.int .u64 a1_4) := (blk_cell BK219.out 4).trans rfl; have hcz52_5 : w51.cell? ⟨gb219, 5, none⟩ = some (.bool a1_5) := (blk_cell BK219.out 5).trans rfl; have hfz52_0 := blk_frozen BK219.out 0; have hfz52_1 := blk_frozen BK219.out 1; have hfz52_2 := blk_frozen BK219.out 2; have hfz52_3 := blk_frozen BK219.out 3; have hfz52_4 := blk_frozen BK219.out 4; have hfz52_5 := blk_frozen BK219.out 5) | ((with_reducible refine gate_callee (f := 16) rfl ?_); refine goesL_ (some 17) rfl rfl Try.func16 (by kernel_rfl) rfl #[.agg #[.int .i64 a1_0, .bool a1_1, .int .i64 a1_2, .int .u64 a1_3, .int .u64 a1_4, .bool a1_5]] rfl (by (try simp only [List.map_toArray, List.map_cons, List.map_nil]); first | done | rfl | (simp only [List.length_drop, List.length_take]; rfl)) ?_; (with_reducible refine (vernierref07_Sound.calls a1_0 a1_1 a1_2 a1_3 a1_4 a1_5 true _ A4.out).mono ?_); rintro e w53 ⟨rfl, hb⟩; refine ⟨_, rfl, ?_⟩; have n0_ := Aside0.mk (blk_below (g := gb219) (o := .cells #[.int .i64 a1_0, .bool a1_1, .int .i64 a1_2, .int .u64 a1_3, .int .u64 a1_4, .bool a1_5] 24 (0, 0)) (by (with_reducible repeat (first | refine blk_drewN ?_ _ | refine blk_drew ?_ | refine blk_alloc ?_ _)); exact BK219.out) hb); have n1_ := Aside0.mk (below_step (by repeat (first | (with_reducible first | exact HB.out | apply below_alloc | apply pw_below_drewN | apply below_drew1 | refine below_set ?_ GE219.out) | exact HB.out)) hb); clear BK219; clear HB; have BK219 := n0_; have HB := n1_; clear n0_ n1_; (try clear hb); (try clear hb2); (try clear hk); (try clear hi); have hcz54_0 : w53.cell? ⟨gb219, 0, none⟩ = some (.int .i64 a1_0) := (blk_cell BK219.out 0).trans rfl; have hcz54_1 : w53.cell? ⟨gb219, 1, none⟩ = some (.bool a1_1) := (blk_cell BK219.out 1).trans rfl; have hcz54_2 : w53.cell? ⟨gb219, 2, none⟩ = some (.int .i64 a1_2) := (blk_cell BK219.out 2).trans rfl; have hcz54_3 : w53.cell? ⟨gb219, 3, none⟩ = some (.int .u64 a1_3) := (blk_cell BK219.out 3).trans rfl; have hcz54_4 : w53.cell? ⟨gb219, 4, none⟩ = some (.int .u64 a1_4) := (blk_cell BK219.out 4).trans rfl; have hcz54_5 : w53.cell? ⟨gb219, 5, none⟩ = some (.bool a1_5) := (blk_cell BK219.out 5).trans rfl; have hfz54_0 := blk_frozen BK219.out 0; have hfz54_1 := blk_frozen BK219.out 1; have hfz54_2 := blk_frozen BK219.out 2; have hfz54_3 := blk_frozen BK219.out 3; have hfz54_4 := blk_frozen BK219.out 4; have hfz54_5 := blk_frozen BK219.out 5) | ((with_reducible refine gate_callee (f := 26) rfl ?_); refine goesL_ (some 30) rfl rfl Try.func26 (by kernel_rfl) rfl #[.int .i64 (wrap64 (a0 - 1))] rfl (by (try simp only [List.map_toArray, List.map_cons, List.map_nil]); first | done | rfl | (simp only [List.length_drop, List.length_take]; rfl)) ?_; (with_reducible refine (vernierref05_Power.calls k (wrap64 (a0 - 1)) t222 _ A50.out).mono ?_); rintro e w' ⟨rfl, ⟨nd, rfl⟩⟩; refine ⟨_, rfl, ?_⟩))
          go_ret3
          exact ⟨by first | rfl | (simp [errW_none, errW_some] <;> rfl) | (simp [*, errW_none, errW_some] <;> rfl), by repeat (first | (with_reducible first | exact HB.out | apply below_alloc | apply pw_below_drewN | apply below_drew1 | refine below_set ?_ GE219.out) | exact HB.out)⟩
        · rw [if_neg c49] at H
          have c49b0 : (a1_0 == 2) = false := beq_eq_false_iff_ne.mpr c49
          have c49b1 : (a1_0 != 2) = true := bne_iff_ne.mpr c49
          simp only [Option.some.injEq, Prod.mk.injEq] at H
          obtain ⟨rfl, rfl, rfl⟩ := H
          go_enter Try.func12, Try.ntmps12
          go_wp2_with (first | ((with_reducible refine gate_dst (N := 3) rfl ?_); refine box_event ?hg (N := 3) ?hd (cs := #[.int .i64 a1_0, .bool a1_1, .int .i64 a1_2, .int .u64 a1_3, .int .u64 a1_4, .bool a1_5]) (t := 24) ?hr ?_; (case hd => rfl); (case hg => rfl); (case hr => first | (go_simp; done) | (go_simp; rfl)); intro gb219 hg w55 hbox hb; have n0_ := Aside0.mk (below_step (by repeat (first | (with_reducible first | exact HB.out | apply below_alloc | apply pw_below_drewN | apply below_drew1) | exact HB.out)) hb); have n1_ := Aside0.mk (hbox); have n2_ := Aside0.mk ((by rw [hg]; exact (below_size (by repeat (first | (with_reducible first | exact HB.out | apply below_alloc | apply pw_below_drewN | apply below_drew1) | exact HB.out))) : w.heap.size ≤ gb219)); have n3_ := Aside0.mk ((by rw [hg]; exact (below_size (by repeat (first | (with_reducible first | exact HB.out | apply below_alloc | apply pw_below_drewN | apply below_drew1) | exact HB.out))) : w.heap.size ≤ gb219)); clear HB; have HB := n0_; have BK219 := n1_; have GW219 := n2_; have GE219 := n3_; clear n0_ n1_ n2_ n3_; clear hb hbox hg) | ((with_reducible refine gate_callee (f := 17) rfl ?_); refine goesL_ (some 15) rfl rfl Try.func17 (by kernel_rfl) rfl #[.int .i64 a0] rfl (by (try simp only [List.map_toArray, List.map_cons, List.map_nil]); first | done | rfl | (simp only [List.length_drop, List.length_take]; rfl)) ?_; (with_reducible refine (vernierref05_Is.calls a0 true _ A3.out).mono ?_); rintro e w' ⟨rfl, ⟨nd, rfl⟩⟩; refine ⟨_, rfl, ?_⟩; have hcz56_0 : w55.cell? ⟨gb219, 0, none⟩ = some (.int .i64 a1_0) := (blk_cell BK219.out 0).trans rfl; have hcz56_1 : w55.cell? ⟨gb219, 1, none⟩ = some (.bool a1_1) := (blk_cell BK219.out 1).trans rfl; have hcz56_2 : w55.cell? ⟨gb219, 2, none⟩ = some (.int .i64 a1_2) := (blk_cell BK219.out 2).trans rfl; have hcz56_3 : w55.cell? ⟨gb219, 3, none⟩ = some (.int .u64 a1_3) := (blk_cell BK219.out 3).trans rfl; have hcz56_4 : w55.cell? ⟨gb219, 4, none⟩ = some (.int .u64 a1_4) := (blk_cell BK219.out 4).trans rfl; have hcz56_5 : w55.cell? ⟨gb219, 5, none⟩ = some (.bool a1_5) := (blk_cell BK219.out 5).trans rfl; have hfz56_0 := blk_frozen BK219.out 0; have hfz56_1 := blk_frozen BK219.out 1; have hfz56_2 := blk_frozen BK219.out 2; have hfz56_3 := blk_frozen BK219.out 3; have hfz56_4 := blk_frozen BK219.out 4; have hfz56_5 := blk_frozen BK219.out 5) | ((with_reducible refine gate_callee (f := 16) rfl ?_); refine goesL_ (some 17) rfl rfl Try.func16 (by kernel_rfl) rfl #[.agg #[.int .i64 a1_0, .bool a1_1, .int .i64 a1_2, .int .u64 a1_3, .int .u64 a1_4, .bool a1_5]] rfl (by (try simp only [List.map_toArray, List.map_cons, List.map_nil]); first | done | rfl | (simp only [List.length_drop, List.length_take]; rfl)) ?_; (with_reducible refine (vernierref07_Sound.calls a1_0 a1_1 a1_2 a1_3 a1_4 a1_5 true _ A4.out).mono ?_); rintro e w57 ⟨rfl, hb⟩; refine ⟨_, rfl, ?_⟩; have n0_ := Aside0.mk (blk_below (g := gb219) (o := .cells #[.int .i64 a1_0, .bool a1_1, .int .i64 a1_2, .int .u64 a1_3, .int .u64 a1_4, .bool a1_5] 24 (0, 0)) (by (with_reducible repeat (first | refine blk_drewN ?_ _ | refine blk_drew ?_ | refine blk_alloc ?_ _)); exact BK219.out) hb); have n1_ := Aside0.mk (below_step (by repeat (first | (with_reducible first | exact HB.out | apply below_alloc | apply pw_below_drewN | apply below_drew1 | refine below_set ?_ GE219.out) | exact HB.out)) hb); clear BK219; clear HB; have BK219 := n0_; have HB := n1_; clear n0_ n1_; (try clear hb); (try clear hb2); (try clear hk); (try clear hi); have hcz58_0 : w57.cell? ⟨gb219, 0, none⟩ = some (.int .i64 a1_0) := (blk_cell BK219.out 0).trans rfl; have hcz58_1 : w57.cell? ⟨gb219, 1, none⟩ = some (.bool a1_1) := (blk_cell BK219.out 1).trans rfl; have hcz58_2 : w57.cell? ⟨gb219, 2, none⟩ = some (.int .i64 a1_2) := (blk_cell BK219.out 2).trans rfl; have hcz58_3 : w57.cell? ⟨gb219, 3, none⟩ = some (.int .u64 a1_3) := (blk_cell BK219.out 3).trans rfl; have hcz58_4 : w57.cell? ⟨gb219, 4, none⟩ = some (.int .u64 a1_4) := (blk_cell BK219.out 4).trans rfl; have hcz58_5 : w57.cell? ⟨gb219, 5, none⟩ = some (.bool a1_5) := (blk_cell BK219.out 5).trans rfl; have hfz58_0 := blk_frozen BK219.out 0; have hfz58_1 := blk_frozen BK219.out 1; have hfz58_2 := blk_frozen BK219.out 2; have hfz58_3 := blk_frozen BK219.out 3; have hfz58_4 := blk_frozen BK219.out 4; have hfz58_5 := blk_frozen BK219.out 5))
          go_ret3
          exact ⟨by first | rfl | (simp [errW_none, errW_some] <;> rfl) | (simp [*, errW_none, errW_some] <;> rfl), by repeat (first | (with_reducible first | exact HB.out | apply below_alloc | apply pw_below_drewN | apply below_drew1 | refine below_set ?_ GE219.out) | exact HB.out)⟩
    · replace c6 := Bool.eq_false_iff.mpr c6
      subst c6
      have H1 : (some (0, 0, 1)) = some (r1, r2, r3) := by rw [if_neg (show ¬ (false = true) by decide)] at H; exact H
      clear H
      have H := H1
      clear H1
      simp only [Option.some.injEq, Prod.mk.injEq] at H
      obtain ⟨rfl, rfl, rfl⟩ := H
      go_enter Try.func12, Try.ntmps12
      go_wp2_with (first | ((with_reducible refine gate_dst (N := 3) rfl ?_); refine box_event ?hg (N := 3) ?hd (cs := #[.int .i64 a1_0, .bool a1_1, .int .i64 a1_2, .int .u64 a1_3, .int .u64 a1_4, .bool a1_5]) (t := 24) ?hr ?_; (case hd => rfl); (case hg => rfl); (case hr => first | (go_simp; done) | (go_simp; rfl)); intro gb219 hg w59 hbox hb; have n0_ := Aside0.mk (below_step (by repeat (first | (with_reducible first | exact HB.out | apply below_alloc | apply pw_below_drewN | apply below_drew1) | exact HB.out)) hb); have n1_ := Aside0.mk (hbox); have n2_ := Aside0.mk ((by rw [hg]; exact (below_size (by repeat (first | (with_reducible first | exact HB.out | apply below_alloc | apply pw_below_drewN | apply below_drew1) | exact HB.out))) : w.heap.size ≤ gb219)); have n3_ := Aside0.mk ((by rw [hg]; exact (below_size (by repeat (first | (with_reducible first | exact HB.out | apply below_alloc | apply pw_below_drewN | apply below_drew1) | exact HB.out))) : w.heap.size ≤ gb219)); clear HB; have HB := n0_; have BK219 := n1_; have GW219 := n2_; have GE219 := n3_; clear n0_ n1_ n2_ n3_; clear hb hbox hg) | ((with_reducible refine gate_callee (f := 17) rfl ?_); refine goesL_ (some 15) rfl rfl Try.func17 (by kernel_rfl) rfl #[.int .i64 a0] rfl (by (try simp only [List.map_toArray, List.map_cons, List.map_nil]); first | done | rfl | (simp only [List.length_drop, List.length_take]; rfl)) ?_; (with_reducible refine (vernierref05_Is.calls a0 true _ A3.out).mono ?_); rintro e w' ⟨rfl, ⟨nd, rfl⟩⟩; refine ⟨_, rfl, ?_⟩; have hcz60_0 : w59.cell? ⟨gb219, 0, none⟩ = some (.int .i64 a1_0) := (blk_cell BK219.out 0).trans rfl; have hcz60_1 : w59.cell? ⟨gb219, 1, none⟩ = some (.bool a1_1) := (blk_cell BK219.out 1).trans rfl; have hcz60_2 : w59.cell? ⟨gb219, 2, none⟩ = some (.int .i64 a1_2) := (blk_cell BK219.out 2).trans rfl; have hcz60_3 : w59.cell? ⟨gb219, 3, none⟩ = some (.int .u64 a1_3) := (blk_cell BK219.out 3).trans rfl; have hcz60_4 : w59.cell? ⟨gb219, 4, none⟩ = some (.int .u64 a1_4) := (blk_cell BK219.out 4).trans rfl; have hcz60_5 : w59.cell? ⟨gb219, 5, none⟩ = some (.bool a1_5) := (blk_cell BK219.out 5).trans rfl; have hfz60_0 := blk_frozen BK219.out 0; have hfz60_1 := blk_frozen BK219.out 1; have hfz60_2 := blk_frozen BK219.out 2; have hfz60_3 := blk_frozen BK219.out 3; have hfz60_4 := blk_frozen BK219.out 4; have hfz60_5 := blk_frozen BK219.out 5) | ((with_reducible refine gate_callee (f := 16) rfl ?_); refine goesL_ (some 17) rfl rfl Try.func16 (by kernel_rfl) rfl #[.agg #[.int .i64 a1_0, .bool a1_1, .int .i64 a1_2, .int .u64 a1_3, .int .u64 a1_4, .bool a1_5]] rfl (by (try simp only [List.map_toArray, List.map_cons, List.map_nil]); first | done | rfl | (simp only [List.length_drop, List.length_take]; rfl)) ?_; (with_reducible refine (vernierref07_Sound.calls a1_0 a1_1 a1_2 a1_3 a1_4 a1_5 false _ A4.out).mono ?_); rintro e w61 ⟨rfl, hb⟩; refine ⟨_, rfl, ?_⟩; have n0_ := Aside0.mk (blk_below (g := gb219) (o := .cells #[.int .i64 a1_0, .bool a1_1, .int .i64 a1_2, .int .u64 a1_3, .int .u64 a1_4, .bool a1_5] 24 (0, 0)) (by (with_reducible repeat (first | refine blk_drewN ?_ _ | refine blk_drew ?_ | refine blk_alloc ?_ _)); exact BK219.out) hb); have n1_ := Aside0.mk (below_step (by repeat (first | (with_reducible first | exact HB.out | apply below_alloc | apply pw_below_drewN | apply below_drew1 | refine below_set ?_ GE219.out) | exact HB.out)) hb); clear BK219; clear HB; have BK219 := n0_; have HB := n1_; clear n0_ n1_; (try clear hb); (try clear hb2); (try clear hk); (try clear hi)))
      go_ret3
      exact ⟨by first | rfl | (simp [errW_none, errW_some] <;> rfl) | (simp [*, errW_none, errW_some] <;> rfl), by repeat (first | (with_reducible first | exact HB.out | apply below_alloc | apply pw_below_drewN | apply below_drew1 | refine below_set ?_ GE219.out) | exact HB.out)⟩
  · replace c5 := Bool.eq_false_iff.mpr c5
    subst c5
    have H1 : (some (0, 0, 2)) = some (r1, r2, r3) := by rw [if_neg (show ¬ (false = true) by decide)] at H; exact H
    clear H
    have H := H1
    clear H1
    simp only [Option.some.injEq, Prod.mk.injEq] at H
    obtain ⟨rfl, rfl, rfl⟩ := H
    go_enter Try.func12, Try.ntmps12
    go_wp2_with (first | ((with_reducible refine gate_dst (N := 3) rfl ?_); refine box_event ?hg (N := 3) ?hd (cs := #[.int .i64 a1_0, .bool a1_1, .int .i64 a1_2, .int .u64 a1_3, .int .u64 a1_4, .bool a1_5]) (t := 24) ?hr ?_; (case hd => rfl); (case hg => rfl); (case hr => first | (go_simp; done) | (go_simp; rfl)); intro gb219 hg w62 hbox hb; have n0_ := Aside0.mk (below_step (by repeat (first | (with_reducible first | exact HB.out | apply below_alloc | apply pw_below_drewN | apply below_drew1) | exact HB.out)) hb); have n1_ := Aside0.mk (hbox); have n2_ := Aside0.mk ((by rw [hg]; exact (below_size (by repeat (first | (with_reducible first | exact HB.out | apply below_alloc | apply pw_below_drewN | apply below_drew1) | exact HB.out))) : w.heap.size ≤ gb219)); have n3_ := Aside0.mk ((by rw [hg]; exact (below_size (by repeat (first | (with_reducible first | exact HB.out | apply below_alloc | apply pw_below_drewN | apply below_drew1) | exact HB.out))) : w.heap.size ≤ gb219)); clear HB; have HB := n0_; have BK219 := n1_; have GW219 := n2_; have GE219 := n3_; clear n0_ n1_ n2_ n3_; clear hb hbox hg) | ((with_reducible refine gate_callee (f := 17) rfl ?_); refine goesL_ (some 15) rfl rfl Try.func17 (by kernel_rfl) rfl #[.int .i64 a0] rfl (by (try simp only [List.map_toArray, List.map_cons, List.map_nil]); first | done | rfl | (simp only [List.length_drop, List.length_take]; rfl)) ?_; (with_reducible refine (vernierref05_Is.calls a0 false _ A3.out).mono ?_); rintro e w' ⟨rfl, ⟨nd, rfl⟩⟩; refine ⟨_, rfl, ?_⟩; have hcz63_0 : w62.cell? ⟨gb219, 0, none⟩ = some (.int .i64 a1_0) := (blk_cell BK219.out 0).trans rfl; have hcz63_1 : w62.cell? ⟨gb219, 1, none⟩ = some (.bool a1_1) := (blk_cell BK219.out 1).trans rfl; have hcz63_2 : w62.cell? ⟨gb219, 2, none⟩ = some (.int .i64 a1_2) := (blk_cell BK219.out 2).trans rfl; have hcz63_3 : w62.cell? ⟨gb219, 3, none⟩ = some (.int .u64 a1_3) := (blk_cell BK219.out 3).trans rfl; have hcz63_4 : w62.cell? ⟨gb219, 4, none⟩ = some (.int .u64 a1_4) := (blk_cell BK219.out 4).trans rfl; have hcz63_5 : w62.cell? ⟨gb219, 5, none⟩ = some (.bool a1_5) := (blk_cell BK219.out 5).trans rfl; have hfz63_0 := blk_frozen BK219.out 0; have hfz63_1 := blk_frozen BK219.out 1; have hfz63_2 := blk_frozen BK219.out 2; have hfz63_3 := blk_frozen BK219.out 3; have hfz63_4 := blk_frozen BK219.out 4; have hfz63_5 := blk_frozen BK219.out 5) | ((with_reducible refine gate_callee (f := 16) rfl ?_); refine goesL_ (some 17) rfl rfl Try.func16 (by kernel_rfl) rfl #[.agg #[.int .i64 a1_0, .bool a1_1, .int .i64 a1_2, .int .u64 a1_3, .int .u64 a1_4, .bool a1_5]] rfl (by (try simp only [List.map_toArray, List.map_cons, List.map_nil]); first | done | rfl | (simp only [List.length_drop, List.length_take]; rfl)) ?_; (with_reducible refine (vernierref07_Sound.calls a1_0 a1_1 a1_2 a1_3 a1_4 a1_5 t221 _ A4.out).mono ?_); rintro e w64 ⟨rfl, hb⟩; refine ⟨_, rfl, ?_⟩; have n0_ := Aside0.mk (blk_below (g := gb219) (o := .cells #[.int .i64 a1_0, .bool a1_1, .int .i64 a1_2, .int .u64 a1_3, .int .u64 a1_4, .bool a1_5] 24 (0, 0)) (by (with_reducible repeat (first | refine blk_drewN ?_ _ | refine blk_drew ?_ | refine blk_alloc ?_ _)); exact BK219.out) hb); have n1_ := Aside0.mk (below_step (by repeat (first | (with_reducible first | exact HB.out | apply below_alloc | apply pw_below_drewN | apply below_drew1 | refine below_set ?_ GE219.out) | exact HB.out)) hb); clear BK219; clear HB; have BK219 := n0_; have HB := n1_; clear n0_ n1_; (try clear hb); (try clear hb2); (try clear hk); (try clear hi)))
    go_ret3
    exact ⟨by first | rfl | (simp [errW_none, errW_some] <;> rfl) | (simp [*, errW_none, errW_some] <;> rfl), by repeat (first | (with_reducible first | exact HB.out | apply below_alloc | apply pw_below_drewN | apply below_drew1 | refine below_set ?_ GE219.out) | exact HB.out)⟩
end Go.Proofs.Ytfegofnplcmacaa.PAll
namespace Go.Proofs.Ytfegofnplcmacaa.PAll
open Go.RowKit Go.Proofs.YtfegofnplcmacaaW.PrintWords Go.Proofs.YtfegofnplcmacaaW.PrintLast Go.Proofs.YtfegofnplcmacaaW.PrintMore
attribute [local go_sem] max2_int min2_int max_two min_two max_three min_three max_four min_four
set_option linter.unusedVariables false
set_option linter.unusedSimpArgs false
def vernierref05_Fold.f (k : Nat) (a0 : Int) (a1 : Int) : Option (Int × Int) := (vernierref05_Is.f a0).bind fun t242 => (if t242 = true then ((vernierref01_Text.f k a1 a0).bind fun t243 => ((vernierref01_Number.f k t243).bind fun t244 => (some (t244, 0)))) else (some (0, 2)))
theorem vernierref05_Fold.mono : ∀ a0 a1 k, LeO (vernierref05_Fold.f k a0 a1) (vernierref05_Fold.f (k + 1) a0 a1) := by
  intro a0 a1 k
  unfold vernierref05_Fold.f
  repeat' first
      | (with_reducible exact vernierref01_Number.mono _ _)
      | (with_reducible exact vernierref01_Text.mono _ _ _)
      | (with_reducible exact LeO.refl _)
      | (with_reducible exact LeO.none _)
      | (with_reducible refine LeO.ite ?_ ?_)
      | (with_reducible refine LeO.bind ?_ (fun _ => ?_))
      | exact vernierref01_Number.mono _ _
      | exact vernierref01_Text.mono _ _ _
      | exact LeO.none _
      | refine LeO.ite ?_ ?_
      | refine LeO.bind ?_ (fun _ => ?_)
set_option maxHeartbeats 8000000 in
set_option maxRecDepth 100000 in
theorem vernierref05_Fold.calls (k : Nat) (a0 : Int) (a1 : Int) (r1 : Int) (r2 : Int) (w : World) (h : vernierref05_Fold.f k a0 a1 = some (r1, r2)) :
    Calls Try.prog 51 #[.int .i64 a0, .int .u64 a1] w fun e w' => e = .returned (.tuple #[.int .u64 r1, .int .i64 r2]) ∧ Below w.heap.size w w' := by
  have HB := Aside0.mk (Below.refl w.heap.size w)
  have H : ((vernierref05_Is.f a0).bind fun t242 => (if t242 = true then ((vernierref01_Text.f k a1 a0).bind fun t243 => ((vernierref01_Number.f k t243).bind fun t244 => (some (t244, 0)))) else (some (0, 2)))) = some (r1, r2) := h
  clear h
  replace H := Option.bind_eq_some_iff.mp H
  obtain ⟨t242, A30, H⟩ := H
  replace H : (if t242 = true then ((vernierref01_Text.f k a1 a0).bind fun t243 => ((vernierref01_Number.f k t243).bind fun t244 => (some (t244, 0)))) else (some (0, 2))) = some (r1, r2) := H
  have A3 := Aside0.mk A30
  clear A30
  by_cases c4 : t242 = true
  · subst c4
    have H1 : ((vernierref01_Text.f k a1 a0).bind fun t243 => ((vernierref01_Number.f k t243).bind fun t244 => (some (t244, 0)))) = some (r1, r2) := by rw [if_pos rfl] at H; exact H
    clear H
    have H := H1
    clear H1
    replace H := Option.bind_eq_some_iff.mp H
    obtain ⟨t243, A50, H⟩ := H
    replace H : ((vernierref01_Number.f k t243).bind fun t244 => (some (t244, 0))) = some (r1, r2) := H
    have A5 := Aside0.mk A50
    clear A50
    replace H := Option.bind_eq_some_iff.mp H
    obtain ⟨t244, A60, H⟩ := H
    replace H : (some (t244, 0)) = some (r1, r2) := H
    have A6 := Aside0.mk A60
    clear A60
    simp only [Option.some.injEq, Prod.mk.injEq] at H
    obtain ⟨rfl, rfl⟩ := H
    go_enter Try.func51, Try.ntmps51
    go_wp2_with (first | ((with_reducible refine gate_callee (f := 17) rfl ?_); refine goesL_ (some 8) rfl rfl Try.func17 (by kernel_rfl) rfl #[.int .i64 a0] rfl (by (try simp only [List.map_toArray, List.map_cons, List.map_nil]); first | done | rfl | (simp only [List.length_drop, List.length_take]; rfl)) ?_; (with_reducible refine (vernierref05_Is.calls a0 true _ A3.out).mono ?_); rintro e w' ⟨rfl, ⟨nd, rfl⟩⟩; refine ⟨_, rfl, ?_⟩) | ((with_reducible refine gate_callee (f := 32) rfl ?_); refine goesL_ (some 13) rfl rfl Try.func32 (by kernel_rfl) rfl #[.int .u64 a1, .int .i64 a0] rfl (by (try simp only [List.map_toArray, List.map_cons, List.map_nil]); first | done | rfl | (simp only [List.length_drop, List.length_take]; rfl)) ?_; (with_reducible refine (vernierref01_Text.calls k a1 a0 t243 _ A5.out).mono ?_); rintro e w7 ⟨rfl, hb⟩; refine ⟨_, rfl, ?_⟩; have n0_ := Aside0.mk (below_step (by repeat (first | (with_reducible first | exact HB.out | apply below_alloc | apply pw_below_drewN | apply below_drew1) | exact HB.out)) hb); clear HB; have HB := n0_; clear n0_; (try clear hb); (try clear hb2); (try clear hk); (try clear hi)) | ((with_reducible refine gate_callee (f := 35) rfl ?_); refine goesL_ (some 14) rfl rfl Try.func35 (by kernel_rfl) rfl #[.string t243] rfl (by (try simp only [List.map_toArray, List.map_cons, List.map_nil]); first | done | rfl | (simp only [List.length_drop, List.length_take]; rfl)) ?_; (with_reducible refine (vernierref01_Number.calls k t243 t244 _ A6.out).mono ?_); rintro e w' ⟨rfl, ⟨nd, rfl⟩⟩; refine ⟨_, rfl, ?_⟩))
    go_ret2
    exact ⟨by first | rfl | (simp [errW_none, errW_some] <;> rfl) | (simp [*, errW_none, errW_some] <;> rfl), by repeat (first | (with_reducible first | exact HB.out | apply below_alloc | apply pw_below_drewN | apply below_drew1) | exact HB.out)⟩
  · replace c4 := Bool.eq_false_iff.mpr c4
    subst c4
    have H1 : (some (0, 2)) = some (r1, r2) := by rw [if_neg (show ¬ (false = true) by decide)] at H; exact H
    clear H
    have H := H1
    clear H1
    simp only [Option.some.injEq, Prod.mk.injEq] at H
    obtain ⟨rfl, rfl⟩ := H
    go_enter Try.func51, Try.ntmps51
    go_wp2_with (first | ((with_reducible refine gate_callee (f := 17) rfl ?_); refine goesL_ (some 8) rfl rfl Try.func17 (by kernel_rfl) rfl #[.int .i64 a0] rfl (by (try simp only [List.map_toArray, List.map_cons, List.map_nil]); first | done | rfl | (simp only [List.length_drop, List.length_take]; rfl)) ?_; (with_reducible refine (vernierref05_Is.calls a0 false _ A3.out).mono ?_); rintro e w' ⟨rfl, ⟨nd, rfl⟩⟩; refine ⟨_, rfl, ?_⟩))
    go_ret2
    exact ⟨by first | rfl | (simp [errW_none, errW_some] <;> rfl) | (simp [*, errW_none, errW_some] <;> rfl), by repeat (first | (with_reducible first | exact HB.out | apply below_alloc | apply pw_below_drewN | apply below_drew1) | exact HB.out)⟩
end Go.Proofs.Ytfegofnplcmacaa.PAll
namespace Go.Proofs.Ytfegofnplcmacaa.PAll
open Go.RowKit Go.Proofs.YtfegofnplcmacaaW.PrintWords Go.Proofs.YtfegofnplcmacaaW.PrintLast Go.Proofs.YtfegofnplcmacaaW.PrintMore
attribute [local go_sem] max2_int min2_int max_two min_two max_three min_three max_four min_four
set_option linter.unusedVariables false
set_option linter.unusedSimpArgs false
def vernierref06_Fold.f (k : Nat) (a0 : Int) (a1 : Int) : Option (Int) := (vernierref05_Fold.f k a0 a1).bind fun bt245 => (some bt245.1)
theorem vernierref06_Fold.mono : ∀ a0 a1 k, LeO (vernierref06_Fold.f k a0 a1) (vernierref06_Fold.f (k + 1) a0 a1) := by
  intro a0 a1 k
  unfold vernierref06_Fold.f
  repeat' first
      | (with_reducible exact vernierref05_Fold.mono _ _ _)
      | (with_reducible exact LeO.refl _)
      | (with_reducible exact LeO.none _)
      | (with_reducible refine LeO.ite ?_ ?_)
      | (with_reducible refine LeO.bind ?_ (fun _ => ?_))
      | exact vernierref05_Fold.mono _ _ _
      | exact LeO.none _
      | refine LeO.ite ?_ ?_
      | refine LeO.bind ?_ (fun _ => ?_)
set_option maxHeartbeats 8000000 in
set_option maxRecDepth 100000 in
theorem vernierref06_Fold.calls (k : Nat) (a0 : Int) (a1 : Int) (r : Int) (w : World) (h : vernierref06_Fold.f k a0 a1 = some r) :
    Calls Try.prog 25 #[.int .i64 a0, .int .u64 a1] w fun e w' => e = .returned (.int .u64 r) ∧ Below w.heap.size w w' := by
  have HB := Aside0.mk (Below.refl w.heap.size w)
  have H : ((vernierref05_Fold.f k a0 a1).bind fun bt245 => (some bt245.1)) = some r := h
  clear h
  replace H := Option.bind_eq_some_iff.mp H
  obtain ⟨⟨t245, t246⟩, A30, H⟩ := H
  replace H : (some t245) = some r := H
  have A3 := Aside0.mk A30
  clear A30
  obtain rfl := Option.some.inj H
  go_enter Try.func25, Try.ntmps25
  go_wp2_with (first | ((with_reducible refine gate_callee (f := 51) rfl ?_); refine goesL_ (some 10) rfl rfl Try.func51 (by kernel_rfl) rfl #[.int .i64 a0, .int .u64 a1] rfl (by (try simp only [List.map_toArray, List.map_cons, List.map_nil]); first | done | rfl | (simp only [List.length_drop, List.length_take]; rfl)) ?_; (with_reducible refine (vernierref05_Fold.calls k a0 a1 t245 t246 _ A3.out).mono ?_); rintro e w4 ⟨rfl, hb⟩; refine ⟨_, rfl, ?_⟩; have n0_ := Aside0.mk (below_step (by repeat (first | (with_reducible first | exact HB.out | apply below_alloc | apply pw_below_drewN | apply below_drew1) | exact HB.out)) hb); clear HB; have HB := n0_; clear n0_; (try clear hb); (try clear hb2); (try clear hk); (try clear hi)))
  go_ret
  exact ⟨by first | rfl | (simp [errW_none, errW_some] <;> rfl) | (simp [*, errW_none, errW_some] <;> rfl), by repeat (first | (with_reducible first | exact HB.out | apply below_alloc | apply pw_below_drewN | apply below_drew1) | exact HB.out)⟩
end Go.Proofs.Ytfegofnplcmacaa.PAll
namespace Go.Proofs.Ytfegofnplcmacaa.PAll
open Go.RowKit Go.Proofs.YtfegofnplcmacaaW.PrintWords Go.Proofs.YtfegofnplcmacaaW.PrintLast Go.Proofs.YtfegofnplcmacaaW.PrintMore
attribute [local go_sem] max2_int min2_int max_two min_two max_three min_three max_four min_four
set_option linter.unusedVariables false
set_option linter.unusedSimpArgs false
def vernierref06_Neg.f (k : Nat) (a0 : Int) (a1 : Int) : Option (Int) := (vernierref06_Fold.f k a0 (IntKind.u64.wrap (-a1))).bind fun t247 => (some t247)
theorem vernierref06_Neg.mono : ∀ a0 a1 k, LeO (vernierref06_Neg.f k a0 a1) (vernierref06_Neg.f (k + 1) a0 a1) := by
  intro a0 a1 k
  unfold vernierref06_Neg.f
  repeat' first
      | (with_reducible exact vernierref06_Fold.mono _ _ _)
      | (with_reducible exact LeO.refl _)
      | (with_reducible exact LeO.none _)
      | (with_reducible refine LeO.ite ?_ ?_)
      | (with_reducible refine LeO.bind ?_ (fun _ => ?_))
      | exact vernierref06_Fold.mono _ _ _
      | exact LeO.none _
      | refine LeO.ite ?_ ?_
      | refine LeO.bind ?_ (fun _ => ?_)
set_option maxHeartbeats 8000000 in
set_option maxRecDepth 100000 in
theorem vernierref06_Neg.calls (k : Nat) (a0 : Int) (a1 : Int) (r : Int) (w : World) (h : vernierref06_Neg.f k a0 a1 = some r) :
    Calls Try.prog 39 #[.int .i64 a0, .int .u64 a1] w fun e w' => e = .returned (.int .u64 r) ∧ Below w.heap.size w w' := by
  have HB := Aside0.mk (Below.refl w.heap.size w)
  have H : ((vernierref06_Fold.f k a0 (IntKind.u64.wrap (-a1))).bind fun t247 => (some t247)) = some r := h
  clear h
  replace H := Option.bind_eq_some_iff.mp H
  obtain ⟨t247, A30, H⟩ := H
  replace H : (some t247) = some r := H
  have A3 := Aside0.mk A30
  clear A30
  obtain rfl := Option.some.inj H
  go_enter Try.func39, Try.ntmps39
  go_wp2_with (first | ((with_reducible refine gate_callee (f := 25) rfl ?_); refine goesL_ (some 8) rfl rfl Try.func25 (by kernel_rfl) rfl #[.int .i64 a0, .int .u64 (IntKind.u64.wrap (-a1))] rfl (by (try simp only [List.map_toArray, List.map_cons, List.map_nil]); first | done | rfl | (simp only [List.length_drop, List.length_take]; rfl)) ?_; (with_reducible refine (vernierref06_Fold.calls k a0 (IntKind.u64.wrap (-a1)) t247 _ A3.out).mono ?_); rintro e w4 ⟨rfl, hb⟩; refine ⟨_, rfl, ?_⟩; have n0_ := Aside0.mk (below_step (by repeat (first | (with_reducible first | exact HB.out | apply below_alloc | apply pw_below_drewN | apply below_drew1) | exact HB.out)) hb); clear HB; have HB := n0_; clear n0_; (try clear hb); (try clear hb2); (try clear hk); (try clear hi)))
  go_ret
  exact ⟨by first | rfl | (simp [errW_none, errW_some] <;> rfl) | (simp [*, errW_none, errW_some] <;> rfl), by repeat (first | (with_reducible first | exact HB.out | apply below_alloc | apply pw_below_drewN | apply below_drew1) | exact HB.out)⟩
end Go.Proofs.Ytfegofnplcmacaa.PAll
namespace Go.Proofs.Ytfegofnplcmacaa.PAll
open Go.RowKit Go.Proofs.YtfegofnplcmacaaW.PrintWords Go.Proofs.YtfegofnplcmacaaW.PrintLast Go.Proofs.YtfegofnplcmacaaW.PrintMore
attribute [local go_sem] max2_int min2_int max_two min_two max_three min_three max_four min_four
set_option linter.unusedVariables false
set_option linter.unusedSimpArgs false
def vernierref07_Rounds.j0 : Nat → Int → Int → Bool → Int → Bool → Int → Int → Int → Bool → Option (Int × Int)
  | 0, _, _, _, _, _, _, _, _, _ => none
  | k + 1, x0, x6, x29, x249000, x249001, x249002, x249003, x249004, x249005 => if x29 = true then (if x249001 = true then ((vernierref06_Neg.f k x0 (IntKind.u64.wrap (x6 + 1))).bind fun t252 => (some (t252, 0))) else (some (IntKind.u64.wrap (x6 + 1), 0))) else (if x249001 = true then ((vernierref06_Neg.f k x0 x6).bind fun t253 => (some (t253, 0))) else (some (x6, 0)))
def vernierref07_Rounds.f (k : Nat) (a0 : Int) (a1_0 : Int) (a1_1 : Bool) (a1_2 : Int) (a1_3 : Int) (a1_4 : Int) (a1_5 : Bool) : Option (Int × Int) := (vernierref07_Cut.f k a0 a1_0 a1_1 a1_2 a1_3 a1_4 a1_5).bind fun bt249 => (if bt249.2.2 = 0 then (if bt249.2.1 = 3 then (vernierref07_Rounds.j0 k a0 bt249.1 true a1_0 a1_1 a1_2 a1_3 a1_4 a1_5) else (if bt249.2.1 = 2 then (vernierref07_Rounds.j0 k a0 bt249.1 ((Int.tmod bt249.1 2) == 1) a1_0 a1_1 a1_2 a1_3 a1_4 a1_5) else (vernierref07_Rounds.j0 k a0 bt249.1 false a1_0 a1_1 a1_2 a1_3 a1_4 a1_5))) else (some (0, bt249.2.2)))
theorem vernierref07_Rounds.mono_l : ∀ k, (∀ y0 y1 y2 y3 y4 y5 y6 y7 y8, LeO (vernierref07_Rounds.j0 k y0 y1 y2 y3 y4 y5 y6 y7 y8) (vernierref07_Rounds.j0 (k + 1) y0 y1 y2 y3 y4 y5 y6 y7 y8))
  | 0 => fun _ _ _ _ _ _ _ _ _ r h => by simp [vernierref07_Rounds.j0] at h
  | k + 1 => by
    have ih0 := vernierref07_Rounds.mono_l k
    · intro y0 y1 y2 y3 y4 y5 y6 y7 y8
      unfold vernierref07_Rounds.j0
      repeat' first
      | (with_reducible exact ih0 _ _ _ _ _ _ _ _ _)
      | (with_reducible exact vernierref06_Neg.mono _ _ _)
      | (with_reducible exact vernierref07_Cut.mono _ _ _ _ _ _ _ _)
      | (with_reducible exact LeO.refl _)
      | (with_reducible exact LeO.none _)
      | (with_reducible refine LeO.ite ?_ ?_)
      | (with_reducible refine LeO.bind ?_ (fun _ => ?_))
      | exact ih0 _ _ _ _ _ _ _ _ _
      | exact vernierref06_Neg.mono _ _ _
      | exact vernierref07_Cut.mono _ _ _ _ _ _ _ _
      | exact LeO.none _
      | refine LeO.ite ?_ ?_
      | refine LeO.bind ?_ (fun _ => ?_)
theorem vernierref07_Rounds.mono : ∀ a0 a1 a2 a3 a4 a5 a6 k, LeO (vernierref07_Rounds.f k a0 a1 a2 a3 a4 a5 a6) (vernierref07_Rounds.f (k + 1) a0 a1 a2 a3 a4 a5 a6) := by
  intro a0 a1 a2 a3 a4 a5 a6 k
  have ih0 := vernierref07_Rounds.mono_l k
  unfold vernierref07_Rounds.f
  repeat' first
      | (with_reducible exact ih0 _ _ _ _ _ _ _ _ _)
      | (with_reducible exact vernierref06_Neg.mono _ _ _)
      | (with_reducible exact vernierref07_Cut.mono _ _ _ _ _ _ _ _)
      | (with_reducible exact LeO.refl _)
      | (with_reducible exact LeO.none _)
      | (with_reducible refine LeO.ite ?_ ?_)
      | (with_reducible refine LeO.bind ?_ (fun _ => ?_))
      | exact ih0 _ _ _ _ _ _ _ _ _
      | exact vernierref06_Neg.mono _ _ _
      | exact vernierref07_Cut.mono _ _ _ _ _ _ _ _
      | exact LeO.none _
      | refine LeO.ite ?_ ?_
      | refine LeO.bind ?_ (fun _ => ?_)
set_option maxHeartbeats 8000000 in
set_option maxRecDepth 100000 in
theorem vernierref07_Rounds.calls (k : Nat) (a0 : Int) (a1_0 : Int) (a1_1 : Bool) (a1_2 : Int) (a1_3 : Int) (a1_4 : Int) (a1_5 : Bool) (r1 : Int) (r2 : Int) (w : World) (h : vernierref07_Rounds.f k a0 a1_0 a1_1 a1_2 a1_3 a1_4 a1_5 = some (r1, r2)) :
    Calls Try.prog 15 #[.int .i64 a0, .agg #[.int .i64 a1_0, .bool a1_1, .int .i64 a1_2, .int .u64 a1_3, .int .u64 a1_4, .bool a1_5]] w fun e w' => e = .returned (.tuple #[.int .u64 r1, .int .i64 r2]) ∧ Below w.heap.size w w' := by
  have hu24 := Try.underlying24
  have HB := Aside0.mk (Below.refl w.heap.size w)
  have H : ((vernierref07_Cut.f k a0 a1_0 a1_1 a1_2 a1_3 a1_4 a1_5).bind fun bt249 => (if bt249.2.2 = 0 then (if bt249.2.1 = 3 then (vernierref07_Rounds.j0 k a0 bt249.1 true a1_0 a1_1 a1_2 a1_3 a1_4 a1_5) else (if bt249.2.1 = 2 then (vernierref07_Rounds.j0 k a0 bt249.1 ((Int.tmod bt249.1 2) == 1) a1_0 a1_1 a1_2 a1_3 a1_4 a1_5) else (vernierref07_Rounds.j0 k a0 bt249.1 false a1_0 a1_1 a1_2 a1_3 a1_4 a1_5))) else (some (0, bt249.2.2)))) = some (r1, r2) := h
  clear h
  replace H := Option.bind_eq_some_iff.mp H
  obtain ⟨⟨t249, t250, t251⟩, A30, H⟩ := H
  replace H : (if t251 = 0 then (if t250 = 3 then (vernierref07_Rounds.j0 k a0 t249 true a1_0 a1_1 a1_2 a1_3 a1_4 a1_5) else (if t250 = 2 then (vernierref07_Rounds.j0 k a0 t249 ((Int.tmod t249 2) == 1) a1_0 a1_1 a1_2 a1_3 a1_4 a1_5) else (vernierref07_Rounds.j0 k a0 t249 false a1_0 a1_1 a1_2 a1_3 a1_4 a1_5))) else (some (0, t251))) = some (r1, r2) := H
  have A3 := Aside0.mk A30
  clear A30
  by_cases c4 : t251 = 0
  · rw [if_pos c4] at H
    have c4b0 : (t251 == 0) = true := beq_iff_eq.mpr c4
    have c4b1 : (t251 != 0) = false := bne_eq_false_iff_eq.mpr c4
    clear c4
    have HC5 := Aside0.mk H
    clear H
    go_enter Try.func15, Try.ntmps15
    go_upto_region 4 with (first | ((with_reducible refine gate_dst (N := 3) rfl ?_); refine box_event ?hg (N := 3) ?hd (cs := #[.int .i64 a1_0, .bool a1_1, .int .i64 a1_2, .int .u64 a1_3, .int .u64 a1_4, .bool a1_5]) (t := 24) ?hr ?_; (case hd => rfl); (case hg => rfl); (case hr => first | (go_simp; done) | (go_simp; rfl)); intro gb248 hg w6 hbox hb; have n0_ := Aside0.mk (below_step (by repeat (first | (with_reducible first | exact HB.out | apply below_alloc | apply pw_below_drewN | apply below_drew1) | exact HB.out)) hb); have n1_ := Aside0.mk (hbox); have n2_ := Aside0.mk ((by rw [hg]; exact (below_size (by repeat (first | (with_reducible first | exact HB.out | apply below_alloc | apply pw_below_drewN | apply below_drew1) | exact HB.out))) : w.heap.size ≤ gb248)); have n3_ := Aside0.mk ((by rw [hg]; exact (below_size (by repeat (first | (with_reducible first | exact HB.out | apply below_alloc | apply pw_below_drewN | apply below_drew1) | exact HB.out))) : w.heap.size ≤ gb248)); clear HB; have HB := n0_; have BK248 := n1_; have GW248 := n2_; have GE248 := n3_; clear n0_ n1_ n2_ n3_; clear hb hbox hg; have hcz7_0 : w6.cell? ⟨gb248, 0, none⟩ = some (.int .i64 a1_0) := (blk_cell BK248.out 0).trans rfl; have hcz7_1 : w6.cell? ⟨gb248, 1, none⟩ = some (.bool a1_1) := (blk_cell BK248.out 1).trans rfl; have hcz7_2 : w6.cell? ⟨gb248, 2, none⟩ = some (.int .i64 a1_2) := (blk_cell BK248.out 2).trans rfl; have hcz7_3 : w6.cell? ⟨gb248, 3, none⟩ = some (.int .u64 a1_3) := (blk_cell BK248.out 3).trans rfl; have hcz7_4 : w6.cell? ⟨gb248, 4, none⟩ = some (.int .u64 a1_4) := (blk_cell BK248.out 4).trans rfl; have hcz7_5 : w6.cell? ⟨gb248, 5, none⟩ = some (.bool a1_5) := (blk_cell BK248.out 5).trans rfl; have hfz7_0 := blk_frozen BK248.out 0; have hfz7_1 := blk_frozen BK248.out 1; have hfz7_2 := blk_frozen BK248.out 2; have hfz7_3 := blk_frozen BK248.out 3; have hfz7_4 := blk_frozen BK248.out 4; have hfz7_5 := blk_frozen BK248.out 5) | ((with_reducible refine gate_callee (f := 12) rfl ?_); refine goesL_ (some 12) rfl rfl Try.func12 (by kernel_rfl) rfl #[.int .i64 a0, .agg #[.int .i64 a1_0, .bool a1_1, .int .i64 a1_2, .int .u64 a1_3, .int .u64 a1_4, .bool a1_5]] rfl (by (try simp only [List.map_toArray, List.map_cons, List.map_nil]); first | done | rfl | (simp only [List.length_drop, List.length_take]; rfl)) ?_; (with_reducible refine (vernierref07_Cut.calls k a0 a1_0 a1_1 a1_2 a1_3 a1_4 a1_5 t249 t250 t251 _ A3.out).mono ?_); rintro e w8 ⟨rfl, hb⟩; refine ⟨_, rfl, ?_⟩; have n0_ := Aside0.mk (blk_below (g := gb248) (o := .cells #[.int .i64 a1_0, .bool a1_1, .int .i64 a1_2, .int .u64 a1_3, .int .u64 a1_4, .bool a1_5] 24 (0, 0)) (by (with_reducible repeat (first | refine blk_drewN ?_ _ | refine blk_drew ?_ | refine blk_alloc ?_ _)); exact BK248.out) hb); have n1_ := Aside0.mk (below_step (by repeat (first | (with_reducible first | exact HB.out | apply below_alloc | apply pw_below_drewN | apply below_drew1 | refine below_set ?_ GE248.out) | exact HB.out)) hb); clear BK248; clear HB; have BK248 := n0_; have HB := n1_; clear n0_ n1_; (try clear hb); (try clear hb2); (try clear hk); (try clear hi)))
    (try simp only [Act.put, List.setIfInBounds_toArray, List.set_cons_zero, List.set_cons_succ])
    go_cut [29] (fun v29 wc => ∃ (kq : Nat) (x29_4 : Bool), v29 = .bool x29_4 ∧ Aside0 (vernierref07_Rounds.j0 kq a0 t249 x29_4 a1_0 a1_1 a1_2 a1_3 a1_4 a1_5 = some (r1, r2)) ∧ Aside0 (kq ≤ k) ∧ Aside0 (wc.heap[gb248]? = some (.cells #[.int .i64 a1_0, .bool a1_1, .int .i64 a1_2, .int .u64 a1_3, .int .u64 a1_4, .bool a1_5] 24 (0, 0))) ∧ Aside0 (Below w.heap.size w wc))
    case first =>
      have H := HC5.out
      clear HC5
      by_cases c9 : t250 = 3
      · rw [if_pos c9] at H
        have c9b0 : (t250 == 3) = true := beq_iff_eq.mpr c9
        have c9b1 : (t250 != 3) = false := bne_eq_false_iff_eq.mpr c9
        clear c9
        (first | rw [c9b0] | (simp only [i64_w, i32_w]; rw [c9b0]) | skip)
        have H' := Aside0.mk H
        clear H
        go_wp2
        go_meet
        case rel => exact ⟨_, (true), (by first | rfl | (simp; done) | (simp [*]; done)), H', ⟨by first | omega | exact Nat.le_refl _⟩, ⟨by (with_reducible repeat (first | refine blk_drewN ?_ _ | refine blk_drew ?_ | refine blk_alloc ?_ _)); exact BK248.out⟩, ⟨by repeat (first | (with_reducible first | exact HB.out | apply below_alloc | apply pw_below_drewN | apply below_drew1 | refine below_set ?_ GE248.out) | exact HB.out)⟩⟩
      · rw [if_neg c9] at H
        have c9b0 : (t250 == 3) = false := beq_eq_false_iff_ne.mpr c9
        have c9b1 : (t250 != 3) = true := bne_iff_ne.mpr c9
        (first | rw [c9b0] | (simp only [i64_w, i32_w]; rw [c9b0]) | skip)
        by_cases c10 : t250 = 2
        · rw [if_pos c10] at H
          have c10b0 : (t250 == 2) = true := beq_iff_eq.mpr c10
          have c10b1 : (t250 != 2) = false := bne_eq_false_iff_eq.mpr c10
          clear c10
          have H' := Aside0.mk H
          clear H
          go_wp2
          go_meet
          case rel => exact ⟨_, (((Int.tmod t249 2) == 1)), (by first | rfl | (simp; done) | (simp [*]; done)), H', ⟨by first | omega | exact Nat.le_refl _⟩, ⟨by (with_reducible repeat (first | refine blk_drewN ?_ _ | refine blk_drew ?_ | refine blk_alloc ?_ _)); exact BK248.out⟩, ⟨by repeat (first | (with_reducible first | exact HB.out | apply below_alloc | apply pw_below_drewN | apply below_drew1 | refine below_set ?_ GE248.out) | exact HB.out)⟩⟩
        · rw [if_neg c10] at H
          have c10b0 : (t250 == 2) = false := beq_eq_false_iff_ne.mpr c10
          have c10b1 : (t250 != 2) = true := bne_iff_ne.mpr c10
          have H' := Aside0.mk H
          clear H
          go_wp2
          go_meet
          case rel => exact ⟨_, (false), (by first | rfl | (simp; done) | (simp [*]; done)), H', ⟨by first | omega | exact Nat.le_refl _⟩, ⟨by (with_reducible repeat (first | refine blk_drewN ?_ _ | refine blk_drew ?_ | refine blk_alloc ?_ _)); exact BK248.out⟩, ⟨by repeat (first | (with_reducible first | exact HB.out | apply below_alloc | apply pw_below_drewN | apply below_drew1 | refine below_set ?_ GE248.out) | exact HB.out)⟩⟩
    case rest =>
      clear HC5
      try clear c1
      try clear p2
      try clear c4
      try clear c4b0
      try clear c4b1
      try clear c9
      try clear c9b0
      try clear c9b1
      try clear c10
      try clear c10b0
      try clear c10b1
      try clear hcz7_0
      try clear hcz7_1
      try clear hcz7_2
      try clear hcz7_3
      try clear hcz7_4
      try clear hcz7_5
      try clear hfz7_0
      try clear hfz7_1
      try clear hfz7_2
      try clear hfz7_3
      try clear hfz7_4
      try clear hfz7_5
      obtain ⟨kq, x29_4, rfl, HA, HJ4, BK248, HB⟩ := hcut
      cases kq with
      | zero => exact absurd HA.out (by simp [vernierref07_Rounds.j0])
      | succ kj4 =>
        have H := HA.out
        clear HA
        simp only [vernierref07_Rounds.j0] at H
        by_cases c11 : x29_4 = true
        · subst c11
          have H1 : (if a1_1 = true then ((vernierref06_Neg.f kj4 a0 (IntKind.u64.wrap (t249 + 1))).bind fun t252 => (some (t252, 0))) else (some (IntKind.u64.wrap (t249 + 1), 0))) = some (r1, r2) := by rw [if_pos rfl] at H; exact H
          clear H
          have H := H1
          clear H1
          by_cases c12 : a1_1 = true
          · subst c12
            have H1 : ((vernierref06_Neg.f kj4 a0 (IntKind.u64.wrap (t249 + 1))).bind fun t252 => (some (t252, 0))) = some (r1, r2) := by rw [if_pos rfl] at H; exact H
            clear H
            have H := H1
            clear H1
            replace H := Option.bind_eq_some_iff.mp H
            obtain ⟨t252, A130, H⟩ := H
            replace H : (some (t252, 0)) = some (r1, r2) := H
            have A13 := Aside0.mk A130
            clear A130
            simp only [Option.some.injEq, Prod.mk.injEq] at H
            obtain ⟨rfl, rfl⟩ := H
            have hcz14_0 : wc.cell? ⟨gb248, 0, none⟩ = some (.int .i64 a1_0) := (blk_cell BK248.out 0).trans rfl
            have hcz14_1 : wc.cell? ⟨gb248, 1, none⟩ = some (.bool true) := (blk_cell BK248.out 1).trans rfl
            have hcz14_2 : wc.cell? ⟨gb248, 2, none⟩ = some (.int .i64 a1_2) := (blk_cell BK248.out 2).trans rfl
            have hcz14_3 : wc.cell? ⟨gb248, 3, none⟩ = some (.int .u64 a1_3) := (blk_cell BK248.out 3).trans rfl
            have hcz14_4 : wc.cell? ⟨gb248, 4, none⟩ = some (.int .u64 a1_4) := (blk_cell BK248.out 4).trans rfl
            have hcz14_5 : wc.cell? ⟨gb248, 5, none⟩ = some (.bool a1_5) := (blk_cell BK248.out 5).trans rfl
            have hfz14_0 := blk_frozen BK248.out 0
            have hfz14_1 := blk_frozen BK248.out 1
            have hfz14_2 := blk_frozen BK248.out 2
            have hfz14_3 := blk_frozen BK248.out 3
            have hfz14_4 := blk_frozen BK248.out 4
            have hfz14_5 := blk_frozen BK248.out 5
            go_wp2_with (first | ((with_reducible refine gate_callee (f := 39) rfl ?_); refine goesL_ (some 36) rfl rfl Try.func39 (by kernel_rfl) rfl #[.int .i64 a0, .int .u64 (IntKind.u64.wrap (t249 + 1))] rfl (by (try simp only [List.map_toArray, List.map_cons, List.map_nil]); first | done | rfl | (simp only [List.length_drop, List.length_take]; rfl)) ?_; (with_reducible refine (vernierref06_Neg.calls kj4 a0 (IntKind.u64.wrap (t249 + 1)) t252 _ A13.out).mono ?_); rintro e w15 ⟨rfl, hb⟩; refine ⟨_, rfl, ?_⟩; have n0_ := Aside0.mk (blk_below (g := gb248) (o := .cells #[.int .i64 a1_0, .bool true, .int .i64 a1_2, .int .u64 a1_3, .int .u64 a1_4, .bool a1_5] 24 (0, 0)) (by (with_reducible repeat (first | refine blk_drewN ?_ _ | refine blk_drew ?_ | refine blk_alloc ?_ _)); exact BK248.out) hb); have n1_ := Aside0.mk (below_step (by repeat (first | (with_reducible first | exact HB.out | apply below_alloc | apply pw_below_drewN | apply below_drew1 | refine below_set ?_ GE248.out) | exact HB.out)) hb); clear BK248; clear HB; have BK248 := n0_; have HB := n1_; clear n0_ n1_; (try clear hb); (try clear hb2); (try clear hk); (try clear hi)))
            go_ret2
            exact ⟨by first | rfl | (simp [errW_none, errW_some] <;> rfl) | (simp [*, errW_none, errW_some] <;> rfl), by repeat (first | (with_reducible first | exact HB.out | apply below_alloc | apply pw_below_drewN | apply below_drew1 | refine below_set ?_ GE248.out) | exact HB.out)⟩
          · replace c12 := Bool.eq_false_iff.mpr c12
            subst c12
            have H1 : (some (IntKind.u64.wrap (t249 + 1), 0)) = some (r1, r2) := by rw [if_neg (show ¬ (false = true) by decide)] at H; exact H
            clear H
            have H := H1
            clear H1
            simp only [Option.some.injEq, Prod.mk.injEq] at H
            obtain ⟨rfl, rfl⟩ := H
            have hcz16_0 : wc.cell? ⟨gb248, 0, none⟩ = some (.int .i64 a1_0) := (blk_cell BK248.out 0).trans rfl
            have hcz16_1 : wc.cell? ⟨gb248, 1, none⟩ = some (.bool false) := (blk_cell BK248.out 1).trans rfl
            have hcz16_2 : wc.cell? ⟨gb248, 2, none⟩ = some (.int .i64 a1_2) := (blk_cell BK248.out 2).trans rfl
            have hcz16_3 : wc.cell? ⟨gb248, 3, none⟩ = some (.int .u64 a1_3) := (blk_cell BK248.out 3).trans rfl
            have hcz16_4 : wc.cell? ⟨gb248, 4, none⟩ = some (.int .u64 a1_4) := (blk_cell BK248.out 4).trans rfl
            have hcz16_5 : wc.cell? ⟨gb248, 5, none⟩ = some (.bool a1_5) := (blk_cell BK248.out 5).trans rfl
            have hfz16_0 := blk_frozen BK248.out 0
            have hfz16_1 := blk_frozen BK248.out 1
            have hfz16_2 := blk_frozen BK248.out 2
            have hfz16_3 := blk_frozen BK248.out 3
            have hfz16_4 := blk_frozen BK248.out 4
            have hfz16_5 := blk_frozen BK248.out 5
            go_wp2
            go_ret2
            exact ⟨by first | rfl | (simp [errW_none, errW_some] <;> rfl) | (simp [*, errW_none, errW_some] <;> rfl), by repeat (first | (with_reducible first | exact HB.out | apply below_alloc | apply pw_below_drewN | apply below_drew1 | refine below_set ?_ GE248.out) | exact HB.out)⟩
        · replace c11 := Bool.eq_false_iff.mpr c11
          subst c11
          have H1 : (if a1_1 = true then ((vernierref06_Neg.f kj4 a0 t249).bind fun t253 => (some (t253, 0))) else (some (t249, 0))) = some (r1, r2) := by rw [if_neg (show ¬ (false = true) by decide)] at H; exact H
          clear H
          have H := H1
          clear H1
          by_cases c17 : a1_1 = true
          · subst c17
            have H1 : ((vernierref06_Neg.f kj4 a0 t249).bind fun t253 => (some (t253, 0))) = some (r1, r2) := by rw [if_pos rfl] at H; exact H
            clear H
            have H := H1
            clear H1
            replace H := Option.bind_eq_some_iff.mp H
            obtain ⟨t253, A180, H⟩ := H
            replace H : (some (t253, 0)) = some (r1, r2) := H
            have A18 := Aside0.mk A180
            clear A180
            simp only [Option.some.injEq, Prod.mk.injEq] at H
            obtain ⟨rfl, rfl⟩ := H
            have hcz19_0 : wc.cell? ⟨gb248, 0, none⟩ = some (.int .i64 a1_0) := (blk_cell BK248.out 0).trans rfl
            have hcz19_1 : wc.cell? ⟨gb248, 1, none⟩ = some (.bool true) := (blk_cell BK248.out 1).trans rfl
            have hcz19_2 : wc.cell? ⟨gb248, 2, none⟩ = some (.int .i64 a1_2) := (blk_cell BK248.out 2).trans rfl
            have hcz19_3 : wc.cell? ⟨gb248, 3, none⟩ = some (.int .u64 a1_3) := (blk_cell BK248.out 3).trans rfl
            have hcz19_4 : wc.cell? ⟨gb248, 4, none⟩ = some (.int .u64 a1_4) := (blk_cell BK248.out 4).trans rfl
            have hcz19_5 : wc.cell? ⟨gb248, 5, none⟩ = some (.bool a1_5) := (blk_cell BK248.out 5).trans rfl
            have hfz19_0 := blk_frozen BK248.out 0
            have hfz19_1 := blk_frozen BK248.out 1
            have hfz19_2 := blk_frozen BK248.out 2
            have hfz19_3 := blk_frozen BK248.out 3
            have hfz19_4 := blk_frozen BK248.out 4
            have hfz19_5 := blk_frozen BK248.out 5
            go_wp2_with (first | ((with_reducible refine gate_callee (f := 39) rfl ?_); refine goesL_ (some 36) rfl rfl Try.func39 (by kernel_rfl) rfl #[.int .i64 a0, .int .u64 t249] rfl (by (try simp only [List.map_toArray, List.map_cons, List.map_nil]); first | done | rfl | (simp only [List.length_drop, List.length_take]; rfl)) ?_; (with_reducible refine (vernierref06_Neg.calls kj4 a0 t249 t253 _ A18.out).mono ?_); rintro e w20 ⟨rfl, hb⟩; refine ⟨_, rfl, ?_⟩; have n0_ := Aside0.mk (blk_below (g := gb248) (o := .cells #[.int .i64 a1_0, .bool true, .int .i64 a1_2, .int .u64 a1_3, .int .u64 a1_4, .bool a1_5] 24 (0, 0)) (by (with_reducible repeat (first | refine blk_drewN ?_ _ | refine blk_drew ?_ | refine blk_alloc ?_ _)); exact BK248.out) hb); have n1_ := Aside0.mk (below_step (by repeat (first | (with_reducible first | exact HB.out | apply below_alloc | apply pw_below_drewN | apply below_drew1 | refine below_set ?_ GE248.out) | exact HB.out)) hb); clear BK248; clear HB; have BK248 := n0_; have HB := n1_; clear n0_ n1_; (try clear hb); (try clear hb2); (try clear hk); (try clear hi)))
            go_ret2
            exact ⟨by first | rfl | (simp [errW_none, errW_some] <;> rfl) | (simp [*, errW_none, errW_some] <;> rfl), by repeat (first | (with_reducible first | exact HB.out | apply below_alloc | apply pw_below_drewN | apply below_drew1 | refine below_set ?_ GE248.out) | exact HB.out)⟩
          · replace c17 := Bool.eq_false_iff.mpr c17
            subst c17
            have H1 : (some (t249, 0)) = some (r1, r2) := by rw [if_neg (show ¬ (false = true) by decide)] at H; exact H
            clear H
            have H := H1
            clear H1
            simp only [Option.some.injEq, Prod.mk.injEq] at H
            obtain ⟨rfl, rfl⟩ := H
            have hcz21_0 : wc.cell? ⟨gb248, 0, none⟩ = some (.int .i64 a1_0) := (blk_cell BK248.out 0).trans rfl
            have hcz21_1 : wc.cell? ⟨gb248, 1, none⟩ = some (.bool false) := (blk_cell BK248.out 1).trans rfl
            have hcz21_2 : wc.cell? ⟨gb248, 2, none⟩ = some (.int .i64 a1_2) := (blk_cell BK248.out 2).trans rfl
            have hcz21_3 : wc.cell? ⟨gb248, 3, none⟩ = some (.int .u64 a1_3) := (blk_cell BK248.out 3).trans rfl
            have hcz21_4 : wc.cell? ⟨gb248, 4, none⟩ = some (.int .u64 a1_4) := (blk_cell BK248.out 4).trans rfl
            have hcz21_5 : wc.cell? ⟨gb248, 5, none⟩ = some (.bool a1_5) := (blk_cell BK248.out 5).trans rfl
            have hfz21_0 := blk_frozen BK248.out 0
            have hfz21_1 := blk_frozen BK248.out 1
            have hfz21_2 := blk_frozen BK248.out 2
            have hfz21_3 := blk_frozen BK248.out 3
            have hfz21_4 := blk_frozen BK248.out 4
            have hfz21_5 := blk_frozen BK248.out 5
            go_wp2
            go_ret2
            exact ⟨by first | rfl | (simp [errW_none, errW_some] <;> rfl) | (simp [*, errW_none, errW_some] <;> rfl), by repeat (first | (with_reducible first | exact HB.out | apply below_alloc | apply pw_below_drewN | apply below_drew1 | refine below_set ?_ GE248.out) | exact HB.out)⟩
  · rw [if_neg c4] at H
    have c4b0 : (t251 == 0) = false := beq_eq_false_iff_ne.mpr c4
    have c4b1 : (t251 != 0) = true := bne_iff_ne.mpr c4
    simp only [Option.some.injEq, Prod.mk.injEq] at H
    obtain ⟨rfl, rfl⟩ := H
    go_enter Try.func15, Try.ntmps15
    go_wp2_with (first | ((with_reducible refine gate_dst (N := 3) rfl ?_); refine box_event ?hg (N := 3) ?hd (cs := #[.int .i64 a1_0, .bool a1_1, .int .i64 a1_2, .int .u64 a1_3, .int .u64 a1_4, .bool a1_5]) (t := 24) ?hr ?_; (case hd => rfl); (case hg => rfl); (case hr => first | (go_simp; done) | (go_simp; rfl)); intro gb248 hg w22 hbox hb; have n0_ := Aside0.mk (below_step (by repeat (first | (with_reducible first | exact HB.out | apply below_alloc | apply pw_below_drewN | apply below_drew1) | exact HB.out)) hb); have n1_ := Aside0.mk (hbox); have n2_ := Aside0.mk ((by rw [hg]; exact (below_size (by repeat (first | (with_reducible first | exact HB.out | apply below_alloc | apply pw_below_drewN | apply below_drew1) | exact HB.out))) : w.heap.size ≤ gb248)); have n3_ := Aside0.mk ((by rw [hg]; exact (below_size (by repeat (first | (with_reducible first | exact HB.out | apply below_alloc | apply pw_below_drewN | apply below_drew1) | exact HB.out))) : w.heap.size ≤ gb248)); clear HB; have HB := n0_; have BK248 := n1_; have GW248 := n2_; have GE248 := n3_; clear n0_ n1_ n2_ n3_; clear hb hbox hg; have hcz23_0 : w22.cell? ⟨gb248, 0, none⟩ = some (.int .i64 a1_0) := (blk_cell BK248.out 0).trans rfl; have hcz23_1 : w22.cell? ⟨gb248, 1, none⟩ = some (.bool a1_1) := (blk_cell BK248.out 1).trans rfl; have hcz23_2 : w22.cell? ⟨gb248, 2, none⟩ = some (.int .i64 a1_2) := (blk_cell BK248.out 2).trans rfl; have hcz23_3 : w22.cell? ⟨gb248, 3, none⟩ = some (.int .u64 a1_3) := (blk_cell BK248.out 3).trans rfl; have hcz23_4 : w22.cell? ⟨gb248, 4, none⟩ = some (.int .u64 a1_4) := (blk_cell BK248.out 4).trans rfl; have hcz23_5 : w22.cell? ⟨gb248, 5, none⟩ = some (.bool a1_5) := (blk_cell BK248.out 5).trans rfl; have hfz23_0 := blk_frozen BK248.out 0; have hfz23_1 := blk_frozen BK248.out 1; have hfz23_2 := blk_frozen BK248.out 2; have hfz23_3 := blk_frozen BK248.out 3; have hfz23_4 := blk_frozen BK248.out 4; have hfz23_5 := blk_frozen BK248.out 5) | ((with_reducible refine gate_callee (f := 12) rfl ?_); refine goesL_ (some 12) rfl rfl Try.func12 (by kernel_rfl) rfl #[.int .i64 a0, .agg #[.int .i64 a1_0, .bool a1_1, .int .i64 a1_2, .int .u64 a1_3, .int .u64 a1_4, .bool a1_5]] rfl (by (try simp only [List.map_toArray, List.map_cons, List.map_nil]); first | done | rfl | (simp only [List.length_drop, List.length_take]; rfl)) ?_; (with_reducible refine (vernierref07_Cut.calls k a0 a1_0 a1_1 a1_2 a1_3 a1_4 a1_5 t249 t250 t251 _ A3.out).mono ?_); rintro e w24 ⟨rfl, hb⟩; refine ⟨_, rfl, ?_⟩; have n0_ := Aside0.mk (blk_below (g := gb248) (o := .cells #[.int .i64 a1_0, .bool a1_1, .int .i64 a1_2, .int .u64 a1_3, .int .u64 a1_4, .bool a1_5] 24 (0, 0)) (by (with_reducible repeat (first | refine blk_drewN ?_ _ | refine blk_drew ?_ | refine blk_alloc ?_ _)); exact BK248.out) hb); have n1_ := Aside0.mk (below_step (by repeat (first | (with_reducible first | exact HB.out | apply below_alloc | apply pw_below_drewN | apply below_drew1 | refine below_set ?_ GE248.out) | exact HB.out)) hb); clear BK248; clear HB; have BK248 := n0_; have HB := n1_; clear n0_ n1_; (try clear hb); (try clear hb2); (try clear hk); (try clear hi)))
    go_ret2
    exact ⟨by first | rfl | (simp [errW_none, errW_some] <;> rfl) | (simp [*, errW_none, errW_some] <;> rfl), by repeat (first | (with_reducible first | exact HB.out | apply below_alloc | apply pw_below_drewN | apply below_drew1 | refine below_set ?_ GE248.out) | exact HB.out)⟩
end Go.Proofs.Ytfegofnplcmacaa.PAll
namespace Go.Proofs.Ytfegofnplcmacaa.PAll
open Go.RowKit Go.Proofs.YtfegofnplcmacaaW.PrintWords Go.Proofs.YtfegofnplcmacaaW.PrintLast Go.Proofs.YtfegofnplcmacaaW.PrintMore
attribute [local go_sem] max2_int min2_int max_two min_two max_three min_three max_four min_four
set_option linter.unusedVariables false
set_option linter.unusedSimpArgs false
attribute [local go_sem high] eqEE27 neEE27 eqNE27 neNE27
def vernierlaw00_further.f (a0 : Option Int) : Option (Int) := if a0.isNone = true then (some (-1)) else (if (a0.getD 0) = 13 then (some 13) else (if (a0.getD 0) = 14 then (some 14) else (if (a0.getD 0) = 15 then (some 15) else (if (a0.getD 0) = 16 then (some 16) else (if (a0.getD 0) = 17 then (some 17) else (if (a0.getD 0) = 18 then (some 18) else (if (a0.getD 0) = 19 then (some 19) else (if (a0.getD 0) = 20 then (some 20) else (if (a0.getD 0) = 21 then (some 21) else (if (a0.getD 0) = 22 then (some 22) else (if (a0.getD 0) = 23 then (some 23) else (if (a0.getD 0) = 24 then (some 24) else (some (-1))))))))))))))
set_option maxHeartbeats 8000000 in
set_option maxRecDepth 100000 in
theorem vernierlaw00_further.calls (a0 : Option Int) (r : Int) (w : World) (h : vernierlaw00_further.f a0 = some r) :
    Calls Try.prog 37 #[errW a0] w fun e w' => e = .returned (.int .i64 r) ∧ Drawn0 w w' := by
  have hu27 := Try.underlying27
  have hu55 := Try.underlying55
  have H : (if a0.isNone = true then (some (-1)) else (if (a0.getD 0) = 13 then (some 13) else (if (a0.getD 0) = 14 then (some 14) else (if (a0.getD 0) = 15 then (some 15) else (if (a0.getD 0) = 16 then (some 16) else (if (a0.getD 0) = 17 then (some 17) else (if (a0.getD 0) = 18 then (some 18) else (if (a0.getD 0) = 19 then (some 19) else (if (a0.getD 0) = 20 then (some 20) else (if (a0.getD 0) = 21 then (some 21) else (if (a0.getD 0) = 22 then (some 22) else (if (a0.getD 0) = 23 then (some 23) else (if (a0.getD 0) = 24 then (some 24) else (some (-1))))))))))))))) = some r := h
  clear h
  rcases a0 with _ | q230
  · have H1 : (some (-1)) = some r := by rw [if_pos (show (none : Option Int).isNone = true by rfl)] at H; exact H
    clear H
    have H := H1
    clear H1
    simp only [errW_none, errW_some]
    obtain rfl := Option.some.inj H
    go_enter Try.func37, Try.ntmps37
    go_wp2
    go_ret
    exact ⟨by first | rfl | (simp; done) | (simp [*]; done), by repeat (first | exact Drawn0.refl _ | apply Drawn0.step)⟩
  · have H1 : (if q230 = 13 then (some 13) else (if q230 = 14 then (some 14) else (if q230 = 15 then (some 15) else (if q230 = 16 then (some 16) else (if q230 = 17 then (some 17) else (if q230 = 18 then (some 18) else (if q230 = 19 then (some 19) else (if q230 = 20 then (some 20) else (if q230 = 21 then (some 21) else (if q230 = 22 then (some 22) else (if q230 = 23 then (some 23) else (if q230 = 24 then (some 24) else (some (-1)))))))))))))) = some r := by rw [if_neg (show ¬ (some q230).isNone = true by simp)] at H; exact H
    clear H
    have H := H1
    clear H1
    simp only [errW_none, errW_some]
    by_cases c2 : q230 = 13
    · rw [if_pos c2] at H
      have c2b0 : (q230 == 13) = true := beq_iff_eq.mpr c2
      have c2b1 : (q230 != 13) = false := bne_eq_false_iff_eq.mpr c2
      clear c2
      obtain rfl := Option.some.inj H
      go_enter Try.func37, Try.ntmps37
      go_wp2
      go_ret
      exact ⟨by first | rfl | (simp; done) | (simp [*]; done), by repeat (first | exact Drawn0.refl _ | apply Drawn0.step)⟩
    · rw [if_neg c2] at H
      have c2b0 : (q230 == 13) = false := beq_eq_false_iff_ne.mpr c2
      have c2b1 : (q230 != 13) = true := bne_iff_ne.mpr c2
      by_cases c3 : q230 = 14
      · rw [if_pos c3] at H
        have c3b0 : (q230 == 14) = true := beq_iff_eq.mpr c3
        have c3b1 : (q230 != 14) = false := bne_eq_false_iff_eq.mpr c3
        clear c3
        obtain rfl := Option.some.inj H
        go_enter Try.func37, Try.ntmps37
        go_wp2
        go_ret
        exact ⟨by first | rfl | (simp; done) | (simp [*]; done), by repeat (first | exact Drawn0.refl _ | apply Drawn0.step)⟩
      · rw [if_neg c3] at H
        have c3b0 : (q230 == 14) = false := beq_eq_false_iff_ne.mpr c3
        have c3b1 : (q230 != 14) = true := bne_iff_ne.mpr c3
        by_cases c4 : q230 = 15
        · rw [if_pos c4] at H
          have c4b0 : (q230 == 15) = true := beq_iff_eq.mpr c4
          have c4b1 : (q230 != 15) = false := bne_eq_false_iff_eq.mpr c4
          clear c4
          obtain rfl := Option.some.inj H
          go_enter Try.func37, Try.ntmps37
          go_wp2
          go_ret
          exact ⟨by first | rfl | (simp; done) | (simp [*]; done), by repeat (first | exact Drawn0.refl _ | apply Drawn0.step)⟩
        · rw [if_neg c4] at H
          have c4b0 : (q230 == 15) = false := beq_eq_false_iff_ne.mpr c4
          have c4b1 : (q230 != 15) = true := bne_iff_ne.mpr c4
          by_cases c5 : q230 = 16
          · rw [if_pos c5] at H
            have c5b0 : (q230 == 16) = true := beq_iff_eq.mpr c5
            have c5b1 : (q230 != 16) = false := bne_eq_false_iff_eq.mpr c5
            clear c5
            obtain rfl := Option.some.inj H
            go_enter Try.func37, Try.ntmps37
            go_wp2
            go_ret
            exact ⟨by first | rfl | (simp; done) | (simp [*]; done), by repeat (first | exact Drawn0.refl _ | apply Drawn0.step)⟩
          · rw [if_neg c5] at H
            have c5b0 : (q230 == 16) = false := beq_eq_false_iff_ne.mpr c5
            have c5b1 : (q230 != 16) = true := bne_iff_ne.mpr c5
            by_cases c6 : q230 = 17
            · rw [if_pos c6] at H
              have c6b0 : (q230 == 17) = true := beq_iff_eq.mpr c6
              have c6b1 : (q230 != 17) = false := bne_eq_false_iff_eq.mpr c6
              clear c6
              obtain rfl := Option.some.inj H
              go_enter Try.func37, Try.ntmps37
              go_wp2
              go_ret
              exact ⟨by first | rfl | (simp; done) | (simp [*]; done), by repeat (first | exact Drawn0.refl _ | apply Drawn0.step)⟩
            · rw [if_neg c6] at H
              have c6b0 : (q230 == 17) = false := beq_eq_false_iff_ne.mpr c6
              have c6b1 : (q230 != 17) = true := bne_iff_ne.mpr c6
              by_cases c7 : q230 = 18
              · rw [if_pos c7] at H
                have c7b0 : (q230 == 18) = true := beq_iff_eq.mpr c7
                have c7b1 : (q230 != 18) = false := bne_eq_false_iff_eq.mpr c7
                clear c7
                obtain rfl := Option.some.inj H
                go_enter Try.func37, Try.ntmps37
                go_wp2
                go_ret
                exact ⟨by first | rfl | (simp; done) | (simp [*]; done), by repeat (first | exact Drawn0.refl _ | apply Drawn0.step)⟩
              · rw [if_neg c7] at H
                have c7b0 : (q230 == 18) = false := beq_eq_false_iff_ne.mpr c7
                have c7b1 : (q230 != 18) = true := bne_iff_ne.mpr c7
                by_cases c8 : q230 = 19
                · rw [if_pos c8] at H
                  have c8b0 : (q230 == 19) = true := beq_iff_eq.mpr c8
                  have c8b1 : (q230 != 19) = false := bne_eq_false_iff_eq.mpr c8
                  clear c8
                  obtain rfl := Option.some.inj H
                  go_enter Try.func37, Try.ntmps37
                  go_wp2
                  go_ret
                  exact ⟨by first | rfl | (simp; done) | (simp [*]; done), by repeat (first | exact Drawn0.refl _ | apply Drawn0.step)⟩
                · rw [if_neg c8] at H
                  have c8b0 : (q230 == 19) = false := beq_eq_false_iff_ne.mpr c8
                  have c8b1 : (q230 != 19) = true := bne_iff_ne.mpr c8
                  by_cases c9 : q230 = 20
                  · rw [if_pos c9] at H
                    have c9b0 : (q230 == 20) = true := beq_iff_eq.mpr c9
                    have c9b1 : (q230 != 20) = false := bne_eq_false_iff_eq.mpr c9
                    clear c9
                    obtain rfl := Option.some.inj H
                    go_enter Try.func37, Try.ntmps37
                    go_wp2
                    go_ret
                    exact ⟨by first | rfl | (simp; done) | (simp [*]; done), by repeat (first | exact Drawn0.refl _ | apply Drawn0.step)⟩
                  · rw [if_neg c9] at H
                    have c9b0 : (q230 == 20) = false := beq_eq_false_iff_ne.mpr c9
                    have c9b1 : (q230 != 20) = true := bne_iff_ne.mpr c9
                    by_cases c10 : q230 = 21
                    · rw [if_pos c10] at H
                      have c10b0 : (q230 == 21) = true := beq_iff_eq.mpr c10
                      have c10b1 : (q230 != 21) = false := bne_eq_false_iff_eq.mpr c10
                      clear c10
                      obtain rfl := Option.some.inj H
                      go_enter Try.func37, Try.ntmps37
                      go_wp2
                      go_ret
                      exact ⟨by first | rfl | (simp; done) | (simp [*]; done), by repeat (first | exact Drawn0.refl _ | apply Drawn0.step)⟩
                    · rw [if_neg c10] at H
                      have c10b0 : (q230 == 21) = false := beq_eq_false_iff_ne.mpr c10
                      have c10b1 : (q230 != 21) = true := bne_iff_ne.mpr c10
                      by_cases c11 : q230 = 22
                      · rw [if_pos c11] at H
                        have c11b0 : (q230 == 22) = true := beq_iff_eq.mpr c11
                        have c11b1 : (q230 != 22) = false := bne_eq_false_iff_eq.mpr c11
                        clear c11
                        obtain rfl := Option.some.inj H
                        go_enter Try.func37, Try.ntmps37
                        go_wp2
                        go_ret
                        exact ⟨by first | rfl | (simp; done) | (simp [*]; done), by repeat (first | exact Drawn0.refl _ | apply Drawn0.step)⟩
                      · rw [if_neg c11] at H
                        have c11b0 : (q230 == 22) = false := beq_eq_false_iff_ne.mpr c11
                        have c11b1 : (q230 != 22) = true := bne_iff_ne.mpr c11
                        by_cases c12 : q230 = 23
                        · rw [if_pos c12] at H
                          have c12b0 : (q230 == 23) = true := beq_iff_eq.mpr c12
                          have c12b1 : (q230 != 23) = false := bne_eq_false_iff_eq.mpr c12
                          clear c12
                          obtain rfl := Option.some.inj H
                          go_enter Try.func37, Try.ntmps37
                          go_wp2
                          go_ret
                          exact ⟨by first | rfl | (simp; done) | (simp [*]; done), by repeat (first | exact Drawn0.refl _ | apply Drawn0.step)⟩
                        · rw [if_neg c12] at H
                          have c12b0 : (q230 == 23) = false := beq_eq_false_iff_ne.mpr c12
                          have c12b1 : (q230 != 23) = true := bne_iff_ne.mpr c12
                          by_cases c13 : q230 = 24
                          · rw [if_pos c13] at H
                            have c13b0 : (q230 == 24) = true := beq_iff_eq.mpr c13
                            have c13b1 : (q230 != 24) = false := bne_eq_false_iff_eq.mpr c13
                            clear c13
                            obtain rfl := Option.some.inj H
                            go_enter Try.func37, Try.ntmps37
                            go_wp2
                            go_ret
                            exact ⟨by first | rfl | (simp; done) | (simp [*]; done), by repeat (first | exact Drawn0.refl _ | apply Drawn0.step)⟩
                          · rw [if_neg c13] at H
                            have c13b0 : (q230 == 24) = false := beq_eq_false_iff_ne.mpr c13
                            have c13b1 : (q230 != 24) = true := bne_iff_ne.mpr c13
                            obtain rfl := Option.some.inj H
                            go_enter Try.func37, Try.ntmps37
                            go_wp2
                            go_ret
                            exact ⟨by first | rfl | (simp; done) | (simp [*]; done), by repeat (first | exact Drawn0.refl _ | apply Drawn0.step)⟩
-- ERRCMP
end Go.Proofs.Ytfegofnplcmacaa.PAll
namespace Go.Proofs.Ytfegofnplcmacaa.PAll
open Go.RowKit Go.Proofs.YtfegofnplcmacaaW.PrintWords Go.Proofs.YtfegofnplcmacaaW.PrintLast Go.Proofs.YtfegofnplcmacaaW.PrintMore
attribute [local go_sem] max2_int min2_int max_two min_two max_three min_three max_four min_four
set_option linter.unusedVariables false
set_option linter.unusedSimpArgs false
attribute [local go_sem high] eqEE27 neEE27 eqNE27 neNE27
def vernierlaw00_Code.f (a0 : Option Int) : Option (Int) := if a0.isNone = true then (some 0) else (if (a0.getD 0) = 1 then (some 1) else (if (a0.getD 0) = 2 then (some 2) else (if (a0.getD 0) = 3 then (some 3) else (if (a0.getD 0) = 4 then (some 4) else (if (a0.getD 0) = 5 then (some 5) else (if (a0.getD 0) = 6 then (some 6) else (if (a0.getD 0) = 7 then (some 7) else (if (a0.getD 0) = 8 then (some 8) else (if (a0.getD 0) = 9 then (some 9) else (if (a0.getD 0) = 10 then (some 10) else (if (a0.getD 0) = 11 then (some 11) else (if (a0.getD 0) = 12 then (some 12) else ((vernierlaw00_further.f (some (a0.getD 0))).bind fun t232 => (some t232))))))))))))))
set_option maxHeartbeats 8000000 in
set_option maxRecDepth 100000 in
theorem vernierlaw00_Code.calls (a0 : Option Int) (r : Int) (w : World) (h : vernierlaw00_Code.f a0 = some r) :
    Calls Try.prog 13 #[errW a0] w fun e w' => e = .returned (.int .i64 r) ∧ Drawn0 w w' := by
  have hu27 := Try.underlying27
  have hu55 := Try.underlying55
  have H : (if a0.isNone = true then (some 0) else (if (a0.getD 0) = 1 then (some 1) else (if (a0.getD 0) = 2 then (some 2) else (if (a0.getD 0) = 3 then (some 3) else (if (a0.getD 0) = 4 then (some 4) else (if (a0.getD 0) = 5 then (some 5) else (if (a0.getD 0) = 6 then (some 6) else (if (a0.getD 0) = 7 then (some 7) else (if (a0.getD 0) = 8 then (some 8) else (if (a0.getD 0) = 9 then (some 9) else (if (a0.getD 0) = 10 then (some 10) else (if (a0.getD 0) = 11 then (some 11) else (if (a0.getD 0) = 12 then (some 12) else ((vernierlaw00_further.f (some (a0.getD 0))).bind fun t232 => (some t232))))))))))))))) = some r := h
  clear h
  rcases a0 with _ | q231
  · have H1 : (some 0) = some r := by rw [if_pos (show (none : Option Int).isNone = true by rfl)] at H; exact H
    clear H
    have H := H1
    clear H1
    simp only [errW_none, errW_some]
    obtain rfl := Option.some.inj H
    go_enter Try.func13, Try.ntmps13
    go_wp2
    go_ret
    exact ⟨by first | rfl | (simp; done) | (simp [*]; done), by repeat (first | exact Drawn0.refl _ | apply Drawn0.step)⟩
  · have H1 : (if q231 = 1 then (some 1) else (if q231 = 2 then (some 2) else (if q231 = 3 then (some 3) else (if q231 = 4 then (some 4) else (if q231 = 5 then (some 5) else (if q231 = 6 then (some 6) else (if q231 = 7 then (some 7) else (if q231 = 8 then (some 8) else (if q231 = 9 then (some 9) else (if q231 = 10 then (some 10) else (if q231 = 11 then (some 11) else (if q231 = 12 then (some 12) else ((vernierlaw00_further.f (some q231)).bind fun t232 => (some t232)))))))))))))) = some r := by rw [if_neg (show ¬ (some q231).isNone = true by simp)] at H; exact H
    clear H
    have H := H1
    clear H1
    simp only [errW_none, errW_some]
    by_cases c2 : q231 = 1
    · rw [if_pos c2] at H
      have c2b0 : (q231 == 1) = true := beq_iff_eq.mpr c2
      have c2b1 : (q231 != 1) = false := bne_eq_false_iff_eq.mpr c2
      clear c2
      obtain rfl := Option.some.inj H
      go_enter Try.func13, Try.ntmps13
      go_wp2
      go_ret
      exact ⟨by first | rfl | (simp; done) | (simp [*]; done), by repeat (first | exact Drawn0.refl _ | apply Drawn0.step)⟩
    · rw [if_neg c2] at H
      have c2b0 : (q231 == 1) = false := beq_eq_false_iff_ne.mpr c2
      have c2b1 : (q231 != 1) = true := bne_iff_ne.mpr c2
      by_cases c3 : q231 = 2
      · rw [if_pos c3] at H
        have c3b0 : (q231 == 2) = true := beq_iff_eq.mpr c3
        have c3b1 : (q231 != 2) = false := bne_eq_false_iff_eq.mpr c3
        clear c3
        obtain rfl := Option.some.inj H
        go_enter Try.func13, Try.ntmps13
        go_wp2
        go_ret
        exact ⟨by first | rfl | (simp; done) | (simp [*]; done), by repeat (first | exact Drawn0.refl _ | apply Drawn0.step)⟩
      · rw [if_neg c3] at H
        have c3b0 : (q231 == 2) = false := beq_eq_false_iff_ne.mpr c3
        have c3b1 : (q231 != 2) = true := bne_iff_ne.mpr c3
        by_cases c4 : q231 = 3
        · rw [if_pos c4] at H
          have c4b0 : (q231 == 3) = true := beq_iff_eq.mpr c4
          have c4b1 : (q231 != 3) = false := bne_eq_false_iff_eq.mpr c4
          clear c4
          obtain rfl := Option.some.inj H
          go_enter Try.func13, Try.ntmps13
          go_wp2
          go_ret
          exact ⟨by first | rfl | (simp; done) | (simp [*]; done), by repeat (first | exact Drawn0.refl _ | apply Drawn0.step)⟩
        · rw [if_neg c4] at H
          have c4b0 : (q231 == 3) = false := beq_eq_false_iff_ne.mpr c4
          have c4b1 : (q231 != 3) = true := bne_iff_ne.mpr c4
          by_cases c5 : q231 = 4
          · rw [if_pos c5] at H
            have c5b0 : (q231 == 4) = true := beq_iff_eq.mpr c5
            have c5b1 : (q231 != 4) = false := bne_eq_false_iff_eq.mpr c5
            clear c5
            obtain rfl := Option.some.inj H
            go_enter Try.func13, Try.ntmps13
            go_wp2
            go_ret
            exact ⟨by first | rfl | (simp; done) | (simp [*]; done), by repeat (first | exact Drawn0.refl _ | apply Drawn0.step)⟩
          · rw [if_neg c5] at H
            have c5b0 : (q231 == 4) = false := beq_eq_false_iff_ne.mpr c5
            have c5b1 : (q231 != 4) = true := bne_iff_ne.mpr c5
            by_cases c6 : q231 = 5
            · rw [if_pos c6] at H
              have c6b0 : (q231 == 5) = true := beq_iff_eq.mpr c6
              have c6b1 : (q231 != 5) = false := bne_eq_false_iff_eq.mpr c6
              clear c6
              obtain rfl := Option.some.inj H
              go_enter Try.func13, Try.ntmps13
              go_wp2
              go_ret
              exact ⟨by first | rfl | (simp; done) | (simp [*]; done), by repeat (first | exact Drawn0.refl _ | apply Drawn0.step)⟩
            · rw [if_neg c6] at H
              have c6b0 : (q231 == 5) = false := beq_eq_false_iff_ne.mpr c6
              have c6b1 : (q231 != 5) = true := bne_iff_ne.mpr c6
              by_cases c7 : q231 = 6
              · rw [if_pos c7] at H
                have c7b0 : (q231 == 6) = true := beq_iff_eq.mpr c7
                have c7b1 : (q231 != 6) = false := bne_eq_false_iff_eq.mpr c7
                clear c7
                obtain rfl := Option.some.inj H
                go_enter Try.func13, Try.ntmps13
                go_wp2
                go_ret
                exact ⟨by first | rfl | (simp; done) | (simp [*]; done), by repeat (first | exact Drawn0.refl _ | apply Drawn0.step)⟩
              · rw [if_neg c7] at H
                have c7b0 : (q231 == 6) = false := beq_eq_false_iff_ne.mpr c7
                have c7b1 : (q231 != 6) = true := bne_iff_ne.mpr c7
                by_cases c8 : q231 = 7
                · rw [if_pos c8] at H
                  have c8b0 : (q231 == 7) = true := beq_iff_eq.mpr c8
                  have c8b1 : (q231 != 7) = false := bne_eq_false_iff_eq.mpr c8
                  clear c8
                  obtain rfl := Option.some.inj H
                  go_enter Try.func13, Try.ntmps13
                  go_wp2
                  go_ret
                  exact ⟨by first | rfl | (simp; done) | (simp [*]; done), by repeat (first | exact Drawn0.refl _ | apply Drawn0.step)⟩
                · rw [if_neg c8] at H
                  have c8b0 : (q231 == 7) = false := beq_eq_false_iff_ne.mpr c8
                  have c8b1 : (q231 != 7) = true := bne_iff_ne.mpr c8
                  by_cases c9 : q231 = 8
                  · rw [if_pos c9] at H
                    have c9b0 : (q231 == 8) = true := beq_iff_eq.mpr c9
                    have c9b1 : (q231 != 8) = false := bne_eq_false_iff_eq.mpr c9
                    clear c9
                    obtain rfl := Option.some.inj H
                    go_enter Try.func13, Try.ntmps13
                    go_wp2
                    go_ret
                    exact ⟨by first | rfl | (simp; done) | (simp [*]; done), by repeat (first | exact Drawn0.refl _ | apply Drawn0.step)⟩
                  · rw [if_neg c9] at H
                    have c9b0 : (q231 == 8) = false := beq_eq_false_iff_ne.mpr c9
                    have c9b1 : (q231 != 8) = true := bne_iff_ne.mpr c9
                    by_cases c10 : q231 = 9
                    · rw [if_pos c10] at H
                      have c10b0 : (q231 == 9) = true := beq_iff_eq.mpr c10
                      have c10b1 : (q231 != 9) = false := bne_eq_false_iff_eq.mpr c10
                      clear c10
                      obtain rfl := Option.some.inj H
                      go_enter Try.func13, Try.ntmps13
                      go_wp2
                      go_ret
                      exact ⟨by first | rfl | (simp; done) | (simp [*]; done), by repeat (first | exact Drawn0.refl _ | apply Drawn0.step)⟩
                    · rw [if_neg c10] at H
                      have c10b0 : (q231 == 9) = false := beq_eq_false_iff_ne.mpr c10
                      have c10b1 : (q231 != 9) = true := bne_iff_ne.mpr c10
                      by_cases c11 : q231 = 10
                      · rw [if_pos c11] at H
                        have c11b0 : (q231 == 10) = true := beq_iff_eq.mpr c11
                        have c11b1 : (q231 != 10) = false := bne_eq_false_iff_eq.mpr c11
                        clear c11
                        obtain rfl := Option.some.inj H
                        go_enter Try.func13, Try.ntmps13
                        go_wp2
                        go_ret
                        exact ⟨by first | rfl | (simp; done) | (simp [*]; done), by repeat (first | exact Drawn0.refl _ | apply Drawn0.step)⟩
                      · rw [if_neg c11] at H
                        have c11b0 : (q231 == 10) = false := beq_eq_false_iff_ne.mpr c11
                        have c11b1 : (q231 != 10) = true := bne_iff_ne.mpr c11
                        by_cases c12 : q231 = 11
                        · rw [if_pos c12] at H
                          have c12b0 : (q231 == 11) = true := beq_iff_eq.mpr c12
                          have c12b1 : (q231 != 11) = false := bne_eq_false_iff_eq.mpr c12
                          clear c12
                          obtain rfl := Option.some.inj H
                          go_enter Try.func13, Try.ntmps13
                          go_wp2
                          go_ret
                          exact ⟨by first | rfl | (simp; done) | (simp [*]; done), by repeat (first | exact Drawn0.refl _ | apply Drawn0.step)⟩
                        · rw [if_neg c12] at H
                          have c12b0 : (q231 == 11) = false := beq_eq_false_iff_ne.mpr c12
                          have c12b1 : (q231 != 11) = true := bne_iff_ne.mpr c12
                          by_cases c13 : q231 = 12
                          · rw [if_pos c13] at H
                            have c13b0 : (q231 == 12) = true := beq_iff_eq.mpr c13
                            have c13b1 : (q231 != 12) = false := bne_eq_false_iff_eq.mpr c13
                            clear c13
                            obtain rfl := Option.some.inj H
                            go_enter Try.func13, Try.ntmps13
                            go_wp2
                            go_ret
                            exact ⟨by first | rfl | (simp; done) | (simp [*]; done), by repeat (first | exact Drawn0.refl _ | apply Drawn0.step)⟩
                          · rw [if_neg c13] at H
                            have c13b0 : (q231 == 12) = false := beq_eq_false_iff_ne.mpr c13
                            have c13b1 : (q231 != 12) = true := bne_iff_ne.mpr c13
                            replace H := Option.bind_eq_some_iff.mp H
                            obtain ⟨t232, A140, H⟩ := H
                            replace H : (some t232) = some r := H
                            have A14 := Aside0.mk A140
                            clear A140
                            obtain rfl := Option.some.inj H
                            have CA14 := fun W => vernierlaw00_further.calls (some q231) t232 W A14.out
                            try simp only [errW_none, errW_some] at CA14
                            go_enter Try.func13, Try.ntmps13
                            go_wp2_with (first | (go_at_call 37; (with_reducible refine (CA14 _).mono ?_); rintro e w' ⟨rfl, ⟨nd, rfl⟩⟩))
                            go_ret
                            exact ⟨by first | rfl | (simp; done) | (simp [*]; done), by repeat (first | exact Drawn0.refl _ | apply Drawn0.step)⟩
-- ERRCMP
end Go.Proofs.Ytfegofnplcmacaa.PAll
namespace Go.Proofs.Ytfegofnplcmacaa.V
open Go Go.RowKit Go.Proofs.YtfegofnplcmacaaW.PrintWords Go.Proofs.YtfegofnplcmacaaW.PrintLast Go.Proofs.YtfegofnplcmacaaW.PrintMore Go.Proofs.Ytfegofnplcmacaa.PAll
set_option linter.unusedVariables false
set_option linter.unusedSimpArgs false
theorem up7 : Ev (fun k => vernierlaw07_up.f k) true := by
  unfold vernierlaw07_up.f
  have a := round_Round_eq (n := 8) (hi := 9223372036854775808) (lo := 0) (kd := 1) (sc := 22) (ng := false) (rs := false) (by decide) (by decide) (by decide) (by decide)
  have b := round_Round_eq (n := 8) (hi := 9223372036854775808) (lo := 0) (kd := 1) (sc := 23) (ng := false) (rs := false) (by decide) (by decide) (by decide) (by decide)
  rw [show rnd 8 1 false 22 (9223372036854775808 * 18446744073709551616 + 0) false = 126 by decide +kernel] at a
  rw [show rnd 8 1 false 23 (9223372036854775808 * 18446744073709551616 + 0) false = 127 by decide +kernel] at b
  refine Ev.bind a (Ev.bind b ?_)
  exact Ev.now _
end Go.Proofs.Ytfegofnplcmacaa.V
