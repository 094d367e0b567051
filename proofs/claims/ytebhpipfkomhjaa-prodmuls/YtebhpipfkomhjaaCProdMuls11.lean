-- Written by a program of this session out of its own texts (wip/tools/link.py).
import Derived.ArgAppend
import Derived.Below
import Derived.BigQuiet
import Derived.Deep.AppendLies
import Derived.Deep.CutBlock
import Derived.Deep.DeepCutAuto
import Derived.Deep.Draws
import Derived.Deep.LoopGhost
import Derived.Deep.OwnRows
import Derived.Deep.QuietTactic
import Derived.Deep.RegionHeld3
import Derived.KernelRfl
import Derived.LaidEql
import Derived.Laws.BitsLemmas
import Derived.Laws.BytesArg
import Derived.Laws.IdiomCopy
import Derived.Laws.MakeOwn
import Derived.Laws.OwnMore
import Derived.Laws.Rows
import Derived.Laws.Slices
import Derived.Laws.StructEq
import Derived.Lib.AppendStr
import Derived.Lib.BitFns
import Derived.Lib.ConvBytes
import Derived.Lib.Slices
import Derived.Lib.Small
import Derived.Lib.Strings
import Derived.Lib.Walk
import Derived.Maps.AppendAt
import Derived.OrdersHeld
import Derived.OwnWalk
import Derived.RowKit
import Derived.RowKit3
import Derived.Tactics
import Derived.Test.YtebhpipfkomhjaaProg
import Derived.WalkKit
import Derived.WideLaws
import Derived.Test.YtebhpipfkomhjaaCProdMuls7
import Derived.Test.YtebhpipfkomhjaaCProdMuls8
import Derived.Test.YtebhpipfkomhjaaCProdMuls9
import Derived.Test.YtebhpipfkomhjaaCProdMuls10
namespace Go.Proofs.Ytebhpipfkomhjaa.PAll
open Go.RowKit Go.Proofs.YtebhpipfkomhjaaW.PrintWords Go.Proofs.YtebhpipfkomhjaaW.PrintLast Go.Proofs.YtebhpipfkomhjaaW.PrintMore
attribute [local go_sem] max2_int min2_int max_two min_two max_three min_three max_four min_four
set_option linter.unusedVariables false
set_option linter.unusedSimpArgs false
def vernierref06_run.l0 : Nat → ByteArray → Int → Option (Int)
 | 0, _, _ => none
 | k + 1, x0, x3 => if x3 < (x0.size : Int) then (if 0 ≤ x3 then (if 0 < (x0.size : Int) then (if (bt x0 x3) = (bt x0 0) then (vernierref06_run.l0 k x0 (wrap64 (x3 + 1))) else (some x3)) else (none)) else (none)) else (some x3)
def vernierref06_run.f (k : Nat) (a0 : ByteArray) : Option (Int) := vernierref06_run.l0 k a0 0
theorem vernierref06_run.mono_l : ∀ k, (∀ y0 y1, LeO (vernierref06_run.l0 k y0 y1) (vernierref06_run.l0 (k + 1) y0 y1))
 | 0 => fun _ _ r h => by simp [vernierref06_run.l0] at h
 | k + 1 => by
  have ih0 := vernierref06_run.mono_l k
  ·intro y0 y1
   unfold vernierref06_run.l0
   repeat' first
   | (with_reducible exact ih0 _ _)
   | (with_reducible exact LeO.refl _)
   | (with_reducible exact LeO.none _)
   | (with_reducible refine LeO.ite ?_ ?_)
   | (with_reducible refine LeO.bind ?_ (fun _ => ?_))
   | exact ih0 _ _
   | exact LeO.none _
   | refine LeO.ite ?_ ?_
   | refine LeO.bind ?_ (fun _ => ?_)
theorem vernierref06_run.mono : ∀ a0 k, LeO (vernierref06_run.f k a0) (vernierref06_run.f (k + 1) a0) := by
 intro a0 k
 have ih0 := vernierref06_run.mono_l k
 unfold vernierref06_run.f
 repeat' first
   | (with_reducible exact ih0 _ _)
   | (with_reducible exact LeO.refl _)
   | (with_reducible exact LeO.none _)
   | (with_reducible refine LeO.ite ?_ ?_)
   | (with_reducible refine LeO.bind ?_ (fun _ => ?_))
   | exact ih0 _ _
   | exact LeO.none _
   | refine LeO.ite ?_ ?_
   | refine LeO.bind ?_ (fun _ => ?_)
set_option maxHeartbeats 8000000 in
set_option maxRecDepth 100000 in
theorem vernierref06_run.calls (k : Nat) (a0 : ByteArray) (r : Int) (w : World) (h : vernierref06_run.f k a0 = some r) :
  Calls Try.prog 86 #[.string a0] w fun e w' => e = .returned (.int .i64 r) ∧ Drawn0 w w' := by
 have H : (vernierref06_run.l0 k a0 0) = some r := h
 clear h
 have H' := am_ H
 clear H
 go_enter Try.func86, Try.ntmps86
 go_wp2
 repeat (go_quiet (fail);try go_wp2)
 go_loopg [3] k (fun kq v3 w' => ∃ (x3_1 : Int), v3 = .int .i64 x3_1 ∧ Aside0 (vernierref06_run.l0 kq a0 x3_1 = some r) ∧ Aside0 (kq ≤ k) ∧ Drawn0 w w')
 case atStart => exact ⟨(0), (by first | rfl | (simp;done) | (simp [*];done)), H', ⟨Nat.le_refl _⟩, by repeat (first | exact Drawn0.refl _ | apply Drawn0.step)⟩
 case round =>
  clear H'
  obtain ⟨x3_1, rfl, HA, HK1, ⟨m1, rfl⟩⟩ := hrel
  cases gk with
  | zero => exact absurd HA.out (by simp [vernierref06_run.l0])
  | succ k1 =>
   have H := HA.out
   clear HA
   simp only [vernierref06_run.l0] at H
   by_cases c2 : x3_1 < (a0.size : Int)
   ·rw [if_pos c2] at H
    have c2b0 : decide (x3_1 < (a0.size : Int)) = true := decide_eq_true c2
    clear c2
    by_cases c3 : 0 ≤ x3_1
    ·rw [if_pos c3] at H
     have c3b0 : decide (0 ≤ x3_1) = true := decide_eq_true c3
     clear c3
     by_cases c5 : 0 < (a0.size : Int)
     ·rw [if_pos c5] at H
      have c5b0 : decide (0 < (a0.size : Int)) = true := decide_eq_true c5
      have c5b1 : decide (0 < a0.size) = true := decide_eq_true (by omega)
      clear c5
      by_cases c7 : (bt a0 x3_1) = (bt a0 0)
      ·rw [if_pos c7] at H
       have c7b0 : ((bt a0 x3_1) == (bt a0 0)) = true := beq_iff_eq.mpr c7
       have c7b1 : ((bt a0 x3_1) != (bt a0 0)) = false := bne_eq_false_iff_eq.mpr c7
       clear c7
       have H' := am_ H
       clear H
       have p4 : 0 ≤ (x3_1 : Int) := of_decide_eq_true (by first | (with_reducible assumption) | assumption)
       have q4 : x3_1 < (a0.size : Int) := of_decide_eq_true (by first | (with_reducible assumption) | assumption)
       have hx4 := bt_at a0 x3_1
       replace p4 := eq_true p4
       replace q4 := eq_true q4
       have p6 : 0 ≤ (0 : Int) := (by omega)
       have q6 : 0 < a0.size := (by have : (0 : Int) < (a0.size : Int) := of_decide_eq_true (by first | (with_reducible assumption) | assumption);omega)
       have hx6 : ∀ h : 0 < a0.size, ((a0[0]'h).toNat : Int) = bt a0 0 := bt_at a0 0
       clear p6
       have qi6 : (0 < (a0.size : Int)) = True := eq_true (of_decide_eq_true (by first | (with_reducible assumption) | assumption))
       replace q6 := eq_true q6
       go_wp2
       repeat (go_quiet (fail);try go_wp2)
       go_roundg k1
       case measure => have := HK1.out;omega
       case rel => exact ⟨(wrap64 (x3_1 + 1)), (by first | rfl | (simp;done) | (simp [*];done)), H', ⟨by have := HK1.out;omega⟩, by repeat (first | exact Drawn0.refl _ | apply Drawn0.step)⟩
      ·rw [if_neg c7] at H
       have c7b0 : ((bt a0 x3_1) == (bt a0 0)) = false := beq_eq_false_iff_ne.mpr c7
       have c7b1 : ((bt a0 x3_1) != (bt a0 0)) = true := bne_iff_ne.mpr c7
       obtain rfl := Option.some.inj H
       have p4 : 0 ≤ (x3_1 : Int) := of_decide_eq_true (by first | (with_reducible assumption) | assumption)
       have q4 : x3_1 < (a0.size : Int) := of_decide_eq_true (by first | (with_reducible assumption) | assumption)
       have hx4 := bt_at a0 x3_1
       replace p4 := eq_true p4
       replace q4 := eq_true q4
       have p6 : 0 ≤ (0 : Int) := (by omega)
       have q6 : 0 < a0.size := (by have : (0 : Int) < (a0.size : Int) := of_decide_eq_true (by first | (with_reducible assumption) | assumption);omega)
       have hx6 : ∀ h : 0 < a0.size, ((a0[0]'h).toNat : Int) = bt a0 0 := bt_at a0 0
       clear p6
       have qi6 : (0 < (a0.size : Int)) = True := eq_true (of_decide_eq_true (by first | (with_reducible assumption) | assumption))
       replace q6 := eq_true q6
       go_wp2
       repeat (go_quiet (fail);try go_wp2)
       go_ret
       exact ⟨by first | rfl | (simp;done) | (simp [*];done), by repeat (first | exact Drawn0.refl _ | apply Drawn0.step)⟩
     ·rw [if_neg c5] at H
      exact absurd H (by simp)
    ·rw [if_neg c3] at H
     exact absurd H (by simp)
   ·rw [if_neg c2] at H
    have c2b0 : decide (x3_1 < (a0.size : Int)) = false := decide_eq_false c2
    clear c2
    obtain rfl := Option.some.inj H
    go_wp2
    repeat (go_quiet (fail);try go_wp2)
    go_ret
    exact ⟨by first | rfl | (simp;done) | (simp [*];done), by repeat (first | exact Drawn0.refl _ | apply Drawn0.step)⟩
end Go.Proofs.Ytebhpipfkomhjaa.PAll
namespace Go.Proofs.Ytebhpipfkomhjaa.PAll
open Go.RowKit Go.Proofs.YtebhpipfkomhjaaW.PrintWords Go.Proofs.YtebhpipfkomhjaaW.PrintLast Go.Proofs.YtebhpipfkomhjaaW.PrintMore
attribute [local go_sem] max2_int min2_int max_two min_two max_three min_three max_four min_four
set_option linter.unusedVariables false
set_option linter.unusedSimpArgs false
attribute [local irreducible] Go.World.setCell ByteArray.extract ByteArray.append ByteArray.copySlice
mutual
def vernierref06_Split.j0 : Nat → Int → Int → Int → Bool → Option (Bool × Bool × Int × Int × Int × Int × Int × Int × Int)
 | 0, _, _, _, _ => none
 | k + 1, x0, x1, x7, x23 => if x23 = true then (some (false,false,0, 0, 0, 0, 0, 0, x7)) else ((vernierref06_String.f k x0 x1).bind fun t452 => ((vernierref01_Text.f k x1 x0).bind fun t453 => (if 0 < (t453.size : Int) then (if 0 < (t452.size : Int) then ((vernierref06_run.f k t452).bind fun t454 => (if (bt t452 0) = 49 then (vernierref06_Split.j1 k t452 ((bt t453 0) == 49) ((bt t452 0) == 49) t454 (wrap64 (t454 - 1)) 0 0 0 0) else (vernierref06_Split.j1 k t452 ((bt t453 0) == 49) ((bt t452 0) == 49) t454 (wrap64 (-t454)) 0 0 0 0))) else (none)) else (none))))
def vernierref06_Split.j1 : Nat → ByteArray → Bool → Bool → Int → Int → Int → Int → Int → Int → Option (Bool × Bool × Int × Int × Int × Int × Int × Int × Int)
 | 0, _, _, _, _, _, _, _, _, _ => none
 | k + 1, x8, x456000, x456001, x456002, x456003, x456004, x456005, x456006, x456007 => if x456002 < (x8.size : Int) then (if 0 ≤ (wrap64 (x456002 + 1)) then (if (wrap64 (x456002 + 1)) ≤ (x8.size : Int) then (vernierref06_Split.j2 k (x8.extract ((wrap64 (x456002 + 1)) : Int).toNat x8.size) x456000 x456001 x456002 x456003 x456004 x456005 x456006 x456007) else (none)) else (none)) else (vernierref06_Split.j2 k (⟨#[]⟩ : ByteArray) x456000 x456001 x456002 x456003 x456004 x456005 x456006 x456007)
def vernierref06_Split.j2 : Nat → ByteArray → Bool → Bool → Int → Int → Int → Int → Int → Int → Option (Bool × Bool × Int × Int × Int × Int × Int × Int × Int)
 | 0, _, _, _, _, _, _, _, _, _ => none
 | k + 1, x10, x456000, x456001, x456002, x456003, x456004, x456005, x456006, x456007 => if (x10.size : Int) > 2 then (if 0 ≤ 2 then (if 2 ≤ (x10.size : Int) then (if (x10.extract 0 2).size + 2 ≤ 9223372036854775807 then (if 2 ≤ (((x10.extract 0 2) ++ (⟨#[48, 48]⟩ : ByteArray)).size : Int) then ((vernierref01_Number.f k (((x10.extract 0 2) ++ (⟨#[48, 48]⟩ : ByteArray)).extract 0 2)).bind fun t456 => ((vernierref01_Number.f k (x10.extract 2 x10.size)).bind fun t457 => (some (x456000, x456001, x456002, x456003, 2, wrap64 (t456), wrap64 ((x10.size : Int) - 2), t457, 0)))) else (none)) else (none)) else (none)) else (none)) else (if 0 ≤ (x10.size : Int) then (if (x10.size : Int) ≤ (x10.size : Int) then (if (x10.extract 0 ((x10.size : Int) : Int).toNat).size + 2 ≤ 9223372036854775807 then (if 0 ≤ 2 then (if 2 ≤ (((x10.extract 0 ((x10.size : Int) : Int).toNat) ++ (⟨#[48, 48]⟩ : ByteArray)).size : Int) then ((vernierref01_Number.f k (((x10.extract 0 ((x10.size : Int) : Int).toNat) ++ (⟨#[48, 48]⟩ : ByteArray)).extract 0 2)).bind fun t458 => ((vernierref01_Number.f k (x10.extract ((x10.size : Int) : Int).toNat x10.size)).bind fun t459 => (some (x456000, x456001, x456002, x456003, (x10.size : Int), wrap64 (t458), wrap64 ((x10.size : Int) - (x10.size : Int)), t459, 0)))) else (none)) else (none)) else (none)) else (none)) else (none))
end
def vernierref06_Split.f (k : Nat) (a0 : Int) (a1 : Int) : Option (Bool × Bool × Int × Int × Int × Int × Int × Int × Int) := (vernierref05_Kind.f k a0 a1).bind fun bt450 => (if bt450.2 = 0 then (vernierref06_Split.j0 k a0 a1 bt450.2 (bt450.1 != 1)) else (vernierref06_Split.j0 k a0 a1 bt450.2 true))
theorem vernierref06_Split.mono_l : ∀ k, (∀ y0 y1 y2 y3, LeO (vernierref06_Split.j0 k y0 y1 y2 y3) (vernierref06_Split.j0 (k + 1) y0 y1 y2 y3)) ∧ (∀ y0 y1 y2 y3 y4 y5 y6 y7 y8, LeO (vernierref06_Split.j1 k y0 y1 y2 y3 y4 y5 y6 y7 y8) (vernierref06_Split.j1 (k + 1) y0 y1 y2 y3 y4 y5 y6 y7 y8)) ∧ (∀ y0 y1 y2 y3 y4 y5 y6 y7 y8, LeO (vernierref06_Split.j2 k y0 y1 y2 y3 y4 y5 y6 y7 y8) (vernierref06_Split.j2 (k + 1) y0 y1 y2 y3 y4 y5 y6 y7 y8))
 | 0 => ⟨fun _ _ _ _ r h => by simp [vernierref06_Split.j0] at h, fun _ _ _ _ _ _ _ _ _ r h => by simp [vernierref06_Split.j1] at h, fun _ _ _ _ _ _ _ _ _ r h => by simp [vernierref06_Split.j2] at h⟩
 | k + 1 => by
  obtain ⟨ih0, ih1, ih2⟩ := vernierref06_Split.mono_l k
  refine ⟨?_, ?_, ?_⟩
  ·intro y0 y1 y2 y3
   unfold vernierref06_Split.j0
   repeat' first
   | (with_reducible exact ih0 _ _ _ _)
   | (with_reducible exact ih1 _ _ _ _ _ _ _ _ _)
   | (with_reducible exact ih2 _ _ _ _ _ _ _ _ _)
   | (with_reducible exact vernierref01_Number.mono _ _)
   | (with_reducible exact vernierref01_Text.mono _ _ _)
   | (with_reducible exact vernierref05_Kind.mono _ _ _)
   | (with_reducible exact vernierref06_String.mono _ _ _)
   | (with_reducible exact vernierref06_run.mono _ _)
   | (with_reducible exact LeO.refl _)
   | (with_reducible exact LeO.none _)
   | (with_reducible refine LeO.ite ?_ ?_)
   | (with_reducible refine LeO.bind ?_ (fun _ => ?_))
   | exact ih0 _ _ _ _
   | exact ih1 _ _ _ _ _ _ _ _ _
   | exact ih2 _ _ _ _ _ _ _ _ _
   | exact vernierref01_Number.mono _ _
   | exact vernierref01_Text.mono _ _ _
   | exact vernierref05_Kind.mono _ _ _
   | exact vernierref06_String.mono _ _ _
   | exact vernierref06_run.mono _ _
   | exact LeO.none _
   | refine LeO.ite ?_ ?_
   | refine LeO.bind ?_ (fun _ => ?_)
  ·intro y0 y1 y2 y3 y4 y5 y6 y7 y8
   unfold vernierref06_Split.j1
   repeat' first
   | (with_reducible exact ih0 _ _ _ _)
   | (with_reducible exact ih1 _ _ _ _ _ _ _ _ _)
   | (with_reducible exact ih2 _ _ _ _ _ _ _ _ _)
   | (with_reducible exact vernierref01_Number.mono _ _)
   | (with_reducible exact vernierref01_Text.mono _ _ _)
   | (with_reducible exact vernierref05_Kind.mono _ _ _)
   | (with_reducible exact vernierref06_String.mono _ _ _)
   | (with_reducible exact vernierref06_run.mono _ _)
   | (with_reducible exact LeO.refl _)
   | (with_reducible exact LeO.none _)
   | (with_reducible refine LeO.ite ?_ ?_)
   | (with_reducible refine LeO.bind ?_ (fun _ => ?_))
   | exact ih0 _ _ _ _
   | exact ih1 _ _ _ _ _ _ _ _ _
   | exact ih2 _ _ _ _ _ _ _ _ _
   | exact vernierref01_Number.mono _ _
   | exact vernierref01_Text.mono _ _ _
   | exact vernierref05_Kind.mono _ _ _
   | exact vernierref06_String.mono _ _ _
   | exact vernierref06_run.mono _ _
   | exact LeO.none _
   | refine LeO.ite ?_ ?_
   | refine LeO.bind ?_ (fun _ => ?_)
  ·intro y0 y1 y2 y3 y4 y5 y6 y7 y8
   unfold vernierref06_Split.j2
   repeat' first
   | (with_reducible exact ih0 _ _ _ _)
   | (with_reducible exact ih1 _ _ _ _ _ _ _ _ _)
   | (with_reducible exact ih2 _ _ _ _ _ _ _ _ _)
   | (with_reducible exact vernierref01_Number.mono _ _)
   | (with_reducible exact vernierref01_Text.mono _ _ _)
   | (with_reducible exact vernierref05_Kind.mono _ _ _)
   | (with_reducible exact vernierref06_String.mono _ _ _)
   | (with_reducible exact vernierref06_run.mono _ _)
   | (with_reducible exact LeO.refl _)
   | (with_reducible exact LeO.none _)
   | (with_reducible refine LeO.ite ?_ ?_)
   | (with_reducible refine LeO.bind ?_ (fun _ => ?_))
   | exact ih0 _ _ _ _
   | exact ih1 _ _ _ _ _ _ _ _ _
   | exact ih2 _ _ _ _ _ _ _ _ _
   | exact vernierref01_Number.mono _ _
   | exact vernierref01_Text.mono _ _ _
   | exact vernierref05_Kind.mono _ _ _
   | exact vernierref06_String.mono _ _ _
   | exact vernierref06_run.mono _ _
   | exact LeO.none _
   | refine LeO.ite ?_ ?_
   | refine LeO.bind ?_ (fun _ => ?_)
theorem vernierref06_Split.mono : ∀ a0 a1 k, LeO (vernierref06_Split.f k a0 a1) (vernierref06_Split.f (k + 1) a0 a1) := by
 intro a0 a1 k
 obtain ⟨ih0, ih1, ih2⟩ := vernierref06_Split.mono_l k
 unfold vernierref06_Split.f
 repeat' first
   | (with_reducible exact ih0 _ _ _ _)
   | (with_reducible exact ih1 _ _ _ _ _ _ _ _ _)
   | (with_reducible exact ih2 _ _ _ _ _ _ _ _ _)
   | (with_reducible exact vernierref01_Number.mono _ _)
   | (with_reducible exact vernierref01_Text.mono _ _ _)
   | (with_reducible exact vernierref05_Kind.mono _ _ _)
   | (with_reducible exact vernierref06_String.mono _ _ _)
   | (with_reducible exact vernierref06_run.mono _ _)
   | (with_reducible exact LeO.refl _)
   | (with_reducible exact LeO.none _)
   | (with_reducible refine LeO.ite ?_ ?_)
   | (with_reducible refine LeO.bind ?_ (fun _ => ?_))
   | exact ih0 _ _ _ _
   | exact ih1 _ _ _ _ _ _ _ _ _
   | exact ih2 _ _ _ _ _ _ _ _ _
   | exact vernierref01_Number.mono _ _
   | exact vernierref01_Text.mono _ _ _
   | exact vernierref05_Kind.mono _ _ _
   | exact vernierref06_String.mono _ _ _
   | exact vernierref06_run.mono _ _
   | exact LeO.none _
   | refine LeO.ite ?_ ?_
   | refine LeO.bind ?_ (fun _ => ?_)
def vernierref06_Split.T5 : Bool × List (List Nat × List Nat) := (true,[([], []), ([], []), ([0, 1], [0, 1]), ([2], [2]), ([3], [3]), ([], []), ([5], [5]), ([6], [6]), ([], []), ([8, 2], [8]), ([4, 7, 9], [4, 7, 9]), ([], []), ([11, 10, 9, 0, 1, 2, 3, 4, 5, 6, 7, 8, 9, 10, 11], [10, 11])])
def vernierref06_Split.B5 : List Nat := [0, 0, 3, 7, 15, 0, 32, 96, 0, 263, 1023, 0, 4095]
theorem vernierref06_Split.tab5 : rtab .any (opsOf Try.f82 5) = vernierref06_Split.T5 := by kernel_rfl
theorem vernierref06_Split.bits5 : waitsOk vernierref06_Split.T5.2 vernierref06_Split.B5 = true := by kernel_rfl
set_option maxHeartbeats 8000000 in
set_option maxRecDepth 100000 in
theorem vernierref06_Split.calls (k : Nat) (a0 : Int) (a1 : Int) (r1 : Bool) (r2 : Bool) (r3 : Int) (r4 : Int) (r5 : Int) (r6 : Int) (r7 : Int) (r8 : Int) (r9 : Int) (w : World) (h : vernierref06_Split.f k a0 a1 = some (r1, r2, r3, r4, r5, r6, r7, r8, r9)) :
  Calls Try.prog 82 #[.int .i64 a0,.int .u64 a1] w fun e w' => e = .returned (.tuple #[.agg #[.bool r1,.bool r2,.int .i64 r3,.int .i64 r4,.int .i64 r5,.int .i64 r6,.int .i64 r7,.int .u64 r8],.int .i64 r9]) ∧ Below w.heap.size w w' := by
 have hu86 := Try.underlying86
 have HB := am_ (Below.refl w.heap.size w)
 have H : ((vernierref05_Kind.f k a0 a1).bind fun bt450 => (if bt450.2 = 0 then (vernierref06_Split.j0 k a0 a1 bt450.2 (bt450.1 != 1)) else (vernierref06_Split.j0 k a0 a1 bt450.2 true))) = some (r1, r2, r3, r4, r5, r6, r7, r8, r9) := h
 clear h
 replace H := Option.bind_eq_some_iff.mp H
 obtain ⟨⟨t450, t451⟩, A30, H⟩ := H
 replace H : (if t451 = 0 then (vernierref06_Split.j0 k a0 a1 t451 (t450 != 1)) else (vernierref06_Split.j0 k a0 a1 t451 true)) = some (r1, r2, r3, r4, r5, r6, r7, r8, r9) := H
 have A3 := am_ A30
 clear A30
 have HC4 := am_ H
 clear H
 go_enter Try.func82, Try.ntmps82
 go_upto_region 2 with (first | ((with_reducible refine gate_dst (N := 4) rfl ?_);refine box_event ?hg (N := 4) ?hd (cs := #[.bool false,.bool false,.int .i64 0,.int .i64 0,.int .i64 0,.int .i64 0,.int .i64 0,.int .u64 0]) (t := 86) ?hr ?_;(case hd => rfl);(case hg => rfl);(case hr => first | (go_simp;done) | (go_simp;rfl));intro gb449 hg w5 hbox hb;have n0_ := am_ (below_step (z3_ HB.out) hb);have n1_ := am_ (hbox);have n2_ := am_ ((by rw [hg];exact (below_size (z3_ HB.out)) : w.heap.size ≤ gb449));have n3_ := am_ ((by rw [hg];exact (below_size (z3_ HB.out)) : w.heap.size ≤ gb449));clear HB;have HB := n0_;have BK449 := n1_;have GW449 := n2_;have GE449 := n3_;clear n0_ n1_ n2_ n3_;clear hb hbox hg) | ((with_reducible refine gate_callee (f := 35) rfl ?_);refine goesL_ (some 15) rfl rfl Try.func35 (by kernel_rfl) rfl #[.int .i64 a0,.int .u64 a1] rfl z5_ ?_;(with_reducible refine (vernierref05_Kind.calls k a0 a1 t450 t451 _ A3.out).mono ?_);rintro e w6 ⟨rfl, hb⟩;refine ⟨_, rfl, ?_⟩;have n0_ := am_ (blk_below (g := gb449) (z1_ BK449.out) hb);have n1_ := am_ (below_step (z3_ HB.out) hb);clear BK449;clear HB;have BK449 := n0_;have HB := n1_;clear n0_ n1_;(try clear hb)))
 (try simp only [Act.put, List.setIfInBounds_toArray, List.set_cons_zero, List.set_cons_succ])
 go_cut [23] (fun v23 wc => ∃ (kq : Nat) (x23_3 : Bool), v23 = .bool x23_3 ∧ Aside0 (vernierref06_Split.j0 kq a0 a1 t451 x23_3 = some (r1, r2, r3, r4, r5, r6, r7, r8, r9)) ∧ Aside0 (kq ≤ k) ∧ Aside0 (wc.heap[gb449]? = some (.cells #[.bool false,.bool false,.int .i64 0,.int .i64 0,.int .i64 0,.int .i64 0,.int .i64 0,.int .u64 0] 86 (0, 0))) ∧ Aside0 (Below w.heap.size w wc))
 case first =>
  have H := HC4.out
  clear HC4
  by_cases c7 : t451 = 0
  ·rw [if_pos c7] at H
   have c7b0 : (t451 == 0) = true := beq_iff_eq.mpr c7
   have c7b1 : (t451 != 0) = false := bne_eq_false_iff_eq.mpr c7
   clear c7
   (first | rw [c7b0] | (simp only [i64_w, i32_w];rw [c7b0]) | skip)
   have H' := am_ H
   clear H
   go_wp2
   go_meet
   case rel => exact ⟨_, ((t450 != 1)), (by first | rfl | (simp;done) | (simp [*];done)), H', ⟨by first | omega | exact Nat.le_refl _⟩, ⟨by refine z2_ ?_;exact BK449.out⟩, ⟨z3_ HB.out⟩⟩
  ·rw [if_neg c7] at H
   have c7b0 : (t451 == 0) = false := beq_eq_false_iff_ne.mpr c7
   have c7b1 : (t451 != 0) = true := bne_iff_ne.mpr c7
   (first | rw [c7b0] | (simp only [i64_w, i32_w];rw [c7b0]) | skip)
   have H' := am_ H
   clear H
   go_wp2
   go_meet
   case rel => exact ⟨_, (true), (by first | rfl | (simp;done) | (simp [*];done)), H', ⟨by first | omega | exact Nat.le_refl _⟩, ⟨by refine z2_ ?_;exact BK449.out⟩, ⟨z3_ HB.out⟩⟩
 case rest =>
  clear HC4
  obtain ⟨kq, x23_3, rfl, HA, HJ3, BK449, HB⟩ := hcut
  cases kq with
  | zero => exact absurd HA.out (by simp [vernierref06_Split.j0])
  | succ kj3 =>
   have H := HA.out
   clear HA
   simp only [vernierref06_Split.j0] at H
   by_cases c8 : x23_3 = true
   ·subst c8
    have H1 : (some (false,false,0, 0, 0, 0, 0, 0, t451)) = some (r1, r2, r3, r4, r5, r6, r7, r8, r9) := by rw [if_pos rfl] at H;exact H
    clear H
    have H := H1
    clear H1
    simp only [Option.some.injEq, Prod.mk.injEq] at H
    obtain ⟨rfl, rfl, rfl, rfl, rfl, rfl, rfl, rfl, rfl⟩ := H
    obtain ⟨hcz9_0, hcz9_1, hcz9_2, hcz9_3, hcz9_4, hcz9_5, hcz9_6, hcz9_7, hfz9_0⟩ := zc8_ BK449.out
    go_wp2
    refine bodyPost_ret (results_ct rfl _ _ gb449 86 #[.bool false,.bool false,.int .i64 0,.int .i64 0,.int .i64 0,.int .i64 0,.int .i64 0,.int .u64 0] (0, 0) _ rfl (by refine z2_ ?_;refine blk_put (cs := #[.bool false,.bool false,.int .i64 0,.int .i64 0,.int .i64 0,.int .i64 0,.int .i64 0,.int .u64 0]) ?_ 7 _ rfl;refine z2_ ?_;refine blk_put (cs := #[.bool false,.bool false,.int .i64 0,.int .i64 0,.int .i64 0,.int .i64 0,.int .i64 0,.int .u64 0]) ?_ 6 _ rfl;refine z2_ ?_;refine blk_put (cs := #[.bool false,.bool false,.int .i64 0,.int .i64 0,.int .i64 0,.int .i64 0,.int .i64 0,.int .u64 0]) ?_ 5 _ rfl;refine z2_ ?_;refine blk_put (cs := #[.bool false,.bool false,.int .i64 0,.int .i64 0,.int .i64 0,.int .i64 0,.int .i64 0,.int .u64 0]) ?_ 4 _ rfl;refine z2_ ?_;refine blk_put (cs := #[.bool false,.bool false,.int .i64 0,.int .i64 0,.int .i64 0,.int .i64 0,.int .i64 0,.int .u64 0]) ?_ 3 _ rfl;refine z2_ ?_;refine blk_put (cs := #[.bool false,.bool false,.int .i64 0,.int .i64 0,.int .i64 0,.int .i64 0,.int .i64 0,.int .u64 0]) ?_ 2 _ rfl;refine z2_ ?_;refine blk_put (cs := #[.bool false,.bool false,.int .i64 0,.int .i64 0,.int .i64 0,.int .i64 0,.int .i64 0,.int .u64 0]) ?_ 1 _ rfl;refine z2_ ?_;refine blk_put (cs := #[.bool false,.bool false,.int .i64 0,.int .i64 0,.int .i64 0,.int .i64 0,.int .i64 0,.int .u64 0]) ?_ 0 _ rfl;refine z2_ ?_;exact BK449.out) Try.underlying86 rfl (by kernel_rfl)) rfl ?_
    exact ⟨z6_, z3_ HB.out⟩
   ·replace c8 := Bool.eq_false_iff.mpr c8
    subst c8
    have H1 : ((vernierref06_String.f kj3 a0 a1).bind fun t452 => ((vernierref01_Text.f kj3 a1 a0).bind fun t453 => (if 0 < (t453.size : Int) then (if 0 < (t452.size : Int) then ((vernierref06_run.f kj3 t452).bind fun t454 => (if (bt t452 0) = 49 then (vernierref06_Split.j1 kj3 t452 ((bt t453 0) == 49) ((bt t452 0) == 49) t454 (wrap64 (t454 - 1)) 0 0 0 0) else (vernierref06_Split.j1 kj3 t452 ((bt t453 0) == 49) ((bt t452 0) == 49) t454 (wrap64 (-t454)) 0 0 0 0))) else (none)) else (none)))) = some (r1, r2, r3, r4, r5, r6, r7, r8, r9) := by rw [if_neg (show ¬ (false = true) by decide)] at H;exact H
    clear H
    have H := H1
    clear H1
    replace H := Option.bind_eq_some_iff.mp H
    obtain ⟨t452, A100, H⟩ := H
    replace H : ((vernierref01_Text.f kj3 a1 a0).bind fun t453 => (if 0 < (t453.size : Int) then (if 0 < (t452.size : Int) then ((vernierref06_run.f kj3 t452).bind fun t454 => (if (bt t452 0) = 49 then (vernierref06_Split.j1 kj3 t452 ((bt t453 0) == 49) ((bt t452 0) == 49) t454 (wrap64 (t454 - 1)) 0 0 0 0) else (vernierref06_Split.j1 kj3 t452 ((bt t453 0) == 49) ((bt t452 0) == 49) t454 (wrap64 (-t454)) 0 0 0 0))) else (none)) else (none))) = some (r1, r2, r3, r4, r5, r6, r7, r8, r9) := H
    have A10 := am_ A100
    clear A100
    replace H := Option.bind_eq_some_iff.mp H
    obtain ⟨t453, A110, H⟩ := H
    replace H : (if 0 < (t453.size : Int) then (if 0 < (t452.size : Int) then ((vernierref06_run.f kj3 t452).bind fun t454 => (if (bt t452 0) = 49 then (vernierref06_Split.j1 kj3 t452 ((bt t453 0) == 49) ((bt t452 0) == 49) t454 (wrap64 (t454 - 1)) 0 0 0 0) else (vernierref06_Split.j1 kj3 t452 ((bt t453 0) == 49) ((bt t452 0) == 49) t454 (wrap64 (-t454)) 0 0 0 0))) else (none)) else (none)) = some (r1, r2, r3, r4, r5, r6, r7, r8, r9) := H
    have A11 := am_ A110
    clear A110
    by_cases c12 : 0 < (t453.size : Int)
    ·rw [if_pos c12] at H
     have c12b0 : decide (0 < (t453.size : Int)) = true := decide_eq_true c12
     have c12b1 : decide (0 < t453.size) = true := decide_eq_true (by omega)
     clear c12
     by_cases c14 : 0 < (t452.size : Int)
     ·rw [if_pos c14] at H
      have c14b0 : decide (0 < (t452.size : Int)) = true := decide_eq_true c14
      have c14b1 : decide (0 < t452.size) = true := decide_eq_true (by omega)
      clear c14
      replace H := Option.bind_eq_some_iff.mp H
      obtain ⟨t454, A160, H⟩ := H
      replace H : (if (bt t452 0) = 49 then (vernierref06_Split.j1 kj3 t452 ((bt t453 0) == 49) ((bt t452 0) == 49) t454 (wrap64 (t454 - 1)) 0 0 0 0) else (vernierref06_Split.j1 kj3 t452 ((bt t453 0) == 49) ((bt t452 0) == 49) t454 (wrap64 (-t454)) 0 0 0 0)) = some (r1, r2, r3, r4, r5, r6, r7, r8, r9) := H
      have A16 := am_ A160
      clear A160
      have HC17 := am_ H
      clear H
      try go_wp2_with (first | ((with_reducible refine gate_callee (f := 85) rfl ?_);refine goesL_ (some 28) rfl rfl Try.func85 (by kernel_rfl) rfl #[.int .i64 a0,.int .u64 a1] rfl z5_ ?_;(with_reducible refine (vernierref06_String.calls kj3 a0 a1 t452 _ A10.out).mono ?_);rintro e w18 ⟨rfl, hb⟩;refine ⟨_, rfl, ?_⟩;have n0_ := am_ (blk_below (g := gb449) (z1_ BK449.out) hb);have n1_ := am_ (below_step (z3_ HB.out) hb);clear BK449;clear HB;have BK449 := n0_;have HB := n1_;clear n0_ n1_;(try clear hb)))
      have n0_ := am_ (blk_drew BK449.out)
      have n1_ := am_ (below_drew1 HB.out)
      clear BK449
      clear HB
      have BK449 := n0_
      have HB := n1_
      clear n0_ n1_
      have p13 : 0 ≤ (0 : Int) := (by omega)
      have q13 : 0 < t453.size := (by have : (0 : Int) < (t453.size : Int) := of_decide_eq_true (by first | (with_reducible assumption) | assumption);omega)
      have hx13 : ∀ h : 0 < t453.size, ((t453[0]'h).toNat : Int) = bt t453 0 := bt_at t453 0
      clear p13
      have qi13 : (0 < (t453.size : Int)) = True := eq_true (of_decide_eq_true (by first | (with_reducible assumption) | assumption))
      replace q13 := eq_true q13
      have p15 : 0 ≤ (0 : Int) := (by omega)
      have q15 : 0 < t452.size := (by have : (0 : Int) < (t452.size : Int) := of_decide_eq_true (by first | (with_reducible assumption) | assumption);omega)
      have hx15 : ∀ h : 0 < t452.size, ((t452[0]'h).toNat : Int) = bt t452 0 := bt_at t452 0
      clear p15
      have qi15 : (0 < (t452.size : Int)) = True := eq_true (of_decide_eq_true (by first | (with_reducible assumption) | assumption))
      replace q15 := eq_true q15
      refine start_ (n := 13) (S := fun w' => True) (ds := []) #[false,false,false,false,false,false,false,false,false,false,false,false,false] (by kernel_rfl) rfl rfl trivial (fun hHeld => ?_);refine with_tabW vernierref06_Split.tab5 vernierref06_Split.bits5 (fun HT_ HW_ => ?_)
      generalize w18.drew = w19 at BK449 HB hHeld ⊢
      refine pure_ (i := 0) (N := some 29) (v := ?_) (a' := ?_) #[true,false,false,false,false,false,false,false,false,false,false,false,false] rfl rfl (any_of HT_.out (by kernel_rfl)) (fun _ _ _ h => h) (Or.inl ⟨by rfl, ?_⟩) ?_ ?_
      rotate_left
      ·intro w'
       go_simp
       with_reducible rfl
      rotate_left
      ·simp only [Act.put, List.setIfInBounds_toArray, List.set_cons_zero, List.set_cons_succ, i64_w, i32_w]
       rfl
      refine pure_ (i := 1) (N := some 30) (v := ?_) (a' := ?_) #[true,true,false,false,false,false,false,false,false,false,false,false,false] rfl rfl (any_of HT_.out (by kernel_rfl)) (fun _ _ _ h => h) (Or.inl ⟨by rfl, ?_⟩) ?_ ?_
      rotate_left
      ·intro w'
       go_simp
       with_reducible rfl
      rotate_left
      ·simp only [Act.put, List.setIfInBounds_toArray, List.set_cons_zero, List.set_cons_succ, i64_w, i32_w]
       rfl
      refine pure_ (i := 5) (N := some 34) (v := ?_) (a' := ?_) #[true,true,false,false,false,true,false,false,false,false,false,false,false] rfl rfl (any_of HT_.out (by kernel_rfl)) (fun _ _ _ h => h) (Or.inl ⟨by rfl, ?_⟩) ?_ ?_
      rotate_left
      ·intro w'
       go_simp
       with_reducible rfl
      rotate_left
      ·simp only [Act.put, List.setIfInBounds_toArray, List.set_cons_zero, List.set_cons_succ, i64_w, i32_w]
       rfl
      refine pure_ (i := 8) (N := some 37) (v := ?_) (a' := ?_) #[true,true,false,false,false,true,false,false,true,false,false,false,false] rfl rfl (any_of HT_.out (by kernel_rfl)) (fun _ _ _ h => h) (Or.inl ⟨by rfl, ?_⟩) ?_ ?_
      rotate_left
      ·intro w'
       go_simp
       with_reducible rfl
      rotate_left
      ·simp only [Act.put, List.setIfInBounds_toArray, List.set_cons_zero, List.set_cons_succ, i64_w, i32_w]
       rfl
      refine take_ (i := 6) (N := some 35) (v := ?_) (a' := ?_) #[true,true,false,false,false,true,true,false,true,false,false,false,false] rfl rfl (take_ofW HT_.out HW_.out (by kernel_rfl)) (fun _ _ _ h => h) (Or.inl ⟨by rfl, ?_⟩) hHeld ?_ ?_
      rotate_left
      ·intro w' _
       go_simp
       with_reducible rfl
      rotate_left
      ·simp only [Act.put, List.setIfInBounds_toArray, List.set_cons_zero, List.set_cons_succ, i64_w, i32_w]
       rfl
      refine pure_ (i := 7) (N := some 36) (v := ?_) (a' := ?_) #[true,true,false,false,false,true,true,true,true,false,false,false,false] rfl rfl (any_of HT_.out (by kernel_rfl)) (fun _ _ _ h => h) (Or.inl ⟨by rfl, ?_⟩) ?_ ?_
      rotate_left
      ·intro w'
       go_simp
       with_reducible rfl
      rotate_left
      ·simp only [Act.put, List.setIfInBounds_toArray, List.set_cons_zero, List.set_cons_succ, i64_w, i32_w]
       rfl
      refine join_ (σ := Nat) 1 #[true,true,true,true,true,true,true,true,true,true,true,true,false] (fun s_ => [(31,.string t453), (38,.int .i64 t454), (9,.pointer (some ⟨s_, 0, none⟩)), (32,.int .u8 (bt t453 0)), (33,.bool ((bt t453 0) == 49)), (39,.agg #[.bool ((bt t453 0) == 49),.bool ((bt t452 0) == 49),.int .i64 t454,.int .i64 0,.int .i64 0,.int .i64 0,.int .i64 0,.int .u64 0])]) (fun s_ w' => (w'.heap[gb449]? = some (.cells #[.bool false,.bool false,.int .i64 0,.int .i64 0,.int .i64 0,.int .i64 0,.int .i64 0,.int .u64 0] 86 (0, 0))) ∧ (w'.heap[s_]? = some (.cells #[.bool false,.bool false,.int .i64 0,.int .i64 0,.int .i64 0,.int .i64 0,.int .i64 0,.int .u64 0] 86 (0, 0))) ∧ (w.heap.size ≤ s_) ∧ (w.heap.size ≤ s_) ∧ (gb449 ≠ s_) ∧ (s_ ≠ gb449) ∧ (Below w.heap.size w w')) ?_ ?_
      rotate_left
      ·intro hCont
       refine two_ (i := 2) (j := 11) (Ni := some 31) (Nj := some 9) #[true,true,true,false,false,true,true,true,true,false,false,false,false] #[true,true,false,false,false,true,true,true,true,false,false,true,false] rfl rfl rfl rfl (two_of HT_.out (by kernel_rfl)) (by decide) (by decide) (fun K hK => ?_) (fun K hK => ?_)
       ·skip
        refine goes_ Try.func54 (by kernel_rfl) rfl #[.int .u64 a1,.int .i64 a0] (by rfl) rfl rfl z5_ ?_
        with_reducible refine (vernierref01_Text.calls kj3 a1 a0 t453 _ A11.out).mono ?_
        rintro e w20 ⟨rfl, hb⟩
        refine ⟨_, rfl, ?_⟩
        have n0_ := am_ (blk_below (g := gb449) (z1_ BK449.out) hb)
        have n1_ := am_ (below_step (z3_ HB.out) hb)
        clear BK449
        clear HB
        have BK449 := n0_
        have HB := n1_
        clear n0_ n1_
        (try clear hb)
        (try clear hb2)
        (try clear hk)
        (try clear hi)
        refine hK.out _ _ trivial (fun hHeld => ?_)
        clear hK K
        refine norm_ (a' := ?_) ?_ ?_
        rotate_left
        ·show Act.put _ (some 31) _ = _
         simp only [Act.put, List.setIfInBounds_toArray, List.set_cons_zero, List.set_cons_succ, i64_w, i32_w]
         rfl
        refine take_ (i := 3) (N := some 32) (v := ?_) (a' := ?_) #[true,true,true,true,false,true,true,true,true,false,false,false,false] rfl rfl (take_ofW HT_.out HW_.out (by kernel_rfl)) (fun _ _ _ h => h) (Or.inl ⟨by rfl, ?_⟩) hHeld ?_ ?_
        rotate_left
        ·intro w' _
         go_simp
         with_reducible rfl
        rotate_left
        ·simp only [Act.put, List.setIfInBounds_toArray, List.set_cons_zero, List.set_cons_succ, i64_w, i32_w]
         rfl
        refine pure_ (i := 4) (N := some 33) (v := ?_) (a' := ?_) #[true,true,true,true,true,true,true,true,true,false,false,false,false] rfl rfl (any_of HT_.out (by kernel_rfl)) (fun _ _ _ h => h) (Or.inl ⟨by rfl, ?_⟩) ?_ ?_
        rotate_left
        ·intro w'
         go_simp
         with_reducible rfl
        rotate_left
        ·simp only [Act.put, List.setIfInBounds_toArray, List.set_cons_zero, List.set_cons_succ, i64_w, i32_w]
         rfl
        refine two_ (i := 9) (j := 11) (Ni := some 38) (Nj := some 9) #[true,true,true,true,true,true,true,true,true,true,false,false,false] #[true,true,true,true,true,true,true,true,true,false,false,true,false] rfl rfl rfl rfl (two_of HT_.out (by kernel_rfl)) (by decide) (by decide) (fun K hK => ?_) (fun K hK => ?_)
        ·skip
         refine goes_ Try.func86 (by kernel_rfl) rfl #[.string t452] (by rfl) rfl rfl z5_ ?_
         with_reducible refine (vernierref06_run.calls kj3 t452 t454 _ A16.out).mono ?_
         rintro e w' ⟨rfl, ⟨nd, rfl⟩⟩
         refine ⟨_, rfl, ?_⟩
         refine hK.out _ _ trivial (fun hHeld => ?_)
         clear hK K
         refine norm_ (a' := ?_) ?_ ?_
         rotate_left
         ·show Act.put _ (some 38) _ = _
          simp only [Act.put, List.setIfInBounds_toArray, List.set_cons_zero, List.set_cons_succ, i64_w, i32_w]
          rfl
         refine pure_ (i := 10) (N := some 39) (v := ?_) (a' := ?_) #[true,true,true,true,true,true,true,true,true,true,true,false,false] rfl rfl (any_of HT_.out (by kernel_rfl)) (fun _ _ _ h => h) (Or.inl ⟨by rfl, ?_⟩) ?_ ?_
         rotate_left
         ·intro w'
          go_simp
          with_reducible rfl
         rotate_left
         ·simp only [Act.put, List.setIfInBounds_toArray, List.set_cons_zero, List.set_cons_succ, i64_w, i32_w]
          rfl
         refine one_ (i := 11) (N := some 9) #[true,true,true,true,true,true,true,true,true,true,true,true,false] rfl rfl (one_of HT_.out (by kernel_rfl)) (by decide) (fun K hK => ?_)
         refine box_step ?hg (N := 9) ?hd (cs := #[.bool false,.bool false,.int .i64 0,.int .i64 0,.int .i64 0,.int .i64 0,.int .i64 0,.int .u64 0]) (t := 86) ?hr ?_;(case hd => rfl);(case hg => rfl);(case hr => first | (go_simp;done) | (go_simp;rfl))
         intro gb455 hg w21 hbox hb
         have n0_ := am_ (blk_below (g := gb449) (z1_ BK449.out) hb)
         have n1_ := am_ (below_step (z3_ HB.out) hb)
         have n2_ := am_ (hbox)
         have n3_ := am_ ((by rw [hg];exact (below_size (z3_ HB.out)) : w.heap.size ≤ gb455))
         have n4_ := am_ ((by rw [hg];exact (below_size (z3_ HB.out)) : w.heap.size ≤ gb455))
         have n5_ := am_ ((by rw [hg];exact Nat.ne_of_lt (blk_lt (g := gb449) (o := .cells #[.bool false,.bool false,.int .i64 0,.int .i64 0,.int .i64 0,.int .i64 0,.int .i64 0,.int .u64 0] 86 (0, 0)) (z1_ BK449.out)) : gb449 ≠ gb455))
         have n6_ := am_ ((by rw [hg];exact Nat.ne_of_gt (blk_lt (g := gb449) (o := .cells #[.bool false,.bool false,.int .i64 0,.int .i64 0,.int .i64 0,.int .i64 0,.int .i64 0,.int .u64 0] 86 (0, 0)) (z1_ BK449.out)) : gb455 ≠ gb449))
         clear BK449
         clear HB
         have BK449 := n0_
         have HB := n1_
         have BK455 := n2_
         have GW455 := n3_
         have GE455 := n4_
         have NB449_455 := n5_
         have NB455_449 := n6_
         clear n0_ n1_ n2_ n3_ n4_ n5_ n6_
         clear hb hbox hg
         refine hK.out _ _ trivial (fun hHeld => ?_)
         clear hK K
         refine norm_ (a' := ?_) ?_ ?_
         rotate_left
         ·show Act.put _ (some 9) _ = _
          simp only [Act.put, List.setIfInBounds_toArray, List.set_cons_zero, List.set_cons_succ, i64_w, i32_w]
          rfl
         exact norm_ (by simp only [putAll, Act.put, List.setIfInBounds_toArray, List.set_cons_zero, List.set_cons_succ]) (hCont (gb455) _ ⟨(z1_ BK449.out), (z1_ BK455.out), GW455.out, GE455.out, NB449_455.out, NB455_449.out, (z3_ HB.out)⟩)
        ·skip
         refine box_step ?hg (N := 9) ?hd (cs := #[.bool false,.bool false,.int .i64 0,.int .i64 0,.int .i64 0,.int .i64 0,.int .i64 0,.int .u64 0]) (t := 86) ?hr ?_;(case hd => rfl);(case hg => rfl);(case hr => first | (go_simp;done) | (go_simp;rfl))
         intro gb455 hg w21 hbox hb
         have n0_ := am_ (blk_below (g := gb449) (z1_ BK449.out) hb)
         have n1_ := am_ (below_step (z3_ HB.out) hb)
         have n2_ := am_ (hbox)
         have n3_ := am_ ((by rw [hg];exact (below_size (z3_ HB.out)) : w.heap.size ≤ gb455))
         have n4_ := am_ ((by rw [hg];exact (below_size (z3_ HB.out)) : w.heap.size ≤ gb455))
         have n5_ := am_ ((by rw [hg];exact Nat.ne_of_lt (blk_lt (g := gb449) (o := .cells #[.bool false,.bool false,.int .i64 0,.int .i64 0,.int .i64 0,.int .i64 0,.int .i64 0,.int .u64 0] 86 (0, 0)) (z1_ BK449.out)) : gb449 ≠ gb455))
         have n6_ := am_ ((by rw [hg];exact Nat.ne_of_gt (blk_lt (g := gb449) (o := .cells #[.bool false,.bool false,.int .i64 0,.int .i64 0,.int .i64 0,.int .i64 0,.int .i64 0,.int .u64 0] 86 (0, 0)) (z1_ BK449.out)) : gb455 ≠ gb449))
         clear BK449
         clear HB
         have BK449 := n0_
         have HB := n1_
         have BK455 := n2_
         have GW455 := n3_
         have GE455 := n4_
         have NB449_455 := n5_
         have NB455_449 := n6_
         clear n0_ n1_ n2_ n3_ n4_ n5_ n6_
         clear hb hbox hg
         refine hK.out _ _ trivial (fun hHeld => ?_)
         clear hK K
         refine norm_ (a' := ?_) ?_ ?_
         rotate_left
         ·show Act.put _ (some 9) _ = _
          simp only [Act.put, List.setIfInBounds_toArray, List.set_cons_zero, List.set_cons_succ, i64_w, i32_w]
          rfl
         refine one_ (i := 9) (N := some 38) #[true,true,true,true,true,true,true,true,true,true,false,true,false] rfl rfl (one_of HT_.out (by kernel_rfl)) (by decide) (fun K hK => ?_)
         refine goes_ Try.func86 (by kernel_rfl) rfl #[.string t452] (by rfl) rfl rfl z5_ ?_
         with_reducible refine (vernierref06_run.calls kj3 t452 t454 _ A16.out).mono ?_
         rintro e w' ⟨rfl, ⟨nd, rfl⟩⟩
         refine ⟨_, rfl, ?_⟩
         refine hK.out _ _ trivial (fun hHeld => ?_)
         clear hK K
         refine norm_ (a' := ?_) ?_ ?_
         rotate_left
         ·show Act.put _ (some 38) _ = _
          simp only [Act.put, List.setIfInBounds_toArray, List.set_cons_zero, List.set_cons_succ, i64_w, i32_w]
          rfl
         refine pure_ (i := 10) (N := some 39) (v := ?_) (a' := ?_) #[true,true,true,true,true,true,true,true,true,true,true,true,false] rfl rfl (any_of HT_.out (by kernel_rfl)) (fun _ _ _ h => h) (Or.inl ⟨by rfl, ?_⟩) ?_ ?_
         rotate_left
         ·intro w'
          go_simp
          with_reducible rfl
         rotate_left
         ·simp only [Act.put, List.setIfInBounds_toArray, List.set_cons_zero, List.set_cons_succ, i64_w, i32_w]
          rfl
         exact norm_ (by simp only [putAll, Act.put, List.setIfInBounds_toArray, List.set_cons_zero, List.set_cons_succ]) (hCont (gb455) _ ⟨(z1_ BK449.out), (z1_ BK455.out), GW455.out, GE455.out, NB449_455.out, NB455_449.out, (z3_ HB.out)⟩)
       ·skip
        refine box_step ?hg (N := 9) ?hd (cs := #[.bool false,.bool false,.int .i64 0,.int .i64 0,.int .i64 0,.int .i64 0,.int .i64 0,.int .u64 0]) (t := 86) ?hr ?_;(case hd => rfl);(case hg => rfl);(case hr => first | (go_simp;done) | (go_simp;rfl))
        intro gb455 hg w20 hbox hb
        have n0_ := am_ (blk_below (g := gb449) (z1_ BK449.out) hb)
        have n1_ := am_ (below_step (z3_ HB.out) hb)
        have n2_ := am_ (hbox)
        have n3_ := am_ ((by rw [hg];exact (below_size (z3_ HB.out)) : w.heap.size ≤ gb455))
        have n4_ := am_ ((by rw [hg];exact (below_size (z3_ HB.out)) : w.heap.size ≤ gb455))
        have n5_ := am_ ((by rw [hg];exact Nat.ne_of_lt (blk_lt (g := gb449) (o := .cells #[.bool false,.bool false,.int .i64 0,.int .i64 0,.int .i64 0,.int .i64 0,.int .i64 0,.int .u64 0] 86 (0, 0)) (z1_ BK449.out)) : gb449 ≠ gb455))
        have n6_ := am_ ((by rw [hg];exact Nat.ne_of_gt (blk_lt (g := gb449) (o := .cells #[.bool false,.bool false,.int .i64 0,.int .i64 0,.int .i64 0,.int .i64 0,.int .i64 0,.int .u64 0] 86 (0, 0)) (z1_ BK449.out)) : gb455 ≠ gb449))
        clear BK449
        clear HB
        have BK449 := n0_
        have HB := n1_
        have BK455 := n2_
        have GW455 := n3_
        have GE455 := n4_
        have NB449_455 := n5_
        have NB455_449 := n6_
        clear n0_ n1_ n2_ n3_ n4_ n5_ n6_
        clear hb hbox hg
        refine hK.out _ _ trivial (fun hHeld => ?_)
        clear hK K
        refine norm_ (a' := ?_) ?_ ?_
        rotate_left
        ·show Act.put _ (some 9) _ = _
         simp only [Act.put, List.setIfInBounds_toArray, List.set_cons_zero, List.set_cons_succ, i64_w, i32_w]
         rfl
        refine one_ (i := 2) (N := some 31) #[true,true,true,false,false,true,true,true,true,false,false,true,false] rfl rfl (one_of HT_.out (by kernel_rfl)) (by decide) (fun K hK => ?_)
        refine goes_ Try.func54 (by kernel_rfl) rfl #[.int .u64 a1,.int .i64 a0] (by rfl) rfl rfl z5_ ?_
        with_reducible refine (vernierref01_Text.calls kj3 a1 a0 t453 _ A11.out).mono ?_
        rintro e w21 ⟨rfl, hb⟩
        refine ⟨_, rfl, ?_⟩
        have n0_ := am_ (blk_below (g := gb449) (z1_ BK449.out) hb)
        have n1_ := am_ (blk_below (g := gb455) (z1_ BK455.out) hb)
        have n2_ := am_ (below_step (z3_ HB.out) hb)
        clear BK449
        clear BK455
        clear HB
        have BK449 := n0_
        have BK455 := n1_
        have HB := n2_
        clear n0_ n1_ n2_
        (try clear hb)
        (try clear hb2)
        (try clear hk)
        (try clear hi)
        refine hK.out _ _ trivial (fun hHeld => ?_)
        clear hK K
        refine norm_ (a' := ?_) ?_ ?_
        rotate_left
        ·show Act.put _ (some 31) _ = _
         simp only [Act.put, List.setIfInBounds_toArray, List.set_cons_zero, List.set_cons_succ, i64_w, i32_w]
         rfl
        refine take_ (i := 3) (N := some 32) (v := ?_) (a' := ?_) #[true,true,true,true,false,true,true,true,true,false,false,true,false] rfl rfl (take_ofW HT_.out HW_.out (by kernel_rfl)) (fun _ _ _ h => h) (Or.inl ⟨by rfl, ?_⟩) hHeld ?_ ?_
        rotate_left
        ·intro w' _
         go_simp
         with_reducible rfl
        rotate_left
        ·simp only [Act.put, List.setIfInBounds_toArray, List.set_cons_zero, List.set_cons_succ, i64_w, i32_w]
         rfl
        refine pure_ (i := 4) (N := some 33) (v := ?_) (a' := ?_) #[true,true,true,true,true,true,true,true,true,false,false,true,false] rfl rfl (any_of HT_.out (by kernel_rfl)) (fun _ _ _ h => h) (Or.inl ⟨by rfl, ?_⟩) ?_ ?_
        rotate_left
        ·intro w'
         go_simp
         with_reducible rfl
        rotate_left
        ·simp only [Act.put, List.setIfInBounds_toArray, List.set_cons_zero, List.set_cons_succ, i64_w, i32_w]
         rfl
        refine one_ (i := 9) (N := some 38) #[true,true,true,true,true,true,true,true,true,true,false,true,false] rfl rfl (one_of HT_.out (by kernel_rfl)) (by decide) (fun K hK => ?_)
        refine goes_ Try.func86 (by kernel_rfl) rfl #[.string t452] (by rfl) rfl rfl z5_ ?_
        with_reducible refine (vernierref06_run.calls kj3 t452 t454 _ A16.out).mono ?_
        rintro e w' ⟨rfl, ⟨nd, rfl⟩⟩
        refine ⟨_, rfl, ?_⟩
        refine hK.out _ _ trivial (fun hHeld => ?_)
        clear hK K
        refine norm_ (a' := ?_) ?_ ?_
        rotate_left
        ·show Act.put _ (some 38) _ = _
         simp only [Act.put, List.setIfInBounds_toArray, List.set_cons_zero, List.set_cons_succ, i64_w, i32_w]
         rfl
        refine pure_ (i := 10) (N := some 39) (v := ?_) (a' := ?_) #[true,true,true,true,true,true,true,true,true,true,true,true,false] rfl rfl (any_of HT_.out (by kernel_rfl)) (fun _ _ _ h => h) (Or.inl ⟨by rfl, ?_⟩) ?_ ?_
        rotate_left
        ·intro w'
         go_simp
         with_reducible rfl
        rotate_left
        ·simp only [Act.put, List.setIfInBounds_toArray, List.set_cons_zero, List.set_cons_succ, i64_w, i32_w]
         rfl
        exact norm_ (by simp only [putAll, Act.put, List.setIfInBounds_toArray, List.set_cons_zero, List.set_cons_succ]) (hCont (gb455) _ ⟨(z1_ BK449.out), (z1_ BK455.out), GW455.out, GE455.out, NB449_455.out, NB455_449.out, (z3_ HB.out)⟩)
      rintro gb455 w22 ⟨h0_, h1_, h2_, h3_, h4_, h5_, h6_⟩
      have n0_ : Aside0 (w22.heap[gb449]? = some (.cells #[.bool false,.bool false,.int .i64 0,.int .i64 0,.int .i64 0,.int .i64 0,.int .i64 0,.int .u64 0] 86 (0, 0))) := ⟨h0_⟩
      have n1_ : Aside0 (w22.heap[gb455]? = some (.cells #[.bool false,.bool false,.int .i64 0,.int .i64 0,.int .i64 0,.int .i64 0,.int .i64 0,.int .u64 0] 86 (0, 0))) := ⟨h1_⟩
      have n2_ : Aside0 (w.heap.size ≤ gb455) := ⟨h2_⟩
      have n3_ : Aside0 (w.heap.size ≤ gb455) := ⟨h3_⟩
      have n4_ : Aside0 (gb449 ≠ gb455) := ⟨h4_⟩
      have n5_ : Aside0 (gb455 ≠ gb449) := ⟨h5_⟩
      have n6_ : Aside0 (Below w.heap.size w w22) := ⟨h6_⟩
      clear BK449
      clear HB
      clear h0_ h1_ h2_ h3_ h4_ h5_ h6_
      have BK449 := n0_
      have BK455 := n1_
      have GW455 := n2_
      have GE455 := n3_
      have NB449_455 := n4_
      have NB455_449 := n5_
      have HB := n6_
      clear n0_ n1_ n2_ n3_ n4_ n5_ n6_
      have hHeld := trivial
      refine norm_ (a' := ?_) ?_ ?_
      rotate_left
      ·simp only [putAll, Act.put, List.setIfInBounds_toArray, List.set_cons_zero, List.set_cons_succ]
       rfl
      refine one_ (i := 12) (N := none) #[true,true,true,true,true,true,true,true,true,true,true,true,true] rfl rfl (one_of HT_.out (by kernel_rfl)) (by decide) (fun K hK => ?_)
      have hs23 : w22.cell? ⟨gb455, 0, none⟩ = some (.bool false) := (blk_cell BK455.out 0).trans rfl
      have hfs23 := blk_frozen BK455.out 0
      have hns23_0 := NB449_455.out
      have hms23_0 := NB455_449.out
      have hs24 : w22.cell? ⟨gb455, 1, none⟩ = some (.bool false) := (blk_cell BK455.out 1).trans rfl
      have hfs24 := blk_frozen BK455.out 1
      have hns24_0 := NB449_455.out
      have hms24_0 := NB455_449.out
      have hs25 : w22.cell? ⟨gb455, 2, none⟩ = some (.int .i64 0) := (blk_cell BK455.out 2).trans rfl
      have hfs25 := blk_frozen BK455.out 2
      have hns25_0 := NB449_455.out
      have hms25_0 := NB455_449.out
      have hs26 : w22.cell? ⟨gb455, 3, none⟩ = some (.int .i64 0) := (blk_cell BK455.out 3).trans rfl
      have hfs26 := blk_frozen BK455.out 3
      have hns26_0 := NB449_455.out
      have hms26_0 := NB455_449.out
      have hs27 : w22.cell? ⟨gb455, 4, none⟩ = some (.int .i64 0) := (blk_cell BK455.out 4).trans rfl
      have hfs27 := blk_frozen BK455.out 4
      have hns27_0 := NB449_455.out
      have hms27_0 := NB455_449.out
      have hs28 : w22.cell? ⟨gb455, 5, none⟩ = some (.int .i64 0) := (blk_cell BK455.out 5).trans rfl
      have hfs28 := blk_frozen BK455.out 5
      have hns28_0 := NB449_455.out
      have hms28_0 := NB455_449.out
      have hs29 : w22.cell? ⟨gb455, 6, none⟩ = some (.int .i64 0) := (blk_cell BK455.out 6).trans rfl
      have hfs29 := blk_frozen BK455.out 6
      have hns29_0 := NB449_455.out
      have hms29_0 := NB455_449.out
      have hs30 : w22.cell? ⟨gb455, 7, none⟩ = some (.int .u64 0) := (blk_cell BK455.out 7).trans rfl
      have hfs30 := blk_frozen BK455.out 7
      have hns30_0 := NB449_455.out
      have hms30_0 := NB455_449.out
      refine skip_ (w1 := ?_) (by rfl) rfl ?_ ?_
      rotate_left
      ·go_simp
       rfl
      refine hK.out _ _ trivial (fun hHeld => ?_)
      clear hK K
      refine done_ (done_of HT_.out (by kernel_rfl)) ?_
      generalize hw_ : ((((((((w22.setCell ⟨gb455, 0, none⟩ (.bool ((bt t453 0) == 49))).setCell ⟨gb455, 1, none⟩ (.bool ((bt t452 0) == 49))).setCell ⟨gb455, 2, none⟩ (.int .i64 t454)).setCell ⟨gb455, 3, none⟩ (.int .i64 0)).setCell ⟨gb455, 4, none⟩ (.int .i64 0)).setCell ⟨gb455, 5, none⟩ (.int .i64 0)).setCell ⟨gb455, 6, none⟩ (.int .i64 0)).setCell ⟨gb455, 7, none⟩ (.int .u64 0)) = w_n
      have n0_ : Aside0 (w_n.heap[gb449]? = some (.cells #[.bool false,.bool false,.int .i64 0,.int .i64 0,.int .i64 0,.int .i64 0,.int .i64 0,.int .u64 0] 86 (0, 0))) := ⟨by rw [← hw_];refine blk_far ?_ NB449_455.out _;refine blk_far ?_ NB449_455.out _;refine blk_far ?_ NB449_455.out _;refine blk_far ?_ NB449_455.out _;refine blk_far ?_ NB449_455.out _;refine blk_far ?_ NB449_455.out _;refine blk_far ?_ NB449_455.out _;refine blk_far ?_ NB449_455.out _;exact BK449.out⟩
      have n1_ : Aside0 (w_n.heap[gb455]? = some (.cells #[.bool ((bt t453 0) == 49),.bool ((bt t452 0) == 49),.int .i64 t454,.int .i64 0,.int .i64 0,.int .i64 0,.int .i64 0,.int .u64 0] 86 (0, 0))) := ⟨by rw [← hw_];refine blk_put (cs := #[.bool ((bt t453 0) == 49),.bool ((bt t452 0) == 49),.int .i64 t454,.int .i64 0,.int .i64 0,.int .i64 0,.int .i64 0,.int .u64 0]) ?_ 7 _ rfl;refine blk_put (cs := #[.bool ((bt t453 0) == 49),.bool ((bt t452 0) == 49),.int .i64 t454,.int .i64 0,.int .i64 0,.int .i64 0,.int .i64 0,.int .u64 0]) ?_ 6 _ rfl;refine blk_put (cs := #[.bool ((bt t453 0) == 49),.bool ((bt t452 0) == 49),.int .i64 t454,.int .i64 0,.int .i64 0,.int .i64 0,.int .i64 0,.int .u64 0]) ?_ 5 _ rfl;refine blk_put (cs := #[.bool ((bt t453 0) == 49),.bool ((bt t452 0) == 49),.int .i64 t454,.int .i64 0,.int .i64 0,.int .i64 0,.int .i64 0,.int .u64 0]) ?_ 4 _ rfl;refine blk_put (cs := #[.bool ((bt t453 0) == 49),.bool ((bt t452 0) == 49),.int .i64 t454,.int .i64 0,.int .i64 0,.int .i64 0,.int .i64 0,.int .u64 0]) ?_ 3 _ rfl;refine blk_put (cs := #[.bool ((bt t453 0) == 49),.bool ((bt t452 0) == 49),.int .i64 0,.int .i64 0,.int .i64 0,.int .i64 0,.int .i64 0,.int .u64 0]) ?_ 2 _ rfl;refine blk_put (cs := #[.bool ((bt t453 0) == 49),.bool false,.int .i64 0,.int .i64 0,.int .i64 0,.int .i64 0,.int .i64 0,.int .u64 0]) ?_ 1 _ rfl;refine blk_put (cs := #[.bool false,.bool false,.int .i64 0,.int .i64 0,.int .i64 0,.int .i64 0,.int .i64 0,.int .u64 0]) ?_ 0 _ rfl;exact BK455.out⟩
      have n2_ : Aside0 (Below w.heap.size w w_n) := ⟨by rw [← hw_];refine below_set ?_ GE455.out;refine below_set ?_ GE455.out;refine below_set ?_ GE455.out;refine below_set ?_ GE455.out;refine below_set ?_ GE455.out;refine below_set ?_ GE455.out;refine below_set ?_ GE455.out;refine below_set ?_ GE455.out;exact HB.out⟩
      clear hw_ BK449 BK455 HB
      have BK449 := n0_
      have BK455 := n1_
      have HB := n2_
      clear n0_ n1_ n2_
      have hnb31 := NB455_449.out
      have hnc31 := NB449_455.out
      obtain ⟨hcz32_0, hcz32_1, hcz32_2, hcz32_3, hcz32_4, hcz32_5, hcz32_6, hcz32_7, hfz32_0⟩ := zc8_ BK455.out
      go_upto_if 45 with (fail)
      go_cut [] (fun wc => ∃ (kq : Nat) (x456003_16 : Int), Aside0 (vernierref06_Split.j1 kq t452 ((bt t453 0) == 49) ((bt t452 0) == 49) t454 x456003_16 0 0 0 0 = some (r1, r2, r3, r4, r5, r6, r7, r8, r9)) ∧ Aside0 (kq ≤ kj3) ∧ Aside0 (wc.heap[gb449]? = some (.cells #[.bool false,.bool false,.int .i64 0,.int .i64 0,.int .i64 0,.int .i64 0,.int .i64 0,.int .u64 0] 86 (0, 0))) ∧ Aside0 (wc.heap[gb455]? = some (.cells #[.bool ((bt t453 0) == 49),.bool ((bt t452 0) == 49),.int .i64 t454,.int .i64 x456003_16,.int .i64 0,.int .i64 0,.int .i64 0,.int .u64 0] 86 (0, 0))) ∧ Aside0 (Below w.heap.size w wc))
      case first =>
       have H := HC17.out
       clear HC17
       by_cases c33 : (bt t452 0) = 49
       ·rw [if_pos c33] at H
        have c33b0 : ((bt t452 0) == 49) = true := beq_iff_eq.mpr c33
        have c33b1 : ((bt t452 0) != 49) = false := bne_eq_false_iff_eq.mpr c33
        clear c33
        (first | rw [c33b0] | (simp only [i64_w, i32_w];rw [c33b0]) | skip)
        have H' := am_ H
        clear H
        have hnb34 := NB455_449.out
        have hnc34 := NB449_455.out
        obtain ⟨hcz35_0, hcz35_1, hcz35_2, hcz35_3, hcz35_4, hcz35_5, hcz35_6, hcz35_7, hfz35_0⟩ := zc8_ BK455.out
        go_wp2
        go_meet
        case rel => exact ⟨_, (wrap64 (t454 - 1)), H', ⟨by have := HJ3.out;first | omega | exact Nat.le_refl _⟩, ⟨by refine z2_ ?_;refine blk_far ?_ NB449_455.out _;refine z2_ ?_;refine blk_far ?_ NB449_455.out _;refine z2_ ?_;exact BK449.out⟩, ⟨by refine z2_ ?_;refine blk_put (cs := #[.bool ((bt t453 0) == 49),.bool ((bt t452 0) == 49),.int .i64 t454,.int .i64 (wrap64 (-t454)),.int .i64 0,.int .i64 0,.int .i64 0,.int .u64 0]) ?_ 3 _ rfl;refine z2_ ?_;refine blk_put (cs := #[.bool ((bt t453 0) == 49),.bool ((bt t452 0) == 49),.int .i64 t454,.int .i64 0,.int .i64 0,.int .i64 0,.int .i64 0,.int .u64 0]) ?_ 3 _ rfl;refine z2_ ?_;exact BK455.out⟩, ⟨z3_ HB.out⟩⟩
       ·rw [if_neg c33] at H
        have c33b0 : ((bt t452 0) == 49) = false := beq_eq_false_iff_ne.mpr c33
        have c33b1 : ((bt t452 0) != 49) = true := bne_iff_ne.mpr c33
        (first | rw [c33b0] | (simp only [i64_w, i32_w];rw [c33b0]) | skip)
        have H' := am_ H
        clear H
        go_wp2
        go_meet
        case rel => exact ⟨_, (wrap64 (-t454)), H', ⟨by have := HJ3.out;first | omega | exact Nat.le_refl _⟩, ⟨by refine z2_ ?_;refine blk_far ?_ NB449_455.out _;refine z2_ ?_;exact BK449.out⟩, ⟨by refine z2_ ?_;refine blk_put (cs := #[.bool ((bt t453 0) == 49),.bool ((bt t452 0) == 49),.int .i64 t454,.int .i64 0,.int .i64 0,.int .i64 0,.int .i64 0,.int .u64 0]) ?_ 3 _ rfl;refine z2_ ?_;exact BK455.out⟩, ⟨z3_ HB.out⟩⟩
      case rest =>
       clear HC17
       try clear c8
       try clear c12
       try clear c12b0
       try clear c12b1
       try clear p13
       try clear q13
       try clear hx13
       try clear qi13
       try clear c14
       try clear c14b0
       try clear c14b1
       try clear p15
       try clear q15
       try clear hx15
       try clear qi15
       try clear hcz32_0
       try clear hcz32_1
       try clear hcz32_2
       try clear hcz32_3
       try clear hcz32_4
       try clear hcz32_5
       try clear hcz32_6
       try clear hcz32_7
       try clear hfz32_0
       try clear p13
       try clear p15
       try clear q13
       try clear q15
       obtain ⟨kq, x456003_16, HA, HJ16, BK449, BK455, HB⟩ := hcut
       cases kq with
       | zero => exact absurd HA.out (by simp [vernierref06_Split.j1])
       | succ kj16 =>
        have H := HA.out
        clear HA
        simp only [vernierref06_Split.j1] at H
        have HC36 := am_ H
        clear H
        have hnb37 := NB455_449.out
        have hnc37 := NB449_455.out
        obtain ⟨hcz38_0, hcz38_1, hcz38_2, hcz38_3, hcz38_4, hcz38_5, hcz38_6, hcz38_7, hfz38_0⟩ := zc8_ BK455.out
        go_upto_if 54 with (fail)
        go_cut [10] (fun v10 wc => ∃ (kq : Nat) (x10_35 : ByteArray), v10 = .string x10_35 ∧ Aside0 (vernierref06_Split.j2 kq x10_35 ((bt t453 0) == 49) ((bt t452 0) == 49) t454 x456003_16 0 0 0 0 = some (r1, r2, r3, r4, r5, r6, r7, r8, r9)) ∧ Aside0 (kq ≤ kj16) ∧ Aside0 (wc.heap[gb449]? = some (.cells #[.bool false,.bool false,.int .i64 0,.int .i64 0,.int .i64 0,.int .i64 0,.int .i64 0,.int .u64 0] 86 (0, 0))) ∧ Aside0 (wc.heap[gb455]? = some (.cells #[.bool ((bt t453 0) == 49),.bool ((bt t452 0) == 49),.int .i64 t454,.int .i64 x456003_16,.int .i64 0,.int .i64 0,.int .i64 0,.int .u64 0] 86 (0, 0))) ∧ Aside0 (Below w.heap.size w wc))
        case first =>
         have H := HC36.out
         clear HC36
         by_cases c39 : t454 < (t452.size : Int)
         ·rw [if_pos c39] at H
          have c39b0 : decide (t454 < (t452.size : Int)) = true := decide_eq_true c39
          clear c39
          (first | rw [c39b0] | (simp only [i64_w, i32_w];rw [c39b0]) | skip)
          obtain ⟨ji40, hji40⟩ : ∃ j_ : Int, (wrap64 (t454 + 1)) = j_ := ⟨_, rfl⟩
          replace H : (if 0 ≤ (ji40) then (if (ji40) ≤ (t452.size : Int) then (vernierref06_Split.j2 kj16 (t452.extract ((ji40) : Int).toNat t452.size) ((bt t453 0) == 49) ((bt t452 0) == 49) t454 x456003_16 0 0 0 0) else (none)) else (none)) = some (r1, r2, r3, r4, r5, r6, r7, r8, r9) := by first | (rw [hji40] at H;exact H) | (simp only [hji40] at H ⊢;exact H)
          have hji40w : (IntKind.i64.wrap (t454 + 1)) = ji40 := (i64_w _).trans hji40
          by_cases c41 : 0 ≤ (ji40)
          ·rw [if_pos c41] at H
           have c41b0 := eq_true c41
           have c41b1 : decide (0 ≤ (ji40)) = true := decide_eq_true c41
           clear c41
           by_cases c42 : (ji40) ≤ (t452.size : Int)
           ·rw [if_pos c42] at H
            have c42b0 := eq_true c42
            have c42b1 : decide ((ji40) ≤ (t452.size : Int)) = true := decide_eq_true c42
            clear c42
            have H' := am_ H
            clear H
            have hnb43 := NB455_449.out
            have hnc43 := NB449_455.out
            obtain ⟨hcz44_0, hcz44_1, hcz44_2, hcz44_3, hcz44_4, hcz44_5, hcz44_6, hcz44_7, hfz44_0⟩ := zc8_ BK455.out
            go_wp2
            go_meet
            case rel => exact ⟨_, (t452.extract ((ji40) : Int).toNat t452.size), (by first | rfl | (simp;done) | (simp only [← hji40] <;> (first | rfl | simp)) | (simp [*];done)), H', ⟨by have := HJ3.out;have := HJ16.out;first | omega | exact Nat.le_refl _⟩, ⟨by refine z2_ ?_;exact BK449.out⟩, ⟨by refine z2_ ?_;exact BK455.out⟩, ⟨z3_ HB.out⟩⟩
           ·rw [if_neg c42] at H
            exact absurd H (by simp)
          ·rw [if_neg c41] at H
           exact absurd H (by simp)
         ·rw [if_neg c39] at H
          have c39b0 : decide (t454 < (t452.size : Int)) = false := decide_eq_false c39
          clear c39
          (first | rw [c39b0] | (simp only [i64_w, i32_w];rw [c39b0]) | skip)
          have H' := am_ H
          clear H
          go_wp2
          go_meet
          case rel => exact ⟨_, ((⟨#[]⟩ : ByteArray)), (by first | rfl | (simp;done) | (simp [*];done)), H', ⟨by have := HJ3.out;have := HJ16.out;first | omega | exact Nat.le_refl _⟩, ⟨by refine z2_ ?_;exact BK449.out⟩, ⟨by refine z2_ ?_;exact BK455.out⟩, ⟨z3_ HB.out⟩⟩
        case rest =>
         clear HC36
         try clear c8
         try clear c12
         try clear c12b0
         try clear c12b1
         try clear p13
         try clear q13
         try clear hx13
         try clear qi13
         try clear c14
         try clear c14b0
         try clear c14b1
         try clear p15
         try clear q15
         try clear hx15
         try clear qi15
         try clear hcz32_0
         try clear hcz32_1
         try clear hcz32_2
         try clear hcz32_3
         try clear hcz32_4
         try clear hcz32_5
         try clear hcz32_6
         try clear hcz32_7
         try clear hcz38_0
         try clear hcz38_1
         try clear hcz38_2
         try clear hcz38_3
         try clear hcz38_4
         try clear hcz38_5
         try clear hcz38_6
         try clear hcz38_7
         try clear hfz32_0
         try clear hfz38_0
         try clear p13
         try clear p15
         try clear q13
         try clear q15
         obtain ⟨kq, x10_35, rfl, HA, HJ35, BK449, BK455, HB⟩ := hcut
         cases kq with
         | zero => exact absurd HA.out (by simp [vernierref06_Split.j2])
         | succ kj35 =>
          have H := HA.out
          clear HA
          simp only [vernierref06_Split.j2] at H
          by_cases c45 : (x10_35.size : Int) > 2
          ·rw [if_pos c45] at H
           have c45b0 : decide (2 < (x10_35.size : Int)) = true := decide_eq_true c45
           have c45b1 : decide (2 < x10_35.size) = true := decide_eq_true (by omega)
           clear c45
           by_cases c46 : 0 ≤ 2
           ·rw [if_pos c46] at H
            have c46b0 := eq_true c46
            have c46b1 : decide (0 ≤ 2) = true := decide_eq_true c46
            clear c46
            by_cases c47 : 2 ≤ (x10_35.size : Int)
            ·rw [if_pos c47] at H
             have c47b0 := eq_true c47
             have c47b1 : decide (2 ≤ (x10_35.size : Int)) = true := decide_eq_true c47
             clear c47
             by_cases c48 : (x10_35.extract 0 2).size + 2 ≤ 9223372036854775807
             ·rw [if_pos c48] at H
              have c48b0 := eq_true c48
              have c48b1 : decide ((x10_35.extract 0 2).size + 2 ≤ 9223372036854775807) = true := decide_eq_true c48
              try have c48b2 : (9223372036854775807 < (x10_35.extract 0 2).size + 2) = False := eq_false (Nat.not_lt.2 c48)
              (try (have c48e0 := c48b0;simp only [ByteArray.size_extract, Nat.min_self, Nat.sub_zero] at c48e0))
              (try (have c48e1 := c48b1;simp only [ByteArray.size_extract, Nat.min_self, Nat.sub_zero] at c48e1))
              (try (have c48e2 := c48b2;simp only [ByteArray.size_extract, Nat.min_self, Nat.sub_zero] at c48e2))
              have c49b0 := eq_true (of_decide_eq_true (by first | (with_reducible assumption) | assumption) : 0 ≤ 2)
              by_cases c50 : 2 ≤ (((x10_35.extract 0 2) ++ (⟨#[48, 48]⟩ : ByteArray)).size : Int)
              ·rw [if_pos c50] at H
               have c50b0 := eq_true c50
               have c50b1 : decide (2 ≤ (((x10_35.extract 0 2) ++ (⟨#[48, 48]⟩ : ByteArray)).size : Int)) = true := decide_eq_true c50
               replace H := Option.bind_eq_some_iff.mp H
               obtain ⟨t456, A510, H⟩ := H
               replace H : ((vernierref01_Number.f kj35 (x10_35.extract 2 x10_35.size)).bind fun t457 => (some (((bt t453 0) == 49), ((bt t452 0) == 49), t454, x456003_16, 2, wrap64 (t456), wrap64 ((x10_35.size : Int) - 2), t457, 0))) = some (r1, r2, r3, r4, r5, r6, r7, r8, r9) := H
               have A51 := am_ A510
               clear A510
               have c52b0 := eq_true (of_decide_eq_true (by first | (with_reducible assumption) | assumption) : 2 ≤ (x10_35.size : Int))
               replace H := Option.bind_eq_some_iff.mp H
               obtain ⟨t457, A530, H⟩ := H
               replace H : (some (((bt t453 0) == 49), ((bt t452 0) == 49), t454, x456003_16, 2, wrap64 (t456), wrap64 ((x10_35.size : Int) - 2), t457, 0)) = some (r1, r2, r3, r4, r5, r6, r7, r8, r9) := H
               have A53 := am_ A530
               clear A530
               simp only [Option.some.injEq, Prod.mk.injEq] at H
               obtain ⟨rfl, rfl, rfl, rfl, rfl, rfl, rfl, rfl, rfl⟩ := H
               have hnb54 := NB455_449.out
               have hnc54 := NB449_455.out
               obtain ⟨hcz55_0, hcz55_1, hcz55_2, hcz55_3, hcz55_4, hcz55_5, hcz55_6, hcz55_7, hfz55_0⟩ := zc8_ BK455.out
               go_wp2_with (first | ((with_reducible refine gate_callee (f := 53) rfl ?_);refine goesL_ (some 74) rfl rfl Try.func53 (by kernel_rfl) rfl #[.string (((x10_35.extract 0 2) ++ (⟨#[48, 48]⟩ : ByteArray)).extract 0 2)] rfl z5_ ?_;(with_reducible refine (vernierref01_Number.calls kj35 (((x10_35.extract 0 2) ++ (⟨#[48, 48]⟩ : ByteArray)).extract 0 2) t456 _ A51.out).mono ?_);rintro e w' ⟨rfl, ⟨nd, rfl⟩⟩;refine ⟨_, rfl, ?_⟩) | ((with_reducible refine gate_callee (f := 53) rfl ?_);refine goesL_ (some 87) rfl rfl Try.func53 (by kernel_rfl) rfl #[.string (x10_35.extract 2 x10_35.size)] rfl z5_ ?_;(with_reducible refine (vernierref01_Number.calls kj35 (x10_35.extract 2 x10_35.size) t457 _ A53.out).mono ?_);rintro e w' ⟨rfl, ⟨nd, rfl⟩⟩;refine ⟨_, rfl, ?_⟩;obtain ⟨hcz56_0, hcz56_1, hcz56_2, hcz56_3, hcz56_4, hcz56_5, hcz56_6, hcz56_7, hfz56_0⟩ := zc8_ BK449.out))
               refine bodyPost_ret (results_ct rfl _ _ gb449 86 #[.bool ((bt t453 0) == 49),.bool ((bt t452 0) == 49),.int .i64 t454,.int .i64 x456003_16,.int .i64 2,.int .i64 (wrap64 (t456)),.int .i64 (wrap64 ((x10_35.size : Int) - 2)),.int .u64 t457] (0, 0) _ rfl (by refine z2_ ?_;refine blk_put (cs := #[.bool ((bt t453 0) == 49),.bool ((bt t452 0) == 49),.int .i64 t454,.int .i64 x456003_16,.int .i64 2,.int .i64 (wrap64 (t456)),.int .i64 (wrap64 ((x10_35.size : Int) - 2)),.int .u64 0]) ?_ 7 _ rfl;refine z2_ ?_;refine blk_put (cs := #[.bool ((bt t453 0) == 49),.bool ((bt t452 0) == 49),.int .i64 t454,.int .i64 x456003_16,.int .i64 2,.int .i64 (wrap64 (t456)),.int .i64 0,.int .u64 0]) ?_ 6 _ rfl;refine z2_ ?_;refine blk_put (cs := #[.bool ((bt t453 0) == 49),.bool ((bt t452 0) == 49),.int .i64 t454,.int .i64 x456003_16,.int .i64 2,.int .i64 0,.int .i64 0,.int .u64 0]) ?_ 5 _ rfl;refine z2_ ?_;refine blk_put (cs := #[.bool ((bt t453 0) == 49),.bool ((bt t452 0) == 49),.int .i64 t454,.int .i64 x456003_16,.int .i64 0,.int .i64 0,.int .i64 0,.int .u64 0]) ?_ 4 _ rfl;refine z2_ ?_;refine blk_put (cs := #[.bool ((bt t453 0) == 49),.bool ((bt t452 0) == 49),.int .i64 t454,.int .i64 0,.int .i64 0,.int .i64 0,.int .i64 0,.int .u64 0]) ?_ 3 _ rfl;refine z2_ ?_;refine blk_put (cs := #[.bool ((bt t453 0) == 49),.bool ((bt t452 0) == 49),.int .i64 0,.int .i64 0,.int .i64 0,.int .i64 0,.int .i64 0,.int .u64 0]) ?_ 2 _ rfl;refine z2_ ?_;refine blk_put (cs := #[.bool ((bt t453 0) == 49),.bool false,.int .i64 0,.int .i64 0,.int .i64 0,.int .i64 0,.int .i64 0,.int .u64 0]) ?_ 1 _ rfl;refine z2_ ?_;refine blk_put (cs := #[.bool false,.bool false,.int .i64 0,.int .i64 0,.int .i64 0,.int .i64 0,.int .i64 0,.int .u64 0]) ?_ 0 _ rfl;refine z2_ ?_;refine blk_far ?_ NB449_455.out _;refine z2_ ?_;refine blk_far ?_ NB449_455.out _;refine z2_ ?_;refine blk_far ?_ NB449_455.out _;refine z2_ ?_;refine blk_far ?_ NB449_455.out _;refine z2_ ?_;refine blk_far ?_ NB449_455.out _;refine z2_ ?_;exact BK449.out) Try.underlying86 rfl (by kernel_rfl)) rfl ?_
               exact ⟨z6_, z3_ HB.out⟩
              ·rw [if_neg c50] at H
               exact absurd H (by simp)
             ·rw [if_neg c48] at H
              exact absurd H (by simp)
            ·rw [if_neg c47] at H
             exact absurd H (by simp)
           ·rw [if_neg c46] at H
            exact absurd H (by simp)
          ·rw [if_neg c45] at H
           have c45b0 : decide (2 < (x10_35.size : Int)) = false := decide_eq_false c45
           have c45b1 : decide (2 < x10_35.size) = false := decide_eq_false (by omega)
           clear c45
           by_cases c57 : 0 ≤ (x10_35.size : Int)
           ·rw [if_pos c57] at H
            have c57b0 := eq_true c57
            have c57b1 : decide (0 ≤ (x10_35.size : Int)) = true := decide_eq_true c57
            clear c57
            by_cases c58 : (x10_35.size : Int) ≤ (x10_35.size : Int)
            ·rw [if_pos c58] at H
             have c58b0 := eq_true c58
             have c58b1 : decide ((x10_35.size : Int) ≤ (x10_35.size : Int)) = true := decide_eq_true c58
             clear c58
             by_cases c59 : (x10_35.extract 0 ((x10_35.size : Int) : Int).toNat).size + 2 ≤ 9223372036854775807
             ·rw [if_pos c59] at H
              have c59b0 := eq_true c59
              have c59b1 : decide ((x10_35.extract 0 ((x10_35.size : Int) : Int).toNat).size + 2 ≤ 9223372036854775807) = true := decide_eq_true c59
              try have c59b2 : (9223372036854775807 < (x10_35.extract 0 ((x10_35.size : Int) : Int).toNat).size + 2) = False := eq_false (Nat.not_lt.2 c59)
              (try (have c59b9 : (9223372036854775807 < x10_35.size + 2) = False := by have h_ := c59b2;rw [show x10_35.extract 0 ((x10_35.size : Int) : Int).toNat = x10_35 by simp] at h_;exact h_))
              (try (have c59e0 := c59b0;simp only [ByteArray.size_extract, Nat.min_self, Nat.sub_zero] at c59e0))
              (try (have c59e1 := c59b1;simp only [ByteArray.size_extract, Nat.min_self, Nat.sub_zero] at c59e1))
              (try (have c59e2 := c59b2;simp only [ByteArray.size_extract, Nat.min_self, Nat.sub_zero] at c59e2))
              by_cases c60 : 0 ≤ 2
              ·rw [if_pos c60] at H
               have c60b0 := eq_true c60
               have c60b1 : decide (0 ≤ 2) = true := decide_eq_true c60
               clear c60
               by_cases c61 : 2 ≤ (((x10_35.extract 0 ((x10_35.size : Int) : Int).toNat) ++ (⟨#[48, 48]⟩ : ByteArray)).size : Int)
               ·rw [if_pos c61] at H
                have c61b0 := eq_true c61
                have c61b1 : decide (2 ≤ (((x10_35.extract 0 ((x10_35.size : Int) : Int).toNat) ++ (⟨#[48, 48]⟩ : ByteArray)).size : Int)) = true := decide_eq_true c61
                replace H := Option.bind_eq_some_iff.mp H
                obtain ⟨t458, A620, H⟩ := H
                replace H : ((vernierref01_Number.f kj35 (x10_35.extract ((x10_35.size : Int) : Int).toNat x10_35.size)).bind fun t459 => (some (((bt t453 0) == 49), ((bt t452 0) == 49), t454, x456003_16, (x10_35.size : Int), wrap64 (t458), wrap64 ((x10_35.size : Int) - (x10_35.size : Int)), t459, 0))) = some (r1, r2, r3, r4, r5, r6, r7, r8, r9) := H
                have A62 := am_ A620
                (try rw [show x10_35.extract 0 ((x10_35.size : Int) : Int).toNat = x10_35 by simp] at A62)
                (try rw [show x10_35.extract ((x10_35.size : Int) : Int).toNat x10_35.size = ByteArray.empty by simp] at A62)
                clear A620
                have c63b0 := eq_true (of_decide_eq_true (by first | (with_reducible assumption) | assumption) : 0 ≤ (x10_35.size : Int))
                have c64b0 := eq_true (of_decide_eq_true (by first | (with_reducible assumption) | assumption) : (x10_35.size : Int) ≤ (x10_35.size : Int))
                replace H := Option.bind_eq_some_iff.mp H
                obtain ⟨t459, A650, H⟩ := H
                replace H : (some (((bt t453 0) == 49), ((bt t452 0) == 49), t454, x456003_16, (x10_35.size : Int), wrap64 (t458), wrap64 ((x10_35.size : Int) - (x10_35.size : Int)), t459, 0)) = some (r1, r2, r3, r4, r5, r6, r7, r8, r9) := H
                have A65 := am_ A650
                (try rw [show x10_35.extract 0 ((x10_35.size : Int) : Int).toNat = x10_35 by simp] at A65)
                (try rw [show x10_35.extract ((x10_35.size : Int) : Int).toNat x10_35.size = ByteArray.empty by simp] at A65)
                clear A650
                (try rw [show wrap64 ((x10_35.size : Int) - (x10_35.size : Int)) = 0 by unfold wrap64;omega] at H)
                simp only [Option.some.injEq, Prod.mk.injEq] at H
                obtain ⟨rfl, rfl, rfl, rfl, rfl, rfl, rfl, rfl, rfl⟩ := H
                have hnb66 := NB455_449.out
                have hnc66 := NB449_455.out
                obtain ⟨hcz67_0, hcz67_1, hcz67_2, hcz67_3, hcz67_4, hcz67_5, hcz67_6, hcz67_7, hfz67_0⟩ := zc8_ BK455.out
                go_wp2_with (first | ((with_reducible refine gate_callee (f := 53) rfl ?_);refine goesL_ (some 74) rfl rfl Try.func53 (by kernel_rfl) rfl #[.string ((x10_35 ++ (⟨#[48, 48]⟩ : ByteArray)).extract 0 2)] rfl z5_ ?_;(with_reducible refine (vernierref01_Number.calls kj35 ((x10_35 ++ (⟨#[48, 48]⟩ : ByteArray)).extract 0 2) t458 _ A62.out).mono ?_);rintro e w' ⟨rfl, ⟨nd, rfl⟩⟩;refine ⟨_, rfl, ?_⟩) | ((with_reducible refine gate_callee (f := 53) rfl ?_);refine goesL_ (some 87) rfl rfl Try.func53 (by kernel_rfl) rfl #[.string ByteArray.empty] rfl z5_ ?_;(with_reducible refine (vernierref01_Number.calls kj35 ByteArray.empty t459 _ A65.out).mono ?_);rintro e w' ⟨rfl, ⟨nd, rfl⟩⟩;refine ⟨_, rfl, ?_⟩;obtain ⟨hcz68_0, hcz68_1, hcz68_2, hcz68_3, hcz68_4, hcz68_5, hcz68_6, hcz68_7, hfz68_0⟩ := zc8_ BK449.out))
                refine bodyPost_ret (results_ct rfl _ _ gb449 86 #[.bool ((bt t453 0) == 49),.bool ((bt t452 0) == 49),.int .i64 t454,.int .i64 x456003_16,.int .i64 (x10_35.size : Int),.int .i64 (wrap64 (t458)),.int .i64 0,.int .u64 t459] (0, 0) _ rfl (by refine z2_ ?_;refine blk_put (cs := #[.bool ((bt t453 0) == 49),.bool ((bt t452 0) == 49),.int .i64 t454,.int .i64 x456003_16,.int .i64 (x10_35.size : Int),.int .i64 (wrap64 (t458)),.int .i64 0,.int .u64 0]) ?_ 7 _ rfl;refine z2_ ?_;refine blk_put (cs := #[.bool ((bt t453 0) == 49),.bool ((bt t452 0) == 49),.int .i64 t454,.int .i64 x456003_16,.int .i64 (x10_35.size : Int),.int .i64 (wrap64 (t458)),.int .i64 0,.int .u64 0]) ?_ 6 _ (by first | rfl | (unfold wrap64;rfl) | simp [wrap64]);refine z2_ ?_;refine blk_put (cs := #[.bool ((bt t453 0) == 49),.bool ((bt t452 0) == 49),.int .i64 t454,.int .i64 x456003_16,.int .i64 (x10_35.size : Int),.int .i64 0,.int .i64 0,.int .u64 0]) ?_ 5 _ rfl;refine z2_ ?_;refine blk_put (cs := #[.bool ((bt t453 0) == 49),.bool ((bt t452 0) == 49),.int .i64 t454,.int .i64 x456003_16,.int .i64 0,.int .i64 0,.int .i64 0,.int .u64 0]) ?_ 4 _ rfl;refine z2_ ?_;refine blk_put (cs := #[.bool ((bt t453 0) == 49),.bool ((bt t452 0) == 49),.int .i64 t454,.int .i64 0,.int .i64 0,.int .i64 0,.int .i64 0,.int .u64 0]) ?_ 3 _ rfl;refine z2_ ?_;refine blk_put (cs := #[.bool ((bt t453 0) == 49),.bool ((bt t452 0) == 49),.int .i64 0,.int .i64 0,.int .i64 0,.int .i64 0,.int .i64 0,.int .u64 0]) ?_ 2 _ rfl;refine z2_ ?_;refine blk_put (cs := #[.bool ((bt t453 0) == 49),.bool false,.int .i64 0,.int .i64 0,.int .i64 0,.int .i64 0,.int .i64 0,.int .u64 0]) ?_ 1 _ rfl;refine z2_ ?_;refine blk_put (cs := #[.bool false,.bool false,.int .i64 0,.int .i64 0,.int .i64 0,.int .i64 0,.int .i64 0,.int .u64 0]) ?_ 0 _ rfl;refine z2_ ?_;refine blk_far ?_ NB449_455.out _;refine z2_ ?_;refine blk_far ?_ NB449_455.out _;refine z2_ ?_;refine blk_far ?_ NB449_455.out _;refine z2_ ?_;refine blk_far ?_ NB449_455.out _;refine z2_ ?_;exact BK449.out) Try.underlying86 rfl (by kernel_rfl)) rfl ?_
                exact ⟨z6_, z3_ HB.out⟩
               ·rw [if_neg c61] at H
                exact absurd H (by simp)
              ·rw [if_neg c60] at H
               exact absurd H (by simp)
             ·rw [if_neg c59] at H
              exact absurd H (by simp)
            ·rw [if_neg c58] at H
             exact absurd H (by simp)
           ·rw [if_neg c57] at H
            exact absurd H (by simp)
     ·rw [if_neg c14] at H
      exact absurd H (by simp)
    ·rw [if_neg c12] at H
     exact absurd H (by simp)
end Go.Proofs.Ytebhpipfkomhjaa.PAll
namespace Go.Proofs.Ytebhpipfkomhjaa.PAll
open Go.RowKit Go.Proofs.YtebhpipfkomhjaaW.PrintWords Go.Proofs.YtebhpipfkomhjaaW.PrintLast Go.Proofs.YtebhpipfkomhjaaW.PrintMore
attribute [local go_sem] max2_int min2_int max_two min_two max_three min_three max_four min_four
set_option linter.unusedVariables false
set_option linter.unusedSimpArgs false
mutual
def vernierref06_Decodes.j0 : Nat → Int → Int → Int → Int → Bool → Option (Int × Bool × Int × Int × Int)
 | 0, _, _, _, _, _ => none
 | k + 1, x0, x1, x6, x7, x23 => if x23 = true then (some (x6, false,0, 0, x7)) else ((vernierref06_Split.f k x0 x1).bind fun bt463 => ((vernierref01_Text.f k bt463.2.2.2.2.2.2.2.1 bt463.2.2.2.2.2.2.1).bind fun t474 => (if 1 + t474.size ≤ 9223372036854775807 then (vernierref06_Decodes.l0 k ((⟨#[49]⟩ : ByteArray) ++ t474) x6 bt463.1 (wrap64 ((wrap64 (4 * bt463.2.2.2.1)) + bt463.2.2.2.2.2.1)) 0) else (none))))
def vernierref06_Decodes.l0 : Nat → ByteArray → Int → Bool → Int → Int → Option (Int × Bool × Int × Int × Int)
 | 0, _, _, _, _, _ => none
 | k + 1, x11, x474000, x474001, x474002, x474003 => if (x11.size : Int) < 64 then (if x11.size + 1 ≤ 9223372036854775807 then (vernierref06_Decodes.l0 k (x11 ++ (⟨#[48]⟩ : ByteArray)) x474000 x474001 x474002 x474003) else (none)) else ((vernierref01_Number.f k x11).bind fun t475 => (some (x474000, x474001, x474002, t475, 0)))
end
def vernierref06_Decodes.f (k : Nat) (a0 : Int) (a1 : Int) : Option (Int × Bool × Int × Int × Int) := (vernierref05_Kind.f k a0 a1).bind fun bt461 => (if bt461.2 = 0 then (vernierref06_Decodes.j0 k a0 a1 bt461.1 bt461.2 (bt461.1 != 1)) else (vernierref06_Decodes.j0 k a0 a1 bt461.1 bt461.2 true))
theorem vernierref06_Decodes.mono_l : ∀ k, (∀ y0 y1 y2 y3 y4, LeO (vernierref06_Decodes.j0 k y0 y1 y2 y3 y4) (vernierref06_Decodes.j0 (k + 1) y0 y1 y2 y3 y4)) ∧ (∀ y0 y1 y2 y3 y4, LeO (vernierref06_Decodes.l0 k y0 y1 y2 y3 y4) (vernierref06_Decodes.l0 (k + 1) y0 y1 y2 y3 y4))
 | 0 => ⟨fun _ _ _ _ _ r h => by simp [vernierref06_Decodes.j0] at h, fun _ _ _ _ _ r h => by simp [vernierref06_Decodes.l0] at h⟩
 | k + 1 => by
  obtain ⟨ih0, ih1⟩ := vernierref06_Decodes.mono_l k
  refine ⟨?_, ?_⟩
  ·intro y0 y1 y2 y3 y4
   unfold vernierref06_Decodes.j0
   repeat' first
   | (with_reducible exact ih0 _ _ _ _ _)
   | (with_reducible exact ih1 _ _ _ _ _)
   | (with_reducible exact vernierref01_Number.mono _ _)
   | (with_reducible exact vernierref01_Text.mono _ _ _)
   | (with_reducible exact vernierref05_Kind.mono _ _ _)
   | (with_reducible exact vernierref06_Split.mono _ _ _)
   | (with_reducible exact LeO.refl _)
   | (with_reducible exact LeO.none _)
   | (with_reducible refine LeO.ite ?_ ?_)
   | (with_reducible refine LeO.bind ?_ (fun _ => ?_))
   | exact ih0 _ _ _ _ _
   | exact ih1 _ _ _ _ _
   | exact vernierref01_Number.mono _ _
   | exact vernierref01_Text.mono _ _ _
   | exact vernierref05_Kind.mono _ _ _
   | exact vernierref06_Split.mono _ _ _
   | exact LeO.none _
   | refine LeO.ite ?_ ?_
   | refine LeO.bind ?_ (fun _ => ?_)
  ·intro y0 y1 y2 y3 y4
   unfold vernierref06_Decodes.l0
   repeat' first
   | (with_reducible exact ih0 _ _ _ _ _)
   | (with_reducible exact ih1 _ _ _ _ _)
   | (with_reducible exact vernierref01_Number.mono _ _)
   | (with_reducible exact vernierref01_Text.mono _ _ _)
   | (with_reducible exact vernierref05_Kind.mono _ _ _)
   | (with_reducible exact vernierref06_Split.mono _ _ _)
   | (with_reducible exact LeO.refl _)
   | (with_reducible exact LeO.none _)
   | (with_reducible refine LeO.ite ?_ ?_)
   | (with_reducible refine LeO.bind ?_ (fun _ => ?_))
   | exact ih0 _ _ _ _ _
   | exact ih1 _ _ _ _ _
   | exact vernierref01_Number.mono _ _
   | exact vernierref01_Text.mono _ _ _
   | exact vernierref05_Kind.mono _ _ _
   | exact vernierref06_Split.mono _ _ _
   | exact LeO.none _
   | refine LeO.ite ?_ ?_
   | refine LeO.bind ?_ (fun _ => ?_)
theorem vernierref06_Decodes.mono : ∀ a0 a1 k, LeO (vernierref06_Decodes.f k a0 a1) (vernierref06_Decodes.f (k + 1) a0 a1) := by
 intro a0 a1 k
 obtain ⟨ih0, ih1⟩ := vernierref06_Decodes.mono_l k
 unfold vernierref06_Decodes.f
 repeat' first
   | (with_reducible exact ih0 _ _ _ _ _)
   | (with_reducible exact ih1 _ _ _ _ _)
   | (with_reducible exact vernierref01_Number.mono _ _)
   | (with_reducible exact vernierref01_Text.mono _ _ _)
   | (with_reducible exact vernierref05_Kind.mono _ _ _)
   | (with_reducible exact vernierref06_Split.mono _ _ _)
   | (with_reducible exact LeO.refl _)
   | (with_reducible exact LeO.none _)
   | (with_reducible refine LeO.ite ?_ ?_)
   | (with_reducible refine LeO.bind ?_ (fun _ => ?_))
   | exact ih0 _ _ _ _ _
   | exact ih1 _ _ _ _ _
   | exact vernierref01_Number.mono _ _
   | exact vernierref01_Text.mono _ _ _
   | exact vernierref05_Kind.mono _ _ _
   | exact vernierref06_Split.mono _ _ _
   | exact LeO.none _
   | refine LeO.ite ?_ ?_
   | refine LeO.bind ?_ (fun _ => ?_)
set_option maxHeartbeats 8000000 in
set_option maxRecDepth 100000 in
theorem vernierref06_Decodes.calls (k : Nat) (a0 : Int) (a1 : Int) (r1 : Int) (r2 : Bool) (r3 : Int) (r4 : Int) (r5 : Int) (w : World) (h : vernierref06_Decodes.f k a0 a1 = some (r1, r2, r3, r4, r5)) :
  Calls Try.prog 72 #[.int .i64 a0,.int .u64 a1] w fun e w' => e = .returned (.tuple #[.agg #[.int .i64 r1,.bool r2,.int .i64 r3,.int .u64 r4],.int .i64 r5]) ∧ Below w.heap.size w w' := by
 have hu24 := Try.underlying24
 have hu86 := Try.underlying86
 have HB := am_ (Below.refl w.heap.size w)
 have H : ((vernierref05_Kind.f k a0 a1).bind fun bt461 => (if bt461.2 = 0 then (vernierref06_Decodes.j0 k a0 a1 bt461.1 bt461.2 (bt461.1 != 1)) else (vernierref06_Decodes.j0 k a0 a1 bt461.1 bt461.2 true))) = some (r1, r2, r3, r4, r5) := h
 clear h
 replace H := Option.bind_eq_some_iff.mp H
 obtain ⟨⟨t461, t462⟩, A30, H⟩ := H
 replace H : (if t462 = 0 then (vernierref06_Decodes.j0 k a0 a1 t461 t462 (t461 != 1)) else (vernierref06_Decodes.j0 k a0 a1 t461 t462 true)) = some (r1, r2, r3, r4, r5) := H
 have A3 := am_ A30
 clear A30
 have HC4 := am_ H
 clear H
 go_enter Try.func72, Try.ntmps72
 go_upto_region 2 with (first | ((with_reducible refine gate_dst (N := 4) rfl ?_);refine box_event ?hg (N := 4) ?hd (cs := #[.int .i64 0,.bool false,.int .i64 0,.int .u64 0]) (t := 24) ?hr ?_;(case hd => rfl);(case hg => rfl);(case hr => first | (go_simp;done) | (go_simp;rfl));intro gb460 hg w5 hbox hb;have n0_ := am_ (below_step (z3_ HB.out) hb);have n1_ := am_ (hbox);have n2_ := am_ ((by rw [hg];exact (below_size (z3_ HB.out)) : w.heap.size ≤ gb460));have n3_ := am_ ((by rw [hg];exact (below_size (z3_ HB.out)) : w.heap.size ≤ gb460));clear HB;have HB := n0_;have BK460 := n1_;have GW460 := n2_;have GE460 := n3_;clear n0_ n1_ n2_ n3_;clear hb hbox hg) | ((with_reducible refine gate_callee (f := 35) rfl ?_);refine goesL_ (some 15) rfl rfl Try.func35 (by kernel_rfl) rfl #[.int .i64 a0,.int .u64 a1] rfl z5_ ?_;(with_reducible refine (vernierref05_Kind.calls k a0 a1 t461 t462 _ A3.out).mono ?_);rintro e w6 ⟨rfl, hb⟩;refine ⟨_, rfl, ?_⟩;have n0_ := am_ (blk_below (g := gb460) (z1_ BK460.out) hb);have n1_ := am_ (below_step (z3_ HB.out) hb);clear BK460;clear HB;have BK460 := n0_;have HB := n1_;clear n0_ n1_;(try clear hb)))
 (try simp only [Act.put, List.setIfInBounds_toArray, List.set_cons_zero, List.set_cons_succ])
 go_cut [23] (fun v23 wc => ∃ (kq : Nat) (x23_3 : Bool), v23 = .bool x23_3 ∧ Aside0 (vernierref06_Decodes.j0 kq a0 a1 t461 t462 x23_3 = some (r1, r2, r3, r4, r5)) ∧ Aside0 (kq ≤ k) ∧ Aside0 (wc.heap[gb460]? = some (.cells #[.int .i64 0,.bool false,.int .i64 0,.int .u64 0] 24 (0, 0))) ∧ Aside0 (Below w.heap.size w wc))
 case first =>
  have H := HC4.out
  clear HC4
  by_cases c7 : t462 = 0
  ·rw [if_pos c7] at H
   have c7b0 : (t462 == 0) = true := beq_iff_eq.mpr c7
   have c7b1 : (t462 != 0) = false := bne_eq_false_iff_eq.mpr c7
   clear c7
   (first | rw [c7b0] | (simp only [i64_w, i32_w];rw [c7b0]) | skip)
   have H' := am_ H
   clear H
   go_wp2
   go_meet
   case rel => exact ⟨_, ((t461 != 1)), (by first | rfl | (simp;done) | (simp [*];done)), H', ⟨by first | omega | exact Nat.le_refl _⟩, ⟨by refine z2_ ?_;exact BK460.out⟩, ⟨z3_ HB.out⟩⟩
  ·rw [if_neg c7] at H
   have c7b0 : (t462 == 0) = false := beq_eq_false_iff_ne.mpr c7
   have c7b1 : (t462 != 0) = true := bne_iff_ne.mpr c7
   (first | rw [c7b0] | (simp only [i64_w, i32_w];rw [c7b0]) | skip)
   have H' := am_ H
   clear H
   go_wp2
   go_meet
   case rel => exact ⟨_, (true), (by first | rfl | (simp;done) | (simp [*];done)), H', ⟨by first | omega | exact Nat.le_refl _⟩, ⟨by refine z2_ ?_;exact BK460.out⟩, ⟨z3_ HB.out⟩⟩
 case rest =>
  clear HC4
  obtain ⟨kq, x23_3, rfl, HA, HJ3, BK460, HB⟩ := hcut
  cases kq with
  | zero => exact absurd HA.out (by simp [vernierref06_Decodes.j0])
  | succ kj3 =>
   have H := HA.out
   clear HA
   simp only [vernierref06_Decodes.j0] at H
   by_cases c8 : x23_3 = true
   ·subst c8
    have H1 : (some (t461, false,0, 0, t462)) = some (r1, r2, r3, r4, r5) := by rw [if_pos rfl] at H;exact H
    clear H
    have H := H1
    clear H1
    simp only [Option.some.injEq, Prod.mk.injEq] at H
    obtain ⟨rfl, rfl, rfl, rfl, rfl⟩ := H
    obtain ⟨hcz9_0, hcz9_1, hcz9_2, hcz9_3, hfz9_0⟩ := zc4_ BK460.out
    go_wp2
    refine bodyPost_ret (results_ct rfl _ _ gb460 24 #[.int .i64 t461,.bool false,.int .i64 0,.int .u64 0] (0, 0) _ rfl (by refine z2_ ?_;refine blk_put (cs := #[.int .i64 t461,.bool false,.int .i64 0,.int .u64 0]) ?_ 3 _ rfl;refine z2_ ?_;refine blk_put (cs := #[.int .i64 t461,.bool false,.int .i64 0,.int .u64 0]) ?_ 2 _ rfl;refine z2_ ?_;refine blk_put (cs := #[.int .i64 t461,.bool false,.int .i64 0,.int .u64 0]) ?_ 1 _ rfl;refine z2_ ?_;refine blk_put (cs := #[.int .i64 0,.bool false,.int .i64 0,.int .u64 0]) ?_ 0 _ rfl;refine z2_ ?_;exact BK460.out) Try.underlying24 rfl (by kernel_rfl)) rfl ?_
    exact ⟨z6_, z3_ HB.out⟩
   ·replace c8 := Bool.eq_false_iff.mpr c8
    subst c8
    have H1 : ((vernierref06_Split.f kj3 a0 a1).bind fun bt463 => ((vernierref01_Text.f kj3 bt463.2.2.2.2.2.2.2.1 bt463.2.2.2.2.2.2.1).bind fun t474 => (if 1 + t474.size ≤ 9223372036854775807 then (vernierref06_Decodes.l0 kj3 ((⟨#[49]⟩ : ByteArray) ++ t474) t461 bt463.1 (wrap64 ((wrap64 (4 * bt463.2.2.2.1)) + bt463.2.2.2.2.2.1)) 0) else (none)))) = some (r1, r2, r3, r4, r5) := by rw [if_neg (show ¬ (false = true) by decide)] at H;exact H
    clear H
    have H := H1
    clear H1
    replace H := Option.bind_eq_some_iff.mp H
    obtain ⟨⟨t463, t464, t465, t466, t467, t468, t469, t470, t471⟩, A100, H⟩ := H
    replace H : ((vernierref01_Text.f kj3 t470 t469).bind fun t474 => (if 1 + t474.size ≤ 9223372036854775807 then (vernierref06_Decodes.l0 kj3 ((⟨#[49]⟩ : ByteArray) ++ t474) t461 t463 (wrap64 ((wrap64 (4 * t466)) + t468)) 0) else (none))) = some (r1, r2, r3, r4, r5) := H
    have A10 := am_ A100
    clear A100
    replace H := Option.bind_eq_some_iff.mp H
    obtain ⟨t474, A110, H⟩ := H
    replace H : (if 1 + t474.size ≤ 9223372036854775807 then (vernierref06_Decodes.l0 kj3 ((⟨#[49]⟩ : ByteArray) ++ t474) t461 t463 (wrap64 ((wrap64 (4 * t466)) + t468)) 0) else (none)) = some (r1, r2, r3, r4, r5) := H
    have A11 := am_ A110
    clear A110
    by_cases c12 : 1 + t474.size ≤ 9223372036854775807
    ·rw [if_pos c12] at H
     have c12b0 := eq_true c12
     have c12b1 : decide (1 + t474.size ≤ 9223372036854775807) = true := decide_eq_true c12
     try have c12b2 : (9223372036854775807 < 1 + t474.size) = False := eq_false (Nat.not_lt.2 c12)
     have H' := am_ H
     clear H
     go_wp2_with (first | ((with_reducible refine gate_callee (f := 82) rfl ?_);refine goesL_ (some 30) rfl rfl Try.func82 (by kernel_rfl) rfl #[.int .i64 a0,.int .u64 a1] rfl z5_ ?_;(with_reducible refine (vernierref06_Split.calls kj3 a0 a1 t463 t464 t465 t466 t467 t468 t469 t470 t471 _ A10.out).mono ?_);rintro e w13 ⟨rfl, hb⟩;refine ⟨_, rfl, ?_⟩;have n0_ := am_ (blk_below (g := gb460) (z1_ BK460.out) hb);have n1_ := am_ (below_step (z3_ HB.out) hb);clear BK460;clear HB;have BK460 := n0_;have HB := n1_;clear n0_ n1_;(try clear hb)) | ((with_reducible refine gate_dst (N := 8) rfl ?_);refine box_event ?hg (N := 8) ?hd (cs := #[.bool false,.bool false,.int .i64 0,.int .i64 0,.int .i64 0,.int .i64 0,.int .i64 0,.int .u64 0]) (t := 86) ?hr ?_;(case hd => rfl);(case hg => rfl);(case hr => first | (go_simp;done) | (go_simp;rfl));intro gb472 hg w14 hbox hb;have n0_ := am_ (blk_below (g := gb460) (z1_ BK460.out) hb);have n1_ := am_ (below_step (z3_ HB.out) hb);have n2_ := am_ (hbox);have n3_ := am_ ((by rw [hg];exact (below_size (z3_ HB.out)) : w.heap.size ≤ gb472));have n4_ := am_ ((by rw [hg];exact (below_size (z3_ HB.out)) : w.heap.size ≤ gb472));have n5_ := am_ ((by rw [hg];exact Nat.ne_of_lt (blk_lt (g := gb460) (o := .cells #[.int .i64 0,.bool false,.int .i64 0,.int .u64 0] 24 (0, 0)) (z1_ BK460.out)) : gb460 ≠ gb472));have n6_ := am_ ((by rw [hg];exact Nat.ne_of_gt (blk_lt (g := gb460) (o := .cells #[.int .i64 0,.bool false,.int .i64 0,.int .u64 0] 24 (0, 0)) (z1_ BK460.out)) : gb472 ≠ gb460));clear BK460;clear HB;have BK460 := n0_;have HB := n1_;have BK472 := n2_;have GW472 := n3_;have GE472 := n4_;have NB460_472 := n5_;have NB472_460 := n6_;clear n0_ n1_ n2_ n3_ n4_ n5_ n6_;clear hb hbox hg;have hnb15 := NB472_460.out;have hnc15 := NB460_472.out;obtain ⟨hcz16_0, hcz16_1, hcz16_2, hcz16_3, hcz16_4, hcz16_5, hcz16_6, hcz16_7, hfz16_0⟩ := zc8_ BK472.out) | ((with_reducible refine gate_dst (N := 10) rfl ?_);refine box_event ?hg (N := 10) ?hd (cs := #[.int .i64 0,.bool false,.int .i64 0,.int .u64 0]) (t := 24) ?hr ?_;(case hd => rfl);(case hg => rfl);(case hr => first | (go_simp;done) | (go_simp;rfl));intro gb473 hg w17 hbox hb;have n0_ := am_ (blk_below (g := gb460) (o := .cells #[.int .i64 0,.bool false,.int .i64 0,.int .u64 0] 24 (0, 0)) (by refine z2_ ?_;refine blk_far ?_ NB460_472.out _;refine z2_ ?_;refine blk_far ?_ NB460_472.out _;refine z2_ ?_;refine blk_far ?_ NB460_472.out _;refine z2_ ?_;refine blk_far ?_ NB460_472.out _;refine z2_ ?_;refine blk_far ?_ NB460_472.out _;refine z2_ ?_;refine blk_far ?_ NB460_472.out _;refine z2_ ?_;refine blk_far ?_ NB460_472.out _;refine z2_ ?_;refine blk_far ?_ NB460_472.out _;refine z2_ ?_;exact BK460.out) hb);have n1_ := am_ (blk_below (g := gb472) (o := .cells #[.bool t463,.bool t464,.int .i64 t465,.int .i64 t466,.int .i64 t467,.int .i64 t468,.int .i64 t469,.int .u64 t470] 86 (0, 0)) (by refine z2_ ?_;refine blk_put (cs := #[.bool t463,.bool t464,.int .i64 t465,.int .i64 t466,.int .i64 t467,.int .i64 t468,.int .i64 t469,.int .u64 0]) ?_ 7 _ rfl;refine z2_ ?_;refine blk_put (cs := #[.bool t463,.bool t464,.int .i64 t465,.int .i64 t466,.int .i64 t467,.int .i64 t468,.int .i64 0,.int .u64 0]) ?_ 6 _ rfl;refine z2_ ?_;refine blk_put (cs := #[.bool t463,.bool t464,.int .i64 t465,.int .i64 t466,.int .i64 t467,.int .i64 0,.int .i64 0,.int .u64 0]) ?_ 5 _ rfl;refine z2_ ?_;refine blk_put (cs := #[.bool t463,.bool t464,.int .i64 t465,.int .i64 t466,.int .i64 0,.int .i64 0,.int .i64 0,.int .u64 0]) ?_ 4 _ rfl;refine z2_ ?_;refine blk_put (cs := #[.bool t463,.bool t464,.int .i64 t465,.int .i64 0,.int .i64 0,.int .i64 0,.int .i64 0,.int .u64 0]) ?_ 3 _ rfl;refine z2_ ?_;refine blk_put (cs := #[.bool t463,.bool t464,.int .i64 0,.int .i64 0,.int .i64 0,.int .i64 0,.int .i64 0,.int .u64 0]) ?_ 2 _ rfl;refine z2_ ?_;refine blk_put (cs := #[.bool t463,.bool false,.int .i64 0,.int .i64 0,.int .i64 0,.int .i64 0,.int .i64 0,.int .u64 0]) ?_ 1 _ rfl;refine z2_ ?_;refine blk_put (cs := #[.bool false,.bool false,.int .i64 0,.int .i64 0,.int .i64 0,.int .i64 0,.int .i64 0,.int .u64 0]) ?_ 0 _ rfl;refine z2_ ?_;exact BK472.out) hb);have n2_ := am_ (below_step (z3_ HB.out) hb);have n3_ := am_ (hbox);have n4_ := am_ ((by rw [hg];exact (below_size (z3_ HB.out)) : w.heap.size ≤ gb473));have n5_ := am_ ((by rw [hg];exact (below_size (z3_ HB.out)) : w.heap.size ≤ gb473));have n6_ := am_ ((by rw [hg];exact Nat.ne_of_lt (blk_lt (g := gb460) (o := .cells #[.int .i64 0,.bool false,.int .i64 0,.int .u64 0] 24 (0, 0)) (by refine z2_ ?_;refine blk_far ?_ NB460_472.out _;refine z2_ ?_;refine blk_far ?_ NB460_472.out _;refine z2_ ?_;refine blk_far ?_ NB460_472.out _;refine z2_ ?_;refine blk_far ?_ NB460_472.out _;refine z2_ ?_;refine blk_far ?_ NB460_472.out _;refine z2_ ?_;refine blk_far ?_ NB460_472.out _;refine z2_ ?_;refine blk_far ?_ NB460_472.out _;refine z2_ ?_;refine blk_far ?_ NB460_472.out _;refine z2_ ?_;exact BK460.out)) : gb460 ≠ gb473));have n7_ := am_ ((by rw [hg];exact Nat.ne_of_gt (blk_lt (g := gb460) (o := .cells #[.int .i64 0,.bool false,.int .i64 0,.int .u64 0] 24 (0, 0)) (by refine z2_ ?_;refine blk_far ?_ NB460_472.out _;refine z2_ ?_;refine blk_far ?_ NB460_472.out _;refine z2_ ?_;refine blk_far ?_ NB460_472.out _;refine z2_ ?_;refine blk_far ?_ NB460_472.out _;refine z2_ ?_;refine blk_far ?_ NB460_472.out _;refine z2_ ?_;refine blk_far ?_ NB460_472.out _;refine z2_ ?_;refine blk_far ?_ NB460_472.out _;refine z2_ ?_;refine blk_far ?_ NB460_472.out _;refine z2_ ?_;exact BK460.out)) : gb473 ≠ gb460));have n8_ := am_ ((by rw [hg];exact Nat.ne_of_lt (blk_lt (g := gb472) (o := .cells #[.bool t463,.bool t464,.int .i64 t465,.int .i64 t466,.int .i64 t467,.int .i64 t468,.int .i64 t469,.int .u64 t470] 86 (0, 0)) (by refine z2_ ?_;refine blk_put (cs := #[.bool t463,.bool t464,.int .i64 t465,.int .i64 t466,.int .i64 t467,.int .i64 t468,.int .i64 t469,.int .u64 0]) ?_ 7 _ rfl;refine z2_ ?_;refine blk_put (cs := #[.bool t463,.bool t464,.int .i64 t465,.int .i64 t466,.int .i64 t467,.int .i64 t468,.int .i64 0,.int .u64 0]) ?_ 6 _ rfl;refine z2_ ?_;refine blk_put (cs := #[.bool t463,.bool t464,.int .i64 t465,.int .i64 t466,.int .i64 t467,.int .i64 0,.int .i64 0,.int .u64 0]) ?_ 5 _ rfl;refine z2_ ?_;refine blk_put (cs := #[.bool t463,.bool t464,.int .i64 t465,.int .i64 t466,.int .i64 0,.int .i64 0,.int .i64 0,.int .u64 0]) ?_ 4 _ rfl;refine z2_ ?_;refine blk_put (cs := #[.bool t463,.bool t464,.int .i64 t465,.int .i64 0,.int .i64 0,.int .i64 0,.int .i64 0,.int .u64 0]) ?_ 3 _ rfl;refine z2_ ?_;refine blk_put (cs := #[.bool t463,.bool t464,.int .i64 0,.int .i64 0,.int .i64 0,.int .i64 0,.int .i64 0,.int .u64 0]) ?_ 2 _ rfl;refine z2_ ?_;refine blk_put (cs := #[.bool t463,.bool false,.int .i64 0,.int .i64 0,.int .i64 0,.int .i64 0,.int .i64 0,.int .u64 0]) ?_ 1 _ rfl;refine z2_ ?_;refine blk_put (cs := #[.bool false,.bool false,.int .i64 0,.int .i64 0,.int .i64 0,.int .i64 0,.int .i64 0,.int .u64 0]) ?_ 0 _ rfl;refine z2_ ?_;exact BK472.out)) : gb472 ≠ gb473));have n9_ := am_ ((by rw [hg];exact Nat.ne_of_gt (blk_lt (g := gb472) (o := .cells #[.bool t463,.bool t464,.int .i64 t465,.int .i64 t466,.int .i64 t467,.int .i64 t468,.int .i64 t469,.int .u64 t470] 86 (0, 0)) (by refine z2_ ?_;refine blk_put (cs := #[.bool t463,.bool t464,.int .i64 t465,.int .i64 t466,.int .i64 t467,.int .i64 t468,.int .i64 t469,.int .u64 0]) ?_ 7 _ rfl;refine z2_ ?_;refine blk_put (cs := #[.bool t463,.bool t464,.int .i64 t465,.int .i64 t466,.int .i64 t467,.int .i64 t468,.int .i64 0,.int .u64 0]) ?_ 6 _ rfl;refine z2_ ?_;refine blk_put (cs := #[.bool t463,.bool t464,.int .i64 t465,.int .i64 t466,.int .i64 t467,.int .i64 0,.int .i64 0,.int .u64 0]) ?_ 5 _ rfl;refine z2_ ?_;refine blk_put (cs := #[.bool t463,.bool t464,.int .i64 t465,.int .i64 t466,.int .i64 0,.int .i64 0,.int .i64 0,.int .u64 0]) ?_ 4 _ rfl;refine z2_ ?_;refine blk_put (cs := #[.bool t463,.bool t464,.int .i64 t465,.int .i64 0,.int .i64 0,.int .i64 0,.int .i64 0,.int .u64 0]) ?_ 3 _ rfl;refine z2_ ?_;refine blk_put (cs := #[.bool t463,.bool t464,.int .i64 0,.int .i64 0,.int .i64 0,.int .i64 0,.int .i64 0,.int .u64 0]) ?_ 2 _ rfl;refine z2_ ?_;refine blk_put (cs := #[.bool t463,.bool false,.int .i64 0,.int .i64 0,.int .i64 0,.int .i64 0,.int .i64 0,.int .u64 0]) ?_ 1 _ rfl;refine z2_ ?_;refine blk_put (cs := #[.bool false,.bool false,.int .i64 0,.int .i64 0,.int .i64 0,.int .i64 0,.int .i64 0,.int .u64 0]) ?_ 0 _ rfl;refine z2_ ?_;exact BK472.out)) : gb473 ≠ gb472));clear BK460;clear BK472;clear HB;have BK460 := n0_;have BK472 := n1_;have HB := n2_;have BK473 := n3_;have GW473 := n4_;have GE473 := n5_;have NB460_473 := n6_;have NB473_460 := n7_;have NB472_473 := n8_;have NB473_472 := n9_;clear n0_ n1_ n2_ n3_ n4_ n5_ n6_ n7_ n8_ n9_;clear hb hbox hg;have hnb18 := NB473_460.out;have hnc18 := NB460_473.out;have hnb19 := NB473_472.out;have hnc19 := NB472_473.out;obtain ⟨hcz20_0, hcz20_1, hcz20_2, hcz20_3, hfz20_0⟩ := zc4_ BK473.out;obtain ⟨hcz21_0, hcz21_1, hcz21_2, hcz21_3, hcz21_4, hcz21_5, hcz21_6, hcz21_7, hfz21_0⟩ := zc8_ BK472.out) | ((with_reducible refine gate_callee (f := 54) rfl ?_);refine goesL_ (some 47) rfl rfl Try.func54 (by kernel_rfl) rfl #[.int .u64 t470,.int .i64 t469] rfl z5_ ?_;(with_reducible refine (vernierref01_Text.calls kj3 t470 t469 t474 _ A11.out).mono ?_);rintro e w22 ⟨rfl, hb⟩;refine ⟨_, rfl, ?_⟩;have n0_ := am_ (blk_below (g := gb460) (o := .cells #[.int .i64 0,.bool false,.int .i64 0,.int .u64 0] 24 (0, 0)) (by refine z2_ ?_;refine blk_far ?_ NB460_473.out _;refine z2_ ?_;refine blk_far ?_ NB460_473.out _;refine z2_ ?_;refine blk_far ?_ NB460_473.out _;refine z2_ ?_;refine blk_far ?_ NB460_473.out _;refine z2_ ?_;exact BK460.out) hb);have n1_ := am_ (blk_below (g := gb472) (o := .cells #[.bool t463,.bool t464,.int .i64 t465,.int .i64 t466,.int .i64 t467,.int .i64 t468,.int .i64 t469,.int .u64 t470] 86 (0, 0)) (by refine z2_ ?_;refine blk_far ?_ NB472_473.out _;refine z2_ ?_;refine blk_far ?_ NB472_473.out _;refine z2_ ?_;refine blk_far ?_ NB472_473.out _;refine z2_ ?_;refine blk_far ?_ NB472_473.out _;refine z2_ ?_;exact BK472.out) hb);have n2_ := am_ (blk_below (g := gb473) (o := .cells #[.int .i64 t461,.bool t463,.int .i64 (wrap64 ((wrap64 (4 * t466)) + t468)),.int .u64 0] 24 (0, 0)) (by refine z2_ ?_;refine blk_put (cs := #[.int .i64 t461,.bool t463,.int .i64 (wrap64 ((wrap64 (4 * t466)) + t468)),.int .u64 0]) ?_ 3 _ rfl;refine z2_ ?_;refine blk_put (cs := #[.int .i64 t461,.bool t463,.int .i64 0,.int .u64 0]) ?_ 2 _ rfl;refine z2_ ?_;refine blk_put (cs := #[.int .i64 t461,.bool false,.int .i64 0,.int .u64 0]) ?_ 1 _ rfl;refine z2_ ?_;refine blk_put (cs := #[.int .i64 0,.bool false,.int .i64 0,.int .u64 0]) ?_ 0 _ rfl;refine z2_ ?_;exact BK473.out) hb);have n3_ := am_ (below_step (z3_ HB.out) hb);clear BK460;clear BK472;clear BK473;clear HB;have BK460 := n0_;have BK472 := n1_;have BK473 := n2_;have HB := n3_;clear n0_ n1_ n2_ n3_;(try clear hb)))
     go_loopg [11] kj3 (fun kq v11 w' => ∃ (x11_2 : ByteArray), v11 = .string x11_2 ∧ Aside0 (vernierref06_Decodes.l0 kq x11_2 t461 t463 (wrap64 ((wrap64 (4 * t466)) + t468)) 0 = some (r1, r2, r3, r4, r5)) ∧ Aside0 (kq ≤ kj3) ∧ Aside0 (w'.heap[gb460]? = some (.cells #[.int .i64 0,.bool false,.int .i64 0,.int .u64 0] 24 (0, 0))) ∧ Aside0 (w'.heap[gb472]? = some (.cells #[.bool t463,.bool t464,.int .i64 t465,.int .i64 t466,.int .i64 t467,.int .i64 t468,.int .i64 t469,.int .u64 t470] 86 (0, 0))) ∧ Aside0 (w'.heap[gb473]? = some (.cells #[.int .i64 t461,.bool t463,.int .i64 (wrap64 ((wrap64 (4 * t466)) + t468)),.int .u64 0] 24 (0, 0))) ∧ Aside0 (Below w.heap.size w w'))
     case atStart => exact ⟨((⟨#[49]⟩ : ByteArray) ++ t474), (by first | rfl | (simp;done) | (simp [*];done)), H', ⟨Nat.le_refl _⟩, ⟨by refine z2_ ?_;exact BK460.out⟩, ⟨by refine z2_ ?_;exact BK472.out⟩, ⟨by refine z2_ ?_;exact BK473.out⟩, ⟨z3_ HB.out⟩⟩
     case round =>
      clear H'
      try clear c8
      try clear c12
      try clear c12b0
      try clear c12b1
      try clear c12b2
      try clear hcz16_0
      try clear hcz16_1
      try clear hcz16_2
      try clear hcz16_3
      try clear hcz16_4
      try clear hcz16_5
      try clear hcz16_6
      try clear hcz16_7
      try clear hcz20_0
      try clear hcz20_1
      try clear hcz20_2
      try clear hcz20_3
      try clear hcz21_0
      try clear hcz21_1
      try clear hcz21_2
      try clear hcz21_3
      try clear hcz21_4
      try clear hcz21_5
      try clear hcz21_6
      try clear hcz21_7
      try clear hfz16_0
      try clear hfz20_0
      try clear hfz21_0
      obtain ⟨x11_2, rfl, HA, HK2, BK460, BK472, BK473, HB⟩ := hrel
      cases gk with
      | zero => exact absurd HA.out (by simp [vernierref06_Decodes.l0])
      | succ k2 =>
       have H := HA.out
       clear HA
       simp only [vernierref06_Decodes.l0] at H
       by_cases c23 : (x11_2.size : Int) < 64
       ·rw [if_pos c23] at H
        have c23b0 : decide ((x11_2.size : Int) < 64) = true := decide_eq_true c23
        have c23b1 : decide (x11_2.size < 64) = true := decide_eq_true (by omega)
        clear c23
        by_cases c24 : x11_2.size + 1 ≤ 9223372036854775807
        ·rw [if_pos c24] at H
         have c24b0 := eq_true c24
         have c24b1 : decide (x11_2.size + 1 ≤ 9223372036854775807) = true := decide_eq_true c24
         try have c24b2 : (9223372036854775807 < x11_2.size + 1) = False := eq_false (Nat.not_lt.2 c24)
         have H' := am_ H
         clear H
         go_wp2
         go_roundg k2
         case measure => have := HJ3.out;have := HK2.out;omega
         case rel => exact ⟨(x11_2 ++ (⟨#[48]⟩ : ByteArray)), (by first | rfl | (simp;done) | (simp [*];done)), H', ⟨by have := HJ3.out;have := HK2.out;omega⟩, ⟨by refine z2_ ?_;exact BK460.out⟩, ⟨by refine z2_ ?_;exact BK472.out⟩, ⟨by refine z2_ ?_;exact BK473.out⟩, ⟨z3_ HB.out⟩⟩
        ·rw [if_neg c24] at H
         exact absurd H (by simp)
       ·rw [if_neg c23] at H
        have c23b0 : decide ((x11_2.size : Int) < 64) = false := decide_eq_false c23
        have c23b1 : decide (x11_2.size < 64) = false := decide_eq_false (by omega)
        clear c23
        replace H := Option.bind_eq_some_iff.mp H
        obtain ⟨t475, A250, H⟩ := H
        replace H : (some (t461, t463, (wrap64 ((wrap64 (4 * t466)) + t468)), t475, 0)) = some (r1, r2, r3, r4, r5) := H
        have A25 := am_ A250
        clear A250
        simp only [Option.some.injEq, Prod.mk.injEq] at H
        obtain ⟨rfl, rfl, rfl, rfl, rfl⟩ := H
        go_wp2_with (first | ((with_reducible refine gate_callee (f := 53) rfl ?_);refine goesL_ (some 55) rfl rfl Try.func53 (by kernel_rfl) rfl #[.string x11_2] rfl z5_ ?_;(with_reducible refine (vernierref01_Number.calls k2 x11_2 t475 _ A25.out).mono ?_);rintro e w' ⟨rfl, ⟨nd, rfl⟩⟩;refine ⟨_, rfl, ?_⟩;(try (rw [drewN_self wr];generalize hq_ : World.drewN wr _ = wr;have n0_ : Aside0 (wr.heap[gb460]? = some (.cells #[.int .i64 0,.bool false,.int .i64 0,.int .u64 0] 24 (0, 0))) := ⟨by rw [← hq_];exact (z1_ BK460.out)⟩;have n1_ : Aside0 (wr.heap[gb472]? = some (.cells #[.bool t463,.bool t464,.int .i64 t465,.int .i64 t466,.int .i64 t467,.int .i64 t468,.int .i64 t469,.int .u64 t470] 86 (0, 0))) := ⟨by rw [← hq_];exact (z1_ BK472.out)⟩;have n2_ : Aside0 (wr.heap[gb473]? = some (.cells #[.int .i64 t461,.bool t463,.int .i64 (wrap64 ((wrap64 (4 * t466)) + t468)),.int .u64 0] 24 (0, 0))) := ⟨by rw [← hq_];exact (z1_ BK473.out)⟩;have n3_ : Aside0 (Below w.heap.size w wr) := ⟨by rw [← hq_];exact (z3_ HB.out)⟩;clear BK460 BK472 BK473 HB hq_;have BK460 := n0_;have BK472 := n1_;have BK473 := n2_;have HB := n3_;clear n0_ n1_ n2_ n3_));have hnb26 := NB473_460.out;have hnc26 := NB460_473.out;have hnb27 := NB473_472.out;have hnc27 := NB472_473.out;obtain ⟨hcz28_0, hcz28_1, hcz28_2, hcz28_3, hfz28_0⟩ := zc4_ BK473.out;have hnb29 := NB460_472.out;have hnc29 := NB472_460.out;obtain ⟨hcz30_0, hcz30_1, hcz30_2, hcz30_3, hfz30_0⟩ := zc4_ BK460.out))
        refine bodyPost_ret (results_ct rfl _ _ gb460 24 #[.int .i64 t461,.bool t463,.int .i64 (wrap64 ((wrap64 (4 * t466)) + t468)),.int .u64 t475] (0, 0) _ rfl (by refine z2_ ?_;refine blk_put (cs := #[.int .i64 t461,.bool t463,.int .i64 (wrap64 ((wrap64 (4 * t466)) + t468)),.int .u64 0]) ?_ 3 _ rfl;refine z2_ ?_;refine blk_put (cs := #[.int .i64 t461,.bool t463,.int .i64 0,.int .u64 0]) ?_ 2 _ rfl;refine z2_ ?_;refine blk_put (cs := #[.int .i64 t461,.bool false,.int .i64 0,.int .u64 0]) ?_ 1 _ rfl;refine z2_ ?_;refine blk_put (cs := #[.int .i64 0,.bool false,.int .i64 0,.int .u64 0]) ?_ 0 _ rfl;refine z2_ ?_;refine blk_far ?_ NB460_473.out _;refine z2_ ?_;exact BK460.out) Try.underlying24 rfl (by kernel_rfl)) rfl ?_
        exact ⟨z6_, z3_ HB.out⟩
    ·rw [if_neg c12] at H
     exact absurd H (by simp)
def vernierref06_Decode.f (k : Nat) (a0 : Int) (a1 : Int) : Option (Int × Bool × Int × Int) := (vernierref06_Decodes.f k a0 a1).bind fun bt477 => (some (bt477.1, bt477.2.1, bt477.2.2.1, bt477.2.2.2.1))
theorem vernierref06_Decode.mono : ∀ a0 a1 k, LeO (vernierref06_Decode.f k a0 a1) (vernierref06_Decode.f (k + 1) a0 a1) := by
 intro a0 a1 k
 unfold vernierref06_Decode.f
 repeat' first
   | (with_reducible exact vernierref06_Decodes.mono _ _ _)
   | (with_reducible exact LeO.refl _)
   | (with_reducible exact LeO.none _)
   | (with_reducible refine LeO.ite ?_ ?_)
   | (with_reducible refine LeO.bind ?_ (fun _ => ?_))
   | exact vernierref06_Decodes.mono _ _ _
   | exact LeO.none _
   | refine LeO.ite ?_ ?_
   | refine LeO.bind ?_ (fun _ => ?_)
set_option maxHeartbeats 8000000 in
set_option maxRecDepth 100000 in
theorem vernierref06_Decode.calls (k : Nat) (a0 : Int) (a1 : Int) (r1 : Int) (r2 : Bool) (r3 : Int) (r4 : Int) (w : World) (h : vernierref06_Decode.f k a0 a1 = some (r1, r2, r3, r4)) :
  Calls Try.prog 51 #[.int .i64 a0,.int .u64 a1] w fun e w' => e = .returned (.agg #[.int .i64 r1,.bool r2,.int .i64 r3,.int .u64 r4]) ∧ Below w.heap.size w w' := by
 have hu24 := Try.underlying24
 have HB := am_ (Below.refl w.heap.size w)
 have H : ((vernierref06_Decodes.f k a0 a1).bind fun bt477 => (some (bt477.1, bt477.2.1, bt477.2.2.1, bt477.2.2.2.1))) = some (r1, r2, r3, r4) := h
 clear h
 replace H := Option.bind_eq_some_iff.mp H
 obtain ⟨⟨t477, t478, t479, t480, t481⟩, A30, H⟩ := H
 replace H : (some (t477, t478, t479, t480)) = some (r1, r2, r3, r4) := H
 have A3 := am_ A30
 clear A30
 simp only [Option.some.injEq, Prod.mk.injEq] at H
 obtain ⟨rfl, rfl, rfl, rfl⟩ := H
 go_enter Try.func51, Try.ntmps51
 go_wp2_with (first | ((with_reducible refine gate_dst (N := 4) rfl ?_);refine box_event ?hg (N := 4) ?hd (cs := #[.int .i64 0,.bool false,.int .i64 0,.int .u64 0]) (t := 24) ?hr ?_;(case hd => rfl);(case hg => rfl);(case hr => first | (go_simp;done) | (go_simp;rfl));intro gb476 hg w4 hbox hb;have n0_ := am_ (below_step (z3_ HB.out) hb);have n1_ := am_ (hbox);have n2_ := am_ ((by rw [hg];exact (below_size (z3_ HB.out)) : w.heap.size ≤ gb476));have n3_ := am_ ((by rw [hg];exact (below_size (z3_ HB.out)) : w.heap.size ≤ gb476));clear HB;have HB := n0_;have BK476 := n1_;have GW476 := n2_;have GE476 := n3_;clear n0_ n1_ n2_ n3_;clear hb hbox hg) | ((with_reducible refine gate_callee (f := 72) rfl ?_);refine goesL_ (some 10) rfl rfl Try.func72 (by kernel_rfl) rfl #[.int .i64 a0,.int .u64 a1] rfl z5_ ?_;(with_reducible refine (vernierref06_Decodes.calls k a0 a1 t477 t478 t479 t480 t481 _ A3.out).mono ?_);rintro e w5 ⟨rfl, hb⟩;refine ⟨_, rfl, ?_⟩;have n0_ := am_ (blk_below (g := gb476) (z1_ BK476.out) hb);have n1_ := am_ (below_step (z3_ HB.out) hb);clear BK476;clear HB;have BK476 := n0_;have HB := n1_;clear n0_ n1_;(try clear hb)) | ((with_reducible refine gate_dst (N := 5) rfl ?_);refine box_event ?hg (N := 5) ?hd (cs := #[.int .i64 0,.bool false,.int .i64 0,.int .u64 0]) (t := 24) ?hr ?_;(case hd => rfl);(case hg => rfl);(case hr => first | (go_simp;done) | (go_simp;rfl));intro gb482 hg w6 hbox hb;have n0_ := am_ (blk_below (g := gb476) (z1_ BK476.out) hb);have n1_ := am_ (below_step (z3_ HB.out) hb);have n2_ := am_ (hbox);have n3_ := am_ ((by rw [hg];exact (below_size (z3_ HB.out)) : w.heap.size ≤ gb482));have n4_ := am_ ((by rw [hg];exact (below_size (z3_ HB.out)) : w.heap.size ≤ gb482));have n5_ := am_ ((by rw [hg];exact Nat.ne_of_lt (blk_lt (g := gb476) (o := .cells #[.int .i64 0,.bool false,.int .i64 0,.int .u64 0] 24 (0, 0)) (z1_ BK476.out)) : gb476 ≠ gb482));have n6_ := am_ ((by rw [hg];exact Nat.ne_of_gt (blk_lt (g := gb476) (o := .cells #[.int .i64 0,.bool false,.int .i64 0,.int .u64 0] 24 (0, 0)) (z1_ BK476.out)) : gb482 ≠ gb476));clear BK476;clear HB;have BK476 := n0_;have HB := n1_;have BK482 := n2_;have GW482 := n3_;have GE482 := n4_;have NB476_482 := n5_;have NB482_476 := n6_;clear n0_ n1_ n2_ n3_ n4_ n5_ n6_;clear hb hbox hg;have hnb7 := NB482_476.out;have hnc7 := NB476_482.out;obtain ⟨hcz8_0, hcz8_1, hcz8_2, hcz8_3, hfz8_0⟩ := zc4_ BK482.out;obtain ⟨hcz9_0, hcz9_1, hcz9_2, hcz9_3, hfz9_0⟩ := zc4_ BK476.out))
 refine bodyPost_ret (results_cell_row rfl _ _ gb476 24 #[.int .i64 t477,.bool t478,.int .i64 t479,.int .u64 t480] (0, 0) _ rfl (by refine z2_ ?_;refine blk_put (cs := #[.int .i64 t477,.bool t478,.int .i64 t479,.int .u64 0]) ?_ 3 _ rfl;refine z2_ ?_;refine blk_put (cs := #[.int .i64 t477,.bool t478,.int .i64 0,.int .u64 0]) ?_ 2 _ rfl;refine z2_ ?_;refine blk_put (cs := #[.int .i64 t477,.bool false,.int .i64 0,.int .u64 0]) ?_ 1 _ rfl;refine z2_ ?_;refine blk_put (cs := #[.int .i64 0,.bool false,.int .i64 0,.int .u64 0]) ?_ 0 _ rfl;refine z2_ ?_;refine blk_far ?_ NB476_482.out _;refine z2_ ?_;refine blk_far ?_ NB476_482.out _;refine z2_ ?_;refine blk_far ?_ NB476_482.out _;refine z2_ ?_;refine blk_far ?_ NB476_482.out _;refine z2_ ?_;exact BK476.out) Try.underlying24 rfl (by kernel_rfl)) rfl ?_
 exact ⟨z6_, z3_ HB.out⟩
def vernierref06_Fold.f (k : Nat) (a0 : Int) (a1 : Int) : Option (Int) := (vernierref05_Fold.f k a0 a1).bind fun bt483 => (some bt483.1)
theorem vernierref06_Fold.mono : ∀ a0 a1 k, LeO (vernierref06_Fold.f k a0 a1) (vernierref06_Fold.f (k + 1) a0 a1) := by
 intro a0 a1 k
 unfold vernierref06_Fold.f
 repeat' first
   | (with_reducible exact vernierref05_Fold.mono _ _ _)
   | (with_reducible exact LeO.refl _)
   | (with_reducible exact LeO.none _)
   | (with_reducible refine LeO.ite ?_ ?_)
   | (with_reducible refine LeO.bind ?_ (fun _ => ?_))
   | exact vernierref05_Fold.mono _ _ _
   | exact LeO.none _
   | refine LeO.ite ?_ ?_
   | refine LeO.bind ?_ (fun _ => ?_)
set_option maxHeartbeats 8000000 in
set_option maxRecDepth 100000 in
theorem vernierref06_Fold.calls (k : Nat) (a0 : Int) (a1 : Int) (r : Int) (w : World) (h : vernierref06_Fold.f k a0 a1 = some r) :
  Calls Try.prog 16 #[.int .i64 a0,.int .u64 a1] w fun e w' => e = .returned (.int .u64 r) ∧ Below w.heap.size w w' := by
 have HB := am_ (Below.refl w.heap.size w)
 have H : ((vernierref05_Fold.f k a0 a1).bind fun bt483 => (some bt483.1)) = some r := h
 clear h
 replace H := Option.bind_eq_some_iff.mp H
 obtain ⟨⟨t483, t484⟩, A30, H⟩ := H
 replace H : (some t483) = some r := H
 have A3 := am_ A30
 clear A30
 obtain rfl := Option.some.inj H
 go_enter Try.func16, Try.ntmps16
 go_wp2_with (first | ((with_reducible refine gate_callee (f := 32) rfl ?_);refine goesL_ (some 10) rfl rfl Try.func32 (by kernel_rfl) rfl #[.int .i64 a0,.int .u64 a1] rfl z5_ ?_;(with_reducible refine (vernierref05_Fold.calls k a0 a1 t483 t484 _ A3.out).mono ?_);rintro e w4 ⟨rfl, hb⟩;refine ⟨_, rfl, ?_⟩;have n0_ := am_ (below_step (z3_ HB.out) hb);clear HB;have HB := n0_;clear n0_;(try clear hb)))
 go_ret
 exact ⟨z6_, z3_ HB.out⟩
def vernierref06_Neg.f (k : Nat) (a0 : Int) (a1 : Int) : Option (Int) := (vernierref06_Fold.f k a0 (IntKind.u64.wrap (-a1))).bind fun t485 => (some t485)
theorem vernierref06_Neg.mono : ∀ a0 a1 k, LeO (vernierref06_Neg.f k a0 a1) (vernierref06_Neg.f (k + 1) a0 a1) := by
 intro a0 a1 k
 unfold vernierref06_Neg.f
 repeat' first
   | (with_reducible exact vernierref06_Fold.mono _ _ _)
   | (with_reducible exact LeO.refl _)
   | (with_reducible exact LeO.none _)
   | (with_reducible refine LeO.ite ?_ ?_)
   | (with_reducible refine LeO.bind ?_ (fun _ => ?_))
   | exact vernierref06_Fold.mono _ _ _
   | exact LeO.none _
   | refine LeO.ite ?_ ?_
   | refine LeO.bind ?_ (fun _ => ?_)
set_option maxHeartbeats 8000000 in
set_option maxRecDepth 100000 in
theorem vernierref06_Neg.calls (k : Nat) (a0 : Int) (a1 : Int) (r : Int) (w : World) (h : vernierref06_Neg.f k a0 a1 = some r) :
  Calls Try.prog 17 #[.int .i64 a0,.int .u64 a1] w fun e w' => e = .returned (.int .u64 r) ∧ Below w.heap.size w w' := by
 have HB := am_ (Below.refl w.heap.size w)
 have H : ((vernierref06_Fold.f k a0 (IntKind.u64.wrap (-a1))).bind fun t485 => (some t485)) = some r := h
 clear h
 replace H := Option.bind_eq_some_iff.mp H
 obtain ⟨t485, A30, H⟩ := H
 replace H : (some t485) = some r := H
 have A3 := am_ A30
 clear A30
 obtain rfl := Option.some.inj H
 go_enter Try.func17, Try.ntmps17
 go_wp2_with (first | ((with_reducible refine gate_callee (f := 16) rfl ?_);refine goesL_ (some 8) rfl rfl Try.func16 (by kernel_rfl) rfl #[.int .i64 a0,.int .u64 (IntKind.u64.wrap (-a1))] rfl z5_ ?_;(with_reducible refine (vernierref06_Fold.calls k a0 (IntKind.u64.wrap (-a1)) t485 _ A3.out).mono ?_);rintro e w4 ⟨rfl, hb⟩;refine ⟨_, rfl, ?_⟩;have n0_ := am_ (below_step (z3_ HB.out) hb);clear HB;have HB := n0_;clear n0_;(try clear hb)))
 go_ret
 exact ⟨z6_, z3_ HB.out⟩
def vernierref06_regime.f (a0 : Int) : Option (Int) := if (wrap64 (4 * (wrap64 (Int.tdiv a0 4)))) > a0 then (some (wrap64 ((wrap64 (Int.tdiv a0 4)) - 1))) else (some (wrap64 (Int.tdiv a0 4)))
set_option maxHeartbeats 8000000 in
set_option maxRecDepth 100000 in
theorem vernierref06_regime.calls (a0 : Int) (r : Int) (w : World) (h : vernierref06_regime.f a0 = some r) :
  Calls Try.prog 74 #[.int .i64 a0] w fun e w' => e = .returned (.int .i64 r) ∧ Drawn0 w w' := by
 have H : (if (wrap64 (4 * (wrap64 (Int.tdiv a0 4)))) > a0 then (some (wrap64 ((wrap64 (Int.tdiv a0 4)) - 1))) else (some (wrap64 (Int.tdiv a0 4)))) = some r := h
 clear h
 by_cases c2 : (wrap64 (4 * (wrap64 (Int.tdiv a0 4)))) > a0
 ·rw [if_pos c2] at H
  have c2b0 : decide (a0 < (wrap64 (4 * (wrap64 (Int.tdiv a0 4))))) = true := decide_eq_true c2
  clear c2
  obtain rfl := Option.some.inj H
  go_enter Try.func74, Try.ntmps74
  go_wp2
  go_ret
  exact ⟨by first | rfl | (simp;done) | (simp [*];done), by repeat (first | exact Drawn0.refl _ | apply Drawn0.step)⟩
 ·rw [if_neg c2] at H
  have c2b0 : decide (a0 < (wrap64 (4 * (wrap64 (Int.tdiv a0 4))))) = false := decide_eq_false c2
  clear c2
  obtain rfl := Option.some.inj H
  go_enter Try.func74, Try.ntmps74
  go_wp2
  go_ret
  exact ⟨by first | rfl | (simp;done) | (simp [*];done), by repeat (first | exact Drawn0.refl _ | apply Drawn0.step)⟩
mutual
def vernierref06_Head.l0 : Nat → Int → Int → List Int → Int → Option (ByteArray)
 | 0, _, _, _, _ => none
 | k + 1, x0, x3, x4, x5 => if x5 ≤ x3 then (if x4.length < 140737488355328 then (vernierref06_Head.l0 k x0 x3 (x4 ++ [49]) (wrap64 (x5 + 1))) else (none)) else (vernierref06_Head.l1 k x0 x3 x4 0)
def vernierref06_Head.l1 : Nat → Int → Int → List Int → Int → Option (ByteArray)
 | 0, _, _, _, _ => none
 | k + 1, x0, x3, x4, x6 => if x6 > x3 then (if x4.length < 140737488355328 then (vernierref06_Head.l1 k x0 x3 (x4 ++ [48]) (wrap64 (x6 - 1))) else (none)) else (if x3 ≥ 0 then (if x4.length < 140737488355328 then ((some (x4 ++ [48] : List Int)).bind fun y493 => ((vernierref01_Text.f k (IntKind.u64.wrap (wrap64 (x0 - (wrap64 (4 * x3))))) 2).bind fun t496 => (if (strOfNums y493).size + t496.size ≤ 9223372036854775807 then (some ((strOfNums y493) ++ t496)) else (none)))) else (none)) else (if x4.length < 140737488355328 then ((some (x4 ++ [49] : List Int)).bind fun y497 => ((vernierref01_Text.f k (IntKind.u64.wrap (wrap64 (x0 - (wrap64 (4 * x3))))) 2).bind fun t500 => (if (strOfNums y497).size + t500.size ≤ 9223372036854775807 then (some ((strOfNums y497) ++ t500)) else (none)))) else (none)))
end
def vernierref06_Head.f (k : Nat) (a0 : Int) : Option (ByteArray) := (vernierref06_regime.f a0).bind fun t486 => (vernierref06_Head.l0 k a0 t486 ([] : List Int) 0)
theorem vernierref06_Head.mono_l : ∀ k, (∀ y0 y1 y2 y3, LeO (vernierref06_Head.l0 k y0 y1 y2 y3) (vernierref06_Head.l0 (k + 1) y0 y1 y2 y3)) ∧ (∀ y0 y1 y2 y3, LeO (vernierref06_Head.l1 k y0 y1 y2 y3) (vernierref06_Head.l1 (k + 1) y0 y1 y2 y3))
 | 0 => ⟨fun _ _ _ _ r h => by simp [vernierref06_Head.l0] at h, fun _ _ _ _ r h => by simp [vernierref06_Head.l1] at h⟩
 | k + 1 => by
  obtain ⟨ih0, ih1⟩ := vernierref06_Head.mono_l k
  refine ⟨?_, ?_⟩
  ·intro y0 y1 y2 y3
   unfold vernierref06_Head.l0
   repeat' first
   | (with_reducible exact ih0 _ _ _ _)
   | (with_reducible exact ih1 _ _ _ _)
   | (with_reducible exact vernierref01_Text.mono _ _ _)
   | (with_reducible exact LeO.refl _)
   | (with_reducible exact LeO.none _)
   | (with_reducible refine LeO.ite ?_ ?_)
   | (with_reducible refine LeO.bind ?_ (fun _ => ?_))
   | exact ih0 _ _ _ _
   | exact ih1 _ _ _ _
   | exact vernierref01_Text.mono _ _ _
   | exact LeO.none _
   | refine LeO.ite ?_ ?_
   | refine LeO.bind ?_ (fun _ => ?_)
  ·intro y0 y1 y2 y3
   unfold vernierref06_Head.l1
   repeat' first
   | (with_reducible exact ih0 _ _ _ _)
   | (with_reducible exact ih1 _ _ _ _)
   | (with_reducible exact vernierref01_Text.mono _ _ _)
   | (with_reducible exact LeO.refl _)
   | (with_reducible exact LeO.none _)
   | (with_reducible refine LeO.ite ?_ ?_)
   | (with_reducible refine LeO.bind ?_ (fun _ => ?_))
   | exact ih0 _ _ _ _
   | exact ih1 _ _ _ _
   | exact vernierref01_Text.mono _ _ _
   | exact LeO.none _
   | refine LeO.ite ?_ ?_
   | refine LeO.bind ?_ (fun _ => ?_)
theorem vernierref06_Head.mono : ∀ a0 k, LeO (vernierref06_Head.f k a0) (vernierref06_Head.f (k + 1) a0) := by
 intro a0 k
 obtain ⟨ih0, ih1⟩ := vernierref06_Head.mono_l k
 unfold vernierref06_Head.f
 repeat' first
   | (with_reducible exact ih0 _ _ _ _)
   | (with_reducible exact ih1 _ _ _ _)
   | (with_reducible exact vernierref01_Text.mono _ _ _)
   | (with_reducible exact LeO.refl _)
   | (with_reducible exact LeO.none _)
   | (with_reducible refine LeO.ite ?_ ?_)
   | (with_reducible refine LeO.bind ?_ (fun _ => ?_))
   | exact ih0 _ _ _ _
   | exact ih1 _ _ _ _
   | exact vernierref01_Text.mono _ _ _
   | exact LeO.none _
   | refine LeO.ite ?_ ?_
   | refine LeO.bind ?_ (fun _ => ?_)
def vernierref06_Head.T14 : Bool × List (List Nat × List Nat) := (true,[([], []), ([0], [0]), ([], []), ([], []), ([3], [3]), ([2, 4], [2, 4]), ([5], [5]), ([6], [6]), ([1, 7], [1, 7]), ([8, 7, 0, 1, 2, 3, 4, 5, 6, 7, 8], [8])])
def vernierref06_Head.B14 : List Nat := [0, 1, 0, 0, 8, 28, 60, 124, 255, 511]
theorem vernierref06_Head.tab14 : rtab .any (opsOf Try.f55 14) = vernierref06_Head.T14 := by kernel_rfl
theorem vernierref06_Head.bits14 : waitsOk vernierref06_Head.T14.2 vernierref06_Head.B14 = true := by kernel_rfl
set_option maxHeartbeats 8000000 in
set_option maxRecDepth 100000 in
theorem vernierref06_Head.calls (k : Nat) (a0 : Int) (r : ByteArray) (w : World) (h : vernierref06_Head.f k a0 = some r) :
  Calls Try.prog 55 #[.int .i64 a0] w fun e w' => e = .returned (.string r) ∧ Below w.heap.size w w' := by
 have HB := am_ (Below.refl w.heap.size w)
 have H : ((vernierref06_regime.f a0).bind fun t486 => (vernierref06_Head.l0 k a0 t486 ([] : List Int) 0)) = some r := h
 clear h
 replace H := Option.bind_eq_some_iff.mp H
 obtain ⟨t486, A20, H⟩ := H
 replace H : (vernierref06_Head.l0 k a0 t486 ([] : List Int) 0) = some r := H
 have A2 := am_ A20
 clear A20
 have H' := am_ H
 clear H
 go_enter Try.func55, Try.ntmps55
 go_wp2_with (first | ((with_reducible refine gate_callee (f := 74) rfl ?_);refine goesL_ (some 8) rfl rfl Try.func74 (by kernel_rfl) rfl #[.int .i64 a0] rfl z5_ ?_;(with_reducible refine (vernierref06_regime.calls a0 t486 _ A2.out).mono ?_);rintro e w' ⟨rfl, ⟨nd, rfl⟩⟩;refine ⟨_, rfl, ?_⟩))
 go_loopg [4, 5] k (fun kq v4 v5 w' => ∃ (x4_1 : List Int) (x5_1 : Int), v5 = .int .i64 x5_1 ∧ Aside0 (vernierref06_Head.l0 kq a0 t486 x4_1 x5_1 = some r) ∧ Aside0 (kq ≤ k) ∧ Aside0 (Kd.R (Kd.int .u8) 5 w' w.heap.size (fun _ => True) v4 x4_1) ∧ Aside0 (Below w.heap.size w w'))
 case atStart => exact ⟨(([] : List Int)), (0), (by first | rfl | (simp;done) | (simp [*];done)), H', ⟨Nat.le_refl _⟩, ⟨by first | exact Kd.R_nil _ _ _ _ _ | exact Kd.N_nil _ _ _ _ _ | exact Kd.V_nil _ _ _ _ _ | exact Kd.Q_nil _ _ _ _ _ | exact Kd.S_nil _ _ _ _ _⟩, ⟨z3_ HB.out⟩⟩
 case round =>
  clear H'
  obtain ⟨x4_1, x5_1, rfl, HA, HK1, HO_4, HB⟩ := hrel
  cases gk with
  | zero => exact absurd HA.out (by simp [vernierref06_Head.l0])
  | succ k1 =>
   have H := HA.out
   clear HA
   simp only [vernierref06_Head.l0] at H
   by_cases c3 : x5_1 ≤ t486
   ·rw [if_pos c3] at H
    have c3b0 : decide (x5_1 ≤ t486) = true := decide_eq_true c3
    clear c3
    by_cases c4 : x4_1.length < 140737488355328
    ·rw [if_pos c4] at H
     have LMc4 := am_ c4
     clear c4
     obtain ⟨y487, hy487⟩ : ∃ y_ : List Int, y_ = (x4_1 ++ [49]) := ⟨_, rfl⟩
     replace H : (vernierref06_Head.l0 k1 a0 t486 y487 (wrap64 (x5_1 + 1))) = some r := by first | (rw [hy487];with_reducible exact H) | (have H2_ := (Option.bind_some _ _).symm.trans H;rw [hy487];with_reducible exact H2_) | (have H2_ := (Option.bind_some _ _).symm.trans H;with_reducible exact H2_) | with_reducible exact H | (rw [hy487];exact H) | exact H
     have Ny487 := am_ hy487
     clear hy487
     have H' := am_ H
     clear H
     go_wp2_with (first | ((with_reducible refine gate_builtin (b := .append) (xs := #[.tmp 14,.tmp 15]) rfl ?_);at_builtin;refine Kd.R_append (Kd.int .u8) (w0 := w) w.heap.size rfl (.tmp 14) (.tmp 15) 119 5 (.int .u8 0) 1 rfl Try.underlying119 info5 rfl (by decide) (by omega) u4 x4_1 49 [.int .u8 49] (fun _ => True) (fun _ => False) rfl rfl ?aP (fun _ hk => hk.elim) ?aF ?aO ?aB ?aS ?aL ?_;(case aP => exact rfl);(case aB => exact (z3_ HB.out));(case aF => exact (fun _ _ => trivial));(case aO => exact (by (with_reducible repeat (first | apply Kd.R_alloc | apply Kd.R_drewN | apply Kd.R_drew));exact HO_4.out));(case aS => exact (below_size (z3_ HB.out)));(case aL => have := LMc4.out;omega);intro v488 w5 ho hb hg hat;rw [← Ny487.out] at ho;have n0_ := am_ (hb);have n1_ := am_ (ho);clear HB;clear HO_4;have HB := n0_;have HO489 := n1_;clear n0_ n1_;clear ho hb hg hat))
     go_roundg k1
     case measure => have := HK1.out;omega
     case rel => exact ⟨(y487), (wrap64 (x5_1 + 1)), (by first | rfl | (simp;done) | (simp [*];done)), H', ⟨by have := HK1.out;omega⟩, ⟨by (with_reducible repeat (first | apply Kd.R_alloc | apply Kd.R_drewN | apply Kd.R_drew));exact HO489.out⟩, ⟨z3_ HB.out⟩⟩
    ·rw [if_neg c4] at H
     exact absurd H (by simp)
   ·rw [if_neg c3] at H
    have c3b0 : decide (x5_1 ≤ t486) = false := decide_eq_false c3
    clear c3
    have H' := am_ H
    clear H
    go_wp2
    go_loopg [4, 6] k1 (fun kq v4 v6 w' => ∃ (x4_2 : List Int) (x6_2 : Int), v6 = .int .i64 x6_2 ∧ Aside0 (vernierref06_Head.l1 kq a0 t486 x4_2 x6_2 = some r) ∧ Aside0 (kq ≤ k1) ∧ Aside0 (Kd.R (Kd.int .u8) 5 w' w.heap.size (fun _ => True) v4 x4_2) ∧ Aside0 (Below w.heap.size w w'))
    case atStart => exact ⟨(x4_1), (0), (by first | rfl | (simp;done) | (simp [*];done)), H', ⟨Nat.le_refl _⟩, ⟨by (with_reducible repeat (first | apply Kd.R_alloc | apply Kd.R_drewN | apply Kd.R_drew));exact HO_4.out⟩, ⟨z3_ HB.out⟩⟩
    case round =>
     clear H'
     try clear c3
     try clear c3b0
     obtain ⟨x4_2, x6_2, rfl, HA, HK2, HO_4, HB⟩ := hrel
     cases gk with
     | zero => exact absurd HA.out (by simp [vernierref06_Head.l1])
     | succ k2 =>
      have H := HA.out
      clear HA
      simp only [vernierref06_Head.l1] at H
      by_cases c6 : x6_2 > t486
      ·rw [if_pos c6] at H
       have c6b0 : decide (t486 < x6_2) = true := decide_eq_true c6
       clear c6
       by_cases c7 : x4_2.length < 140737488355328
       ·rw [if_pos c7] at H
        have LMc7 := am_ c7
        clear c7
        obtain ⟨y490, hy490⟩ : ∃ y_ : List Int, y_ = (x4_2 ++ [48]) := ⟨_, rfl⟩
        replace H : (vernierref06_Head.l1 k2 a0 t486 y490 (wrap64 (x6_2 - 1))) = some r := by first | (rw [hy490];with_reducible exact H) | (have H2_ := (Option.bind_some _ _).symm.trans H;rw [hy490];with_reducible exact H2_) | (have H2_ := (Option.bind_some _ _).symm.trans H;with_reducible exact H2_) | with_reducible exact H | (rw [hy490];exact H) | exact H
        have Ny490 := am_ hy490
        clear hy490
        have H' := am_ H
        clear H
        go_wp2_with (first | ((with_reducible refine gate_builtin (b := .append) (xs := #[.tmp 22,.tmp 23]) rfl ?_);at_builtin;refine Kd.R_append (Kd.int .u8) (w0 := w) w.heap.size rfl (.tmp 22) (.tmp 23) 119 5 (.int .u8 0) 1 rfl Try.underlying119 info5 rfl (by decide) (by omega) u4 x4_2 48 [.int .u8 48] (fun _ => True) (fun _ => False) rfl rfl ?aP (fun _ hk => hk.elim) ?aF ?aO ?aB ?aS ?aL ?_;(case aP => exact rfl);(case aB => exact (z3_ HB.out));(case aF => exact (fun _ _ => trivial));(case aO => exact (by (with_reducible repeat (first | apply Kd.R_alloc | apply Kd.R_drewN | apply Kd.R_drew));exact HO_4.out));(case aS => exact (below_size (z3_ HB.out)));(case aL => have := LMc7.out;omega);intro v491 w8 ho hb hg hat;rw [← Ny490.out] at ho;have n0_ := am_ (hb);have n1_ := am_ (ho);clear HB;clear HO_4;have HB := n0_;have HO492 := n1_;clear n0_ n1_;clear ho hb hg hat))
        go_roundg k2
        case measure => have := HK1.out;have := HK2.out;omega
        case rel => exact ⟨(y490), (wrap64 (x6_2 - 1)), (by first | rfl | (simp;done) | (simp [*];done)), H', ⟨by have := HK1.out;have := HK2.out;omega⟩, ⟨by (with_reducible repeat (first | apply Kd.R_alloc | apply Kd.R_drewN | apply Kd.R_drew));exact HO492.out⟩, ⟨z3_ HB.out⟩⟩
       ·rw [if_neg c7] at H
        exact absurd H (by simp)
      ·rw [if_neg c6] at H
       have c6b0 : decide (t486 < x6_2) = false := decide_eq_false c6
       clear c6
       by_cases c9 : t486 ≥ 0
       ·rw [if_pos c9] at H
        have c9b0 : decide (0 ≤ t486) = true := decide_eq_true c9
        clear c9
        by_cases c10 : x4_2.length < 140737488355328
        ·rw [if_pos c10] at H
         have LMc10 := am_ c10
         clear c10
         obtain ⟨y493, hy493⟩ : ∃ y_ : List Int, y_ = (x4_2 ++ [48]) := ⟨_, rfl⟩
         replace H : ((vernierref01_Text.f k2 (IntKind.u64.wrap (wrap64 (a0 - (wrap64 (4 * t486))))) 2).bind fun t496 => (if (strOfNums y493).size + t496.size ≤ 9223372036854775807 then (some ((strOfNums y493) ++ t496)) else (none))) = some r := by first | (rw [hy493];with_reducible exact H) | (have H2_ := (Option.bind_some _ _).symm.trans H;rw [hy493];with_reducible exact H2_) | (have H2_ := (Option.bind_some _ _).symm.trans H;with_reducible exact H2_) | with_reducible exact H | (rw [hy493];exact H) | exact H
         have Ny493 := am_ hy493
         clear hy493
         replace H := Option.bind_eq_some_iff.mp H
         obtain ⟨t496, A110, H⟩ := H
         replace H : (if (strOfNums y493).size + t496.size ≤ 9223372036854775807 then (some ((strOfNums y493) ++ t496)) else (none)) = some r := H
         have A11 := am_ A110
         clear A110
         by_cases c12 : (strOfNums y493).size + t496.size ≤ 9223372036854775807
         ·rw [if_pos c12] at H
          have c12b0 := eq_true c12
          have c12b1 : decide ((strOfNums y493).size + t496.size ≤ 9223372036854775807) = true := decide_eq_true c12
          try have c12b2 : (9223372036854775807 < (strOfNums y493).size + t496.size) = False := eq_false (Nat.not_lt.2 c12)
          obtain rfl := Option.some.inj H
          try go_wp2_with (first | ((with_reducible refine gate_builtin (b := .append) (xs := #[.tmp 27,.tmp 28]) rfl ?_);at_builtin;refine Kd.R_append (Kd.int .u8) (w0 := w) w.heap.size rfl (.tmp 27) (.tmp 28) 119 5 (.int .u8 0) 1 rfl Try.underlying119 info5 rfl (by decide) (by omega) u4 x4_2 48 [.int .u8 48] (fun _ => True) (fun _ => False) rfl rfl ?aP (fun _ hk => hk.elim) ?aF ?aO ?aB ?aS ?aL ?_;(case aP => exact rfl);(case aB => exact (z3_ HB.out));(case aF => exact (fun _ _ => trivial));(case aO => exact (by (with_reducible repeat (first | apply Kd.R_alloc | apply Kd.R_drewN | apply Kd.R_drew));exact HO_4.out));(case aS => exact (below_size (z3_ HB.out)));(case aL => have := LMc10.out;omega);intro v494 w13 ho hb hg hat;rw [← Ny493.out] at ho;have n0_ := am_ (hb);have n1_ := am_ (ho);clear HB;clear HO_4;have HB := n0_;have HO495 := n1_;clear n0_ n1_;clear ho hb hg hat))
          have n0_ := am_ (Kd.R_drew HO495.out)
          have n1_ := am_ (below_drew1 HB.out)
          clear HO495
          clear HB
          have HO495 := n0_
          have HB := n1_
          clear n0_ n1_
          refine start_ (n := 10) (S := fun w' => (convert 119 9 v494).run Try.prog w' = .ok (.string (strOfNums y493)) w') (ds := []) #[false,false,false,false,false,false,false,false,false,false] (by kernel_rfl) rfl rfl (own_string (P := Try.prog) Try.underlying119 Try.underlying5 Try.underlying9 (Kd.own_of_R HO495.out)) (fun hHeld => ?_);refine with_tabW vernierref06_Head.tab14 vernierref06_Head.bits14 (fun HT_ HW_ => ?_)
          generalize w13.drew = w14 at HO495 HB hHeld ⊢
          refine pure_ (i := 0) (N := some 33) (v := ?_) (a' := ?_) #[true,false,false,false,false,false,false,false,false,false] rfl rfl (any_of HT_.out (by kernel_rfl)) (fun _ _ _ h => h) (Or.inl ⟨by rfl, ?_⟩) ?_ ?_
          rotate_left
          ·intro w'
           go_simp
           with_reducible rfl
          rotate_left
          ·simp only [Act.put, List.setIfInBounds_toArray, List.set_cons_zero, List.set_cons_succ, i64_w, i32_w]
           rfl
          refine take_ (i := 1) (N := some 34) (v := ?_) (a' := ?_) #[true,true,false,false,false,false,false,false,false,false] rfl rfl (take_ofW HT_.out HW_.out (by kernel_rfl)) (fun _ _ _ h => h) (Or.inl ⟨by rfl, ?_⟩) hHeld ?_ ?_
          rotate_left
          ·intro w' s0
           go_simp
           with_reducible rfl
          rotate_left
          ·simp only [Act.put, List.setIfInBounds_toArray, List.set_cons_zero, List.set_cons_succ, i64_w, i32_w]
           rfl
          refine pure_ (i := 2) (N := some 35) (v := ?_) (a' := ?_) #[true,true,true,false,false,false,false,false,false,false] rfl rfl (any_of HT_.out (by kernel_rfl)) (fun _ _ _ h => h) (Or.inl ⟨by rfl, ?_⟩) ?_ ?_
          rotate_left
          ·intro w'
           go_simp
           with_reducible rfl
          rotate_left
          ·simp only [Act.put, List.setIfInBounds_toArray, List.set_cons_zero, List.set_cons_succ, i64_w, i32_w]
           rfl
          refine pure_ (i := 3) (N := some 36) (v := ?_) (a' := ?_) #[true,true,true,true,false,false,false,false,false,false] rfl rfl (any_of HT_.out (by kernel_rfl)) (fun _ _ _ h => h) (Or.inl ⟨by rfl, ?_⟩) ?_ ?_
          rotate_left
          ·intro w'
           go_simp
           with_reducible rfl
          rotate_left
          ·simp only [Act.put, List.setIfInBounds_toArray, List.set_cons_zero, List.set_cons_succ, i64_w, i32_w]
           rfl
          refine pure_ (i := 4) (N := some 37) (v := ?_) (a' := ?_) #[true,true,true,true,true,false,false,false,false,false] rfl rfl (any_of HT_.out (by kernel_rfl)) (fun _ _ _ h => h) (Or.inl ⟨by rfl, ?_⟩) ?_ ?_
          rotate_left
          ·intro w'
           go_simp
           with_reducible rfl
          rotate_left
          ·simp only [Act.put, List.setIfInBounds_toArray, List.set_cons_zero, List.set_cons_succ, i64_w, i32_w]
           rfl
          refine pure_ (i := 5) (N := some 38) (v := ?_) (a' := ?_) #[true,true,true,true,true,true,false,false,false,false] rfl rfl (any_of HT_.out (by kernel_rfl)) (fun _ _ _ h => h) (Or.inl ⟨by rfl, ?_⟩) ?_ ?_
          rotate_left
          ·intro w'
           go_simp
           with_reducible rfl
          rotate_left
          ·simp only [Act.put, List.setIfInBounds_toArray, List.set_cons_zero, List.set_cons_succ, i64_w, i32_w]
           rfl
          refine pure_ (i := 6) (N := some 39) (v := ?_) (a' := ?_) #[true,true,true,true,true,true,true,false,false,false] rfl rfl (any_of HT_.out (by kernel_rfl)) (fun _ _ _ h => h) (Or.inl ⟨by rfl, ?_⟩) ?_ ?_
          rotate_left
          ·intro w'
           go_simp
           with_reducible rfl
          rotate_left
          ·simp only [Act.put, List.setIfInBounds_toArray, List.set_cons_zero, List.set_cons_succ, i64_w, i32_w]
           rfl
          refine one_ (i := 7) (N := some 40) #[true,true,true,true,true,true,true,true,false,false] rfl rfl (one_of HT_.out (by kernel_rfl)) (by decide) (fun K hK => ?_)
          refine goes_ Try.func54 (by kernel_rfl) rfl #[.int .u64 (IntKind.u64.wrap (wrap64 (a0 - (wrap64 (4 * t486))))),.int .i64 2] (by rfl) rfl rfl z5_ ?_
          with_reducible refine (vernierref01_Text.calls k2 (IntKind.u64.wrap (wrap64 (a0 - (wrap64 (4 * t486))))) 2 t496 _ A11.out).mono ?_
          rintro e w16 ⟨rfl, hb⟩
          refine ⟨_, rfl, ?_⟩
          have n0_ := am_ (Kd.R_below (by (with_reducible repeat (first | apply Kd.R_alloc | apply Kd.R_drewN | apply Kd.R_drew));exact HO495.out) hb)
          have n1_ := am_ (below_step (z3_ HB.out) hb)
          clear HO495
          clear HB
          have HO495 := n0_
          have HB := n1_
          clear n0_ n1_
          (try clear hb)
          (try clear hb2)
          (try clear hk)
          (try clear hi)
          refine hK.out _ _ (own_string (P := Try.prog) Try.underlying119 Try.underlying5 Try.underlying9 (Kd.own_of_R HO495.out)) (fun hHeld => ?_)
          clear hK K
          refine norm_ (a' := ?_) ?_ ?_
          rotate_left
          ·show Act.put _ (some 40) _ = _
           simp only [Act.put, List.setIfInBounds_toArray, List.set_cons_zero, List.set_cons_succ, i64_w, i32_w]
           rfl
          refine pure_ (i := 8) (N := some 41) (v := ?_) (a' := ?_) #[true,true,true,true,true,true,true,true,true,false] rfl rfl (any_of HT_.out (by kernel_rfl)) (fun _ _ _ h => h) (Or.inl ⟨by rfl, ?_⟩) ?_ ?_
          rotate_left
          ·intro w'
           go_simp
           with_reducible rfl
          rotate_left
          ·simp only [Act.put, List.setIfInBounds_toArray, List.set_cons_zero, List.set_cons_succ, i64_w, i32_w]
           rfl
          refine pure_ (i := 9) (N := some 2) (v := ?_) (a' := ?_) #[true,true,true,true,true,true,true,true,true,true] rfl rfl (any_of HT_.out (by kernel_rfl)) (fun _ _ _ h => h) (Or.inl ⟨by rfl, ?_⟩) ?_ ?_
          rotate_left
          ·intro w'
           go_simp
           with_reducible rfl
          rotate_left
          ·simp only [Act.put, List.setIfInBounds_toArray, List.set_cons_zero, List.set_cons_succ, i64_w, i32_w]
           rfl
          refine done_ (done_of HT_.out (by kernel_rfl)) ?_
          try go_wp2
          go_ret
          exact ⟨z6_, z3_ HB.out⟩
         ·rw [if_neg c12] at H
          exact absurd H (by simp)
        ·rw [if_neg c10] at H
         exact absurd H (by simp)
       ·rw [if_neg c9] at H
        have c9b0 : decide (0 ≤ t486) = false := decide_eq_false c9
        clear c9
        by_cases c18 : x4_2.length < 140737488355328
        ·rw [if_pos c18] at H
         have LMc18 := am_ c18
         clear c18
         obtain ⟨y497, hy497⟩ : ∃ y_ : List Int, y_ = (x4_2 ++ [49]) := ⟨_, rfl⟩
         replace H : ((vernierref01_Text.f k2 (IntKind.u64.wrap (wrap64 (a0 - (wrap64 (4 * t486))))) 2).bind fun t500 => (if (strOfNums y497).size + t500.size ≤ 9223372036854775807 then (some ((strOfNums y497) ++ t500)) else (none))) = some r := by first | (rw [hy497];with_reducible exact H) | (have H2_ := (Option.bind_some _ _).symm.trans H;rw [hy497];with_reducible exact H2_) | (have H2_ := (Option.bind_some _ _).symm.trans H;with_reducible exact H2_) | with_reducible exact H | (rw [hy497];exact H) | exact H
         have Ny497 := am_ hy497
         clear hy497
         replace H := Option.bind_eq_some_iff.mp H
         obtain ⟨t500, A190, H⟩ := H
         replace H : (if (strOfNums y497).size + t500.size ≤ 9223372036854775807 then (some ((strOfNums y497) ++ t500)) else (none)) = some r := H
         have A19 := am_ A190
         clear A190
         by_cases c20 : (strOfNums y497).size + t500.size ≤ 9223372036854775807
         ·rw [if_pos c20] at H
          have c20b0 := eq_true c20
          have c20b1 : decide ((strOfNums y497).size + t500.size ≤ 9223372036854775807) = true := decide_eq_true c20
          try have c20b2 : (9223372036854775807 < (strOfNums y497).size + t500.size) = False := eq_false (Nat.not_lt.2 c20)
          obtain rfl := Option.some.inj H
          try go_wp2_with (first | ((with_reducible refine gate_builtin (b := .append) (xs := #[.tmp 30,.tmp 31]) rfl ?_);at_builtin;refine Kd.R_append (Kd.int .u8) (w0 := w) w.heap.size rfl (.tmp 30) (.tmp 31) 119 5 (.int .u8 0) 1 rfl Try.underlying119 info5 rfl (by decide) (by omega) u4 x4_2 49 [.int .u8 49] (fun _ => True) (fun _ => False) rfl rfl ?aP (fun _ hk => hk.elim) ?aF ?aO ?aB ?aS ?aL ?_;(case aP => exact rfl);(case aB => exact (z3_ HB.out));(case aF => exact (fun _ _ => trivial));(case aO => exact (by (with_reducible repeat (first | apply Kd.R_alloc | apply Kd.R_drewN | apply Kd.R_drew));exact HO_4.out));(case aS => exact (below_size (z3_ HB.out)));(case aL => have := LMc18.out;omega);intro v498 w21 ho hb hg hat;rw [← Ny497.out] at ho;have n0_ := am_ (hb);have n1_ := am_ (ho);clear HB;clear HO_4;have HB := n0_;have HO499 := n1_;clear n0_ n1_;clear ho hb hg hat))
          have n0_ := am_ (Kd.R_drew HO499.out)
          have n1_ := am_ (below_drew1 HB.out)
          clear HO499
          clear HB
          have HO499 := n0_
          have HB := n1_
          clear n0_ n1_
          refine start_ (n := 10) (S := fun w' => (convert 119 9 v498).run Try.prog w' = .ok (.string (strOfNums y497)) w') (ds := []) #[false,false,false,false,false,false,false,false,false,false] (by kernel_rfl) rfl rfl (own_string (P := Try.prog) Try.underlying119 Try.underlying5 Try.underlying9 (Kd.own_of_R HO499.out)) (fun hHeld => ?_);refine with_tabW vernierref06_Head.tab14 vernierref06_Head.bits14 (fun HT_ HW_ => ?_)
          generalize w21.drew = w22 at HO499 HB hHeld ⊢
          refine pure_ (i := 0) (N := some 33) (v := ?_) (a' := ?_) #[true,false,false,false,false,false,false,false,false,false] rfl rfl (any_of HT_.out (by kernel_rfl)) (fun _ _ _ h => h) (Or.inl ⟨by rfl, ?_⟩) ?_ ?_
          rotate_left
          ·intro w'
           go_simp
           with_reducible rfl
          rotate_left
          ·simp only [Act.put, List.setIfInBounds_toArray, List.set_cons_zero, List.set_cons_succ, i64_w, i32_w]
           rfl
          refine take_ (i := 1) (N := some 34) (v := ?_) (a' := ?_) #[true,true,false,false,false,false,false,false,false,false] rfl rfl (take_ofW HT_.out HW_.out (by kernel_rfl)) (fun _ _ _ h => h) (Or.inl ⟨by rfl, ?_⟩) hHeld ?_ ?_
          rotate_left
          ·intro w' s0
           go_simp
           with_reducible rfl
          rotate_left
          ·simp only [Act.put, List.setIfInBounds_toArray, List.set_cons_zero, List.set_cons_succ, i64_w, i32_w]
           rfl
          refine pure_ (i := 2) (N := some 35) (v := ?_) (a' := ?_) #[true,true,true,false,false,false,false,false,false,false] rfl rfl (any_of HT_.out (by kernel_rfl)) (fun _ _ _ h => h) (Or.inl ⟨by rfl, ?_⟩) ?_ ?_
          rotate_left
          ·intro w'
           go_simp
           with_reducible rfl
          rotate_left
          ·simp only [Act.put, List.setIfInBounds_toArray, List.set_cons_zero, List.set_cons_succ, i64_w, i32_w]
           rfl
          refine pure_ (i := 3) (N := some 36) (v := ?_) (a' := ?_) #[true,true,true,true,false,false,false,false,false,false] rfl rfl (any_of HT_.out (by kernel_rfl)) (fun _ _ _ h => h) (Or.inl ⟨by rfl, ?_⟩) ?_ ?_
          rotate_left
          ·intro w'
           go_simp
           with_reducible rfl
          rotate_left
          ·simp only [Act.put, List.setIfInBounds_toArray, List.set_cons_zero, List.set_cons_succ, i64_w, i32_w]
           rfl
          refine pure_ (i := 4) (N := some 37) (v := ?_) (a' := ?_) #[true,true,true,true,true,false,false,false,false,false] rfl rfl (any_of HT_.out (by kernel_rfl)) (fun _ _ _ h => h) (Or.inl ⟨by rfl, ?_⟩) ?_ ?_
          rotate_left
          ·intro w'
           go_simp
           with_reducible rfl
          rotate_left
          ·simp only [Act.put, List.setIfInBounds_toArray, List.set_cons_zero, List.set_cons_succ, i64_w, i32_w]
           rfl
          refine pure_ (i := 5) (N := some 38) (v := ?_) (a' := ?_) #[true,true,true,true,true,true,false,false,false,false] rfl rfl (any_of HT_.out (by kernel_rfl)) (fun _ _ _ h => h) (Or.inl ⟨by rfl, ?_⟩) ?_ ?_
          rotate_left
          ·intro w'
           go_simp
           with_reducible rfl
          rotate_left
          ·simp only [Act.put, List.setIfInBounds_toArray, List.set_cons_zero, List.set_cons_succ, i64_w, i32_w]
           rfl
          refine pure_ (i := 6) (N := some 39) (v := ?_) (a' := ?_) #[true,true,true,true,true,true,true,false,false,false] rfl rfl (any_of HT_.out (by kernel_rfl)) (fun _ _ _ h => h) (Or.inl ⟨by rfl, ?_⟩) ?_ ?_
          rotate_left
          ·intro w'
           go_simp
           with_reducible rfl
          rotate_left
          ·simp only [Act.put, List.setIfInBounds_toArray, List.set_cons_zero, List.set_cons_succ, i64_w, i32_w]
           rfl
          refine one_ (i := 7) (N := some 40) #[true,true,true,true,true,true,true,true,false,false] rfl rfl (one_of HT_.out (by kernel_rfl)) (by decide) (fun K hK => ?_)
          refine goes_ Try.func54 (by kernel_rfl) rfl #[.int .u64 (IntKind.u64.wrap (wrap64 (a0 - (wrap64 (4 * t486))))),.int .i64 2] (by rfl) rfl rfl z5_ ?_
          with_reducible refine (vernierref01_Text.calls k2 (IntKind.u64.wrap (wrap64 (a0 - (wrap64 (4 * t486))))) 2 t500 _ A19.out).mono ?_
          rintro e w24 ⟨rfl, hb⟩
          refine ⟨_, rfl, ?_⟩
          have n0_ := am_ (Kd.R_below (by (with_reducible repeat (first | apply Kd.R_alloc | apply Kd.R_drewN | apply Kd.R_drew));exact HO499.out) hb)
          have n1_ := am_ (below_step (z3_ HB.out) hb)
          clear HO499
          clear HB
          have HO499 := n0_
          have HB := n1_
          clear n0_ n1_
          (try clear hb)
          (try clear hb2)
          (try clear hk)
          (try clear hi)
          refine hK.out _ _ (own_string (P := Try.prog) Try.underlying119 Try.underlying5 Try.underlying9 (Kd.own_of_R HO499.out)) (fun hHeld => ?_)
          clear hK K
          refine norm_ (a' := ?_) ?_ ?_
          rotate_left
          ·show Act.put _ (some 40) _ = _
           simp only [Act.put, List.setIfInBounds_toArray, List.set_cons_zero, List.set_cons_succ, i64_w, i32_w]
           rfl
          refine pure_ (i := 8) (N := some 41) (v := ?_) (a' := ?_) #[true,true,true,true,true,true,true,true,true,false] rfl rfl (any_of HT_.out (by kernel_rfl)) (fun _ _ _ h => h) (Or.inl ⟨by rfl, ?_⟩) ?_ ?_
          rotate_left
          ·intro w'
           go_simp
           with_reducible rfl
          rotate_left
          ·simp only [Act.put, List.setIfInBounds_toArray, List.set_cons_zero, List.set_cons_succ, i64_w, i32_w]
           rfl
          refine pure_ (i := 9) (N := some 2) (v := ?_) (a' := ?_) #[true,true,true,true,true,true,true,true,true,true] rfl rfl (any_of HT_.out (by kernel_rfl)) (fun _ _ _ h => h) (Or.inl ⟨by rfl, ?_⟩) ?_ ?_
          rotate_left
          ·intro w'
           go_simp
           with_reducible rfl
          rotate_left
          ·simp only [Act.put, List.setIfInBounds_toArray, List.set_cons_zero, List.set_cons_succ, i64_w, i32_w]
           rfl
          refine done_ (done_of HT_.out (by kernel_rfl)) ?_
          try go_wp2
          go_ret
          exact ⟨z6_, z3_ HB.out⟩
         ·rw [if_neg c20] at H
          exact absurd H (by simp)
        ·rw [if_neg c18] at H
         exact absurd H (by simp)
end Go.Proofs.Ytebhpipfkomhjaa.PAll
namespace Go.Proofs.Ytebhpipfkomhjaa.PAll
open Go.RowKit Go.Proofs.YtebhpipfkomhjaaW.PrintWords Go.Proofs.YtebhpipfkomhjaaW.PrintLast Go.Proofs.YtebhpipfkomhjaaW.PrintMore
attribute [local go_sem] max2_int min2_int max_two min_two max_three min_three max_four min_four
set_option linter.unusedVariables false
set_option linter.unusedSimpArgs false
attribute [local go_sem high] eqA27
def vernierref07_Sound.f (a0_0 : Int) (a0_1 : Bool) (a0_2 : Int) (a0_3 : Int) (a0_4 : Int) (a0_5 : Bool) : Option (Bool) := if a0_0 = 0 then (some (!a0_1 && (a0_2 == 0 && (a0_3 == 0 && (a0_4 == 0 && (!a0_5)))))) else (if a0_0 = 2 then (some (!a0_1 && (a0_2 == 0 && (a0_3 == 0 && (a0_4 == 0 && (!a0_5)))))) else (if a0_0 = 1 then (if a0_3 ≥ 9223372036854775808 then (if a0_2 ≥ (-1099511627776) then (some (decide (a0_2 ≤ 1099511627776))) else (some false)) else (some false)) else (some false)))
set_option maxHeartbeats 8000000 in
set_option maxRecDepth 100000 in
theorem vernierref07_Sound.calls (a0_0 : Int) (a0_1 : Bool) (a0_2 : Int) (a0_3 : Int) (a0_4 : Int) (a0_5 : Bool) (r : Bool) (w : World) (h : vernierref07_Sound.f a0_0 a0_1 a0_2 a0_3 a0_4 a0_5 = some r) :
  Calls Try.prog 87 #[.agg #[.int .i64 a0_0,.bool a0_1,.int .i64 a0_2,.int .u64 a0_3,.int .u64 a0_4,.bool a0_5]] w fun e w' => e = .returned (.bool r) ∧ Below w.heap.size w w' := by
 have hu27 := Try.underlying27
 have HB := am_ (Below.refl w.heap.size w)
 have H : (if a0_0 = 0 then (some (!a0_1 && (a0_2 == 0 && (a0_3 == 0 && (a0_4 == 0 && (!a0_5)))))) else (if a0_0 = 2 then (some (!a0_1 && (a0_2 == 0 && (a0_3 == 0 && (a0_4 == 0 && (!a0_5)))))) else (if a0_0 = 1 then (if a0_3 ≥ 9223372036854775808 then (if a0_2 ≥ (-1099511627776) then (some (decide (a0_2 ≤ 1099511627776))) else (some false)) else (some false)) else (some false)))) = some r := h
 clear h
 by_cases c2 : a0_0 = 0
 ·rw [if_pos c2] at H
  have c2b0 : (a0_0 == 0) = true := beq_iff_eq.mpr c2
  have c2b1 : (a0_0 != 0) = false := bne_eq_false_iff_eq.mpr c2
  clear c2
  obtain rfl := Option.some.inj H
  go_enter Try.func87, Try.ntmps87
  go_wp2_with (first | ((with_reducible refine gate_dst (N := 1) rfl ?_);refine box_event ?hg (N := 1) ?hd (cs := #[.int .i64 a0_0,.bool a0_1,.int .i64 a0_2,.int .u64 a0_3,.int .u64 a0_4,.bool a0_5]) (t := 27) ?hr ?_;(case hd => rfl);(case hg => rfl);(case hr => first | (go_simp;done) | (go_simp;rfl));intro gb501 hg w3 hbox hb;have n0_ := am_ (below_step (z3_ HB.out) hb);have n1_ := am_ (hbox);have n2_ := am_ ((by rw [hg];exact (below_size (z3_ HB.out)) : w.heap.size ≤ gb501));have n3_ := am_ ((by rw [hg];exact (below_size (z3_ HB.out)) : w.heap.size ≤ gb501));clear HB;have HB := n0_;have BK501 := n1_;have GW501 := n2_;have GE501 := n3_;clear n0_ n1_ n2_ n3_;clear hb hbox hg;obtain ⟨hcz4_0, hcz4_1, hcz4_2, hcz4_3, hcz4_4, hcz4_5, hfz4_0⟩ := zc6_ BK501.out))
  go_ret
  exact ⟨z6_, z3_ HB.out⟩
 ·rw [if_neg c2] at H
  have c2b0 : (a0_0 == 0) = false := beq_eq_false_iff_ne.mpr c2
  have c2b1 : (a0_0 != 0) = true := bne_iff_ne.mpr c2
  by_cases c5 : a0_0 = 2
  ·rw [if_pos c5] at H
   have c5b0 : (a0_0 == 2) = true := beq_iff_eq.mpr c5
   have c5b1 : (a0_0 != 2) = false := bne_eq_false_iff_eq.mpr c5
   clear c5
   obtain rfl := Option.some.inj H
   go_enter Try.func87, Try.ntmps87
   go_wp2_with (first | ((with_reducible refine gate_dst (N := 1) rfl ?_);refine box_event ?hg (N := 1) ?hd (cs := #[.int .i64 a0_0,.bool a0_1,.int .i64 a0_2,.int .u64 a0_3,.int .u64 a0_4,.bool a0_5]) (t := 27) ?hr ?_;(case hd => rfl);(case hg => rfl);(case hr => first | (go_simp;done) | (go_simp;rfl));intro gb501 hg w6 hbox hb;have n0_ := am_ (below_step (z3_ HB.out) hb);have n1_ := am_ (hbox);have n2_ := am_ ((by rw [hg];exact (below_size (z3_ HB.out)) : w.heap.size ≤ gb501));have n3_ := am_ ((by rw [hg];exact (below_size (z3_ HB.out)) : w.heap.size ≤ gb501));clear HB;have HB := n0_;have BK501 := n1_;have GW501 := n2_;have GE501 := n3_;clear n0_ n1_ n2_ n3_;clear hb hbox hg;obtain ⟨hcz7_0, hcz7_1, hcz7_2, hcz7_3, hcz7_4, hcz7_5, hfz7_0⟩ := zc6_ BK501.out))
   go_ret
   exact ⟨z6_, z3_ HB.out⟩
  ·rw [if_neg c5] at H
   have c5b0 : (a0_0 == 2) = false := beq_eq_false_iff_ne.mpr c5
   have c5b1 : (a0_0 != 2) = true := bne_iff_ne.mpr c5
   by_cases c8 : a0_0 = 1
   ·rw [if_pos c8] at H
    have c8b0 : (a0_0 == 1) = true := beq_iff_eq.mpr c8
    have c8b1 : (a0_0 != 1) = false := bne_eq_false_iff_eq.mpr c8
    clear c8
    by_cases c9 : a0_3 ≥ 9223372036854775808
    ·rw [if_pos c9] at H
     have c9b0 : decide (9223372036854775808 ≤ a0_3) = true := decide_eq_true c9
     clear c9
     by_cases c10 : a0_2 ≥ (-1099511627776)
     ·rw [if_pos c10] at H
      have c10b0 : decide ((-1099511627776) ≤ a0_2) = true := decide_eq_true c10
      clear c10
      obtain rfl := Option.some.inj H
      go_enter Try.func87, Try.ntmps87
      go_wp2_with (first | ((with_reducible refine gate_dst (N := 1) rfl ?_);refine box_event ?hg (N := 1) ?hd (cs := #[.int .i64 a0_0,.bool a0_1,.int .i64 a0_2,.int .u64 a0_3,.int .u64 a0_4,.bool a0_5]) (t := 27) ?hr ?_;(case hd => rfl);(case hg => rfl);(case hr => first | (go_simp;done) | (go_simp;rfl));intro gb501 hg w11 hbox hb;have n0_ := am_ (below_step (z3_ HB.out) hb);have n1_ := am_ (hbox);have n2_ := am_ ((by rw [hg];exact (below_size (z3_ HB.out)) : w.heap.size ≤ gb501));have n3_ := am_ ((by rw [hg];exact (below_size (z3_ HB.out)) : w.heap.size ≤ gb501));clear HB;have HB := n0_;have BK501 := n1_;have GW501 := n2_;have GE501 := n3_;clear n0_ n1_ n2_ n3_;clear hb hbox hg;obtain ⟨hcz12_0, hcz12_1, hcz12_2, hcz12_3, hcz12_4, hcz12_5, hfz12_0⟩ := zc6_ BK501.out))
      go_ret
      exact ⟨z6_, z3_ HB.out⟩
     ·rw [if_neg c10] at H
      have c10b0 : decide ((-1099511627776) ≤ a0_2) = false := decide_eq_false c10
      clear c10
      obtain rfl := Option.some.inj H
      go_enter Try.func87, Try.ntmps87
      go_wp2_with (first | ((with_reducible refine gate_dst (N := 1) rfl ?_);refine box_event ?hg (N := 1) ?hd (cs := #[.int .i64 a0_0,.bool a0_1,.int .i64 a0_2,.int .u64 a0_3,.int .u64 a0_4,.bool a0_5]) (t := 27) ?hr ?_;(case hd => rfl);(case hg => rfl);(case hr => first | (go_simp;done) | (go_simp;rfl));intro gb501 hg w13 hbox hb;have n0_ := am_ (below_step (z3_ HB.out) hb);have n1_ := am_ (hbox);have n2_ := am_ ((by rw [hg];exact (below_size (z3_ HB.out)) : w.heap.size ≤ gb501));have n3_ := am_ ((by rw [hg];exact (below_size (z3_ HB.out)) : w.heap.size ≤ gb501));clear HB;have HB := n0_;have BK501 := n1_;have GW501 := n2_;have GE501 := n3_;clear n0_ n1_ n2_ n3_;clear hb hbox hg;obtain ⟨hcz14_0, hcz14_1, hcz14_2, hcz14_3, hcz14_4, hcz14_5, hfz14_0⟩ := zc6_ BK501.out))
      go_ret
      exact ⟨z6_, z3_ HB.out⟩
    ·rw [if_neg c9] at H
     have c9b0 : decide (9223372036854775808 ≤ a0_3) = false := decide_eq_false c9
     clear c9
     obtain rfl := Option.some.inj H
     go_enter Try.func87, Try.ntmps87
     go_wp2_with (first | ((with_reducible refine gate_dst (N := 1) rfl ?_);refine box_event ?hg (N := 1) ?hd (cs := #[.int .i64 a0_0,.bool a0_1,.int .i64 a0_2,.int .u64 a0_3,.int .u64 a0_4,.bool a0_5]) (t := 27) ?hr ?_;(case hd => rfl);(case hg => rfl);(case hr => first | (go_simp;done) | (go_simp;rfl));intro gb501 hg w15 hbox hb;have n0_ := am_ (below_step (z3_ HB.out) hb);have n1_ := am_ (hbox);have n2_ := am_ ((by rw [hg];exact (below_size (z3_ HB.out)) : w.heap.size ≤ gb501));have n3_ := am_ ((by rw [hg];exact (below_size (z3_ HB.out)) : w.heap.size ≤ gb501));clear HB;have HB := n0_;have BK501 := n1_;have GW501 := n2_;have GE501 := n3_;clear n0_ n1_ n2_ n3_;clear hb hbox hg;obtain ⟨hcz16_0, hcz16_1, hcz16_2, hcz16_3, hcz16_4, hcz16_5, hfz16_0⟩ := zc6_ BK501.out))
     go_ret
     exact ⟨z6_, z3_ HB.out⟩
   ·rw [if_neg c8] at H
    have c8b0 : (a0_0 == 1) = false := beq_eq_false_iff_ne.mpr c8
    have c8b1 : (a0_0 != 1) = true := bne_iff_ne.mpr c8
    obtain rfl := Option.some.inj H
    go_enter Try.func87, Try.ntmps87
    go_wp2_with (first | ((with_reducible refine gate_dst (N := 1) rfl ?_);refine box_event ?hg (N := 1) ?hd (cs := #[.int .i64 a0_0,.bool a0_1,.int .i64 a0_2,.int .u64 a0_3,.int .u64 a0_4,.bool a0_5]) (t := 27) ?hr ?_;(case hd => rfl);(case hg => rfl);(case hr => first | (go_simp;done) | (go_simp;rfl));intro gb501 hg w17 hbox hb;have n0_ := am_ (below_step (z3_ HB.out) hb);have n1_ := am_ (hbox);have n2_ := am_ ((by rw [hg];exact (below_size (z3_ HB.out)) : w.heap.size ≤ gb501));have n3_ := am_ ((by rw [hg];exact (below_size (z3_ HB.out)) : w.heap.size ≤ gb501));clear HB;have HB := n0_;have BK501 := n1_;have GW501 := n2_;have GE501 := n3_;clear n0_ n1_ n2_ n3_;clear hb hbox hg;obtain ⟨hcz18_0, hcz18_1, hcz18_2, hcz18_3, hcz18_4, hcz18_5, hfz18_0⟩ := zc6_ BK501.out))
    go_ret
    exact ⟨z6_, z3_ HB.out⟩
end Go.Proofs.Ytebhpipfkomhjaa.PAll
namespace Go.Proofs.Ytebhpipfkomhjaa.PAll
open Go.RowKit Go.Proofs.YtebhpipfkomhjaaW.PrintWords Go.Proofs.YtebhpipfkomhjaaW.PrintLast Go.Proofs.YtebhpipfkomhjaaW.PrintMore
attribute [local go_sem] max2_int min2_int max_two min_two max_three min_three max_four min_four
set_option linter.unusedVariables false
set_option linter.unusedSimpArgs false
def vernierref07_some.l0 : Nat → ByteArray → Int → Option (Bool)
 | 0, _, _ => none
 | k + 1, x0, x3 => if x3 < (x0.size : Int) then (if 0 ≤ x3 then (if (bt x0 x3) = 49 then (some true) else (vernierref07_some.l0 k x0 (wrap64 (x3 + 1)))) else (none)) else (some false)
def vernierref07_some.f (k : Nat) (a0 : ByteArray) : Option (Bool) := vernierref07_some.l0 k a0 0
theorem vernierref07_some.mono_l : ∀ k, (∀ y0 y1, LeO (vernierref07_some.l0 k y0 y1) (vernierref07_some.l0 (k + 1) y0 y1))
 | 0 => fun _ _ r h => by simp [vernierref07_some.l0] at h
 | k + 1 => by
  have ih0 := vernierref07_some.mono_l k
  ·intro y0 y1
   unfold vernierref07_some.l0
   repeat' first
   | (with_reducible exact ih0 _ _)
   | (with_reducible exact LeO.refl _)
   | (with_reducible exact LeO.none _)
   | (with_reducible refine LeO.ite ?_ ?_)
   | (with_reducible refine LeO.bind ?_ (fun _ => ?_))
   | exact ih0 _ _
   | exact LeO.none _
   | refine LeO.ite ?_ ?_
   | refine LeO.bind ?_ (fun _ => ?_)
theorem vernierref07_some.mono : ∀ a0 k, LeO (vernierref07_some.f k a0) (vernierref07_some.f (k + 1) a0) := by
 intro a0 k
 have ih0 := vernierref07_some.mono_l k
 unfold vernierref07_some.f
 repeat' first
   | (with_reducible exact ih0 _ _)
   | (with_reducible exact LeO.refl _)
   | (with_reducible exact LeO.none _)
   | (with_reducible refine LeO.ite ?_ ?_)
   | (with_reducible refine LeO.bind ?_ (fun _ => ?_))
   | exact ih0 _ _
   | exact LeO.none _
   | refine LeO.ite ?_ ?_
   | refine LeO.bind ?_ (fun _ => ?_)
set_option maxHeartbeats 8000000 in
set_option maxRecDepth 100000 in
theorem vernierref07_some.calls (k : Nat) (a0 : ByteArray) (r : Bool) (w : World) (h : vernierref07_some.f k a0 = some r) :
  Calls Try.prog 88 #[.string a0] w fun e w' => e = .returned (.bool r) ∧ Drawn0 w w' := by
 have H : (vernierref07_some.l0 k a0 0) = some r := h
 clear h
 have H' := am_ H
 clear H
 go_enter Try.func88, Try.ntmps88
 go_wp2
 go_loopg [3] k (fun kq v3 w' => ∃ (x3_1 : Int), v3 = .int .i64 x3_1 ∧ Aside0 (vernierref07_some.l0 kq a0 x3_1 = some r) ∧ Aside0 (kq ≤ k) ∧ Drawn0 w w')
 case atStart => exact ⟨(0), (by first | rfl | (simp;done) | (simp [*];done)), H', ⟨Nat.le_refl _⟩, by repeat (first | exact Drawn0.refl _ | apply Drawn0.step)⟩
 case round =>
  clear H'
  obtain ⟨x3_1, rfl, HA, HK1, ⟨m1, rfl⟩⟩ := hrel
  cases gk with
  | zero => exact absurd HA.out (by simp [vernierref07_some.l0])
  | succ k1 =>
   have H := HA.out
   clear HA
   simp only [vernierref07_some.l0] at H
   by_cases c2 : x3_1 < (a0.size : Int)
   ·rw [if_pos c2] at H
    have c2b0 : decide (x3_1 < (a0.size : Int)) = true := decide_eq_true c2
    clear c2
    by_cases c3 : 0 ≤ x3_1
    ·rw [if_pos c3] at H
     have c3b0 : decide (0 ≤ x3_1) = true := decide_eq_true c3
     clear c3
     by_cases c5 : (bt a0 x3_1) = 49
     ·rw [if_pos c5] at H
      have c5b0 : ((bt a0 x3_1) == 49) = true := beq_iff_eq.mpr c5
      have c5b1 : ((bt a0 x3_1) != 49) = false := bne_eq_false_iff_eq.mpr c5
      clear c5
      obtain rfl := Option.some.inj H
      have p4 : 0 ≤ (x3_1 : Int) := of_decide_eq_true (by first | (with_reducible assumption) | assumption)
      have q4 : x3_1 < (a0.size : Int) := of_decide_eq_true (by first | (with_reducible assumption) | assumption)
      have hx4 := bt_at a0 x3_1
      replace p4 := eq_true p4
      replace q4 := eq_true q4
      go_wp2
      go_ret
      exact ⟨by first | rfl | (simp;done) | (simp [*];done), by repeat (first | exact Drawn0.refl _ | apply Drawn0.step)⟩
     ·rw [if_neg c5] at H
      have c5b0 : ((bt a0 x3_1) == 49) = false := beq_eq_false_iff_ne.mpr c5
      have c5b1 : ((bt a0 x3_1) != 49) = true := bne_iff_ne.mpr c5
      have H' := am_ H
      clear H
      have p4 : 0 ≤ (x3_1 : Int) := of_decide_eq_true (by first | (with_reducible assumption) | assumption)
      have q4 : x3_1 < (a0.size : Int) := of_decide_eq_true (by first | (with_reducible assumption) | assumption)
      have hx4 := bt_at a0 x3_1
      replace p4 := eq_true p4
      replace q4 := eq_true q4
      go_wp2
      go_roundg k1
      case measure => have := HK1.out;omega
      case rel => exact ⟨(wrap64 (x3_1 + 1)), (by first | rfl | (simp;done) | (simp [*];done)), H', ⟨by have := HK1.out;omega⟩, by repeat (first | exact Drawn0.refl _ | apply Drawn0.step)⟩
    ·rw [if_neg c3] at H
     exact absurd H (by simp)
   ·rw [if_neg c2] at H
    have c2b0 : decide (x3_1 < (a0.size : Int)) = false := decide_eq_false c2
    clear c2
    obtain rfl := Option.some.inj H
    go_wp2
    go_ret
    exact ⟨by first | rfl | (simp;done) | (simp [*];done), by repeat (first | exact Drawn0.refl _ | apply Drawn0.step)⟩
mutual
def vernierref07_left.j0 : Nat → ByteArray → Bool → Option (Int)
 | 0, _, _ => none
 | k + 1, x0, x1 => if 1 ≤ (x0.size : Int) then ((vernierref07_some.f k (x0.extract 1 x0.size)).bind fun t502 => (if 0 < (x0.size : Int) then (if (bt x0 0) = 49 then (if t502 = true then (vernierref07_left.j1 k x0 x1 t502 true) else (vernierref07_left.j1 k x0 x1 t502 x1)) else (vernierref07_left.j1 k x0 x1 t502 false)) else (none))) else (none)
def vernierref07_left.j1 : Nat → ByteArray → Bool → Bool → Bool → Option (Int)
 | 0, _, _, _, _ => none
 | k + 1, x0, x1, x5, x11 => if x11 = true then (some 3) else (if 0 < (x0.size : Int) then (if (bt x0 0) = 49 then (some 2) else (if x5 = true then (some 1) else (if x1 = true then (some 1) else (some 0)))) else (none))
end
def vernierref07_left.f (k : Nat) (a0 : ByteArray) (a1 : Bool) : Option (Int) := if a0.toList = ([] : List UInt8) then (vernierref07_left.j0 k (⟨#[48]⟩ : ByteArray) a1) else (vernierref07_left.j0 k a0 a1)
theorem vernierref07_left.mono_l : ∀ k, (∀ y0 y1, LeO (vernierref07_left.j0 k y0 y1) (vernierref07_left.j0 (k + 1) y0 y1)) ∧ (∀ y0 y1 y2 y3, LeO (vernierref07_left.j1 k y0 y1 y2 y3) (vernierref07_left.j1 (k + 1) y0 y1 y2 y3))
 | 0 => ⟨fun _ _ r h => by simp [vernierref07_left.j0] at h, fun _ _ _ _ r h => by simp [vernierref07_left.j1] at h⟩
 | k + 1 => by
  obtain ⟨ih0, ih1⟩ := vernierref07_left.mono_l k
  refine ⟨?_, ?_⟩
  ·intro y0 y1
   unfold vernierref07_left.j0
   repeat' first
   | (with_reducible exact ih0 _ _)
   | (with_reducible exact ih1 _ _ _ _)
   | (with_reducible exact vernierref07_some.mono _ _)
   | (with_reducible exact LeO.refl _)
   | (with_reducible exact LeO.none _)
   | (with_reducible refine LeO.ite ?_ ?_)
   | (with_reducible refine LeO.bind ?_ (fun _ => ?_))
   | exact ih0 _ _
   | exact ih1 _ _ _ _
   | exact vernierref07_some.mono _ _
   | exact LeO.none _
   | refine LeO.ite ?_ ?_
   | refine LeO.bind ?_ (fun _ => ?_)
  ·intro y0 y1 y2 y3
   unfold vernierref07_left.j1
   repeat' first
   | (with_reducible exact ih0 _ _)
   | (with_reducible exact ih1 _ _ _ _)
   | (with_reducible exact vernierref07_some.mono _ _)
   | (with_reducible exact LeO.refl _)
   | (with_reducible exact LeO.none _)
   | (with_reducible refine LeO.ite ?_ ?_)
   | (with_reducible refine LeO.bind ?_ (fun _ => ?_))
   | exact ih0 _ _
   | exact ih1 _ _ _ _
   | exact vernierref07_some.mono _ _
   | exact LeO.none _
   | refine LeO.ite ?_ ?_
   | refine LeO.bind ?_ (fun _ => ?_)
theorem vernierref07_left.mono : ∀ a0 a1 k, LeO (vernierref07_left.f k a0 a1) (vernierref07_left.f (k + 1) a0 a1) := by
 intro a0 a1 k
 obtain ⟨ih0, ih1⟩ := vernierref07_left.mono_l k
 unfold vernierref07_left.f
 repeat' first
   | (with_reducible exact ih0 _ _)
   | (with_reducible exact ih1 _ _ _ _)
   | (with_reducible exact vernierref07_some.mono _ _)
   | (with_reducible exact LeO.refl _)
   | (with_reducible exact LeO.none _)
   | (with_reducible refine LeO.ite ?_ ?_)
   | (with_reducible refine LeO.bind ?_ (fun _ => ?_))
   | exact ih0 _ _
   | exact ih1 _ _ _ _
   | exact vernierref07_some.mono _ _
   | exact LeO.none _
   | refine LeO.ite ?_ ?_
   | refine LeO.bind ?_ (fun _ => ?_)
set_option maxHeartbeats 8000000 in
set_option maxRecDepth 100000 in
theorem vernierref07_left.calls (k : Nat) (a0 : ByteArray) (a1 : Bool) (r : Int) (w : World) (h : vernierref07_left.f k a0 a1 = some r) :
  Calls Try.prog 89 #[.string a0,.bool a1] w fun e w' => e = .returned (.int .i64 r) ∧ Drawn0 w w' := by
 have H : (if a0.toList = ([] : List UInt8) then (vernierref07_left.j0 k (⟨#[48]⟩ : ByteArray) a1) else (vernierref07_left.j0 k a0 a1)) = some r := h
 clear h
 have HC3 := am_ H
 clear H
 go_enter Try.func89, Try.ntmps89
 go_upto_if 7 with (fail)
 go_cut [0] (fun v0 wc => ∃ (kq : Nat) (x0_2 : ByteArray), v0 = .string x0_2 ∧ Aside0 (vernierref07_left.j0 kq x0_2 a1 = some r) ∧ Aside0 (kq ≤ k) ∧ Drawn0 w wc)
 case first =>
  have H := HC3.out
  clear HC3
  by_cases c4 : a0.toList = ([] : List UInt8)
  ·rw [if_pos c4] at H
   have c4b0 : a0.toList.isEmpty = true := by first | simpa using c4 | simp [c4]
   have c4b1 : (a0.toList == ([] : List UInt8)) = true := beq_iff_eq.mpr c4
   have c4b2 : (a0.toList != ([] : List UInt8)) = false := bne_eq_false_iff_eq.mpr c4
   clear c4
   (first | rw [c4b0] | (simp only [i64_w, i32_w];rw [c4b0]) | skip)
   have H' := am_ H
   clear H
   go_wp2
   go_meet
   case rel => exact ⟨_, ((⟨#[48]⟩ : ByteArray)), (by first | rfl | (simp;done) | (simp [*];done)), H', ⟨by first | omega | exact Nat.le_refl _⟩, by repeat (first | exact Drawn0.refl _ | apply Drawn0.step)⟩
  ·rw [if_neg c4] at H
   have c4b0 : a0.toList.isEmpty = false := by first | simpa using c4 | simp [c4]
   have c4b1 : (a0.toList == ([] : List UInt8)) = false := beq_eq_false_iff_ne.mpr c4
   have c4b2 : (a0.toList != ([] : List UInt8)) = true := bne_iff_ne.mpr c4
   (first | rw [c4b0] | (simp only [i64_w, i32_w];rw [c4b0]) | skip)
   have H' := am_ H
   clear H
   go_wp2
   go_meet
   case rel => exact ⟨_, (a0), (by first | rfl | (simp;done) | (simp [*];done)), H', ⟨by first | omega | exact Nat.le_refl _⟩, by repeat (first | exact Drawn0.refl _ | apply Drawn0.step)⟩
 case rest =>
  clear HC3
  obtain ⟨kq, x0_2, rfl, HA, HJ2, ⟨mc2, rfl⟩⟩ := hcut
  cases kq with
  | zero => exact absurd HA.out (by simp [vernierref07_left.j0])
  | succ kj2 =>
   have H := HA.out
   clear HA
   simp only [vernierref07_left.j0] at H
   by_cases c5 : 1 ≤ (x0_2.size : Int)
   ·rw [if_pos c5] at H
    have c5b0 := eq_true c5
    have c5b1 : decide (1 ≤ (x0_2.size : Int)) = true := decide_eq_true c5
    clear c5
    replace H := Option.bind_eq_some_iff.mp H
    obtain ⟨t502, A60, H⟩ := H
    replace H : (if 0 < (x0_2.size : Int) then (if (bt x0_2 0) = 49 then (if t502 = true then (vernierref07_left.j1 kj2 x0_2 a1 t502 true) else (vernierref07_left.j1 kj2 x0_2 a1 t502 a1)) else (vernierref07_left.j1 kj2 x0_2 a1 t502 false)) else (none)) = some r := H
    have A6 := am_ A60
    clear A60
    have HC7 := am_ H
    clear H
    go_upto_region 4 with (first | ((with_reducible refine gate_callee (f := 88) rfl ?_);refine goesL_ (some 10) rfl rfl Try.func88 (by kernel_rfl) rfl #[.string (x0_2.extract 1 x0_2.size)] rfl z5_ ?_;(with_reducible refine (vernierref07_some.calls kj2 (x0_2.extract 1 x0_2.size) t502 _ A6.out).mono ?_);rintro e w' ⟨rfl, ⟨nd, rfl⟩⟩;refine ⟨_, rfl, ?_⟩))
    (try simp only [Act.put, List.setIfInBounds_toArray, List.set_cons_zero, List.set_cons_succ])
    go_cut [11] (fun v11 wc => ∃ (kq : Nat) (x11_6 : Bool), v11 = .bool x11_6 ∧ Aside0 (vernierref07_left.j1 kq x0_2 a1 t502 x11_6 = some r) ∧ Aside0 (kq ≤ kj2) ∧ Drawn0 w wc)
    case first =>
     have H := HC7.out
     clear HC7
     by_cases c8 : 0 < (x0_2.size : Int)
     ·rw [if_pos c8] at H
      have c8b0 : decide (0 < (x0_2.size : Int)) = true := decide_eq_true c8
      have c8b1 : decide (0 < x0_2.size) = true := decide_eq_true (by omega)
      clear c8
      (first | rw [c8b0] | (simp only [i64_w, i32_w];rw [c8b0]) | skip)
      by_cases c10 : (bt x0_2 0) = 49
      ·rw [if_pos c10] at H
       have c10b0 : ((bt x0_2 0) == 49) = true := beq_iff_eq.mpr c10
       have c10b1 : ((bt x0_2 0) != 49) = false := bne_eq_false_iff_eq.mpr c10
       clear c10
       by_cases c11 : t502 = true
       ·subst c11
        have H1 : (vernierref07_left.j1 kj2 x0_2 a1 true true) = some r := by rw [if_pos rfl] at H;exact H
        clear H
        have H := H1
        clear H1
        have H' := am_ H
        clear H
        have p9 : 0 ≤ (0 : Int) := (by omega)
        have q9 : 0 < x0_2.size := (by have : (0 : Int) < (x0_2.size : Int) := of_decide_eq_true (by first | (with_reducible assumption) | assumption);omega)
        have hx9 : ∀ h : 0 < x0_2.size, ((x0_2[0]'h).toNat : Int) = bt x0_2 0 := bt_at x0_2 0
        clear p9
        have qi9 : (0 < (x0_2.size : Int)) = True := eq_true (of_decide_eq_true (by first | (with_reducible assumption) | assumption))
        replace q9 := eq_true q9
        go_wp2
        go_meet
        case rel => exact ⟨_, (true), (by first | rfl | (simp;done) | (simp [*];done)), H', ⟨by have := HJ2.out;first | omega | exact Nat.le_refl _⟩, by repeat (first | exact Drawn0.refl _ | apply Drawn0.step)⟩
       ·replace c11 := Bool.eq_false_iff.mpr c11
        subst c11
        have H1 : (vernierref07_left.j1 kj2 x0_2 a1 false a1) = some r := by rw [if_neg (show ¬ (false = true) by decide)] at H;exact H
        clear H
        have H := H1
        clear H1
        have H' := am_ H
        clear H
        have p9 : 0 ≤ (0 : Int) := (by omega)
        have q9 : 0 < x0_2.size := (by have : (0 : Int) < (x0_2.size : Int) := of_decide_eq_true (by first | (with_reducible assumption) | assumption);omega)
        have hx9 : ∀ h : 0 < x0_2.size, ((x0_2[0]'h).toNat : Int) = bt x0_2 0 := bt_at x0_2 0
        clear p9
        have qi9 : (0 < (x0_2.size : Int)) = True := eq_true (of_decide_eq_true (by first | (with_reducible assumption) | assumption))
        replace q9 := eq_true q9
        go_wp2
        go_meet
        case rel => exact ⟨_, (a1), (by first | rfl | (simp;done) | (simp [*];done)), H', ⟨by have := HJ2.out;first | omega | exact Nat.le_refl _⟩, by repeat (first | exact Drawn0.refl _ | apply Drawn0.step)⟩
      ·rw [if_neg c10] at H
       have c10b0 : ((bt x0_2 0) == 49) = false := beq_eq_false_iff_ne.mpr c10
       have c10b1 : ((bt x0_2 0) != 49) = true := bne_iff_ne.mpr c10
       have H' := am_ H
       clear H
       have p9 : 0 ≤ (0 : Int) := (by omega)
       have q9 : 0 < x0_2.size := (by have : (0 : Int) < (x0_2.size : Int) := of_decide_eq_true (by first | (with_reducible assumption) | assumption);omega)
       have hx9 : ∀ h : 0 < x0_2.size, ((x0_2[0]'h).toNat : Int) = bt x0_2 0 := bt_at x0_2 0
       clear p9
       have qi9 : (0 < (x0_2.size : Int)) = True := eq_true (of_decide_eq_true (by first | (with_reducible assumption) | assumption))
       replace q9 := eq_true q9
       go_wp2
       go_meet
       case rel => exact ⟨_, (false), (by first | rfl | (simp;done) | (simp [*];done)), H', ⟨by have := HJ2.out;first | omega | exact Nat.le_refl _⟩, by repeat (first | exact Drawn0.refl _ | apply Drawn0.step)⟩
     ·rw [if_neg c8] at H
      exact absurd H (by simp)
    case rest =>
     clear HC7
     try clear c5
     try clear c5b0
     try clear c5b1
     obtain ⟨kq, x11_6, rfl, HA, HJ6, ⟨mc6, rfl⟩⟩ := hcut
     cases kq with
     | zero => exact absurd HA.out (by simp [vernierref07_left.j1])
     | succ kj6 =>
      have H := HA.out
      clear HA
      simp only [vernierref07_left.j1] at H
      by_cases c12 : x11_6 = true
      ·subst c12
       have H1 : (some 3) = some r := by rw [if_pos rfl] at H;exact H
       clear H
       have H := H1
       clear H1
       obtain rfl := Option.some.inj H
       go_wp2
       go_ret
       exact ⟨by first | rfl | (simp;done) | (simp [*];done), by repeat (first | exact Drawn0.refl _ | apply Drawn0.step)⟩
      ·replace c12 := Bool.eq_false_iff.mpr c12
       subst c12
       have H1 : (if 0 < (x0_2.size : Int) then (if (bt x0_2 0) = 49 then (some 2) else (if t502 = true then (some 1) else (if a1 = true then (some 1) else (some 0)))) else (none)) = some r := by rw [if_neg (show ¬ (false = true) by decide)] at H;exact H
       clear H
       have H := H1
       clear H1
       by_cases c13 : 0 < (x0_2.size : Int)
       ·rw [if_pos c13] at H
        have c13b0 : decide (0 < (x0_2.size : Int)) = true := decide_eq_true c13
        have c13b1 : decide (0 < x0_2.size) = true := decide_eq_true (by omega)
        clear c13
        by_cases c15 : (bt x0_2 0) = 49
        ·rw [if_pos c15] at H
         have c15b0 : ((bt x0_2 0) == 49) = true := beq_iff_eq.mpr c15
         have c15b1 : ((bt x0_2 0) != 49) = false := bne_eq_false_iff_eq.mpr c15
         clear c15
         obtain rfl := Option.some.inj H
         have p14 : 0 ≤ (0 : Int) := (by omega)
         have q14 : 0 < x0_2.size := (by have : (0 : Int) < (x0_2.size : Int) := of_decide_eq_true (by first | (with_reducible assumption) | assumption);omega)
         have hx14 : ∀ h : 0 < x0_2.size, ((x0_2[0]'h).toNat : Int) = bt x0_2 0 := bt_at x0_2 0
         clear p14
         have qi14 : (0 < (x0_2.size : Int)) = True := eq_true (of_decide_eq_true (by first | (with_reducible assumption) | assumption))
         replace q14 := eq_true q14
         go_wp2
         go_ret
         exact ⟨by first | rfl | (simp;done) | (simp [*];done), by repeat (first | exact Drawn0.refl _ | apply Drawn0.step)⟩
        ·rw [if_neg c15] at H
         have c15b0 : ((bt x0_2 0) == 49) = false := beq_eq_false_iff_ne.mpr c15
         have c15b1 : ((bt x0_2 0) != 49) = true := bne_iff_ne.mpr c15
         by_cases c16 : t502 = true
         ·subst c16
          have H1 : (some 1) = some r := by rw [if_pos rfl] at H;exact H
          clear H
          have H := H1
          clear H1
          obtain rfl := Option.some.inj H
          have p14 : 0 ≤ (0 : Int) := (by omega)
          have q14 : 0 < x0_2.size := (by have : (0 : Int) < (x0_2.size : Int) := of_decide_eq_true (by first | (with_reducible assumption) | assumption);omega)
          have hx14 : ∀ h : 0 < x0_2.size, ((x0_2[0]'h).toNat : Int) = bt x0_2 0 := bt_at x0_2 0
          clear p14
          have qi14 : (0 < (x0_2.size : Int)) = True := eq_true (of_decide_eq_true (by first | (with_reducible assumption) | assumption))
          replace q14 := eq_true q14
          go_wp2
          go_ret
          exact ⟨by first | rfl | (simp;done) | (simp [*];done), by repeat (first | exact Drawn0.refl _ | apply Drawn0.step)⟩
         ·replace c16 := Bool.eq_false_iff.mpr c16
          subst c16
          have H1 : (if a1 = true then (some 1) else (some 0)) = some r := by rw [if_neg (show ¬ (false = true) by decide)] at H;exact H
          clear H
          have H := H1
          clear H1
          by_cases c17 : a1 = true
          ·subst c17
           have H1 : (some 1) = some r := by rw [if_pos rfl] at H;exact H
           clear H
           have H := H1
           clear H1
           obtain rfl := Option.some.inj H
           have p14 : 0 ≤ (0 : Int) := (by omega)
           have q14 : 0 < x0_2.size := (by have : (0 : Int) < (x0_2.size : Int) := of_decide_eq_true (by first | (with_reducible assumption) | assumption);omega)
           have hx14 : ∀ h : 0 < x0_2.size, ((x0_2[0]'h).toNat : Int) = bt x0_2 0 := bt_at x0_2 0
           clear p14
           have qi14 : (0 < (x0_2.size : Int)) = True := eq_true (of_decide_eq_true (by first | (with_reducible assumption) | assumption))
           replace q14 := eq_true q14
           go_wp2
           go_ret
           exact ⟨by first | rfl | (simp;done) | (simp [*];done), by repeat (first | exact Drawn0.refl _ | apply Drawn0.step)⟩
          ·replace c17 := Bool.eq_false_iff.mpr c17
           subst c17
           have H1 : (some 0) = some r := by rw [if_neg (show ¬ (false = true) by decide)] at H;exact H
           clear H
           have H := H1
           clear H1
           obtain rfl := Option.some.inj H
           have p14 : 0 ≤ (0 : Int) := (by omega)
           have q14 : 0 < x0_2.size := (by have : (0 : Int) < (x0_2.size : Int) := of_decide_eq_true (by first | (with_reducible assumption) | assumption);omega)
           have hx14 : ∀ h : 0 < x0_2.size, ((x0_2[0]'h).toNat : Int) = bt x0_2 0 := bt_at x0_2 0
           clear p14
           have qi14 : (0 < (x0_2.size : Int)) = True := eq_true (of_decide_eq_true (by first | (with_reducible assumption) | assumption))
           replace q14 := eq_true q14
           go_wp2
           go_ret
           exact ⟨by first | rfl | (simp;done) | (simp [*];done), by repeat (first | exact Drawn0.refl _ | apply Drawn0.step)⟩
       ·rw [if_neg c13] at H
        exact absurd H (by simp)
   ·rw [if_neg c5] at H
    exact absurd H (by simp)
mutual
def vernierref07_Cut.j0 : Nat → Int → ByteArray → Bool → Int → Bool → Int → Int → Int → Bool → Option (Int × Int × Int)
 | 0, _, _, _, _, _, _, _, _, _ => none
 | k + 1, x0, x10, x11, x504000, x504001, x504002, x504003, x504004, x504005 => if x504002 ≥ (wrap64 ((wrap64 (4 * x0)) - 8)) then ((vernierref05_Power.f k (wrap64 (x0 - 1))).bind fun t510 => (some (IntKind.u64.wrap (t510 - 1), 0, 0))) else (if x504002 < (wrap64 (-(wrap64 ((wrap64 (4 * x0)) - 8)))) then (vernierref07_Cut.j1 k x0 x10 true x504000 x504001 x504002 x504003 x504004 x504005) else (if x504002 = (wrap64 (-(wrap64 ((wrap64 (4 * x0)) - 8)))) then (vernierref07_Cut.j1 k x0 x10 x11 x504000 x504001 x504002 x504003 x504004 x504005) else (vernierref07_Cut.j1 k x0 x10 false x504000 x504001 x504002 x504003 x504004 x504005)))
def vernierref07_Cut.j1 : Nat → Int → ByteArray → Bool → Int → Bool → Int → Int → Int → Bool → Option (Int × Int × Int)
 | 0, _, _, _, _, _, _, _, _, _ => none
 | k + 1, x0, x10, x73, x504000, x504001, x504002, x504003, x504004, x504005 => if x73 = true then (some (1, 0, 0)) else ((vernierref06_Head.f k x504002).bind fun t511 => (if t511.size + x10.size ≤ 9223372036854775807 then (if 0 ≤ (wrap64 (x0 - 1)) then (if (wrap64 (x0 - 1)) ≤ ((t511 ++ x10).size : Int) then ((vernierref01_Number.f k ((t511 ++ x10).extract 0 ((wrap64 (x0 - 1)) : Int).toNat)).bind fun t512 => ((vernierref07_left.f k ((t511 ++ x10).extract ((wrap64 (x0 - 1)) : Int).toNat (t511 ++ x10).size) x504005).bind fun t513 => (some (t512, t513, 0)))) else (none)) else (none)) else (none)))
end
def vernierref07_Cut.f (k : Nat) (a0 : Int) (a1_0 : Int) (a1_1 : Bool) (a1_2 : Int) (a1_3 : Int) (a1_4 : Int) (a1_5 : Bool) : Option (Int × Int × Int) := (vernierref05_Is.f a0).bind fun t504 => ((vernierref07_Sound.f a1_0 a1_1 a1_2 a1_3 a1_4 a1_5).bind fun t505 => (if t504 = true then (if t505 = true then (if a1_0 = 1 then ((vernierref01_Text.f k a1_3 64).bind fun t507 => (if 1 ≤ (t507.size : Int) then ((vernierref01_Text.f k a1_4 64).bind fun t508 => (if (t507.extract 1 t507.size).size + t508.size ≤ 9223372036854775807 then (if a1_5 = true then (vernierref07_Cut.j0 k a0 ((t507.extract 1 t507.size) ++ t508) false a1_0 a1_1 a1_2 a1_3 a1_4 a1_5) else ((vernierref07_some.f k ((t507.extract 1 t507.size) ++ t508)).bind fun t509 => (vernierref07_Cut.j0 k a0 ((t507.extract 1 t507.size) ++ t508) (!t509) a1_0 a1_1 a1_2 a1_3 a1_4 a1_5))) else (none))) else (none))) else (if a1_0 = 2 then ((vernierref05_Power.f k (wrap64 (a0 - 1))).bind fun t506 => (some (t506, 0, 0))) else (some (0, 0, 0)))) else (some (0, 0, 1))) else (some (0, 0, 2))))
theorem vernierref07_Cut.mono_l : ∀ k, (∀ y0 y1 y2 y3 y4 y5 y6 y7 y8, LeO (vernierref07_Cut.j0 k y0 y1 y2 y3 y4 y5 y6 y7 y8) (vernierref07_Cut.j0 (k + 1) y0 y1 y2 y3 y4 y5 y6 y7 y8)) ∧ (∀ y0 y1 y2 y3 y4 y5 y6 y7 y8, LeO (vernierref07_Cut.j1 k y0 y1 y2 y3 y4 y5 y6 y7 y8) (vernierref07_Cut.j1 (k + 1) y0 y1 y2 y3 y4 y5 y6 y7 y8))
 | 0 => ⟨fun _ _ _ _ _ _ _ _ _ r h => by simp [vernierref07_Cut.j0] at h, fun _ _ _ _ _ _ _ _ _ r h => by simp [vernierref07_Cut.j1] at h⟩
 | k + 1 => by
  obtain ⟨ih0, ih1⟩ := vernierref07_Cut.mono_l k
  refine ⟨?_, ?_⟩
  ·intro y0 y1 y2 y3 y4 y5 y6 y7 y8
   unfold vernierref07_Cut.j0
   repeat' first
   | (with_reducible exact ih0 _ _ _ _ _ _ _ _ _)
   | (with_reducible exact ih1 _ _ _ _ _ _ _ _ _)
   | (with_reducible exact vernierref01_Number.mono _ _)
   | (with_reducible exact vernierref01_Text.mono _ _ _)
   | (with_reducible exact vernierref05_Power.mono _ _)
   | (with_reducible exact vernierref06_Head.mono _ _)
   | (with_reducible exact vernierref07_left.mono _ _ _)
   | (with_reducible exact vernierref07_some.mono _ _)
   | (with_reducible exact LeO.refl _)
   | (with_reducible exact LeO.none _)
   | (with_reducible refine LeO.ite ?_ ?_)
   | (with_reducible refine LeO.bind ?_ (fun _ => ?_))
   | exact ih0 _ _ _ _ _ _ _ _ _
   | exact ih1 _ _ _ _ _ _ _ _ _
   | exact vernierref01_Number.mono _ _
   | exact vernierref01_Text.mono _ _ _
   | exact vernierref05_Power.mono _ _
   | exact vernierref06_Head.mono _ _
   | exact vernierref07_left.mono _ _ _
   | exact vernierref07_some.mono _ _
   | exact LeO.none _
   | refine LeO.ite ?_ ?_
   | refine LeO.bind ?_ (fun _ => ?_)
  ·intro y0 y1 y2 y3 y4 y5 y6 y7 y8
   unfold vernierref07_Cut.j1
   repeat' first
   | (with_reducible exact ih0 _ _ _ _ _ _ _ _ _)
   | (with_reducible exact ih1 _ _ _ _ _ _ _ _ _)
   | (with_reducible exact vernierref01_Number.mono _ _)
   | (with_reducible exact vernierref01_Text.mono _ _ _)
   | (with_reducible exact vernierref05_Power.mono _ _)
   | (with_reducible exact vernierref06_Head.mono _ _)
   | (with_reducible exact vernierref07_left.mono _ _ _)
   | (with_reducible exact vernierref07_some.mono _ _)
   | (with_reducible exact LeO.refl _)
   | (with_reducible exact LeO.none _)
   | (with_reducible refine LeO.ite ?_ ?_)
   | (with_reducible refine LeO.bind ?_ (fun _ => ?_))
   | exact ih0 _ _ _ _ _ _ _ _ _
   | exact ih1 _ _ _ _ _ _ _ _ _
   | exact vernierref01_Number.mono _ _
   | exact vernierref01_Text.mono _ _ _
   | exact vernierref05_Power.mono _ _
   | exact vernierref06_Head.mono _ _
   | exact vernierref07_left.mono _ _ _
   | exact vernierref07_some.mono _ _
   | exact LeO.none _
   | refine LeO.ite ?_ ?_
   | refine LeO.bind ?_ (fun _ => ?_)
theorem vernierref07_Cut.mono : ∀ a0 a1 a2 a3 a4 a5 a6 k, LeO (vernierref07_Cut.f k a0 a1 a2 a3 a4 a5 a6) (vernierref07_Cut.f (k + 1) a0 a1 a2 a3 a4 a5 a6) := by
 intro a0 a1 a2 a3 a4 a5 a6 k
 obtain ⟨ih0, ih1⟩ := vernierref07_Cut.mono_l k
 unfold vernierref07_Cut.f
 repeat' first
   | (with_reducible exact ih0 _ _ _ _ _ _ _ _ _)
   | (with_reducible exact ih1 _ _ _ _ _ _ _ _ _)
   | (with_reducible exact vernierref01_Number.mono _ _)
   | (with_reducible exact vernierref01_Text.mono _ _ _)
   | (with_reducible exact vernierref05_Power.mono _ _)
   | (with_reducible exact vernierref06_Head.mono _ _)
   | (with_reducible exact vernierref07_left.mono _ _ _)
   | (with_reducible exact vernierref07_some.mono _ _)
   | (with_reducible exact LeO.refl _)
   | (with_reducible exact LeO.none _)
   | (with_reducible refine LeO.ite ?_ ?_)
   | (with_reducible refine LeO.bind ?_ (fun _ => ?_))
   | exact ih0 _ _ _ _ _ _ _ _ _
   | exact ih1 _ _ _ _ _ _ _ _ _
   | exact vernierref01_Number.mono _ _
   | exact vernierref01_Text.mono _ _ _
   | exact vernierref05_Power.mono _ _
   | exact vernierref06_Head.mono _ _
   | exact vernierref07_left.mono _ _ _
   | exact vernierref07_some.mono _ _
   | exact LeO.none _
   | refine LeO.ite ?_ ?_
   | refine LeO.bind ?_ (fun _ => ?_)
def vernierref07_Cut.T12 : Bool × List (List Nat × List Nat) := (true,[([], []), ([0], [0]), ([1], [1]), ([2], [2]), ([], []), ([4], [4]), ([5, 2], [5]), ([3, 6], [3, 6]), ([7, 6, 0, 1, 2, 3, 4, 5, 6, 7], [7])])
def vernierref07_Cut.B12 : List Nat := [0, 1, 3, 7, 0, 16, 55, 127, 255]
theorem vernierref07_Cut.tab12 : rtab .any (opsOf Try.f83 12) = vernierref07_Cut.T12 := by kernel_rfl
theorem vernierref07_Cut.bits12 : waitsOk vernierref07_Cut.T12.2 vernierref07_Cut.B12 = true := by kernel_rfl
def vernierref07_Cut.T20 : Bool × List (List Nat × List Nat) := (true,[([], []), ([], []), ([1], [1]), ([0, 2], [0, 2]), ([3], [3]), ([], []), ([], []), ([6], [6]), ([5, 7], [5, 7]), ([], []), ([9], [9]), ([8, 10, 4], [8, 10]), ([4, 11, 0, 1, 2, 3, 4], [4]), ([11, 12, 0, 1, 2, 3, 4, 5, 6, 7, 8, 9, 10, 11, 12], [11]), ([13, 0, 1, 2, 3, 4, 5, 6, 7, 8, 9, 10, 11, 12, 13], [])])
def vernierref07_Cut.B20 : List Nat := [0, 0, 2, 7, 15, 0, 0, 64, 224, 0, 512, 2047, 4095, 8191, 16383]
theorem vernierref07_Cut.tab20 : rtab .any (opsOf Try.f83 20) = vernierref07_Cut.T20 := by kernel_rfl
theorem vernierref07_Cut.bits20 : waitsOk vernierref07_Cut.T20.2 vernierref07_Cut.B20 = true := by kernel_rfl
set_option maxHeartbeats 8000000 in
set_option maxRecDepth 100000 in
theorem vernierref07_Cut.calls (k : Nat) (a0 : Int) (a1_0 : Int) (a1_1 : Bool) (a1_2 : Int) (a1_3 : Int) (a1_4 : Int) (a1_5 : Bool) (r1 : Int) (r2 : Int) (r3 : Int) (w : World) (h : vernierref07_Cut.f k a0 a1_0 a1_1 a1_2 a1_3 a1_4 a1_5 = some (r1, r2, r3)) :
  Calls Try.prog 83 #[.int .i64 a0,.agg #[.int .i64 a1_0,.bool a1_1,.int .i64 a1_2,.int .u64 a1_3,.int .u64 a1_4,.bool a1_5]] w fun e w' => e = .returned (.tuple #[.int .u64 r1,.int .i64 r2,.int .i64 r3]) ∧ Below w.heap.size w w' := by
 have hu27 := Try.underlying27
 have HB := am_ (Below.refl w.heap.size w)
 have H : ((vernierref05_Is.f a0).bind fun t504 => ((vernierref07_Sound.f a1_0 a1_1 a1_2 a1_3 a1_4 a1_5).bind fun t505 => (if t504 = true then (if t505 = true then (if a1_0 = 1 then ((vernierref01_Text.f k a1_3 64).bind fun t507 => (if 1 ≤ (t507.size : Int) then ((vernierref01_Text.f k a1_4 64).bind fun t508 => (if (t507.extract 1 t507.size).size + t508.size ≤ 9223372036854775807 then (if a1_5 = true then (vernierref07_Cut.j0 k a0 ((t507.extract 1 t507.size) ++ t508) false a1_0 a1_1 a1_2 a1_3 a1_4 a1_5) else ((vernierref07_some.f k ((t507.extract 1 t507.size) ++ t508)).bind fun t509 => (vernierref07_Cut.j0 k a0 ((t507.extract 1 t507.size) ++ t508) (!t509) a1_0 a1_1 a1_2 a1_3 a1_4 a1_5))) else (none))) else (none))) else (if a1_0 = 2 then ((vernierref05_Power.f k (wrap64 (a0 - 1))).bind fun t506 => (some (t506, 0, 0))) else (some (0, 0, 0)))) else (some (0, 0, 1))) else (some (0, 0, 2))))) = some (r1, r2, r3) := h
 clear h
 replace H := Option.bind_eq_some_iff.mp H
 obtain ⟨t504, A30, H⟩ := H
 replace H : ((vernierref07_Sound.f a1_0 a1_1 a1_2 a1_3 a1_4 a1_5).bind fun t505 => (if t504 = true then (if t505 = true then (if a1_0 = 1 then ((vernierref01_Text.f k a1_3 64).bind fun t507 => (if 1 ≤ (t507.size : Int) then ((vernierref01_Text.f k a1_4 64).bind fun t508 => (if (t507.extract 1 t507.size).size + t508.size ≤ 9223372036854775807 then (if a1_5 = true then (vernierref07_Cut.j0 k a0 ((t507.extract 1 t507.size) ++ t508) false a1_0 a1_1 a1_2 a1_3 a1_4 a1_5) else ((vernierref07_some.f k ((t507.extract 1 t507.size) ++ t508)).bind fun t509 => (vernierref07_Cut.j0 k a0 ((t507.extract 1 t507.size) ++ t508) (!t509) a1_0 a1_1 a1_2 a1_3 a1_4 a1_5))) else (none))) else (none))) else (if a1_0 = 2 then ((vernierref05_Power.f k (wrap64 (a0 - 1))).bind fun t506 => (some (t506, 0, 0))) else (some (0, 0, 0)))) else (some (0, 0, 1))) else (some (0, 0, 2)))) = some (r1, r2, r3) := H
 have A3 := am_ A30
 clear A30
 replace H := Option.bind_eq_some_iff.mp H
 obtain ⟨t505, A40, H⟩ := H
 replace H : (if t504 = true then (if t505 = true then (if a1_0 = 1 then ((vernierref01_Text.f k a1_3 64).bind fun t507 => (if 1 ≤ (t507.size : Int) then ((vernierref01_Text.f k a1_4 64).bind fun t508 => (if (t507.extract 1 t507.size).size + t508.size ≤ 9223372036854775807 then (if a1_5 = true then (vernierref07_Cut.j0 k a0 ((t507.extract 1 t507.size) ++ t508) false a1_0 a1_1 a1_2 a1_3 a1_4 a1_5) else ((vernierref07_some.f k ((t507.extract 1 t507.size) ++ t508)).bind fun t509 => (vernierref07_Cut.j0 k a0 ((t507.extract 1 t507.size) ++ t508) (!t509) a1_0 a1_1 a1_2 a1_3 a1_4 a1_5))) else (none))) else (none))) else (if a1_0 = 2 then ((vernierref05_Power.f k (wrap64 (a0 - 1))).bind fun t506 => (some (t506, 0, 0))) else (some (0, 0, 0)))) else (some (0, 0, 1))) else (some (0, 0, 2))) = some (r1, r2, r3) := H
 have A4 := am_ A40
 clear A40
 by_cases c5 : t504 = true
 ·subst c5
  have H1 : (if t505 = true then (if a1_0 = 1 then ((vernierref01_Text.f k a1_3 64).bind fun t507 => (if 1 ≤ (t507.size : Int) then ((vernierref01_Text.f k a1_4 64).bind fun t508 => (if (t507.extract 1 t507.size).size + t508.size ≤ 9223372036854775807 then (if a1_5 = true then (vernierref07_Cut.j0 k a0 ((t507.extract 1 t507.size) ++ t508) false a1_0 a1_1 a1_2 a1_3 a1_4 a1_5) else ((vernierref07_some.f k ((t507.extract 1 t507.size) ++ t508)).bind fun t509 => (vernierref07_Cut.j0 k a0 ((t507.extract 1 t507.size) ++ t508) (!t509) a1_0 a1_1 a1_2 a1_3 a1_4 a1_5))) else (none))) else (none))) else (if a1_0 = 2 then ((vernierref05_Power.f k (wrap64 (a0 - 1))).bind fun t506 => (some (t506, 0, 0))) else (some (0, 0, 0)))) else (some (0, 0, 1))) = some (r1, r2, r3) := by rw [if_pos rfl] at H;exact H
  clear H
  have H := H1
  clear H1
  by_cases c6 : t505 = true
  ·subst c6
   have H1 : (if a1_0 = 1 then ((vernierref01_Text.f k a1_3 64).bind fun t507 => (if 1 ≤ (t507.size : Int) then ((vernierref01_Text.f k a1_4 64).bind fun t508 => (if (t507.extract 1 t507.size).size + t508.size ≤ 9223372036854775807 then (if a1_5 = true then (vernierref07_Cut.j0 k a0 ((t507.extract 1 t507.size) ++ t508) false a1_0 a1_1 a1_2 a1_3 a1_4 a1_5) else ((vernierref07_some.f k ((t507.extract 1 t507.size) ++ t508)).bind fun t509 => (vernierref07_Cut.j0 k a0 ((t507.extract 1 t507.size) ++ t508) (!t509) a1_0 a1_1 a1_2 a1_3 a1_4 a1_5))) else (none))) else (none))) else (if a1_0 = 2 then ((vernierref05_Power.f k (wrap64 (a0 - 1))).bind fun t506 => (some (t506, 0, 0))) else (some (0, 0, 0)))) = some (r1, r2, r3) := by rw [if_pos rfl] at H;exact H
   clear H
   have H := H1
   clear H1
   by_cases c7 : a1_0 = 1
   ·rw [if_pos c7] at H
    have c7b0 : (a1_0 == 1) = true := beq_iff_eq.mpr c7
    have c7b1 : (a1_0 != 1) = false := bne_eq_false_iff_eq.mpr c7
    clear c7
    replace H := Option.bind_eq_some_iff.mp H
    obtain ⟨t507, A80, H⟩ := H
    replace H : (if 1 ≤ (t507.size : Int) then ((vernierref01_Text.f k a1_4 64).bind fun t508 => (if (t507.extract 1 t507.size).size + t508.size ≤ 9223372036854775807 then (if a1_5 = true then (vernierref07_Cut.j0 k a0 ((t507.extract 1 t507.size) ++ t508) false a1_0 a1_1 a1_2 a1_3 a1_4 a1_5) else ((vernierref07_some.f k ((t507.extract 1 t507.size) ++ t508)).bind fun t509 => (vernierref07_Cut.j0 k a0 ((t507.extract 1 t507.size) ++ t508) (!t509) a1_0 a1_1 a1_2 a1_3 a1_4 a1_5))) else (none))) else (none)) = some (r1, r2, r3) := H
    have A8 := am_ A80
    clear A80
    by_cases c9 : 1 ≤ (t507.size : Int)
    ·rw [if_pos c9] at H
     have c9b0 := eq_true c9
     have c9b1 : decide (1 ≤ (t507.size : Int)) = true := decide_eq_true c9
     clear c9
     replace H := Option.bind_eq_some_iff.mp H
     obtain ⟨t508, A100, H⟩ := H
     replace H : (if (t507.extract 1 t507.size).size + t508.size ≤ 9223372036854775807 then (if a1_5 = true then (vernierref07_Cut.j0 k a0 ((t507.extract 1 t507.size) ++ t508) false a1_0 a1_1 a1_2 a1_3 a1_4 a1_5) else ((vernierref07_some.f k ((t507.extract 1 t507.size) ++ t508)).bind fun t509 => (vernierref07_Cut.j0 k a0 ((t507.extract 1 t507.size) ++ t508) (!t509) a1_0 a1_1 a1_2 a1_3 a1_4 a1_5))) else (none)) = some (r1, r2, r3) := H
     have A10 := am_ A100
     clear A100
     by_cases c11 : (t507.extract 1 t507.size).size + t508.size ≤ 9223372036854775807
     ·rw [if_pos c11] at H
      have c11b0 := eq_true c11
      have c11b1 : decide ((t507.extract 1 t507.size).size + t508.size ≤ 9223372036854775807) = true := decide_eq_true c11
      try have c11b2 : (9223372036854775807 < (t507.extract 1 t507.size).size + t508.size) = False := eq_false (Nat.not_lt.2 c11)
      (try (have c11e0 := c11b0;simp only [ByteArray.size_extract, Nat.min_self, Nat.sub_zero] at c11e0))
      (try (have c11e1 := c11b1;simp only [ByteArray.size_extract, Nat.min_self, Nat.sub_zero] at c11e1))
      (try (have c11e2 := c11b2;simp only [ByteArray.size_extract, Nat.min_self, Nat.sub_zero] at c11e2))
      obtain ⟨ji12, hji12⟩ : ∃ j_ : ByteArray, ((t507.extract 1 t507.size) ++ t508) = j_ := ⟨_, rfl⟩
      replace H : (if a1_5 = true then (vernierref07_Cut.j0 k a0 ji12 false a1_0 a1_1 a1_2 a1_3 a1_4 a1_5) else ((vernierref07_some.f k (ji12)).bind fun t509 => (vernierref07_Cut.j0 k a0 ji12 (!t509) a1_0 a1_1 a1_2 a1_3 a1_4 a1_5))) = some (r1, r2, r3) := by first | (rw [hji12] at H;exact H) | (simp only [hji12] at H ⊢;exact H)
      (try rw [hji12] at A3)
      (try rw [hji12] at A4)
      (try rw [hji12] at A8)
      (try rw [hji12] at A10)
      have HC13 := am_ H
      clear H
      go_enter Try.func83, Try.ntmps83
      try go_wp2_with (first | ((with_reducible refine gate_dst (N := 3) rfl ?_);refine box_event ?hg (N := 3) ?hd (cs := #[.int .i64 a1_0,.bool a1_1,.int .i64 a1_2,.int .u64 a1_3,.int .u64 a1_4,.bool a1_5]) (t := 27) ?hr ?_;(case hd => rfl);(case hg => rfl);(case hr => first | (go_simp;done) | (go_simp;rfl));intro gb503 hg w14 hbox hb;have n0_ := am_ (below_step (z3_ HB.out) hb);have n1_ := am_ (hbox);have n2_ := am_ ((by rw [hg];exact (below_size (z3_ HB.out)) : w.heap.size ≤ gb503));have n3_ := am_ ((by rw [hg];exact (below_size (z3_ HB.out)) : w.heap.size ≤ gb503));clear HB;have HB := n0_;have BK503 := n1_;have GW503 := n2_;have GE503 := n3_;clear n0_ n1_ n2_ n3_;clear hb hbox hg) | ((with_reducible refine gate_callee (f := 14) rfl ?_);refine goesL_ (some 15) rfl rfl Try.func14 (by kernel_rfl) rfl #[.int .i64 a0] rfl z5_ ?_;(with_reducible refine (vernierref05_Is.calls a0 true _ A3.out).mono ?_);rintro e w' ⟨rfl, ⟨nd, rfl⟩⟩;refine ⟨_, rfl, ?_⟩;obtain ⟨hcz15_0, hcz15_1, hcz15_2, hcz15_3, hcz15_4, hcz15_5, hfz15_0⟩ := zc6_ BK503.out) | ((with_reducible refine gate_callee (f := 87) rfl ?_);refine goesL_ (some 17) rfl rfl Try.func87 (by kernel_rfl) rfl #[.agg #[.int .i64 a1_0,.bool a1_1,.int .i64 a1_2,.int .u64 a1_3,.int .u64 a1_4,.bool a1_5]] rfl z5_ ?_;(with_reducible refine (vernierref07_Sound.calls a1_0 a1_1 a1_2 a1_3 a1_4 a1_5 true _ A4.out).mono ?_);rintro e w16 ⟨rfl, hb⟩;refine ⟨_, rfl, ?_⟩;have n0_ := am_ (blk_below (g := gb503) (z1_ BK503.out) hb);have n1_ := am_ (below_step (z3_ HB.out) hb);clear BK503;clear HB;have BK503 := n0_;have HB := n1_;clear n0_ n1_;(try clear hb);obtain ⟨hcz17_0, hcz17_1, hcz17_2, hcz17_3, hcz17_4, hcz17_5, hfz17_0⟩ := zc6_ BK503.out))
      have n0_ := am_ (blk_drew BK503.out)
      have n1_ := am_ (below_drew1 HB.out)
      clear BK503
      clear HB
      have BK503 := n0_
      have HB := n1_
      clear n0_ n1_
      refine start_ (n := 9) (S := fun w' => w'.cell? ⟨gb503, 0, none⟩ = some (.int .i64 a1_0) ∧ w'.cell? ⟨gb503, 1, none⟩ = some (.bool a1_1) ∧ w'.cell? ⟨gb503, 2, none⟩ = some (.int .i64 a1_2) ∧ w'.cell? ⟨gb503, 3, none⟩ = some (.int .u64 a1_3) ∧ w'.cell? ⟨gb503, 4, none⟩ = some (.int .u64 a1_4) ∧ w'.cell? ⟨gb503, 5, none⟩ = some (.bool a1_5)) (ds := []) #[false,false,false,false,false,false,false,false,false] (by kernel_rfl) rfl rfl ⟨(blk_cell BK503.out 0).trans rfl, (blk_cell BK503.out 1).trans rfl, (blk_cell BK503.out 2).trans rfl, (blk_cell BK503.out 3).trans rfl, (blk_cell BK503.out 4).trans rfl, (blk_cell BK503.out 5).trans rfl⟩ (fun hHeld => ?_);refine with_tabW vernierref07_Cut.tab12 vernierref07_Cut.bits12 (fun HT_ HW_ => ?_)
      generalize w16.drew = w18 at BK503 HB hHeld ⊢
      refine pure_ (i := 0) (N := some 32) (v := ?_) (a' := ?_) #[true,false,false,false,false,false,false,false,false] rfl rfl (any_of HT_.out (by kernel_rfl)) (fun _ _ _ h => h) (Or.inl ⟨by rfl, ?_⟩) ?_ ?_
      rotate_left
      ·intro w'
       go_simp
       with_reducible rfl
      rotate_left
      ·simp only [Act.put, List.setIfInBounds_toArray, List.set_cons_zero, List.set_cons_succ, i64_w, i32_w]
       rfl
      refine pure_ (i := 4) (N := some 36) (v := ?_) (a' := ?_) #[true,false,false,false,true,false,false,false,false] rfl rfl (any_of HT_.out (by kernel_rfl)) (fun _ _ _ h => h) (Or.inl ⟨by rfl, ?_⟩) ?_ ?_
      rotate_left
      ·intro w'
       go_simp
       with_reducible rfl
      rotate_left
      ·simp only [Act.put, List.setIfInBounds_toArray, List.set_cons_zero, List.set_cons_succ, i64_w, i32_w]
       rfl
      refine take_ (i := 1) (N := some 33) (v := ?_) (a' := ?_) #[true,true,false,false,true,false,false,false,false] rfl rfl (take_ofW HT_.out HW_.out (by kernel_rfl)) (fun _ _ _ h => h) (Or.inl ⟨by rfl, ?_⟩) hHeld ?_ ?_
      rotate_left
      ·rintro w' ⟨s0, s1, s2, s3, s4, s5⟩
       go_simp
       with_reducible rfl
      rotate_left
      ·simp only [Act.put, List.setIfInBounds_toArray, List.set_cons_zero, List.set_cons_succ, i64_w, i32_w]
       rfl
      refine take_ (i := 5) (N := some 37) (v := ?_) (a' := ?_) #[true,true,false,false,true,true,false,false,false] rfl rfl (take_ofW HT_.out HW_.out (by kernel_rfl)) (fun _ _ _ h => h) (Or.inl ⟨by rfl, ?_⟩) hHeld ?_ ?_
      rotate_left
      ·rintro w' ⟨s0, s1, s2, s3, s4, s5⟩
       go_simp
       with_reducible rfl
      rotate_left
      ·simp only [Act.put, List.setIfInBounds_toArray, List.set_cons_zero, List.set_cons_succ, i64_w, i32_w]
       rfl
      refine one_ (i := 2) (N := some 34) #[true,true,true,false,true,true,false,false,false] rfl rfl (one_of HT_.out (by kernel_rfl)) (by decide) (fun K hK => ?_)
      refine goes_ Try.func54 (by kernel_rfl) rfl #[.int .u64 a1_3,.int .i64 64] (by rfl) rfl rfl z5_ ?_
      with_reducible refine (vernierref01_Text.calls k a1_3 64 t507 _ A8.out).mono ?_
      rintro e w19 ⟨rfl, hb⟩
      refine ⟨_, rfl, ?_⟩
      have n0_ := am_ (blk_below (g := gb503) (z1_ BK503.out) hb)
      have n1_ := am_ (below_step (z3_ HB.out) hb)
      clear BK503
      clear HB
      have BK503 := n0_
      have HB := n1_
      clear n0_ n1_
      (try clear hb)
      (try clear hb2)
      (try clear hk)
      (try clear hi)
      refine hK.out _ _ ⟨(blk_cell BK503.out 0).trans rfl, (blk_cell BK503.out 1).trans rfl, (blk_cell BK503.out 2).trans rfl, (blk_cell BK503.out 3).trans rfl, (blk_cell BK503.out 4).trans rfl, (blk_cell BK503.out 5).trans rfl⟩ (fun hHeld => ?_)
      clear hK K
      refine norm_ (a' := ?_) ?_ ?_
      rotate_left
      ·show Act.put _ (some 34) _ = _
       simp only [Act.put, List.setIfInBounds_toArray, List.set_cons_zero, List.set_cons_succ, i64_w, i32_w]
       rfl
      refine pure_ (i := 3) (N := some 35) (v := ?_) (a' := ?_) #[true,true,true,true,true,true,false,false,false] rfl rfl (any_of HT_.out (by kernel_rfl)) (fun _ _ _ h => h) (Or.inl ⟨by rfl, ?_⟩) ?_ ?_
      rotate_left
      ·intro w'
       go_simp
       with_reducible rfl
      rotate_left
      ·simp only [Act.put, List.setIfInBounds_toArray, List.set_cons_zero, List.set_cons_succ, i64_w, i32_w]
       rfl
      refine one_ (i := 6) (N := some 38) #[true,true,true,true,true,true,true,false,false] rfl rfl (one_of HT_.out (by kernel_rfl)) (by decide) (fun K hK => ?_)
      refine goes_ Try.func54 (by kernel_rfl) rfl #[.int .u64 a1_4,.int .i64 64] (by rfl) rfl rfl z5_ ?_
      with_reducible refine (vernierref01_Text.calls k a1_4 64 t508 _ A10.out).mono ?_
      rintro e w20 ⟨rfl, hb⟩
      refine ⟨_, rfl, ?_⟩
      have n0_ := am_ (blk_below (g := gb503) (z1_ BK503.out) hb)
      have n1_ := am_ (below_step (z3_ HB.out) hb)
      clear BK503
      clear HB
      have BK503 := n0_
      have HB := n1_
      clear n0_ n1_
      (try clear hb)
      (try clear hb2)
      (try clear hk)
      (try clear hi)
      refine hK.out _ _ ⟨(blk_cell BK503.out 0).trans rfl, (blk_cell BK503.out 1).trans rfl, (blk_cell BK503.out 2).trans rfl, (blk_cell BK503.out 3).trans rfl, (blk_cell BK503.out 4).trans rfl, (blk_cell BK503.out 5).trans rfl⟩ (fun hHeld => ?_)
      clear hK K
      refine norm_ (a' := ?_) ?_ ?_
      rotate_left
      ·show Act.put _ (some 38) _ = _
       simp only [Act.put, List.setIfInBounds_toArray, List.set_cons_zero, List.set_cons_succ, i64_w, i32_w]
       rfl
      refine pure_ (i := 7) (N := some 39) (v := ?_) (a' := ?_) #[true,true,true,true,true,true,true,true,false] rfl rfl (any_of HT_.out (by kernel_rfl)) (fun _ _ _ h => h) (Or.inl ⟨by rfl, ?_⟩) ?_ ?_
      rotate_left
      ·intro w'
       go_simp
       with_reducible rfl
      rotate_left
      ·simp only [Act.put, List.setIfInBounds_toArray, List.set_cons_zero, List.set_cons_succ, i64_w, i32_w]
       rfl
      refine pure_ (i := 8) (N := some 10) (v := ?_) (a' := ?_) #[true,true,true,true,true,true,true,true,true] rfl rfl (any_of HT_.out (by kernel_rfl)) (fun _ _ _ h => h) (Or.inl ⟨by rfl, ?_⟩) ?_ ?_
      rotate_left
      ·intro w'
       go_simp
       with_reducible rfl
      rotate_left
      ·simp only [Act.put, List.setIfInBounds_toArray, List.set_cons_zero, List.set_cons_succ, i64_w, i32_w]
       rfl
      refine done_ (done_of HT_.out (by kernel_rfl)) ?_
      go_upto_region 13 with (fail)
      go_cut [11] (fun v11 wc => ∃ (kq : Nat) (x11_12 : Bool), v11 = .bool x11_12 ∧ Aside0 (vernierref07_Cut.j0 kq a0 ji12 x11_12 a1_0 a1_1 a1_2 a1_3 a1_4 a1_5 = some (r1, r2, r3)) ∧ Aside0 (kq ≤ k) ∧ Aside0 (wc.heap[gb503]? = some (.cells #[.int .i64 a1_0,.bool a1_1,.int .i64 a1_2,.int .u64 a1_3,.int .u64 a1_4,.bool a1_5] 27 (0, 0))) ∧ Aside0 (Below w.heap.size w wc))
      case first =>
       have H := HC13.out
       clear HC13
       by_cases c21 : a1_5 = true
       ·subst c21
        have H1 : (vernierref07_Cut.j0 k a0 ji12 false a1_0 a1_1 a1_2 a1_3 a1_4 true) = some (r1, r2, r3) := by rw [if_pos rfl] at H;exact H
        clear H
        have H := H1
        clear H1
        have H' := am_ H
        clear H
        obtain ⟨hcz22_0, hcz22_1, hcz22_2, hcz22_3, hcz22_4, hcz22_5, hfz22_0⟩ := zc6_ BK503.out
        go_wp2
        go_meet
        case rel => exact ⟨_, (false), (by first | rfl | (simp;done) | (simp [*];done)), H', ⟨by first | omega | exact Nat.le_refl _⟩, ⟨by refine z2_ ?_;exact BK503.out⟩, ⟨z3_ HB.out⟩⟩
       ·replace c21 := Bool.eq_false_iff.mpr c21
        subst c21
        have H1 : ((vernierref07_some.f k (ji12)).bind fun t509 => (vernierref07_Cut.j0 k a0 ji12 (!t509) a1_0 a1_1 a1_2 a1_3 a1_4 false)) = some (r1, r2, r3) := by rw [if_neg (show ¬ (false = true) by decide)] at H;exact H
        clear H
        have H := H1
        clear H1
        replace H := Option.bind_eq_some_iff.mp H
        obtain ⟨t509, A230, H⟩ := H
        replace H : (vernierref07_Cut.j0 k a0 ji12 (!t509) a1_0 a1_1 a1_2 a1_3 a1_4 false) = some (r1, r2, r3) := H
        have A23 := am_ A230
        clear A230
        have H' := am_ H
        clear H
        obtain ⟨hcz24_0, hcz24_1, hcz24_2, hcz24_3, hcz24_4, hcz24_5, hfz24_0⟩ := zc6_ BK503.out
        go_wp2_with (first | (go_at_call 88;(with_reducible refine (vernierref07_some.calls k ji12 t509 _ A23.out).mono ?_);rintro e w' ⟨rfl, ⟨nd, rfl⟩⟩))
        go_meet
        case rel => exact ⟨_, (!t509), (by first | rfl | (simp;done) | (simp [*];done)), H', ⟨by first | omega | exact Nat.le_refl _⟩, ⟨by refine z2_ ?_;exact BK503.out⟩, ⟨z3_ HB.out⟩⟩
      case rest =>
       clear HC13
       try clear c5
       try clear c6
       try clear c7
       try clear c7b0
       try clear c7b1
       try clear c9
       try clear c9b0
       try clear c9b1
       try clear c11
       try clear c11b0
       try clear c11b1
       try clear c11b2
       try clear hcz15_0
       try clear hcz15_1
       try clear hcz15_2
       try clear hcz15_3
       try clear hcz15_4
       try clear hcz15_5
       try clear hcz17_0
       try clear hcz17_1
       try clear hcz17_2
       try clear hcz17_3
       try clear hcz17_4
       try clear hcz17_5
       try clear hfz15_0
       try clear hfz17_0
       obtain ⟨kq, x11_12, rfl, HA, HJ12, BK503, HB⟩ := hcut
       cases kq with
       | zero => exact absurd HA.out (by simp [vernierref07_Cut.j0])
       | succ kj12 =>
        have H := HA.out
        clear HA
        simp only [vernierref07_Cut.j0] at H
        by_cases c25 : a1_2 ≥ (wrap64 ((wrap64 (4 * a0)) - 8))
        ·rw [if_pos c25] at H
         have c25b0 : decide ((wrap64 ((wrap64 (4 * a0)) - 8)) ≤ a1_2) = true := decide_eq_true c25
         clear c25
         replace H := Option.bind_eq_some_iff.mp H
         obtain ⟨t510, A260, H⟩ := H
         replace H : (some (IntKind.u64.wrap (t510 - 1), 0, 0)) = some (r1, r2, r3) := H
         have A26 := am_ A260
         clear A260
         simp only [Option.some.injEq, Prod.mk.injEq] at H
         obtain ⟨rfl, rfl, rfl⟩ := H
         obtain ⟨hcz27_0, hcz27_1, hcz27_2, hcz27_3, hcz27_4, hcz27_5, hfz27_0⟩ := zc6_ BK503.out
         go_wp2_with (first | ((with_reducible refine gate_callee (f := 15) rfl ?_);refine goesL_ (some 57) rfl rfl Try.func15 (by kernel_rfl) rfl #[.int .i64 (wrap64 (a0 - 1))] rfl z5_ ?_;(with_reducible refine (vernierref05_Power.calls kj12 (wrap64 (a0 - 1)) t510 _ A26.out).mono ?_);rintro e w' ⟨rfl, ⟨nd, rfl⟩⟩;refine ⟨_, rfl, ?_⟩))
         go_ret3
         exact ⟨by first | rfl | (simp [errW_none, errW_some] <;> rfl) | (simp only [← hji12];first | rfl | (simp [errW_none, errW_some] <;> rfl)) | (simp [*, errW_none, errW_some] <;> rfl), z3_ HB.out⟩
        ·rw [if_neg c25] at H
         have c25b0 : decide ((wrap64 ((wrap64 (4 * a0)) - 8)) ≤ a1_2) = false := decide_eq_false c25
         clear c25
         have HC28 := am_ H
         clear H
         obtain ⟨hcz29_0, hcz29_1, hcz29_2, hcz29_3, hcz29_4, hcz29_5, hfz29_0⟩ := zc6_ BK503.out
         go_upto_region 17 with (fail)
         go_cut [73] (fun v73 wc => ∃ (kq : Nat) (x73_27 : Bool), v73 = .bool x73_27 ∧ Aside0 (vernierref07_Cut.j1 kq a0 ji12 x73_27 a1_0 a1_1 a1_2 a1_3 a1_4 a1_5 = some (r1, r2, r3)) ∧ Aside0 (kq ≤ kj12) ∧ Aside0 (wc.heap[gb503]? = some (.cells #[.int .i64 a1_0,.bool a1_1,.int .i64 a1_2,.int .u64 a1_3,.int .u64 a1_4,.bool a1_5] 27 (0, 0))) ∧ Aside0 (Below w.heap.size w wc))
         case first =>
          have H := HC28.out
          clear HC28
          by_cases c30 : a1_2 < (wrap64 (-(wrap64 ((wrap64 (4 * a0)) - 8))))
          ·rw [if_pos c30] at H
           have c30b0 : decide (a1_2 < (wrap64 (-(wrap64 ((wrap64 (4 * a0)) - 8))))) = true := decide_eq_true c30
           clear c30
           (first | rw [c30b0] | (simp only [i64_w, i32_w];rw [c30b0]) | skip)
           have H' := am_ H
           clear H
           obtain ⟨hcz31_0, hcz31_1, hcz31_2, hcz31_3, hcz31_4, hcz31_5, hfz31_0⟩ := zc6_ BK503.out
           go_wp2
           go_meet
           case rel => exact ⟨_, (true), (by first | rfl | (simp;done) | (simp [*];done)), H', ⟨by have := HJ12.out;first | omega | exact Nat.le_refl _⟩, ⟨by refine z2_ ?_;exact BK503.out⟩, ⟨z3_ HB.out⟩⟩
          ·rw [if_neg c30] at H
           have c30b0 : decide (a1_2 < (wrap64 (-(wrap64 ((wrap64 (4 * a0)) - 8))))) = false := decide_eq_false c30
           clear c30
           (first | rw [c30b0] | (simp only [i64_w, i32_w];rw [c30b0]) | skip)
           by_cases c32 : a1_2 = (wrap64 (-(wrap64 ((wrap64 (4 * a0)) - 8))))
           ·rw [if_pos c32] at H
            have c32b0 : (a1_2 == (wrap64 (-(wrap64 ((wrap64 (4 * a0)) - 8))))) = true := beq_iff_eq.mpr c32
            have c32b1 : (a1_2 != (wrap64 (-(wrap64 ((wrap64 (4 * a0)) - 8))))) = false := bne_eq_false_iff_eq.mpr c32
            clear c32
            have H' := am_ H
            clear H
            obtain ⟨hcz33_0, hcz33_1, hcz33_2, hcz33_3, hcz33_4, hcz33_5, hfz33_0⟩ := zc6_ BK503.out
            go_wp2
            go_meet
            case rel => exact ⟨_, (x11_12), (by first | rfl | (simp;done) | (simp [*];done)), H', ⟨by have := HJ12.out;first | omega | exact Nat.le_refl _⟩, ⟨by refine z2_ ?_;exact BK503.out⟩, ⟨z3_ HB.out⟩⟩
           ·rw [if_neg c32] at H
            have c32b0 : (a1_2 == (wrap64 (-(wrap64 ((wrap64 (4 * a0)) - 8))))) = false := beq_eq_false_iff_ne.mpr c32
            have c32b1 : (a1_2 != (wrap64 (-(wrap64 ((wrap64 (4 * a0)) - 8))))) = true := bne_iff_ne.mpr c32
            have H' := am_ H
            clear H
            obtain ⟨hcz34_0, hcz34_1, hcz34_2, hcz34_3, hcz34_4, hcz34_5, hfz34_0⟩ := zc6_ BK503.out
            go_wp2
            go_meet
            case rel => exact ⟨_, (false), (by first | rfl | (simp;done) | (simp [*];done)), H', ⟨by have := HJ12.out;first | omega | exact Nat.le_refl _⟩, ⟨by refine z2_ ?_;exact BK503.out⟩, ⟨z3_ HB.out⟩⟩
         case rest =>
          clear HC28
          try clear c5
          try clear c6
          try clear c7
          try clear c7b0
          try clear c7b1
          try clear c9
          try clear c9b0
          try clear c9b1
          try clear c11
          try clear c11b0
          try clear c11b1
          try clear c11b2
          try clear c25
          try clear c25b0
          try clear hcz15_0
          try clear hcz15_1
          try clear hcz15_2
          try clear hcz15_3
          try clear hcz15_4
          try clear hcz15_5
          try clear hcz17_0
          try clear hcz17_1
          try clear hcz17_2
          try clear hcz17_3
          try clear hcz17_4
          try clear hcz17_5
          try clear hcz29_0
          try clear hcz29_1
          try clear hcz29_2
          try clear hcz29_3
          try clear hcz29_4
          try clear hcz29_5
          try clear hfz15_0
          try clear hfz17_0
          try clear hfz29_0
          obtain ⟨kq, x73_27, rfl, HA, HJ27, BK503, HB⟩ := hcut
          cases kq with
          | zero => exact absurd HA.out (by simp [vernierref07_Cut.j1])
          | succ kj27 =>
           have H := HA.out
           clear HA
           simp only [vernierref07_Cut.j1] at H
           by_cases c35 : x73_27 = true
           ·subst c35
            have H1 : (some (1, 0, 0)) = some (r1, r2, r3) := by rw [if_pos rfl] at H;exact H
            clear H
            have H := H1
            clear H1
            simp only [Option.some.injEq, Prod.mk.injEq] at H
            obtain ⟨rfl, rfl, rfl⟩ := H
            go_wp2
            go_ret3
            exact ⟨by first | rfl | (simp [errW_none, errW_some] <;> rfl) | (simp only [← hji12];first | rfl | (simp [errW_none, errW_some] <;> rfl)) | (simp [*, errW_none, errW_some] <;> rfl), z3_ HB.out⟩
           ·replace c35 := Bool.eq_false_iff.mpr c35
            subst c35
            have H1 : ((vernierref06_Head.f kj27 a1_2).bind fun t511 => (if t511.size + ji12.size ≤ 9223372036854775807 then (if 0 ≤ (wrap64 (a0 - 1)) then (if (wrap64 (a0 - 1)) ≤ ((t511 ++ ji12).size : Int) then ((vernierref01_Number.f kj27 ((t511 ++ ji12).extract 0 ((wrap64 (a0 - 1)) : Int).toNat)).bind fun t512 => ((vernierref07_left.f kj27 ((t511 ++ ji12).extract ((wrap64 (a0 - 1)) : Int).toNat (t511 ++ ji12).size) a1_5).bind fun t513 => (some (t512, t513, 0)))) else (none)) else (none)) else (none))) = some (r1, r2, r3) := by rw [if_neg (show ¬ (false = true) by decide)] at H;exact H
            clear H
            have H := H1
            clear H1
            replace H := Option.bind_eq_some_iff.mp H
            obtain ⟨t511, A360, H⟩ := H
            replace H : (if t511.size + ji12.size ≤ 9223372036854775807 then (if 0 ≤ (wrap64 (a0 - 1)) then (if (wrap64 (a0 - 1)) ≤ ((t511 ++ ji12).size : Int) then ((vernierref01_Number.f kj27 ((t511 ++ ji12).extract 0 ((wrap64 (a0 - 1)) : Int).toNat)).bind fun t512 => ((vernierref07_left.f kj27 ((t511 ++ ji12).extract ((wrap64 (a0 - 1)) : Int).toNat (t511 ++ ji12).size) a1_5).bind fun t513 => (some (t512, t513, 0)))) else (none)) else (none)) else (none)) = some (r1, r2, r3) := H
            have A36 := am_ A360
            clear A360
            by_cases c37 : t511.size + ji12.size ≤ 9223372036854775807
            ·rw [if_pos c37] at H
             have c37b0 := eq_true c37
             have c37b1 : decide (t511.size + ji12.size ≤ 9223372036854775807) = true := decide_eq_true c37
             try have c37b2 : (9223372036854775807 < t511.size + ji12.size) = False := eq_false (Nat.not_lt.2 c37)
             obtain ⟨ji38, hji38⟩ : ∃ j_ : ByteArray, (t511 ++ ji12) = j_ := ⟨_, rfl⟩
             replace H : (if 0 ≤ (wrap64 (a0 - 1)) then (if (wrap64 (a0 - 1)) ≤ ((ji38).size : Int) then ((vernierref01_Number.f kj27 ((ji38).extract 0 ((wrap64 (a0 - 1)) : Int).toNat)).bind fun t512 => ((vernierref07_left.f kj27 ((ji38).extract ((wrap64 (a0 - 1)) : Int).toNat (ji38).size) a1_5).bind fun t513 => (some (t512, t513, 0)))) else (none)) else (none)) = some (r1, r2, r3) := by first | (rw [hji38] at H;exact H) | (simp only [hji38] at H ⊢;exact H)
             (try rw [hji38] at A36)
             obtain ⟨ji39, hji39⟩ : ∃ j_ : Int, (wrap64 (a0 - 1)) = j_ := ⟨_, rfl⟩
             replace H : (if 0 ≤ (ji39) then (if (ji39) ≤ ((ji38).size : Int) then ((vernierref01_Number.f kj27 ((ji38).extract 0 ((ji39) : Int).toNat)).bind fun t512 => ((vernierref07_left.f kj27 ((ji38).extract ((ji39) : Int).toNat (ji38).size) a1_5).bind fun t513 => (some (t512, t513, 0)))) else (none)) else (none)) = some (r1, r2, r3) := by first | (rw [hji39] at H;exact H) | (simp only [hji39] at H ⊢;exact H)
             (try rw [hji39] at A36)
             have hji39w : (IntKind.i64.wrap (a0 - 1)) = ji39 := (i64_w _).trans hji39
             by_cases c40 : 0 ≤ (ji39)
             ·rw [if_pos c40] at H
              have c40b0 := eq_true c40
              have c40b1 : decide (0 ≤ (ji39)) = true := decide_eq_true c40
              clear c40
              by_cases c41 : (ji39) ≤ ((ji38).size : Int)
              ·rw [if_pos c41] at H
               have c41b0 := eq_true c41
               have c41b1 : decide ((ji39) ≤ ((ji38).size : Int)) = true := decide_eq_true c41
               clear c41
               replace H := Option.bind_eq_some_iff.mp H
               obtain ⟨t512, A420, H⟩ := H
               replace H : ((vernierref07_left.f kj27 ((ji38).extract ((ji39) : Int).toNat (ji38).size) a1_5).bind fun t513 => (some (t512, t513, 0))) = some (r1, r2, r3) := H
               have A42 := am_ A420
               clear A420
               have c43b0 := eq_true (of_decide_eq_true (by first | (with_reducible assumption) | assumption) : 0 ≤ (ji39))
               have c44b0 := eq_true (of_decide_eq_true (by first | (with_reducible assumption) | assumption) : (ji39) ≤ ((ji38).size : Int))
               replace H := Option.bind_eq_some_iff.mp H
               obtain ⟨t513, A450, H⟩ := H
               replace H : (some (t512, t513, 0)) = some (r1, r2, r3) := H
               have A45 := am_ A450
               clear A450
               simp only [Option.some.injEq, Prod.mk.injEq] at H
               obtain ⟨rfl, rfl, rfl⟩ := H
               obtain ⟨hcz46_0, hcz46_1, hcz46_2, hcz46_3, hcz46_4, hcz46_5, hfz46_0⟩ := zc6_ BK503.out
               try go_wp2_with (first | ((with_reducible refine gate_callee (f := 55) rfl ?_);refine goesL_ (some 76) rfl rfl Try.func55 (by kernel_rfl) rfl #[.int .i64 a1_2] rfl z5_ ?_;(with_reducible refine (vernierref06_Head.calls kj27 a1_2 t511 _ A36.out).mono ?_);rintro e w47 ⟨rfl, hb⟩;refine ⟨_, rfl, ?_⟩;have n0_ := am_ (blk_below (g := gb503) (z1_ BK503.out) hb);have n1_ := am_ (below_step (z3_ HB.out) hb);clear BK503;clear HB;have BK503 := n0_;have HB := n1_;clear n0_ n1_;(try clear hb)))
               have n0_ := am_ (blk_drew BK503.out)
               have n1_ := am_ (below_drew1 HB.out)
               clear BK503
               clear HB
               have BK503 := n0_
               have HB := n1_
               clear n0_ n1_
               refine start_ (n := 15) (S := fun w' => w'.cell? ⟨gb503, 0, none⟩ = some (.int .i64 a1_0) ∧ w'.cell? ⟨gb503, 1, none⟩ = some (.bool a1_1) ∧ w'.cell? ⟨gb503, 2, none⟩ = some (.int .i64 a1_2) ∧ w'.cell? ⟨gb503, 3, none⟩ = some (.int .u64 a1_3) ∧ w'.cell? ⟨gb503, 4, none⟩ = some (.int .u64 a1_4) ∧ w'.cell? ⟨gb503, 5, none⟩ = some (.bool a1_5)) (ds := []) #[false,false,false,false,false,false,false,false,false,false,false,false,false,false,false] (by kernel_rfl) rfl rfl ⟨(blk_cell BK503.out 0).trans rfl, (blk_cell BK503.out 1).trans rfl, (blk_cell BK503.out 2).trans rfl, (blk_cell BK503.out 3).trans rfl, (blk_cell BK503.out 4).trans rfl, (blk_cell BK503.out 5).trans rfl⟩ (fun hHeld => ?_);refine with_tabW vernierref07_Cut.tab20 vernierref07_Cut.bits20 (fun HT_ HW_ => ?_)
               generalize w47.drew = w48 at BK503 HB hHeld ⊢
               refine pure_ (i := 0) (N := some 79) (v := ?_) (a' := ?_) #[true,false,false,false,false,false,false,false,false,false,false,false,false,false,false] rfl rfl (any_of HT_.out (by kernel_rfl)) (fun _ _ _ h => h) (Or.inl ⟨by rfl, ?_⟩) ?_ ?_
               rotate_left
               ·intro w'
                go_simp
                with_reducible rfl
               rotate_left
               ·simp only [Act.put, List.setIfInBounds_toArray, List.set_cons_zero, List.set_cons_succ, i64_w, i32_w]
                rfl
               refine pure_ (i := 1) (N := some 80) (v := ?_) (a' := ?_) #[true,true,false,false,false,false,false,false,false,false,false,false,false,false,false] rfl rfl (any_of HT_.out (by kernel_rfl)) (fun _ _ _ h => h) (Or.inl ⟨by rfl, ?_⟩) ?_ ?_
               rotate_left
               ·intro w'
                go_simp
                with_reducible rfl
               rotate_left
               ·simp only [Act.put, List.setIfInBounds_toArray, List.set_cons_zero, List.set_cons_succ, i64_w, i32_w]
                rfl
               refine pure_ (i := 2) (N := some 81) (v := ?_) (a' := ?_) #[true,true,true,false,false,false,false,false,false,false,false,false,false,false,false] rfl rfl (any_of HT_.out (by kernel_rfl)) (fun _ _ _ h => h) (Or.inl ⟨by rfl, ?_⟩) ?_ ?_
               rotate_left
               ·intro w'
                go_simp
                with_reducible rfl
               rotate_left
               ·simp only [Act.put, List.setIfInBounds_toArray, List.set_cons_zero, List.set_cons_succ, i64_w, i32_w]
                rfl
               refine pure_ (i := 3) (N := some 82) (v := ?_) (a' := ?_) #[true,true,true,true,false,false,false,false,false,false,false,false,false,false,false] rfl rfl (any_of HT_.out (by kernel_rfl)) (fun _ _ _ h => h) (Or.inl ⟨by rfl, ?_⟩) ?_ ?_
               rotate_left
               ·intro w'
                go_simp
                with_reducible rfl
               rotate_left
               ·simp only [Act.put, List.setIfInBounds_toArray, List.set_cons_zero, List.set_cons_succ, i64_w, i32_w]
                rfl
               refine pure_ (i := 5) (N := some 84) (v := ?_) (a' := ?_) #[true,true,true,true,false,true,false,false,false,false,false,false,false,false,false] rfl rfl (any_of HT_.out (by kernel_rfl)) (fun _ _ _ h => h) (Or.inl ⟨by rfl, ?_⟩) ?_ ?_
               rotate_left
               ·intro w'
                go_simp
                with_reducible rfl
               rotate_left
               ·simp only [Act.put, List.setIfInBounds_toArray, List.set_cons_zero, List.set_cons_succ, i64_w, i32_w]
                rfl
               refine pure_ (i := 6) (N := some 85) (v := ?_) (a' := ?_) #[true,true,true,true,false,true,true,false,false,false,false,false,false,false,false] rfl rfl (any_of HT_.out (by kernel_rfl)) (fun _ _ _ h => h) (Or.inl ⟨by rfl, ?_⟩) ?_ ?_
               rotate_left
               ·intro w'
                go_simp
                with_reducible rfl
               rotate_left
               ·simp only [Act.put, List.setIfInBounds_toArray, List.set_cons_zero, List.set_cons_succ, i64_w, i32_w]
                rfl
               refine pure_ (i := 7) (N := some 86) (v := ?_) (a' := ?_) #[true,true,true,true,false,true,true,true,false,false,false,false,false,false,false] rfl rfl (any_of HT_.out (by kernel_rfl)) (fun _ _ _ h => h) (Or.inl ⟨by rfl, ?_⟩) ?_ ?_
               rotate_left
               ·intro w'
                go_simp
                with_reducible rfl
               rotate_left
               ·simp only [Act.put, List.setIfInBounds_toArray, List.set_cons_zero, List.set_cons_succ, i64_w, i32_w]
                rfl
               refine pure_ (i := 8) (N := some 87) (v := ?_) (a' := ?_) #[true,true,true,true,false,true,true,true,true,false,false,false,false,false,false] rfl rfl (any_of HT_.out (by kernel_rfl)) (fun _ _ _ h => h) (Or.inl ⟨by rfl, ?_⟩) ?_ ?_
               rotate_left
               ·intro w'
                go_simp
                with_reducible rfl
               rotate_left
               ·simp only [Act.put, List.setIfInBounds_toArray, List.set_cons_zero, List.set_cons_succ, i64_w, i32_w]
                rfl
               refine pure_ (i := 9) (N := some 88) (v := ?_) (a' := ?_) #[true,true,true,true,false,true,true,true,true,true,false,false,false,false,false] rfl rfl (any_of HT_.out (by kernel_rfl)) (fun _ _ _ h => h) (Or.inl ⟨by rfl, ?_⟩) ?_ ?_
               rotate_left
               ·intro w'
                go_simp
                with_reducible rfl
               rotate_left
               ·simp only [Act.put, List.setIfInBounds_toArray, List.set_cons_zero, List.set_cons_succ, i64_w, i32_w]
                rfl
               refine take_ (i := 10) (N := some 89) (v := ?_) (a' := ?_) #[true,true,true,true,false,true,true,true,true,true,true,false,false,false,false] rfl rfl (take_ofW HT_.out HW_.out (by kernel_rfl)) (fun _ _ _ h => h) (Or.inl ⟨by rfl, ?_⟩) hHeld ?_ ?_
               rotate_left
               ·rintro w' ⟨s0, s1, s2, s3, s4, s5⟩
                go_simp
                with_reducible rfl
               rotate_left
               ·simp only [Act.put, List.setIfInBounds_toArray, List.set_cons_zero, List.set_cons_succ, i64_w, i32_w]
                rfl
               refine one_ (i := 4) (N := some 83) #[true,true,true,true,true,true,true,true,true,true,true,false,false,false,false] rfl rfl (one_of HT_.out (by kernel_rfl)) (by decide) (fun K hK => ?_)
               refine goes_ Try.func53 (by kernel_rfl) rfl #[.string ((ji38).extract 0 ((ji39) : Int).toNat)] (by rfl) rfl rfl (by (try simp only [List.map_toArray, List.map_cons, List.map_nil]);first | done | (simp only [hji38, hji39];rfl) | rfl | (simp only [List.length_drop, List.length_take];rfl)) ?_
               with_reducible refine (vernierref01_Number.calls kj27 ((ji38).extract 0 ((ji39) : Int).toNat) t512 _ A42.out).mono ?_
               rintro e w' ⟨rfl, ⟨nd, rfl⟩⟩
               refine ⟨_, rfl, ?_⟩
               refine hK.out _ _ ⟨(blk_cell BK503.out 0).trans rfl, (blk_cell BK503.out 1).trans rfl, (blk_cell BK503.out 2).trans rfl, (blk_cell BK503.out 3).trans rfl, (blk_cell BK503.out 4).trans rfl, (blk_cell BK503.out 5).trans rfl⟩ (fun hHeld => ?_)
               clear hK K
               refine norm_ (a' := ?_) ?_ ?_
               rotate_left
               ·show Act.put _ (some 83) _ = _
                simp only [Act.put, List.setIfInBounds_toArray, List.set_cons_zero, List.set_cons_succ, i64_w, i32_w]
                rfl
               refine one_ (i := 11) (N := some 90) #[true,true,true,true,true,true,true,true,true,true,true,true,false,false,false] rfl rfl (one_of HT_.out (by kernel_rfl)) (by decide) (fun K hK => ?_)
               refine goes_ Try.func89 (by kernel_rfl) rfl #[.string ((ji38).extract ((ji39) : Int).toNat (ji38).size),.bool a1_5] (by rfl) rfl rfl (by (try simp only [List.map_toArray, List.map_cons, List.map_nil]);first | done | (simp only [hji38, hji39];rfl) | rfl | (simp only [List.length_drop, List.length_take];rfl)) ?_
               with_reducible refine (vernierref07_left.calls kj27 ((ji38).extract ((ji39) : Int).toNat (ji38).size) a1_5 t513 _ A45.out).mono ?_
               rintro e w' ⟨rfl, ⟨nd, rfl⟩⟩
               refine ⟨_, rfl, ?_⟩
               refine hK.out _ _ ⟨(blk_cell BK503.out 0).trans rfl, (blk_cell BK503.out 1).trans rfl, (blk_cell BK503.out 2).trans rfl, (blk_cell BK503.out 3).trans rfl, (blk_cell BK503.out 4).trans rfl, (blk_cell BK503.out 5).trans rfl⟩ (fun hHeld => ?_)
               clear hK K
               refine norm_ (a' := ?_) ?_ ?_
               rotate_left
               ·show Act.put _ (some 90) _ = _
                simp only [Act.put, List.setIfInBounds_toArray, List.set_cons_zero, List.set_cons_succ, i64_w, i32_w]
                rfl
               refine pure_ (i := 12) (N := some 4) (v := ?_) (a' := ?_) #[true,true,true,true,true,true,true,true,true,true,true,true,true,false,false] rfl rfl (any_of HT_.out (by kernel_rfl)) (fun _ _ _ h => h) (Or.inl ⟨by rfl, ?_⟩) ?_ ?_
               rotate_left
               ·intro w'
                go_simp
                with_reducible rfl
               rotate_left
               ·simp only [Act.put, List.setIfInBounds_toArray, List.set_cons_zero, List.set_cons_succ, i64_w, i32_w]
                rfl
               refine pure_ (i := 13) (N := some 5) (v := ?_) (a' := ?_) #[true,true,true,true,true,true,true,true,true,true,true,true,true,true,false] rfl rfl (any_of HT_.out (by kernel_rfl)) (fun _ _ _ h => h) (Or.inl ⟨by rfl, ?_⟩) ?_ ?_
               rotate_left
               ·intro w'
                go_simp
                with_reducible rfl
               rotate_left
               ·simp only [Act.put, List.setIfInBounds_toArray, List.set_cons_zero, List.set_cons_succ, i64_w, i32_w]
                rfl
               refine pure_ (i := 14) (N := some 6) (v := ?_) (a' := ?_) #[true,true,true,true,true,true,true,true,true,true,true,true,true,true,true] rfl rfl (any_of HT_.out (by kernel_rfl)) (fun _ _ _ h => h) (Or.inl ⟨by rfl, ?_⟩) ?_ ?_
               rotate_left
               ·intro w'
                go_simp
                with_reducible rfl
               rotate_left
               ·simp only [Act.put, List.setIfInBounds_toArray, List.set_cons_zero, List.set_cons_succ, i64_w, i32_w]
                rfl
               refine done_ (done_of HT_.out (by kernel_rfl)) ?_
               try go_wp2
               go_ret3
               exact ⟨by first | rfl | (simp [errW_none, errW_some] <;> rfl) | (simp only [← hji12, ← hji38, ← hji39];first | rfl | (simp [errW_none, errW_some] <;> rfl)) | (simp [*, errW_none, errW_some] <;> rfl), z3_ HB.out⟩
              ·rw [if_neg c41] at H
               exact absurd H (by simp)
             ·rw [if_neg c40] at H
              exact absurd H (by simp)
            ·rw [if_neg c37] at H
             exact absurd H (by simp)
     ·rw [if_neg c11] at H
      exact absurd H (by simp)
    ·rw [if_neg c9] at H
     exact absurd H (by simp)
   ·rw [if_neg c7] at H
    have c7b0 : (a1_0 == 1) = false := beq_eq_false_iff_ne.mpr c7
    have c7b1 : (a1_0 != 1) = true := bne_iff_ne.mpr c7
    by_cases c49 : a1_0 = 2
    ·rw [if_pos c49] at H
     have c49b0 : (a1_0 == 2) = true := beq_iff_eq.mpr c49
     have c49b1 : (a1_0 != 2) = false := bne_eq_false_iff_eq.mpr c49
     clear c49
     replace H := Option.bind_eq_some_iff.mp H
     obtain ⟨t506, A500, H⟩ := H
     replace H : (some (t506, 0, 0)) = some (r1, r2, r3) := H
     have A50 := am_ A500
     clear A500
     simp only [Option.some.injEq, Prod.mk.injEq] at H
     obtain ⟨rfl, rfl, rfl⟩ := H
     go_enter Try.func83, Try.ntmps83
     go_wp2_with (first | ((with_reducible refine gate_dst (N := 3) rfl ?_);refine box_event ?hg (N := 3) ?hd (cs := #[.int .i64 a1_0,.bool a1_1,.int .i64 a1_2,.int .u64 a1_3,.int .u64 a1_4,.bool a1_5]) (t := 27) ?hr ?_;(case hd => rfl);(case hg => rfl);(case hr => first | (go_simp;done) | (go_simp;rfl));intro gb503 hg w51 hbox hb;have n0_ := am_ (below_step (z3_ HB.out) hb);have n1_ := am_ (hbox);have n2_ := am_ ((by rw [hg];exact (below_size (z3_ HB.out)) : w.heap.size ≤ gb503));have n3_ := am_ ((by rw [hg];exact (below_size (z3_ HB.out)) : w.heap.size ≤ gb503));clear HB;have HB := n0_;have BK503 := n1_;have GW503 := n2_;have GE503 := n3_;clear n0_ n1_ n2_ n3_;clear hb hbox hg) | ((with_reducible refine gate_callee (f := 14) rfl ?_);refine goesL_ (some 15) rfl rfl Try.func14 (by kernel_rfl) rfl #[.int .i64 a0] rfl z5_ ?_;(with_reducible refine (vernierref05_Is.calls a0 true _ A3.out).mono ?_);rintro e w' ⟨rfl, ⟨nd, rfl⟩⟩;refine ⟨_, rfl, ?_⟩;obtain ⟨hcz52_0, hcz52_1, hcz52_2, hcz52_3, hcz52_4, hcz52_5, hfz52_0⟩ := zc6_ BK503.out) | ((with_reducible refine gate_callee (f := 87) rfl ?_);refine goesL_ (some 17) rfl rfl Try.func87 (by kernel_rfl) rfl #[.agg #[.int .i64 a1_0,.bool a1_1,.int .i64 a1_2,.int .u64 a1_3,.int .u64 a1_4,.bool a1_5]] rfl z5_ ?_;(with_reducible refine (vernierref07_Sound.calls a1_0 a1_1 a1_2 a1_3 a1_4 a1_5 true _ A4.out).mono ?_);rintro e w53 ⟨rfl, hb⟩;refine ⟨_, rfl, ?_⟩;have n0_ := am_ (blk_below (g := gb503) (z1_ BK503.out) hb);have n1_ := am_ (below_step (z3_ HB.out) hb);clear BK503;clear HB;have BK503 := n0_;have HB := n1_;clear n0_ n1_;(try clear hb);obtain ⟨hcz54_0, hcz54_1, hcz54_2, hcz54_3, hcz54_4, hcz54_5, hfz54_0⟩ := zc6_ BK503.out) | ((with_reducible refine gate_callee (f := 15) rfl ?_);refine goesL_ (some 30) rfl rfl Try.func15 (by kernel_rfl) rfl #[.int .i64 (wrap64 (a0 - 1))] rfl z5_ ?_;(with_reducible refine (vernierref05_Power.calls k (wrap64 (a0 - 1)) t506 _ A50.out).mono ?_);rintro e w' ⟨rfl, ⟨nd, rfl⟩⟩;refine ⟨_, rfl, ?_⟩))
     go_ret3
     exact ⟨z6_, z3_ HB.out⟩
    ·rw [if_neg c49] at H
     have c49b0 : (a1_0 == 2) = false := beq_eq_false_iff_ne.mpr c49
     have c49b1 : (a1_0 != 2) = true := bne_iff_ne.mpr c49
     simp only [Option.some.injEq, Prod.mk.injEq] at H
     obtain ⟨rfl, rfl, rfl⟩ := H
     go_enter Try.func83, Try.ntmps83
     go_wp2_with (first | ((with_reducible refine gate_dst (N := 3) rfl ?_);refine box_event ?hg (N := 3) ?hd (cs := #[.int .i64 a1_0,.bool a1_1,.int .i64 a1_2,.int .u64 a1_3,.int .u64 a1_4,.bool a1_5]) (t := 27) ?hr ?_;(case hd => rfl);(case hg => rfl);(case hr => first | (go_simp;done) | (go_simp;rfl));intro gb503 hg w55 hbox hb;have n0_ := am_ (below_step (z3_ HB.out) hb);have n1_ := am_ (hbox);have n2_ := am_ ((by rw [hg];exact (below_size (z3_ HB.out)) : w.heap.size ≤ gb503));have n3_ := am_ ((by rw [hg];exact (below_size (z3_ HB.out)) : w.heap.size ≤ gb503));clear HB;have HB := n0_;have BK503 := n1_;have GW503 := n2_;have GE503 := n3_;clear n0_ n1_ n2_ n3_;clear hb hbox hg) | ((with_reducible refine gate_callee (f := 14) rfl ?_);refine goesL_ (some 15) rfl rfl Try.func14 (by kernel_rfl) rfl #[.int .i64 a0] rfl z5_ ?_;(with_reducible refine (vernierref05_Is.calls a0 true _ A3.out).mono ?_);rintro e w' ⟨rfl, ⟨nd, rfl⟩⟩;refine ⟨_, rfl, ?_⟩;obtain ⟨hcz56_0, hcz56_1, hcz56_2, hcz56_3, hcz56_4, hcz56_5, hfz56_0⟩ := zc6_ BK503.out) | ((with_reducible refine gate_callee (f := 87) rfl ?_);refine goesL_ (some 17) rfl rfl Try.func87 (by kernel_rfl) rfl #[.agg #[.int .i64 a1_0,.bool a1_1,.int .i64 a1_2,.int .u64 a1_3,.int .u64 a1_4,.bool a1_5]] rfl z5_ ?_;(with_reducible refine (vernierref07_Sound.calls a1_0 a1_1 a1_2 a1_3 a1_4 a1_5 true _ A4.out).mono ?_);rintro e w57 ⟨rfl, hb⟩;refine ⟨_, rfl, ?_⟩;have n0_ := am_ (blk_below (g := gb503) (z1_ BK503.out) hb);have n1_ := am_ (below_step (z3_ HB.out) hb);clear BK503;clear HB;have BK503 := n0_;have HB := n1_;clear n0_ n1_;(try clear hb);obtain ⟨hcz58_0, hcz58_1, hcz58_2, hcz58_3, hcz58_4, hcz58_5, hfz58_0⟩ := zc6_ BK503.out))
     go_ret3
     exact ⟨z6_, z3_ HB.out⟩
  ·replace c6 := Bool.eq_false_iff.mpr c6
   subst c6
   have H1 : (some (0, 0, 1)) = some (r1, r2, r3) := by rw [if_neg (show ¬ (false = true) by decide)] at H;exact H
   clear H
   have H := H1
   clear H1
   simp only [Option.some.injEq, Prod.mk.injEq] at H
   obtain ⟨rfl, rfl, rfl⟩ := H
   go_enter Try.func83, Try.ntmps83
   go_wp2_with (first | ((with_reducible refine gate_dst (N := 3) rfl ?_);refine box_event ?hg (N := 3) ?hd (cs := #[.int .i64 a1_0,.bool a1_1,.int .i64 a1_2,.int .u64 a1_3,.int .u64 a1_4,.bool a1_5]) (t := 27) ?hr ?_;(case hd => rfl);(case hg => rfl);(case hr => first | (go_simp;done) | (go_simp;rfl));intro gb503 hg w59 hbox hb;have n0_ := am_ (below_step (z3_ HB.out) hb);have n1_ := am_ (hbox);have n2_ := am_ ((by rw [hg];exact (below_size (z3_ HB.out)) : w.heap.size ≤ gb503));have n3_ := am_ ((by rw [hg];exact (below_size (z3_ HB.out)) : w.heap.size ≤ gb503));clear HB;have HB := n0_;have BK503 := n1_;have GW503 := n2_;have GE503 := n3_;clear n0_ n1_ n2_ n3_;clear hb hbox hg) | ((with_reducible refine gate_callee (f := 14) rfl ?_);refine goesL_ (some 15) rfl rfl Try.func14 (by kernel_rfl) rfl #[.int .i64 a0] rfl z5_ ?_;(with_reducible refine (vernierref05_Is.calls a0 true _ A3.out).mono ?_);rintro e w' ⟨rfl, ⟨nd, rfl⟩⟩;refine ⟨_, rfl, ?_⟩;obtain ⟨hcz60_0, hcz60_1, hcz60_2, hcz60_3, hcz60_4, hcz60_5, hfz60_0⟩ := zc6_ BK503.out) | ((with_reducible refine gate_callee (f := 87) rfl ?_);refine goesL_ (some 17) rfl rfl Try.func87 (by kernel_rfl) rfl #[.agg #[.int .i64 a1_0,.bool a1_1,.int .i64 a1_2,.int .u64 a1_3,.int .u64 a1_4,.bool a1_5]] rfl z5_ ?_;(with_reducible refine (vernierref07_Sound.calls a1_0 a1_1 a1_2 a1_3 a1_4 a1_5 false _ A4.out).mono ?_);rintro e w61 ⟨rfl, hb⟩;refine ⟨_, rfl, ?_⟩;have n0_ := am_ (blk_below (g := gb503) (z1_ BK503.out) hb);have n1_ := am_ (below_step (z3_ HB.out) hb);clear BK503;clear HB;have BK503 := n0_;have HB := n1_;clear n0_ n1_;(try clear hb)))
   go_ret3
   exact ⟨z6_, z3_ HB.out⟩
 ·replace c5 := Bool.eq_false_iff.mpr c5
  subst c5
  have H1 : (some (0, 0, 2)) = some (r1, r2, r3) := by rw [if_neg (show ¬ (false = true) by decide)] at H;exact H
  clear H
  have H := H1
  clear H1
  simp only [Option.some.injEq, Prod.mk.injEq] at H
  obtain ⟨rfl, rfl, rfl⟩ := H
  go_enter Try.func83, Try.ntmps83
  go_wp2_with (first | ((with_reducible refine gate_dst (N := 3) rfl ?_);refine box_event ?hg (N := 3) ?hd (cs := #[.int .i64 a1_0,.bool a1_1,.int .i64 a1_2,.int .u64 a1_3,.int .u64 a1_4,.bool a1_5]) (t := 27) ?hr ?_;(case hd => rfl);(case hg => rfl);(case hr => first | (go_simp;done) | (go_simp;rfl));intro gb503 hg w62 hbox hb;have n0_ := am_ (below_step (z3_ HB.out) hb);have n1_ := am_ (hbox);have n2_ := am_ ((by rw [hg];exact (below_size (z3_ HB.out)) : w.heap.size ≤ gb503));have n3_ := am_ ((by rw [hg];exact (below_size (z3_ HB.out)) : w.heap.size ≤ gb503));clear HB;have HB := n0_;have BK503 := n1_;have GW503 := n2_;have GE503 := n3_;clear n0_ n1_ n2_ n3_;clear hb hbox hg) | ((with_reducible refine gate_callee (f := 14) rfl ?_);refine goesL_ (some 15) rfl rfl Try.func14 (by kernel_rfl) rfl #[.int .i64 a0] rfl z5_ ?_;(with_reducible refine (vernierref05_Is.calls a0 false _ A3.out).mono ?_);rintro e w' ⟨rfl, ⟨nd, rfl⟩⟩;refine ⟨_, rfl, ?_⟩;obtain ⟨hcz63_0, hcz63_1, hcz63_2, hcz63_3, hcz63_4, hcz63_5, hfz63_0⟩ := zc6_ BK503.out) | ((with_reducible refine gate_callee (f := 87) rfl ?_);refine goesL_ (some 17) rfl rfl Try.func87 (by kernel_rfl) rfl #[.agg #[.int .i64 a1_0,.bool a1_1,.int .i64 a1_2,.int .u64 a1_3,.int .u64 a1_4,.bool a1_5]] rfl z5_ ?_;(with_reducible refine (vernierref07_Sound.calls a1_0 a1_1 a1_2 a1_3 a1_4 a1_5 t505 _ A4.out).mono ?_);rintro e w64 ⟨rfl, hb⟩;refine ⟨_, rfl, ?_⟩;have n0_ := am_ (blk_below (g := gb503) (z1_ BK503.out) hb);have n1_ := am_ (below_step (z3_ HB.out) hb);clear BK503;clear HB;have BK503 := n0_;have HB := n1_;clear n0_ n1_;(try clear hb)))
  go_ret3
  exact ⟨z6_, z3_ HB.out⟩
def vernierref07_Rounds.j0 : Nat → Int → Int → Bool → Int → Bool → Int → Int → Int → Bool → Option (Int × Int)
 | 0, _, _, _, _, _, _, _, _, _ => none
 | k + 1, x0, x6, x29, x515000, x515001, x515002, x515003, x515004, x515005 => if x29 = true then (if x515001 = true then ((vernierref06_Neg.f k x0 (IntKind.u64.wrap (x6 + 1))).bind fun t518 => (some (t518, 0))) else (some (IntKind.u64.wrap (x6 + 1), 0))) else (if x515001 = true then ((vernierref06_Neg.f k x0 x6).bind fun t519 => (some (t519, 0))) else (some (x6, 0)))
def vernierref07_Rounds.f (k : Nat) (a0 : Int) (a1_0 : Int) (a1_1 : Bool) (a1_2 : Int) (a1_3 : Int) (a1_4 : Int) (a1_5 : Bool) : Option (Int × Int) := (vernierref07_Cut.f k a0 a1_0 a1_1 a1_2 a1_3 a1_4 a1_5).bind fun bt515 => (if bt515.2.2 = 0 then (if bt515.2.1 = 3 then (vernierref07_Rounds.j0 k a0 bt515.1 true a1_0 a1_1 a1_2 a1_3 a1_4 a1_5) else (if bt515.2.1 = 2 then (vernierref07_Rounds.j0 k a0 bt515.1 ((Int.tmod bt515.1 2) == 1) a1_0 a1_1 a1_2 a1_3 a1_4 a1_5) else (vernierref07_Rounds.j0 k a0 bt515.1 false a1_0 a1_1 a1_2 a1_3 a1_4 a1_5))) else (some (0, bt515.2.2)))
theorem vernierref07_Rounds.mono_l : ∀ k, (∀ y0 y1 y2 y3 y4 y5 y6 y7 y8, LeO (vernierref07_Rounds.j0 k y0 y1 y2 y3 y4 y5 y6 y7 y8) (vernierref07_Rounds.j0 (k + 1) y0 y1 y2 y3 y4 y5 y6 y7 y8))
 | 0 => fun _ _ _ _ _ _ _ _ _ r h => by simp [vernierref07_Rounds.j0] at h
 | k + 1 => by
  have ih0 := vernierref07_Rounds.mono_l k
  ·intro y0 y1 y2 y3 y4 y5 y6 y7 y8
   unfold vernierref07_Rounds.j0
   repeat' first
   | (with_reducible exact ih0 _ _ _ _ _ _ _ _ _)
   | (with_reducible exact vernierref06_Neg.mono _ _ _)
   | (with_reducible exact vernierref07_Cut.mono _ _ _ _ _ _ _ _)
   | (with_reducible exact LeO.refl _)
   | (with_reducible exact LeO.none _)
   | (with_reducible refine LeO.ite ?_ ?_)
   | (with_reducible refine LeO.bind ?_ (fun _ => ?_))
   | exact ih0 _ _ _ _ _ _ _ _ _
   | exact vernierref06_Neg.mono _ _ _
   | exact vernierref07_Cut.mono _ _ _ _ _ _ _ _
   | exact LeO.none _
   | refine LeO.ite ?_ ?_
   | refine LeO.bind ?_ (fun _ => ?_)
theorem vernierref07_Rounds.mono : ∀ a0 a1 a2 a3 a4 a5 a6 k, LeO (vernierref07_Rounds.f k a0 a1 a2 a3 a4 a5 a6) (vernierref07_Rounds.f (k + 1) a0 a1 a2 a3 a4 a5 a6) := by
 intro a0 a1 a2 a3 a4 a5 a6 k
 have ih0 := vernierref07_Rounds.mono_l k
 unfold vernierref07_Rounds.f
 repeat' first
   | (with_reducible exact ih0 _ _ _ _ _ _ _ _ _)
   | (with_reducible exact vernierref06_Neg.mono _ _ _)
   | (with_reducible exact vernierref07_Cut.mono _ _ _ _ _ _ _ _)
   | (with_reducible exact LeO.refl _)
   | (with_reducible exact LeO.none _)
   | (with_reducible refine LeO.ite ?_ ?_)
   | (with_reducible refine LeO.bind ?_ (fun _ => ?_))
   | exact ih0 _ _ _ _ _ _ _ _ _
   | exact vernierref06_Neg.mono _ _ _
   | exact vernierref07_Cut.mono _ _ _ _ _ _ _ _
   | exact LeO.none _
   | refine LeO.ite ?_ ?_
   | refine LeO.bind ?_ (fun _ => ?_)
set_option maxHeartbeats 8000000 in
set_option maxRecDepth 100000 in
theorem vernierref07_Rounds.calls (k : Nat) (a0 : Int) (a1_0 : Int) (a1_1 : Bool) (a1_2 : Int) (a1_3 : Int) (a1_4 : Int) (a1_5 : Bool) (r1 : Int) (r2 : Int) (w : World) (h : vernierref07_Rounds.f k a0 a1_0 a1_1 a1_2 a1_3 a1_4 a1_5 = some (r1, r2)) :
  Calls Try.prog 73 #[.int .i64 a0,.agg #[.int .i64 a1_0,.bool a1_1,.int .i64 a1_2,.int .u64 a1_3,.int .u64 a1_4,.bool a1_5]] w fun e w' => e = .returned (.tuple #[.int .u64 r1,.int .i64 r2]) ∧ Below w.heap.size w w' := by
 have hu27 := Try.underlying27
 have HB := am_ (Below.refl w.heap.size w)
 have H : ((vernierref07_Cut.f k a0 a1_0 a1_1 a1_2 a1_3 a1_4 a1_5).bind fun bt515 => (if bt515.2.2 = 0 then (if bt515.2.1 = 3 then (vernierref07_Rounds.j0 k a0 bt515.1 true a1_0 a1_1 a1_2 a1_3 a1_4 a1_5) else (if bt515.2.1 = 2 then (vernierref07_Rounds.j0 k a0 bt515.1 ((Int.tmod bt515.1 2) == 1) a1_0 a1_1 a1_2 a1_3 a1_4 a1_5) else (vernierref07_Rounds.j0 k a0 bt515.1 false a1_0 a1_1 a1_2 a1_3 a1_4 a1_5))) else (some (0, bt515.2.2)))) = some (r1, r2) := h
 clear h
 replace H := Option.bind_eq_some_iff.mp H
 obtain ⟨⟨t515, t516, t517⟩, A30, H⟩ := H
 replace H : (if t517 = 0 then (if t516 = 3 then (vernierref07_Rounds.j0 k a0 t515 true a1_0 a1_1 a1_2 a1_3 a1_4 a1_5) else (if t516 = 2 then (vernierref07_Rounds.j0 k a0 t515 ((Int.tmod t515 2) == 1) a1_0 a1_1 a1_2 a1_3 a1_4 a1_5) else (vernierref07_Rounds.j0 k a0 t515 false a1_0 a1_1 a1_2 a1_3 a1_4 a1_5))) else (some (0, t517))) = some (r1, r2) := H
 have A3 := am_ A30
 clear A30
 by_cases c4 : t517 = 0
 ·rw [if_pos c4] at H
  have c4b0 : (t517 == 0) = true := beq_iff_eq.mpr c4
  have c4b1 : (t517 != 0) = false := bne_eq_false_iff_eq.mpr c4
  clear c4
  have HC5 := am_ H
  clear H
  go_enter Try.func73, Try.ntmps73
  go_upto_region 4 with (first | ((with_reducible refine gate_dst (N := 3) rfl ?_);refine box_event ?hg (N := 3) ?hd (cs := #[.int .i64 a1_0,.bool a1_1,.int .i64 a1_2,.int .u64 a1_3,.int .u64 a1_4,.bool a1_5]) (t := 27) ?hr ?_;(case hd => rfl);(case hg => rfl);(case hr => first | (go_simp;done) | (go_simp;rfl));intro gb514 hg w6 hbox hb;have n0_ := am_ (below_step (z3_ HB.out) hb);have n1_ := am_ (hbox);have n2_ := am_ ((by rw [hg];exact (below_size (z3_ HB.out)) : w.heap.size ≤ gb514));have n3_ := am_ ((by rw [hg];exact (below_size (z3_ HB.out)) : w.heap.size ≤ gb514));clear HB;have HB := n0_;have BK514 := n1_;have GW514 := n2_;have GE514 := n3_;clear n0_ n1_ n2_ n3_;clear hb hbox hg;obtain ⟨hcz7_0, hcz7_1, hcz7_2, hcz7_3, hcz7_4, hcz7_5, hfz7_0⟩ := zc6_ BK514.out) | ((with_reducible refine gate_callee (f := 83) rfl ?_);refine goesL_ (some 12) rfl rfl Try.func83 (by kernel_rfl) rfl #[.int .i64 a0,.agg #[.int .i64 a1_0,.bool a1_1,.int .i64 a1_2,.int .u64 a1_3,.int .u64 a1_4,.bool a1_5]] rfl z5_ ?_;(with_reducible refine (vernierref07_Cut.calls k a0 a1_0 a1_1 a1_2 a1_3 a1_4 a1_5 t515 t516 t517 _ A3.out).mono ?_);rintro e w8 ⟨rfl, hb⟩;refine ⟨_, rfl, ?_⟩;have n0_ := am_ (blk_below (g := gb514) (z1_ BK514.out) hb);have n1_ := am_ (below_step (z3_ HB.out) hb);clear BK514;clear HB;have BK514 := n0_;have HB := n1_;clear n0_ n1_;(try clear hb)))
  (try simp only [Act.put, List.setIfInBounds_toArray, List.set_cons_zero, List.set_cons_succ])
  go_cut [29] (fun v29 wc => ∃ (kq : Nat) (x29_4 : Bool), v29 = .bool x29_4 ∧ Aside0 (vernierref07_Rounds.j0 kq a0 t515 x29_4 a1_0 a1_1 a1_2 a1_3 a1_4 a1_5 = some (r1, r2)) ∧ Aside0 (kq ≤ k) ∧ Aside0 (wc.heap[gb514]? = some (.cells #[.int .i64 a1_0,.bool a1_1,.int .i64 a1_2,.int .u64 a1_3,.int .u64 a1_4,.bool a1_5] 27 (0, 0))) ∧ Aside0 (Below w.heap.size w wc))
  case first =>
   have H := HC5.out
   clear HC5
   by_cases c9 : t516 = 3
   ·rw [if_pos c9] at H
    have c9b0 : (t516 == 3) = true := beq_iff_eq.mpr c9
    have c9b1 : (t516 != 3) = false := bne_eq_false_iff_eq.mpr c9
    clear c9
    (first | rw [c9b0] | (simp only [i64_w, i32_w];rw [c9b0]) | skip)
    have H' := am_ H
    clear H
    go_wp2
    go_meet
    case rel => exact ⟨_, (true), (by first | rfl | (simp;done) | (simp [*];done)), H', ⟨by first | omega | exact Nat.le_refl _⟩, ⟨by refine z2_ ?_;exact BK514.out⟩, ⟨z3_ HB.out⟩⟩
   ·rw [if_neg c9] at H
    have c9b0 : (t516 == 3) = false := beq_eq_false_iff_ne.mpr c9
    have c9b1 : (t516 != 3) = true := bne_iff_ne.mpr c9
    (first | rw [c9b0] | (simp only [i64_w, i32_w];rw [c9b0]) | skip)
    by_cases c10 : t516 = 2
    ·rw [if_pos c10] at H
     have c10b0 : (t516 == 2) = true := beq_iff_eq.mpr c10
     have c10b1 : (t516 != 2) = false := bne_eq_false_iff_eq.mpr c10
     clear c10
     have H' := am_ H
     clear H
     go_wp2
     go_meet
     case rel => exact ⟨_, (((Int.tmod t515 2) == 1)), (by first | rfl | (simp;done) | (simp [*];done)), H', ⟨by first | omega | exact Nat.le_refl _⟩, ⟨by refine z2_ ?_;exact BK514.out⟩, ⟨z3_ HB.out⟩⟩
    ·rw [if_neg c10] at H
     have c10b0 : (t516 == 2) = false := beq_eq_false_iff_ne.mpr c10
     have c10b1 : (t516 != 2) = true := bne_iff_ne.mpr c10
     have H' := am_ H
     clear H
     go_wp2
     go_meet
     case rel => exact ⟨_, (false), (by first | rfl | (simp;done) | (simp [*];done)), H', ⟨by first | omega | exact Nat.le_refl _⟩, ⟨by refine z2_ ?_;exact BK514.out⟩, ⟨z3_ HB.out⟩⟩
  case rest =>
   clear HC5
   try clear c4
   try clear c4b0
   try clear c4b1
   try clear hcz7_0
   try clear hcz7_1
   try clear hcz7_2
   try clear hcz7_3
   try clear hcz7_4
   try clear hcz7_5
   try clear hfz7_0
   obtain ⟨kq, x29_4, rfl, HA, HJ4, BK514, HB⟩ := hcut
   cases kq with
   | zero => exact absurd HA.out (by simp [vernierref07_Rounds.j0])
   | succ kj4 =>
    have H := HA.out
    clear HA
    simp only [vernierref07_Rounds.j0] at H
    by_cases c11 : x29_4 = true
    ·subst c11
     have H1 : (if a1_1 = true then ((vernierref06_Neg.f kj4 a0 (IntKind.u64.wrap (t515 + 1))).bind fun t518 => (some (t518, 0))) else (some (IntKind.u64.wrap (t515 + 1), 0))) = some (r1, r2) := by rw [if_pos rfl] at H;exact H
     clear H
     have H := H1
     clear H1
     by_cases c12 : a1_1 = true
     ·subst c12
      have H1 : ((vernierref06_Neg.f kj4 a0 (IntKind.u64.wrap (t515 + 1))).bind fun t518 => (some (t518, 0))) = some (r1, r2) := by rw [if_pos rfl] at H;exact H
      clear H
      have H := H1
      clear H1
      replace H := Option.bind_eq_some_iff.mp H
      obtain ⟨t518, A130, H⟩ := H
      replace H : (some (t518, 0)) = some (r1, r2) := H
      have A13 := am_ A130
      clear A130
      simp only [Option.some.injEq, Prod.mk.injEq] at H
      obtain ⟨rfl, rfl⟩ := H
      obtain ⟨hcz14_0, hcz14_1, hcz14_2, hcz14_3, hcz14_4, hcz14_5, hfz14_0⟩ := zc6_ BK514.out
      go_wp2_with (first | ((with_reducible refine gate_callee (f := 17) rfl ?_);refine goesL_ (some 36) rfl rfl Try.func17 (by kernel_rfl) rfl #[.int .i64 a0,.int .u64 (IntKind.u64.wrap (t515 + 1))] rfl z5_ ?_;(with_reducible refine (vernierref06_Neg.calls kj4 a0 (IntKind.u64.wrap (t515 + 1)) t518 _ A13.out).mono ?_);rintro e w15 ⟨rfl, hb⟩;refine ⟨_, rfl, ?_⟩;have n0_ := am_ (blk_below (g := gb514) (z1_ BK514.out) hb);have n1_ := am_ (below_step (z3_ HB.out) hb);clear BK514;clear HB;have BK514 := n0_;have HB := n1_;clear n0_ n1_;(try clear hb)))
      go_ret2
      exact ⟨z6_, z3_ HB.out⟩
     ·replace c12 := Bool.eq_false_iff.mpr c12
      subst c12
      have H1 : (some (IntKind.u64.wrap (t515 + 1), 0)) = some (r1, r2) := by rw [if_neg (show ¬ (false = true) by decide)] at H;exact H
      clear H
      have H := H1
      clear H1
      simp only [Option.some.injEq, Prod.mk.injEq] at H
      obtain ⟨rfl, rfl⟩ := H
      obtain ⟨hcz16_0, hcz16_1, hcz16_2, hcz16_3, hcz16_4, hcz16_5, hfz16_0⟩ := zc6_ BK514.out
      go_wp2
      go_ret2
      exact ⟨z6_, z3_ HB.out⟩
    ·replace c11 := Bool.eq_false_iff.mpr c11
     subst c11
     have H1 : (if a1_1 = true then ((vernierref06_Neg.f kj4 a0 t515).bind fun t519 => (some (t519, 0))) else (some (t515, 0))) = some (r1, r2) := by rw [if_neg (show ¬ (false = true) by decide)] at H;exact H
     clear H
     have H := H1
     clear H1
     by_cases c17 : a1_1 = true
     ·subst c17
      have H1 : ((vernierref06_Neg.f kj4 a0 t515).bind fun t519 => (some (t519, 0))) = some (r1, r2) := by rw [if_pos rfl] at H;exact H
      clear H
      have H := H1
      clear H1
      replace H := Option.bind_eq_some_iff.mp H
      obtain ⟨t519, A180, H⟩ := H
      replace H : (some (t519, 0)) = some (r1, r2) := H
      have A18 := am_ A180
      clear A180
      simp only [Option.some.injEq, Prod.mk.injEq] at H
      obtain ⟨rfl, rfl⟩ := H
      obtain ⟨hcz19_0, hcz19_1, hcz19_2, hcz19_3, hcz19_4, hcz19_5, hfz19_0⟩ := zc6_ BK514.out
      go_wp2_with (first | ((with_reducible refine gate_callee (f := 17) rfl ?_);refine goesL_ (some 36) rfl rfl Try.func17 (by kernel_rfl) rfl #[.int .i64 a0,.int .u64 t515] rfl z5_ ?_;(with_reducible refine (vernierref06_Neg.calls kj4 a0 t515 t519 _ A18.out).mono ?_);rintro e w20 ⟨rfl, hb⟩;refine ⟨_, rfl, ?_⟩;have n0_ := am_ (blk_below (g := gb514) (z1_ BK514.out) hb);have n1_ := am_ (below_step (z3_ HB.out) hb);clear BK514;clear HB;have BK514 := n0_;have HB := n1_;clear n0_ n1_;(try clear hb)))
      go_ret2
      exact ⟨z6_, z3_ HB.out⟩
     ·replace c17 := Bool.eq_false_iff.mpr c17
      subst c17
      have H1 : (some (t515, 0)) = some (r1, r2) := by rw [if_neg (show ¬ (false = true) by decide)] at H;exact H
      clear H
      have H := H1
      clear H1
      simp only [Option.some.injEq, Prod.mk.injEq] at H
      obtain ⟨rfl, rfl⟩ := H
      obtain ⟨hcz21_0, hcz21_1, hcz21_2, hcz21_3, hcz21_4, hcz21_5, hfz21_0⟩ := zc6_ BK514.out
      go_wp2
      go_ret2
      exact ⟨z6_, z3_ HB.out⟩
 ·rw [if_neg c4] at H
  have c4b0 : (t517 == 0) = false := beq_eq_false_iff_ne.mpr c4
  have c4b1 : (t517 != 0) = true := bne_iff_ne.mpr c4
  simp only [Option.some.injEq, Prod.mk.injEq] at H
  obtain ⟨rfl, rfl⟩ := H
  go_enter Try.func73, Try.ntmps73
  go_wp2_with (first | ((with_reducible refine gate_dst (N := 3) rfl ?_);refine box_event ?hg (N := 3) ?hd (cs := #[.int .i64 a1_0,.bool a1_1,.int .i64 a1_2,.int .u64 a1_3,.int .u64 a1_4,.bool a1_5]) (t := 27) ?hr ?_;(case hd => rfl);(case hg => rfl);(case hr => first | (go_simp;done) | (go_simp;rfl));intro gb514 hg w22 hbox hb;have n0_ := am_ (below_step (z3_ HB.out) hb);have n1_ := am_ (hbox);have n2_ := am_ ((by rw [hg];exact (below_size (z3_ HB.out)) : w.heap.size ≤ gb514));have n3_ := am_ ((by rw [hg];exact (below_size (z3_ HB.out)) : w.heap.size ≤ gb514));clear HB;have HB := n0_;have BK514 := n1_;have GW514 := n2_;have GE514 := n3_;clear n0_ n1_ n2_ n3_;clear hb hbox hg;obtain ⟨hcz23_0, hcz23_1, hcz23_2, hcz23_3, hcz23_4, hcz23_5, hfz23_0⟩ := zc6_ BK514.out) | ((with_reducible refine gate_callee (f := 83) rfl ?_);refine goesL_ (some 12) rfl rfl Try.func83 (by kernel_rfl) rfl #[.int .i64 a0,.agg #[.int .i64 a1_0,.bool a1_1,.int .i64 a1_2,.int .u64 a1_3,.int .u64 a1_4,.bool a1_5]] rfl z5_ ?_;(with_reducible refine (vernierref07_Cut.calls k a0 a1_0 a1_1 a1_2 a1_3 a1_4 a1_5 t515 t516 t517 _ A3.out).mono ?_);rintro e w24 ⟨rfl, hb⟩;refine ⟨_, rfl, ?_⟩;have n0_ := am_ (blk_below (g := gb514) (z1_ BK514.out) hb);have n1_ := am_ (below_step (z3_ HB.out) hb);clear BK514;clear HB;have BK514 := n0_;have HB := n1_;clear n0_ n1_;(try clear hb)))
  go_ret2
  exact ⟨z6_, z3_ HB.out⟩
def vernierref07_Round.f (k : Nat) (a0 : Int) (a1_0 : Int) (a1_1 : Bool) (a1_2 : Int) (a1_3 : Int) (a1_4 : Int) (a1_5 : Bool) : Option (Int) := (vernierref07_Rounds.f k a0 a1_0 a1_1 a1_2 a1_3 a1_4 a1_5).bind fun bt521 => (some bt521.1)
theorem vernierref07_Round.mono : ∀ a0 a1 a2 a3 a4 a5 a6 k, LeO (vernierref07_Round.f k a0 a1 a2 a3 a4 a5 a6) (vernierref07_Round.f (k + 1) a0 a1 a2 a3 a4 a5 a6) := by
 intro a0 a1 a2 a3 a4 a5 a6 k
 unfold vernierref07_Round.f
 repeat' first
   | (with_reducible exact vernierref07_Rounds.mono _ _ _ _ _ _ _ _)
   | (with_reducible exact LeO.refl _)
   | (with_reducible exact LeO.none _)
   | (with_reducible refine LeO.ite ?_ ?_)
   | (with_reducible refine LeO.bind ?_ (fun _ => ?_))
   | exact vernierref07_Rounds.mono _ _ _ _ _ _ _ _
   | exact LeO.none _
   | refine LeO.ite ?_ ?_
   | refine LeO.bind ?_ (fun _ => ?_)
set_option maxHeartbeats 8000000 in
set_option maxRecDepth 100000 in
theorem vernierref07_Round.calls (k : Nat) (a0 : Int) (a1_0 : Int) (a1_1 : Bool) (a1_2 : Int) (a1_3 : Int) (a1_4 : Int) (a1_5 : Bool) (r : Int) (w : World) (h : vernierref07_Round.f k a0 a1_0 a1_1 a1_2 a1_3 a1_4 a1_5 = some r) :
  Calls Try.prog 52 #[.int .i64 a0,.agg #[.int .i64 a1_0,.bool a1_1,.int .i64 a1_2,.int .u64 a1_3,.int .u64 a1_4,.bool a1_5]] w fun e w' => e = .returned (.int .u64 r) ∧ Below w.heap.size w w' := by
 have hu27 := Try.underlying27
 have HB := am_ (Below.refl w.heap.size w)
 have H : ((vernierref07_Rounds.f k a0 a1_0 a1_1 a1_2 a1_3 a1_4 a1_5).bind fun bt521 => (some bt521.1)) = some r := h
 clear h
 replace H := Option.bind_eq_some_iff.mp H
 obtain ⟨⟨t521, t522⟩, A30, H⟩ := H
 replace H : (some t521) = some r := H
 have A3 := am_ A30
 clear A30
 obtain rfl := Option.some.inj H
 go_enter Try.func52, Try.ntmps52
 go_wp2_with (first | ((with_reducible refine gate_dst (N := 3) rfl ?_);refine box_event ?hg (N := 3) ?hd (cs := #[.int .i64 a1_0,.bool a1_1,.int .i64 a1_2,.int .u64 a1_3,.int .u64 a1_4,.bool a1_5]) (t := 27) ?hr ?_;(case hd => rfl);(case hg => rfl);(case hr => first | (go_simp;done) | (go_simp;rfl));intro gb520 hg w4 hbox hb;have n0_ := am_ (below_step (z3_ HB.out) hb);have n1_ := am_ (hbox);have n2_ := am_ ((by rw [hg];exact (below_size (z3_ HB.out)) : w.heap.size ≤ gb520));have n3_ := am_ ((by rw [hg];exact (below_size (z3_ HB.out)) : w.heap.size ≤ gb520));clear HB;have HB := n0_;have BK520 := n1_;have GW520 := n2_;have GE520 := n3_;clear n0_ n1_ n2_ n3_;clear hb hbox hg;obtain ⟨hcz5_0, hcz5_1, hcz5_2, hcz5_3, hcz5_4, hcz5_5, hfz5_0⟩ := zc6_ BK520.out) | ((with_reducible refine gate_callee (f := 73) rfl ?_);refine goesL_ (some 10) rfl rfl Try.func73 (by kernel_rfl) rfl #[.int .i64 a0,.agg #[.int .i64 a1_0,.bool a1_1,.int .i64 a1_2,.int .u64 a1_3,.int .u64 a1_4,.bool a1_5]] rfl z5_ ?_;(with_reducible refine (vernierref07_Rounds.calls k a0 a1_0 a1_1 a1_2 a1_3 a1_4 a1_5 t521 t522 _ A3.out).mono ?_);rintro e w6 ⟨rfl, hb⟩;refine ⟨_, rfl, ?_⟩;have n0_ := am_ (blk_below (g := gb520) (z1_ BK520.out) hb);have n1_ := am_ (below_step (z3_ HB.out) hb);clear BK520;clear HB;have BK520 := n0_;have HB := n1_;clear n0_ n1_;(try clear hb)))
 go_ret
 exact ⟨z6_, z3_ HB.out⟩
def vernierref10_Mul.f (k : Nat) (a0 : Int) (a1 : Int) (a2 : Int) : Option (Int) := (vernierref06_Decode.f k a0 a1).bind fun bt523 => ((vernierref06_Decode.f k a0 a2).bind fun bt527 => ((vernierref10_Exact.f k bt523.1 bt523.2.1 bt523.2.2.1 bt523.2.2.2 bt527.1 bt527.2.1 bt527.2.2.1 bt527.2.2.2).bind fun bt531 => ((vernierref07_Round.f k a0 bt531.1 bt531.2.1 bt531.2.2.1 bt531.2.2.2.1 bt531.2.2.2.2.1 bt531.2.2.2.2.2.1).bind fun t539 => (some t539))))
theorem vernierref10_Mul.mono : ∀ a0 a1 a2 k, LeO (vernierref10_Mul.f k a0 a1 a2) (vernierref10_Mul.f (k + 1) a0 a1 a2) := by
 intro a0 a1 a2 k
 unfold vernierref10_Mul.f
 repeat' first
   | (with_reducible exact vernierref06_Decode.mono _ _ _)
   | (with_reducible exact vernierref07_Round.mono _ _ _ _ _ _ _ _)
   | (with_reducible exact vernierref10_Exact.mono _ _ _ _ _ _ _ _ _)
   | (with_reducible exact LeO.refl _)
   | (with_reducible exact LeO.none _)
   | (with_reducible refine LeO.ite ?_ ?_)
   | (with_reducible refine LeO.bind ?_ (fun _ => ?_))
   | exact vernierref06_Decode.mono _ _ _
   | exact vernierref07_Round.mono _ _ _ _ _ _ _ _
   | exact vernierref10_Exact.mono _ _ _ _ _ _ _ _ _
   | exact LeO.none _
   | refine LeO.ite ?_ ?_
   | refine LeO.bind ?_ (fun _ => ?_)
set_option maxHeartbeats 8000000 in
set_option maxRecDepth 100000 in
theorem vernierref10_Mul.calls (k : Nat) (a0 : Int) (a1 : Int) (a2 : Int) (r : Int) (w : World) (h : vernierref10_Mul.f k a0 a1 a2 = some r) :
  Calls Try.prog 31 #[.int .i64 a0,.int .u64 a1,.int .u64 a2] w fun e w' => e = .returned (.int .u64 r) ∧ Below w.heap.size w w' := by
 have hu27 := Try.underlying27
 have HB := am_ (Below.refl w.heap.size w)
 have H : ((vernierref06_Decode.f k a0 a1).bind fun bt523 => ((vernierref06_Decode.f k a0 a2).bind fun bt527 => ((vernierref10_Exact.f k bt523.1 bt523.2.1 bt523.2.2.1 bt523.2.2.2 bt527.1 bt527.2.1 bt527.2.2.1 bt527.2.2.2).bind fun bt531 => ((vernierref07_Round.f k a0 bt531.1 bt531.2.1 bt531.2.2.1 bt531.2.2.2.1 bt531.2.2.2.2.1 bt531.2.2.2.2.2.1).bind fun t539 => (some t539))))) = some r := h
 clear h
 replace H := Option.bind_eq_some_iff.mp H
 obtain ⟨⟨t523, t524, t525, t526⟩, A40, H⟩ := H
 replace H : ((vernierref06_Decode.f k a0 a2).bind fun bt527 => ((vernierref10_Exact.f k t523 t524 t525 t526 bt527.1 bt527.2.1 bt527.2.2.1 bt527.2.2.2).bind fun bt531 => ((vernierref07_Round.f k a0 bt531.1 bt531.2.1 bt531.2.2.1 bt531.2.2.2.1 bt531.2.2.2.2.1 bt531.2.2.2.2.2.1).bind fun t539 => (some t539)))) = some r := H
 have A4 := am_ A40
 clear A40
 replace H := Option.bind_eq_some_iff.mp H
 obtain ⟨⟨t527, t528, t529, t530⟩, A50, H⟩ := H
 replace H : ((vernierref10_Exact.f k t523 t524 t525 t526 t527 t528 t529 t530).bind fun bt531 => ((vernierref07_Round.f k a0 bt531.1 bt531.2.1 bt531.2.2.1 bt531.2.2.2.1 bt531.2.2.2.2.1 bt531.2.2.2.2.2.1).bind fun t539 => (some t539))) = some r := H
 have A5 := am_ A50
 clear A50
 replace H := Option.bind_eq_some_iff.mp H
 obtain ⟨⟨t531, t532, t533, t534, t535, t536, t537⟩, A60, H⟩ := H
 replace H : ((vernierref07_Round.f k a0 t531 t532 t533 t534 t535 t536).bind fun t539 => (some t539)) = some r := H
 have A6 := am_ A60
 clear A60
 replace H := Option.bind_eq_some_iff.mp H
 obtain ⟨t539, A70, H⟩ := H
 replace H : (some t539) = some r := H
 have A7 := am_ A70
 clear A70
 obtain rfl := Option.some.inj H
 go_enter Try.func31, Try.ntmps31
 go_wp2_with (first | ((with_reducible refine gate_callee (f := 51) rfl ?_);refine goesL_ (some 12) rfl rfl Try.func51 (by kernel_rfl) rfl #[.int .i64 a0,.int .u64 a1] rfl z5_ ?_;(with_reducible refine (vernierref06_Decode.calls k a0 a1 t523 t524 t525 t526 _ A4.out).mono ?_);rintro e w8 ⟨rfl, hb⟩;refine ⟨_, rfl, ?_⟩;have n0_ := am_ (below_step (z3_ HB.out) hb);clear HB;have HB := n0_;clear n0_;(try clear hb)) | ((with_reducible refine gate_callee (f := 51) rfl ?_);refine goesL_ (some 15) rfl rfl Try.func51 (by kernel_rfl) rfl #[.int .i64 a0,.int .u64 a2] rfl z5_ ?_;(with_reducible refine (vernierref06_Decode.calls k a0 a2 t527 t528 t529 t530 _ A5.out).mono ?_);rintro e w9 ⟨rfl, hb⟩;refine ⟨_, rfl, ?_⟩;have n0_ := am_ (below_step (z3_ HB.out) hb);clear HB;have HB := n0_;clear n0_;(try clear hb)) | ((with_reducible refine gate_callee (f := 10) rfl ?_);refine goesL_ (some 16) rfl rfl Try.func10 (by kernel_rfl) rfl #[.agg #[.int .i64 t523,.bool t524,.int .i64 t525,.int .u64 t526],.agg #[.int .i64 t527,.bool t528,.int .i64 t529,.int .u64 t530]] rfl z5_ ?_;(with_reducible refine (vernierref10_Exact.calls k t523 t524 t525 t526 t527 t528 t529 t530 t531 t532 t533 t534 t535 t536 t537 _ A6.out).mono ?_);rintro e w10 ⟨rfl, hb⟩;refine ⟨_, rfl, ?_⟩;have n0_ := am_ (below_step (z3_ HB.out) hb);clear HB;have HB := n0_;clear n0_;(try clear hb)) | ((with_reducible refine gate_dst (N := 7) rfl ?_);refine box_event ?hg (N := 7) ?hd (cs := #[.int .i64 0,.bool false,.int .i64 0,.int .u64 0,.int .u64 0,.bool false]) (t := 27) ?hr ?_;(case hd => rfl);(case hg => rfl);(case hr => first | (go_simp;done) | (go_simp;rfl));intro gb538 hg w11 hbox hb;have n0_ := am_ (below_step (z3_ HB.out) hb);have n1_ := am_ (hbox);have n2_ := am_ ((by rw [hg];exact (below_size (z3_ HB.out)) : w.heap.size ≤ gb538));have n3_ := am_ ((by rw [hg];exact (below_size (z3_ HB.out)) : w.heap.size ≤ gb538));clear HB;have HB := n0_;have BK538 := n1_;have GW538 := n2_;have GE538 := n3_;clear n0_ n1_ n2_ n3_;clear hb hbox hg;obtain ⟨hcz12_0, hcz12_1, hcz12_2, hcz12_3, hcz12_4, hcz12_5, hfz12_0⟩ := zc6_ BK538.out) | ((with_reducible refine gate_callee (f := 52) rfl ?_);refine goesL_ (some 21) rfl rfl Try.func52 (by kernel_rfl) rfl #[.int .i64 a0,.agg #[.int .i64 t531,.bool t532,.int .i64 t533,.int .u64 t534,.int .u64 t535,.bool t536]] rfl z5_ ?_;(with_reducible refine (vernierref07_Round.calls k a0 t531 t532 t533 t534 t535 t536 t539 _ A7.out).mono ?_);rintro e w13 ⟨rfl, hb⟩;refine ⟨_, rfl, ?_⟩;have n0_ := am_ (blk_below (g := gb538) (o := .cells #[.int .i64 t531,.bool t532,.int .i64 t533,.int .u64 t534,.int .u64 t535,.bool t536] 27 (0, 0)) (by refine z2_ ?_;refine blk_put (cs := #[.int .i64 t531,.bool t532,.int .i64 t533,.int .u64 t534,.int .u64 t535,.bool false]) ?_ 5 _ rfl;refine z2_ ?_;refine blk_put (cs := #[.int .i64 t531,.bool t532,.int .i64 t533,.int .u64 t534,.int .u64 0,.bool false]) ?_ 4 _ rfl;refine z2_ ?_;refine blk_put (cs := #[.int .i64 t531,.bool t532,.int .i64 t533,.int .u64 0,.int .u64 0,.bool false]) ?_ 3 _ rfl;refine z2_ ?_;refine blk_put (cs := #[.int .i64 t531,.bool t532,.int .i64 0,.int .u64 0,.int .u64 0,.bool false]) ?_ 2 _ rfl;refine z2_ ?_;refine blk_put (cs := #[.int .i64 t531,.bool false,.int .i64 0,.int .u64 0,.int .u64 0,.bool false]) ?_ 1 _ rfl;refine z2_ ?_;refine blk_put (cs := #[.int .i64 0,.bool false,.int .i64 0,.int .u64 0,.int .u64 0,.bool false]) ?_ 0 _ rfl;refine z2_ ?_;exact BK538.out) hb);have n1_ := am_ (below_step (z3_ HB.out) hb);clear BK538;clear HB;have BK538 := n0_;have HB := n1_;clear n0_ n1_;(try clear hb)))
 go_ret
 exact ⟨z6_, z3_ HB.out⟩
def vernierref10_Muls.f (k : Nat) (a0 : Int) (a1 : Int) (a2 : Int) : Option (Int × Int) := (vernierref05_Is.f a0).bind fun t540 => (if t540 = true then ((vernierref10_Mul.f k a0 a1 a2).bind fun t541 => (some (t541, 0))) else (some (0, 2)))
theorem vernierref10_Muls.mono : ∀ a0 a1 a2 k, LeO (vernierref10_Muls.f k a0 a1 a2) (vernierref10_Muls.f (k + 1) a0 a1 a2) := by
 intro a0 a1 a2 k
 unfold vernierref10_Muls.f
 repeat' first
   | (with_reducible exact vernierref10_Mul.mono _ _ _ _)
   | (with_reducible exact LeO.refl _)
   | (with_reducible exact LeO.none _)
   | (with_reducible refine LeO.ite ?_ ?_)
   | (with_reducible refine LeO.bind ?_ (fun _ => ?_))
   | exact vernierref10_Mul.mono _ _ _ _
   | exact LeO.none _
   | refine LeO.ite ?_ ?_
   | refine LeO.bind ?_ (fun _ => ?_)
set_option maxHeartbeats 8000000 in
set_option maxRecDepth 100000 in
theorem vernierref10_Muls.calls (k : Nat) (a0 : Int) (a1 : Int) (a2 : Int) (r1 : Int) (r2 : Int) (w : World) (h : vernierref10_Muls.f k a0 a1 a2 = some (r1, r2)) :
  Calls Try.prog 13 #[.int .i64 a0,.int .u64 a1,.int .u64 a2] w fun e w' => e = .returned (.tuple #[.int .u64 r1,.int .i64 r2]) ∧ Below w.heap.size w w' := by
 have HB := am_ (Below.refl w.heap.size w)
 have H : ((vernierref05_Is.f a0).bind fun t540 => (if t540 = true then ((vernierref10_Mul.f k a0 a1 a2).bind fun t541 => (some (t541, 0))) else (some (0, 2)))) = some (r1, r2) := h
 clear h
 replace H := Option.bind_eq_some_iff.mp H
 obtain ⟨t540, A40, H⟩ := H
 replace H : (if t540 = true then ((vernierref10_Mul.f k a0 a1 a2).bind fun t541 => (some (t541, 0))) else (some (0, 2))) = some (r1, r2) := H
 have A4 := am_ A40
 clear A40
 by_cases c5 : t540 = true
 ·subst c5
  have H1 : ((vernierref10_Mul.f k a0 a1 a2).bind fun t541 => (some (t541, 0))) = some (r1, r2) := by rw [if_pos rfl] at H;exact H
  clear H
  have H := H1
  clear H1
  replace H := Option.bind_eq_some_iff.mp H
  obtain ⟨t541, A60, H⟩ := H
  replace H : (some (t541, 0)) = some (r1, r2) := H
  have A6 := am_ A60
  clear A60
  simp only [Option.some.injEq, Prod.mk.injEq] at H
  obtain ⟨rfl, rfl⟩ := H
  go_enter Try.func13, Try.ntmps13
  go_wp2_with (first | ((with_reducible refine gate_callee (f := 14) rfl ?_);refine goesL_ (some 10) rfl rfl Try.func14 (by kernel_rfl) rfl #[.int .i64 a0] rfl z5_ ?_;(with_reducible refine (vernierref05_Is.calls a0 true _ A4.out).mono ?_);rintro e w' ⟨rfl, ⟨nd, rfl⟩⟩;refine ⟨_, rfl, ?_⟩) | ((with_reducible refine gate_callee (f := 31) rfl ?_);refine goesL_ (some 16) rfl rfl Try.func31 (by kernel_rfl) rfl #[.int .i64 a0,.int .u64 a1,.int .u64 a2] rfl z5_ ?_;(with_reducible refine (vernierref10_Mul.calls k a0 a1 a2 t541 _ A6.out).mono ?_);rintro e w7 ⟨rfl, hb⟩;refine ⟨_, rfl, ?_⟩;have n0_ := am_ (below_step (z3_ HB.out) hb);clear HB;have HB := n0_;clear n0_;(try clear hb)))
  go_ret2
  exact ⟨z6_, z3_ HB.out⟩
 ·replace c5 := Bool.eq_false_iff.mpr c5
  subst c5
  have H1 : (some (0, 2)) = some (r1, r2) := by rw [if_neg (show ¬ (false = true) by decide)] at H;exact H
  clear H
  have H := H1
  clear H1
  simp only [Option.some.injEq, Prod.mk.injEq] at H
  obtain ⟨rfl, rfl⟩ := H
  go_enter Try.func13, Try.ntmps13
  go_wp2_with (first | ((with_reducible refine gate_callee (f := 14) rfl ?_);refine goesL_ (some 10) rfl rfl Try.func14 (by kernel_rfl) rfl #[.int .i64 a0] rfl z5_ ?_;(with_reducible refine (vernierref05_Is.calls a0 false _ A4.out).mono ?_);rintro e w' ⟨rfl, ⟨nd, rfl⟩⟩;refine ⟨_, rfl, ?_⟩))
  go_ret2
  exact ⟨z6_, z3_ HB.out⟩
def vernierlaw10_ProdMuls.f (k : Nat) (a0 : Int) (a1 : Int) (a2 : Int) : Option (Bool) := (vernierlaw10_up.f k).bind fun t542 => ((prod_Mul.f k a0 a1 a2).bind fun bt543 => ((vernierref10_Muls.f k a0 a1 a2).bind fun bt545 => (if t542 = true then (if bt543.1 = bt545.1 then ((vernierlaw00_Code.f bt543.2).bind fun t547 => (some (t547 == bt545.2))) else (some false)) else (some false))))
theorem vernierlaw10_ProdMuls.mono : ∀ a0 a1 a2 k, LeO (vernierlaw10_ProdMuls.f k a0 a1 a2) (vernierlaw10_ProdMuls.f (k + 1) a0 a1 a2) := by
 intro a0 a1 a2 k
 unfold vernierlaw10_ProdMuls.f
 repeat' first
   | (with_reducible exact prod_Mul.mono _ _ _ _)
   | (with_reducible exact vernierlaw10_up.mono _)
   | (with_reducible exact vernierref10_Muls.mono _ _ _ _)
   | (with_reducible exact LeO.refl _)
   | (with_reducible exact LeO.none _)
   | (with_reducible refine LeO.ite ?_ ?_)
   | (with_reducible refine LeO.bind ?_ (fun _ => ?_))
   | exact prod_Mul.mono _ _ _ _
   | exact vernierlaw10_up.mono _
   | exact vernierref10_Muls.mono _ _ _ _
   | exact LeO.none _
   | refine LeO.ite ?_ ?_
   | refine LeO.bind ?_ (fun _ => ?_)
set_option maxHeartbeats 8000000 in
set_option maxRecDepth 100000 in
theorem vernierlaw10_ProdMuls.calls (k : Nat) (a0 : Int) (a1 : Int) (a2 : Int) (r : Bool) (w : World) (h : vernierlaw10_ProdMuls.f k a0 a1 a2 = some r) :
  Calls Try.prog 4 #[.int .i64 a0,.int .u64 a1,.int .u64 a2] w fun e w' => e = .returned (.bool r) ∧ Below w.heap.size w w' := by
 have HB := am_ (Below.refl w.heap.size w)
 have H : ((vernierlaw10_up.f k).bind fun t542 => ((prod_Mul.f k a0 a1 a2).bind fun bt543 => ((vernierref10_Muls.f k a0 a1 a2).bind fun bt545 => (if t542 = true then (if bt543.1 = bt545.1 then ((vernierlaw00_Code.f bt543.2).bind fun t547 => (some (t547 == bt545.2))) else (some false)) else (some false))))) = some r := h
 clear h
 replace H := Option.bind_eq_some_iff.mp H
 obtain ⟨t542, A40, H⟩ := H
 replace H : ((prod_Mul.f k a0 a1 a2).bind fun bt543 => ((vernierref10_Muls.f k a0 a1 a2).bind fun bt545 => (if t542 = true then (if bt543.1 = bt545.1 then ((vernierlaw00_Code.f bt543.2).bind fun t547 => (some (t547 == bt545.2))) else (some false)) else (some false)))) = some r := H
 have A4 := am_ A40
 clear A40
 replace H := Option.bind_eq_some_iff.mp H
 obtain ⟨⟨t543, t544⟩, A50, H⟩ := H
 replace H : ((vernierref10_Muls.f k a0 a1 a2).bind fun bt545 => (if t542 = true then (if t543 = bt545.1 then ((vernierlaw00_Code.f t544).bind fun t547 => (some (t547 == bt545.2))) else (some false)) else (some false))) = some r := H
 have A5 := am_ A50
 clear A50
 replace H := Option.bind_eq_some_iff.mp H
 obtain ⟨⟨t545, t546⟩, A60, H⟩ := H
 replace H : (if t542 = true then (if t543 = t545 then ((vernierlaw00_Code.f t544).bind fun t547 => (some (t547 == t546))) else (some false)) else (some false)) = some r := H
 have A6 := am_ A60
 clear A60
 by_cases c7 : t542 = true
 ·subst c7
  have H1 : (if t543 = t545 then ((vernierlaw00_Code.f t544).bind fun t547 => (some (t547 == t546))) else (some false)) = some r := by rw [if_pos rfl] at H;exact H
  clear H
  have H := H1
  clear H1
  by_cases c8 : t543 = t545
  ·rw [if_pos c8] at H
   have c8b0 : (t543 == t545) = true := beq_iff_eq.mpr c8
   have c8b1 : (t543 != t545) = false := bne_eq_false_iff_eq.mpr c8
   clear c8
   replace H := Option.bind_eq_some_iff.mp H
   obtain ⟨t547, A90, H⟩ := H
   replace H : (some (t547 == t546)) = some r := H
   have A9 := am_ A90
   clear A90
   obtain rfl := Option.some.inj H
   go_enter Try.func4, Try.ntmps4
   go_wp2_with (first | ((with_reducible refine gate_callee (f := 8) rfl ?_);refine goesL_ (some 12) rfl rfl Try.func8 (by kernel_rfl) rfl #[] rfl z5_ ?_;(with_reducible refine (vernierlaw10_up.calls k  true _ A4.out).mono ?_);rintro e w10 ⟨rfl, hb⟩;refine ⟨_, rfl, ?_⟩;have n0_ := am_ (below_step (z3_ HB.out) hb);clear HB;have HB := n0_;clear n0_;(try clear hb)) | ((with_reducible refine gate_callee (f := 12) rfl ?_);refine goesL_ (some 17) rfl rfl Try.func12 (by kernel_rfl) rfl #[.int .i64 a0,.int .u64 a1,.int .u64 a2] rfl z5_ ?_;(with_reducible refine (prod_Mul.calls k a0 a1 a2 t543 t544 _ A5.out).mono ?_);rintro e w11 ⟨rfl, hb⟩;refine ⟨_, rfl, ?_⟩;have n0_ := am_ (below_step (z3_ HB.out) hb);clear HB;have HB := n0_;clear n0_;(try clear hb);(try simp only [errW_none, errW_some])) | ((with_reducible refine gate_callee (f := 13) rfl ?_);refine goesL_ (some 24) rfl rfl Try.func13 (by kernel_rfl) rfl #[.int .i64 a0,.int .u64 a1,.int .u64 a2] rfl z5_ ?_;(with_reducible refine (vernierref10_Muls.calls k a0 a1 a2 t545 t546 _ A6.out).mono ?_);rintro e w12 ⟨rfl, hb⟩;refine ⟨_, rfl, ?_⟩;have n0_ := am_ (below_step (z3_ HB.out) hb);clear HB;have HB := n0_;clear n0_;(try clear hb);have CA9 := fun W => vernierlaw00_Code.calls t544 t547 W A9.out;try simp only [errW_none, errW_some] at CA9) | (go_at_call 11;(with_reducible refine (CA9 _).mono ?_);rintro e w' ⟨rfl, ⟨nd, rfl⟩⟩))
   go_ret
   exact ⟨z6_, z3_ HB.out⟩
  ·rw [if_neg c8] at H
   have c8b0 : (t543 == t545) = false := beq_eq_false_iff_ne.mpr c8
   have c8b1 : (t543 != t545) = true := bne_iff_ne.mpr c8
   obtain rfl := Option.some.inj H
   go_enter Try.func4, Try.ntmps4
   go_wp2_with (first | ((with_reducible refine gate_callee (f := 8) rfl ?_);refine goesL_ (some 12) rfl rfl Try.func8 (by kernel_rfl) rfl #[] rfl z5_ ?_;(with_reducible refine (vernierlaw10_up.calls k  true _ A4.out).mono ?_);rintro e w13 ⟨rfl, hb⟩;refine ⟨_, rfl, ?_⟩;have n0_ := am_ (below_step (z3_ HB.out) hb);clear HB;have HB := n0_;clear n0_;(try clear hb)) | ((with_reducible refine gate_callee (f := 12) rfl ?_);refine goesL_ (some 17) rfl rfl Try.func12 (by kernel_rfl) rfl #[.int .i64 a0,.int .u64 a1,.int .u64 a2] rfl z5_ ?_;(with_reducible refine (prod_Mul.calls k a0 a1 a2 t543 t544 _ A5.out).mono ?_);rintro e w14 ⟨rfl, hb⟩;refine ⟨_, rfl, ?_⟩;have n0_ := am_ (below_step (z3_ HB.out) hb);clear HB;have HB := n0_;clear n0_;(try clear hb);(try simp only [errW_none, errW_some])) | ((with_reducible refine gate_callee (f := 13) rfl ?_);refine goesL_ (some 24) rfl rfl Try.func13 (by kernel_rfl) rfl #[.int .i64 a0,.int .u64 a1,.int .u64 a2] rfl z5_ ?_;(with_reducible refine (vernierref10_Muls.calls k a0 a1 a2 t545 t546 _ A6.out).mono ?_);rintro e w15 ⟨rfl, hb⟩;refine ⟨_, rfl, ?_⟩;have n0_ := am_ (below_step (z3_ HB.out) hb);clear HB;have HB := n0_;clear n0_;(try clear hb)))
   go_ret
   exact ⟨z6_, z3_ HB.out⟩
 ·replace c7 := Bool.eq_false_iff.mpr c7
  subst c7
  have H1 : (some false) = some r := by rw [if_neg (show ¬ (false = true) by decide)] at H;exact H
  clear H
  have H := H1
  clear H1
  obtain rfl := Option.some.inj H
  go_enter Try.func4, Try.ntmps4
  go_wp2_with (first | ((with_reducible refine gate_callee (f := 8) rfl ?_);refine goesL_ (some 12) rfl rfl Try.func8 (by kernel_rfl) rfl #[] rfl z5_ ?_;(with_reducible refine (vernierlaw10_up.calls k  false _ A4.out).mono ?_);rintro e w16 ⟨rfl, hb⟩;refine ⟨_, rfl, ?_⟩;have n0_ := am_ (below_step (z3_ HB.out) hb);clear HB;have HB := n0_;clear n0_;(try clear hb)) | ((with_reducible refine gate_callee (f := 12) rfl ?_);refine goesL_ (some 17) rfl rfl Try.func12 (by kernel_rfl) rfl #[.int .i64 a0,.int .u64 a1,.int .u64 a2] rfl z5_ ?_;(with_reducible refine (prod_Mul.calls k a0 a1 a2 t543 t544 _ A5.out).mono ?_);rintro e w17 ⟨rfl, hb⟩;refine ⟨_, rfl, ?_⟩;have n0_ := am_ (below_step (z3_ HB.out) hb);clear HB;have HB := n0_;clear n0_;(try clear hb);(try simp only [errW_none, errW_some])) | ((with_reducible refine gate_callee (f := 13) rfl ?_);refine goesL_ (some 24) rfl rfl Try.func13 (by kernel_rfl) rfl #[.int .i64 a0,.int .u64 a1,.int .u64 a2] rfl z5_ ?_;(with_reducible refine (vernierref10_Muls.calls k a0 a1 a2 t545 t546 _ A6.out).mono ?_);rintro e w18 ⟨rfl, hb⟩;refine ⟨_, rfl, ?_⟩;have n0_ := am_ (below_step (z3_ HB.out) hb);clear HB;have HB := n0_;clear n0_;(try clear hb)))
  go_ret
  exact ⟨z6_, z3_ HB.out⟩
def vernierlaw10_ProdMuls.Pure : Prop := ∀ (a0 : Int) (a1 : Int) (a2 : Int), (Lit.int .i64 a0).wf = true → (Lit.int .u64 a1).wf = true → (Lit.int .u64 a2).wf = true → ∃ k, vernierlaw10_ProdMuls.f k a0 a1 a2 = some true
theorem vernierlaw10_ProdMuls.walk (P : vernierlaw10_ProdMuls.Pure) (a0 : Int) (a1 : Int) (a2 : Int) (w : World) (w0 : (Lit.int .i64 a0).wf = true) (w1 : (Lit.int .u64 a1).wf = true) (w2 : (Lit.int .u64 a2).wf = true) :
  Calls Try.prog 4 #[.int .i64 a0,.int .u64 a1,.int .u64 a2] w fun e w' => e = .returned (.bool true) ∧ Below w.heap.size w w' := by
 obtain ⟨k, h⟩ := P a0 a1 a2 w0 w1 w2
 refine (vernierlaw10_ProdMuls.calls k a0 a1 a2 true w h).mono ?_
 rintro e w' ⟨rfl, hd⟩
 exact ⟨rfl, hd⟩
end Go.Proofs.Ytebhpipfkomhjaa.PAll
namespace Go.Proofs.Ytebhpipfkomhjaa.V
open Go Go.RowKit Go.Proofs.YtebhpipfkomhjaaW.PrintWords Go.Proofs.YtebhpipfkomhjaaW.PrintLast Go.Proofs.YtebhpipfkomhjaaW.PrintMore Go.Proofs.Ytebhpipfkomhjaa.PAll
set_option linter.unusedVariables false
set_option linter.unusedSimpArgs false
theorem shl_hi (V k : Nat) (h : V < 2 ^ 128) (hk : k ≤ 64) :
  V * 2 ^ k % 2 ^ 128 / 2 ^ 64 = V / 2 ^ 64 * 2 ^ k % 2 ^ 64 + V % 2 ^ 64 / 2 ^ (64 - k) := by
 have s := pow_split hk
 have p1 := two_pos k
 have p2 := two_pos (64 - k)
 rw [show (2:Nat)^128 = 2^64 * 2^64 by decide, Nat.mod_mul_right_div_self]
 generalize hq : V / 2 ^ 64 = q
 generalize hr : V % 2 ^ 64 = r
 have hV : V = q * 2 ^ 64 + r := by subst hq hr; have := Nat.div_add_mod V (2^64); omega
 have hr' : r < 2 ^ 64 := by subst hr; exact Nat.mod_lt _ (two_pos 64)
 generalize hb : r / 2 ^ (64 - k) = b
 generalize hc : r % 2 ^ (64 - k) = c
 have hr2 : r = 2 ^ (64 - k) * b + c := by subst hb hc; exact (Nat.div_add_mod _ _).symm
 have hc' : c < 2 ^ (64 - k) := by subst hc; exact Nat.mod_lt _ p2
 have hb' : b < 2 ^ k := by subst hb; rw [Nat.div_lt_iff_lt_mul p2]; rw [s]; exact hr'
 have e : V * 2 ^ k = (q * 2 ^ k + b) * 2 ^ 64 + c * 2 ^ k := by
  rw [hV, hr2, ← s]; grind
 have hc2 : c * 2 ^ k < 2 ^ 64 := by
  rw [← s, Nat.mul_comm]; exact Nat.mul_lt_mul_of_pos_left hc' p1
 have d : V * 2 ^ k / 2 ^ 64 = q * 2 ^ k + b := by
  rw [e, Nat.add_comm, Nat.add_mul_div_right _ _ (two_pos 64), Nat.div_eq_of_lt hc2]; omega
 rw [d]
 have m1 : q * 2 ^ k % 2 ^ 64 = q % 2 ^ (64 - k) * 2 ^ k := by
  rw [← s, Nat.mul_comm (2 ^ k), Nat.mul_mod_mul_right]
 have m2 : q % 2 ^ (64 - k) * 2 ^ k + b < 2 ^ 64 := by
  have : q % 2 ^ (64 - k) + 1 ≤ 2 ^ (64 - k) := Nat.mod_lt _ p2
  have := Nat.mul_le_mul_right (2 ^ k) this
  rw [Nat.mul_comm (2 ^ (64 - k)), s, Nat.add_mul] at this
  omega
 rw [Nat.add_mod, m1, Nat.mod_eq_of_lt (Nat.lt_of_lt_of_le hb' (pow_le hk)), Nat.mod_eq_of_lt m2]
theorem twin_shl_eq (V k : Nat) (h : V < 2 ^ 128) (hk : k ≤ 128) :
  twin_shl.f (TH V) (TL V) (k : Int) = some (TH (V * 2 ^ k % 2 ^ 128), TL (V * 2 ^ k % 2 ^ 128)) := by
 unfold twin_shl.f
 have hT : V / 18446744073709551616 < 18446744073709551616 := by rw [p128] at h; omega
 have hL : V % 18446744073709551616 < 18446744073709551616 := by omega
 by_cases h64 : 64 ≤ k
 ·rw [if_pos (by omega), w64 (by omega) (by omega), if_pos (by omega)]
  have e : ((k : Int) - 64) = ((k - 64 : Nat) : Int) := by omega
  rw [e]
  unfold TL TH
  rw [shl_nat _ _ (by omega)]
  have s : (2 : Nat) ^ k = 2 ^ 64 * 2 ^ (k - 64) := by rw [← Nat.pow_add]; congr 1; omega
  have g : V * 2 ^ k = V * 2 ^ (k - 64) * 18446744073709551616 := by rw [s, p64]; grind
  have g1 : V % 18446744073709551616 * 2 ^ (k - 64) % 18446744073709551616 = V * 2 ^ k % 2 ^ 128 / 18446744073709551616 := by
   rw [p128, mod128_hi, g, Nat.mul_div_cancel _ (by decide), Nat.mod_mul_mod]
  have g2 : V * 2 ^ k % 2 ^ 128 % 18446744073709551616 = 0 := by rw [g, p128]; omega
  rw [g1, g2]
  rfl
 ·rw [if_neg (by omega), if_pos (by omega), w64 (by omega) (by omega), if_pos (by omega)]
  have e : (64 - (k : Int)) = ((64 - k : Nat) : Int) := by omega
  rw [e]
  unfold TL TH
  rw [shl_nat _ _ (by omega), shl_nat _ _ (by omega), shr_nat _ _ (by omega)]
  have hh := shl_hi V k h (by omega)
  have p2 := two_pos (64 - k)
  have s := pow_split (show k ≤ 64 by omega)
  rw [or_add _ _ k (Nat.mod_lt _ (by decide)) ?_ ?_ ?_]
  ·congr 3
   ·rw [← p64, hh]
   ·rw [Nat.mod_mul_mod, p128]; omega
  ·rw [← p64, ← s, Nat.mod_mul_right_mod, Nat.mul_mod_left]
  ·rw [Nat.div_lt_iff_lt_mul p2, s, p64]; exact hL
  ·exact Nat.lt_of_le_of_lt (Nat.div_le_self _ _) hL
theorem shr_lo (V k : Nat) (hk : k ≤ 64) : V / 2 ^ k % 2 ^ 64 = V % 2 ^ 64 / 2 ^ k + V / 2 ^ 64 * 2 ^ (64 - k) % 2 ^ 64 := by
 have s := pow_split hk
 have p1 := two_pos k
 have p2 := two_pos (64 - k)
 generalize hq : V / 2 ^ 64 = q
 generalize hr : V % 2 ^ 64 = r
 have hV : V = q * 2 ^ 64 + r := by subst hq hr; have := Nat.div_add_mod V (2^64); omega
 have hr' : r < 2 ^ 64 := by subst hr; exact Nat.mod_lt _ (two_pos 64)
 have e : V / 2 ^ k = r / 2 ^ k + q * 2 ^ (64 - k) := by
  rw [hV, ← s, show q * (2 ^ k * 2 ^ (64 - k)) + r = r + q * 2 ^ (64 - k) * 2 ^ k by grind, Nat.add_mul_div_right _ _ p1]
 have hb : r / 2 ^ k < 2 ^ (64 - k) := by rw [Nat.div_lt_iff_lt_mul p1, Nat.mul_comm, s]; exact hr'
 have m1 : q * 2 ^ (64 - k) % 2 ^ 64 = q % 2 ^ k * 2 ^ (64 - k) := by
  rw [← s, Nat.mul_mod_mul_right]
 have m2 : r / 2 ^ k + q % 2 ^ k * 2 ^ (64 - k) < 2 ^ 64 := by
  have : q % 2 ^ k + 1 ≤ 2 ^ k := Nat.mod_lt _ p1
  have := Nat.mul_le_mul_right (2 ^ (64 - k)) this
  rw [s, Nat.add_mul] at this
  omega
 rw [e, Nat.add_mod, m1, Nat.mod_eq_of_lt (Nat.lt_of_lt_of_le hb (pow_le (by omega))), Nat.mod_eq_of_lt m2]
theorem twin_shr_eq (V k : Nat) (h : V < 2 ^ 128) (hk : k ≤ 128) :
  twin_shr.f (TH V) (TL V) (k : Int) = some (TH (V / 2 ^ k), TL (V / 2 ^ k)) := by
 unfold twin_shr.f
 have hT : V / 18446744073709551616 < 18446744073709551616 := by rw [p128] at h; omega
 have hL : V % 18446744073709551616 < 18446744073709551616 := by omega
 by_cases h64 : 64 ≤ k
 ·rw [if_pos (by omega), w64 (by omega) (by omega), if_pos (by omega)]
  have e : ((k : Int) - 64) = ((k - 64 : Nat) : Int) := by omega
  rw [e]
  unfold TL TH
  rw [shr_nat _ _ (by omega)]
  have s : (2 : Nat) ^ k = 2 ^ 64 * 2 ^ (k - 64) := by rw [← Nat.pow_add]; congr 1; omega
  have lt : V / 2 ^ k < 2 ^ 64 := by
   rw [s, ← Nat.div_div_eq_div_mul, p64]
   exact Nat.lt_of_le_of_lt (Nat.div_le_self _ _) hT
  rw [Nat.div_eq_of_lt (show V / 2 ^ k < 18446744073709551616 by rw [← p64]; exact lt), Nat.mod_eq_of_lt (show V / 2 ^ k < 18446744073709551616 by rw [← p64]; exact lt), s, ← Nat.div_div_eq_div_mul, p64]
  rfl
 ·rw [if_neg (by omega), if_pos (by omega), w64 (by omega) (by omega), if_pos (by omega)]
  have e : (64 - (k : Int)) = ((64 - k : Nat) : Int) := by omega
  rw [e]
  unfold TL TH
  rw [shr_nat _ _ (by omega), shr_nat _ _ (by omega), shl_nat _ _ (by omega)]
  have hh := shr_lo V k (by omega)
  have p1 := two_pos k
  have s := pow_split (show k ≤ 64 by omega)
  have hs : V % 18446744073709551616 / 2 ^ k < 2 ^ (64 - k) := by rw [Nat.div_lt_iff_lt_mul p1, Nat.mul_comm, s, p64]; exact hL
  have oc : Go.bits .or .u64 ((V % 18446744073709551616 / 2 ^ k : Nat) : Int) ((V / 18446744073709551616 * 2 ^ (64 - k) % 18446744073709551616 : Nat) : Int) = ((V % 18446744073709551616 / 2 ^ k + V / 18446744073709551616 * 2 ^ (64 - k) % 18446744073709551616 : Nat) : Int) := by
   rw [or_nat _ _ (Nat.lt_of_le_of_lt (Nat.div_le_self _ _) hL) (Nat.mod_lt _ (by decide)), Nat.or_comm]
   have e2 : V / 18446744073709551616 * 2 ^ (64 - k) % 18446744073709551616 = V / 18446744073709551616 % 2 ^ k * 2 ^ (64 - k) := by
    rw [← p64, ← s, Nat.mul_mod_mul_right]
   rw [e2, or_parts hs, Nat.add_comm]
  have g1 : V / 18446744073709551616 / 2 ^ k = V / 2 ^ k / 18446744073709551616 := by rw [Nat.div_div_eq_div_mul, Nat.div_div_eq_div_mul, Nat.mul_comm]
  rw [oc, g1, ← p64, hh]
theorem twin_Len_eq (V : Nat) (h : V < 2 ^ 128) : twin_Len.f (TH V) (TL V) = some ((bl V : Nat) : Int) := by
 unfold twin_Len.f bits_Len64.f TH TL
 have hT : V / 18446744073709551616 < 18446744073709551616 := by rw [p128] at h; omega
 have hL : V % 18446744073709551616 < 18446744073709551616 := by omega
 have c1 := bl_le_of_lt h
 by_cases h0 : 0 < V / 18446744073709551616
 ·rw [if_pos (by omega), if_pos ⟨by omega, by omega⟩]
  simp only [Option.bind_some]
  have e : Lib.bitLen (V / 18446744073709551616) = bl (V / 18446744073709551616) := bitLen_bl (by rw [p64]; exact hT)
  have c2 := bl_le_of_lt (show V / 18446744073709551616 < 2 ^ 64 by rw [p64]; exact hT)
  have a := bl_lt (V / 18446744073709551616)
  have b := bl_le h0
  have c := bl_pos h0
  have l : bl V = 64 + bl (V / 18446744073709551616) := by
   refine bl_unique (by omega) ?_ ?_
   ·rw [show 64 + bl (V / 18446744073709551616) - 1 = 64 + (bl (V / 18446744073709551616) - 1) by omega, Nat.pow_add, p64]
    have := Nat.div_mul_le_self V 18446744073709551616
    have := Nat.mul_le_mul_left 18446744073709551616 b
    omega
   ·rw [Nat.pow_add, p64]
    have e := Nat.div_add_mod V 18446744073709551616
    have := Nat.mul_le_mul_left 18446744073709551616 a
    omega
  rw [Int.toNat_natCast, e, w64 (by omega) (by omega), l]
  congr 1
 ·rw [if_neg (by omega), if_pos ⟨by omega, by omega⟩]
  simp only [Option.bind_some]
  rw [Int.toNat_natCast, bitLen_bl (by rw [p64]; exact hL)]
  have : V % 18446744073709551616 = V := by omega
  rw [this]
theorem twin_Shl_eq (V k : Nat) (h : V < 2 ^ 128) (hk : k ≤ 128) :
  twin_Shl.f (TH V) (TL V) (k : Int) = some (TH (V * 2 ^ k % 2 ^ 128), TL (V * 2 ^ k % 2 ^ 128), decide (128 < bl V + k), none) := by
 unfold twin_Shl.f
 rw [if_neg (by omega)]
 have e : mn (k : Int) 128 = k := by unfold mn; rw [if_neg (by omega)]
 rw [e, twin_shl_eq V k h hk]
 simp only [Option.bind_some]
 rw [twin_Len_eq V h]
 simp only [Option.bind_some]
 have c1 := bl_le_of_lt h
 rw [w64 (by omega) (by omega)]
 congr 4
 rw [decide_eq_decide]
 omega
theorem twin_Shr_eq (V k : Nat) (h : V < 2 ^ 128) (hk : k ≤ 128) :
  twin_Shr.f (TH V) (TL V) (k : Int) = some (TH (V / 2 ^ k), TL (V / 2 ^ k), decide (V % 2 ^ k ≠ 0), none) := by
 unfold twin_Shr.f
 rw [if_neg (by omega)]
 have e : mn (k : Int) 128 = k := by unfold mn; rw [if_neg (by omega)]
 rw [e, twin_shr_eq V k h hk]
 simp only [Option.bind_some]
 have h2 : V / 2 ^ k < 2 ^ 128 := Nat.lt_of_le_of_lt (Nat.div_le_self _ _) h
 rw [twin_shl_eq _ k h2 hk]
 simp only [Option.bind_some]
 have hm : V / 2 ^ k * 2 ^ k % 2 ^ 128 = V / 2 ^ k * 2 ^ k := Nat.mod_eq_of_lt (Nat.lt_of_le_of_lt (Nat.div_mul_le_self _ _) h)
 rw [hm]
 have hd := Nat.div_add_mod V (2 ^ k)
 rw [Nat.mul_comm] at hd
 have key : (!(TH (V / 2 ^ k * 2 ^ k) == TH V) || !(TL (V / 2 ^ k * 2 ^ k) == TL V)) = decide (V % 2 ^ k ≠ 0) := by
  by_cases hz : V % 2 ^ k = 0
  ·have : V / 2 ^ k * 2 ^ k = V := by omega
   rw [this]; simp [hz]
  ·have : V / 2 ^ k * 2 ^ k ≠ V := by omega
   have hne : ¬ (TH (V / 2 ^ k * 2 ^ k) = TH V ∧ TL (V / 2 ^ k * 2 ^ k) = TL V) := fun ⟨h1, h2⟩ => this (T_eq h1 h2)
   rw [decide_eq_true hz]
   by_cases h1 : TH (V / 2 ^ k * 2 ^ k) = TH V
   ·have h2 : TL (V / 2 ^ k * 2 ^ k) ≠ TL V := fun h2 => hne ⟨h1, h2⟩
    simp [h1, h2]
   ·simp [h1]
 rw [key]
theorem twin_Norm_zero : twin_Norm.f 0 0 = some (0, 0, 0) := by unfold twin_Norm.f; rfl
theorem twin_Norm_eq (V : Nat) (h : V < 2 ^ 128) (h0 : 0 < V) :
  twin_Norm.f (TH V) (TL V) = some (TH (V * 2 ^ (128 - bl V)), TL (V * 2 ^ (128 - bl V)), ((128 - bl V : Nat) : Int)) := by
 unfold twin_Norm.f
 have c1 := bl_le_of_lt h
 have hz : ¬ (TH V == 0 && TL V == 0) = true := by
  intro hc
  simp only [Bool.and_eq_true, beq_iff_eq] at hc
  unfold TH TL at hc; omega
 rw [if_neg hz, twin_Len_eq V h]
 simp only [Option.bind_some]
 rw [w64 (by omega) (by omega)]
 have e : (128 - (bl V : Int)) = ((128 - bl V : Nat) : Int) := by omega
 rw [e, twin_shl_eq V _ h (by omega)]
 simp only [Option.bind_some]
 have hm : V * 2 ^ (128 - bl V) % 2 ^ 128 = V * 2 ^ (128 - bl V) := by
  refine Nat.mod_eq_of_lt ?_
  rw [← pow_split c1]
  exact Nat.mul_lt_mul_of_pos_right (bl_lt V) (two_pos _)
 rw [hm]
end Go.Proofs.Ytebhpipfkomhjaa.V
