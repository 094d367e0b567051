-- Written by a program of this session out of its own texts (wip/tools/link.py).
import Derived.ArgAppend
import Derived.Below
import Derived.BigQuiet
import Derived.Deep.AppendLies
import Derived.Deep.CutBlock
import Derived.Deep.DeepCutAuto
import Derived.Deep.Draws
import Derived.Deep.LoopGhost
import Derived.Deep.OwnRows
import Derived.Deep.QuietTactic
import Derived.Deep.RegionHeld3
import Derived.KernelRfl
import Derived.LaidEql
import Derived.Laws.BitsLemmas
import Derived.Laws.BytesArg
import Derived.Laws.IdiomCopy
import Derived.Laws.MakeOwn
import Derived.Laws.OwnMore
import Derived.Laws.Rows
import Derived.Laws.Slices
import Derived.Laws.StructEq
import Derived.Lib.AppendStr
import Derived.Lib.BitFns
import Derived.Lib.ConvBytes
import Derived.Lib.Slices
import Derived.Lib.Small
import Derived.Lib.Strings
import Derived.Lib.Walk
import Derived.Maps.AppendAt
import Derived.OrdersHeld
import Derived.OwnWalk
import Derived.RowKit
import Derived.RowKit3
import Derived.Tactics
import Derived.Test.YtebhpipfkomhjaaProg
import Derived.WalkKit
import Derived.WideLaws
import Derived.Test.YtebhpipfkomhjaaCProdLaws7
import Derived.Test.YtebhpipfkomhjaaCProdLaws8
import Derived.Test.YtebhpipfkomhjaaCProdLaws9
import Derived.Test.YtebhpipfkomhjaaCProdLaws10
namespace Go.Proofs.Ytebhpipfkomhjaa.PAll
open Go.RowKit Go.Proofs.YtebhpipfkomhjaaW.PrintWords Go.Proofs.YtebhpipfkomhjaaW.PrintLast Go.Proofs.YtebhpipfkomhjaaW.PrintMore
attribute [local go_sem] max2_int min2_int max_two min_two max_three min_three max_four min_four
set_option linter.unusedVariables false
set_option linter.unusedSimpArgs false
attribute [local go_sem high] eqEE29 neEE29 eqNE29 neNE29
def vernierlaw10_ProdLaws.j0 : Nat → Int → Int → Int → Int → Bool → Option (Bool)
 | 0, _, _, _, _, _ => none
 | k + 1, x9, x14, x19, x23, x149 => if x149 = true then (some false) else (if x23 = x14 then (if x19 = x14 then (some (x9 == x14)) else (some false)) else (some (x19 == 0)))
def vernierlaw10_ProdLaws.f (k : Nat) (a0 : Int) (a1 : Int) (a2 : Int) : Option (Bool) := (vernierlaw10_up.f k).bind fun t548 => ((vernierref05_Is.f a0).bind fun t549 => ((prod_Mul.f k a0 a1 a2).bind fun bt550 => ((prod_Mul.f k a0 a2 a1).bind fun bt552 => (if t549 = true then ((vernierref05_Power.f k (wrap64 (a0 - 2))).bind fun t556 => ((vernierref05_Power.f k (wrap64 (a0 - 1))).bind fun t557 => ((prod_Mul.f k a0 a1 t556).bind fun bt558 => ((prod_Mul.f k a0 (IntKind.u64.wrap (-t556)) a1).bind fun bt560 => ((prod_Mul.f k a0 a1 0).bind fun bt562 => ((prod_Mul.f k a0 (IntKind.u64.wrap (-a1)) a2).bind fun bt564 => ((vernierref06_Fold.f k a0 a1).bind fun t566 => (if t548 = true then (if bt550.2.isNone = true then (if bt552.2.isNone = true then (if bt558.2.isNone = true then (if bt560.2.isNone = true then (if bt562.2.isNone = true then (if bt564.2.isNone = true then (if bt550.1 = bt552.1 then (if bt558.1 = t566 then ((vernierref06_Neg.f k a0 a1).bind fun t573 => (if bt560.1 = t573 then ((vernierref06_Neg.f k a0 bt550.1).bind fun t574 => (vernierlaw10_ProdLaws.j0 k bt550.1 t557 bt562.1 t566 (bt564.1 != t574))) else (vernierlaw10_ProdLaws.j0 k bt550.1 t557 bt562.1 t566 true))) else (vernierlaw10_ProdLaws.j0 k bt550.1 t557 bt562.1 t566 true)) else (vernierlaw10_ProdLaws.j0 k bt550.1 t557 bt562.1 t566 true)) else (vernierlaw10_ProdLaws.j0 k bt550.1 t557 bt562.1 t566 true)) else (vernierlaw10_ProdLaws.j0 k bt550.1 t557 bt562.1 t566 true)) else (vernierlaw10_ProdLaws.j0 k bt550.1 t557 bt562.1 t566 true)) else (vernierlaw10_ProdLaws.j0 k bt550.1 t557 bt562.1 t566 true)) else (vernierlaw10_ProdLaws.j0 k bt550.1 t557 bt562.1 t566 true)) else (vernierlaw10_ProdLaws.j0 k bt550.1 t557 bt562.1 t566 true)) else (vernierlaw10_ProdLaws.j0 k bt550.1 t557 bt562.1 t566 true))))))))) else (if t548 = true then (if bt550.2.isNone = true then (some false) else (if (bt550.2.getD 0) = 2 then (if bt552.2.isNone = true then (some false) else (if (bt552.2.getD 0) = 2 then (if bt550.1 = 0 then (some (bt552.1 == 0)) else (some false)) else (some false))) else (some false))) else (some false))))))
theorem vernierlaw10_ProdLaws.mono_l : ∀ k, (∀ y0 y1 y2 y3 y4, LeO (vernierlaw10_ProdLaws.j0 k y0 y1 y2 y3 y4) (vernierlaw10_ProdLaws.j0 (k + 1) y0 y1 y2 y3 y4))
 | 0 => fun _ _ _ _ _ r h => by simp [vernierlaw10_ProdLaws.j0] at h
 | k + 1 => by
  have ih0 := vernierlaw10_ProdLaws.mono_l k
  ·intro y0 y1 y2 y3 y4
   unfold vernierlaw10_ProdLaws.j0
   repeat' first
   | (with_reducible exact ih0 _ _ _ _ _)
   | (with_reducible exact prod_Mul.mono _ _ _ _)
   | (with_reducible exact vernierlaw10_up.mono _)
   | (with_reducible exact vernierref05_Power.mono _ _)
   | (with_reducible exact vernierref06_Fold.mono _ _ _)
   | (with_reducible exact vernierref06_Neg.mono _ _ _)
   | (with_reducible exact LeO.refl _)
   | (with_reducible exact LeO.none _)
   | (with_reducible refine LeO.ite ?_ ?_)
   | (with_reducible refine LeO.bind ?_ (fun _ => ?_))
   | exact ih0 _ _ _ _ _
   | exact prod_Mul.mono _ _ _ _
   | exact vernierlaw10_up.mono _
   | exact vernierref05_Power.mono _ _
   | exact vernierref06_Fold.mono _ _ _
   | exact vernierref06_Neg.mono _ _ _
   | exact LeO.none _
   | refine LeO.ite ?_ ?_
   | refine LeO.bind ?_ (fun _ => ?_)
theorem vernierlaw10_ProdLaws.mono : ∀ a0 a1 a2 k, LeO (vernierlaw10_ProdLaws.f k a0 a1 a2) (vernierlaw10_ProdLaws.f (k + 1) a0 a1 a2) := by
 intro a0 a1 a2 k
 have ih0 := vernierlaw10_ProdLaws.mono_l k
 unfold vernierlaw10_ProdLaws.f
 repeat' first
   | (with_reducible exact ih0 _ _ _ _ _)
   | (with_reducible exact prod_Mul.mono _ _ _ _)
   | (with_reducible exact vernierlaw10_up.mono _)
   | (with_reducible exact vernierref05_Power.mono _ _)
   | (with_reducible exact vernierref06_Fold.mono _ _ _)
   | (with_reducible exact vernierref06_Neg.mono _ _ _)
   | (with_reducible exact LeO.refl _)
   | (with_reducible exact LeO.none _)
   | (with_reducible refine LeO.ite ?_ ?_)
   | (with_reducible refine LeO.bind ?_ (fun _ => ?_))
   | exact ih0 _ _ _ _ _
   | exact prod_Mul.mono _ _ _ _
   | exact vernierlaw10_up.mono _
   | exact vernierref05_Power.mono _ _
   | exact vernierref06_Fold.mono _ _ _
   | exact vernierref06_Neg.mono _ _ _
   | exact LeO.none _
   | refine LeO.ite ?_ ?_
   | refine LeO.bind ?_ (fun _ => ?_)
set_option maxHeartbeats 8000000 in
set_option maxRecDepth 100000 in
theorem vernierlaw10_ProdLaws.calls (k : Nat) (a0 : Int) (a1 : Int) (a2 : Int) (r : Bool) (w : World) (h : vernierlaw10_ProdLaws.f k a0 a1 a2 = some r) :
  Calls Try.prog 5 #[.int .i64 a0, .int .u64 a1, .int .u64 a2] w fun e w' => e = .returned (.bool r) ∧ Below w.heap.size w w' := by
 have hu29 := Try.underlying29
 have hu42 := Try.underlying42
 have HB := Aside0.mk (Below.refl w.heap.size w)
 have H : ((vernierlaw10_up.f k).bind fun t548 => ((vernierref05_Is.f a0).bind fun t549 => ((prod_Mul.f k a0 a1 a2).bind fun bt550 => ((prod_Mul.f k a0 a2 a1).bind fun bt552 => (if t549 = true then ((vernierref05_Power.f k (wrap64 (a0 - 2))).bind fun t556 => ((vernierref05_Power.f k (wrap64 (a0 - 1))).bind fun t557 => ((prod_Mul.f k a0 a1 t556).bind fun bt558 => ((prod_Mul.f k a0 (IntKind.u64.wrap (-t556)) a1).bind fun bt560 => ((prod_Mul.f k a0 a1 0).bind fun bt562 => ((prod_Mul.f k a0 (IntKind.u64.wrap (-a1)) a2).bind fun bt564 => ((vernierref06_Fold.f k a0 a1).bind fun t566 => (if t548 = true then (if bt550.2.isNone = true then (if bt552.2.isNone = true then (if bt558.2.isNone = true then (if bt560.2.isNone = true then (if bt562.2.isNone = true then (if bt564.2.isNone = true then (if bt550.1 = bt552.1 then (if bt558.1 = t566 then ((vernierref06_Neg.f k a0 a1).bind fun t573 => (if bt560.1 = t573 then ((vernierref06_Neg.f k a0 bt550.1).bind fun t574 => (vernierlaw10_ProdLaws.j0 k bt550.1 t557 bt562.1 t566 (bt564.1 != t574))) else (vernierlaw10_ProdLaws.j0 k bt550.1 t557 bt562.1 t566 true))) else (vernierlaw10_ProdLaws.j0 k bt550.1 t557 bt562.1 t566 true)) else (vernierlaw10_ProdLaws.j0 k bt550.1 t557 bt562.1 t566 true)) else (vernierlaw10_ProdLaws.j0 k bt550.1 t557 bt562.1 t566 true)) else (vernierlaw10_ProdLaws.j0 k bt550.1 t557 bt562.1 t566 true)) else (vernierlaw10_ProdLaws.j0 k bt550.1 t557 bt562.1 t566 true)) else (vernierlaw10_ProdLaws.j0 k bt550.1 t557 bt562.1 t566 true)) else (vernierlaw10_ProdLaws.j0 k bt550.1 t557 bt562.1 t566 true)) else (vernierlaw10_ProdLaws.j0 k bt550.1 t557 bt562.1 t566 true)) else (vernierlaw10_ProdLaws.j0 k bt550.1 t557 bt562.1 t566 true))))))))) else (if t548 = true then (if bt550.2.isNone = true then (some false) else (if (bt550.2.getD 0) = 2 then (if bt552.2.isNone = true then (some false) else (if (bt552.2.getD 0) = 2 then (if bt550.1 = 0 then (some (bt552.1 == 0)) else (some false)) else (some false))) else (some false))) else (some false))))))) = some r := h
 clear h
 replace H := Option.bind_eq_some_iff.mp H
 obtain ⟨t548, A40, H⟩ := H
 replace H : ((vernierref05_Is.f a0).bind fun t549 => ((prod_Mul.f k a0 a1 a2).bind fun bt550 => ((prod_Mul.f k a0 a2 a1).bind fun bt552 => (if t549 = true then ((vernierref05_Power.f k (wrap64 (a0 - 2))).bind fun t556 => ((vernierref05_Power.f k (wrap64 (a0 - 1))).bind fun t557 => ((prod_Mul.f k a0 a1 t556).bind fun bt558 => ((prod_Mul.f k a0 (IntKind.u64.wrap (-t556)) a1).bind fun bt560 => ((prod_Mul.f k a0 a1 0).bind fun bt562 => ((prod_Mul.f k a0 (IntKind.u64.wrap (-a1)) a2).bind fun bt564 => ((vernierref06_Fold.f k a0 a1).bind fun t566 => (if t548 = true then (if bt550.2.isNone = true then (if bt552.2.isNone = true then (if bt558.2.isNone = true then (if bt560.2.isNone = true then (if bt562.2.isNone = true then (if bt564.2.isNone = true then (if bt550.1 = bt552.1 then (if bt558.1 = t566 then ((vernierref06_Neg.f k a0 a1).bind fun t573 => (if bt560.1 = t573 then ((vernierref06_Neg.f k a0 bt550.1).bind fun t574 => (vernierlaw10_ProdLaws.j0 k bt550.1 t557 bt562.1 t566 (bt564.1 != t574))) else (vernierlaw10_ProdLaws.j0 k bt550.1 t557 bt562.1 t566 true))) else (vernierlaw10_ProdLaws.j0 k bt550.1 t557 bt562.1 t566 true)) else (vernierlaw10_ProdLaws.j0 k bt550.1 t557 bt562.1 t566 true)) else (vernierlaw10_ProdLaws.j0 k bt550.1 t557 bt562.1 t566 true)) else (vernierlaw10_ProdLaws.j0 k bt550.1 t557 bt562.1 t566 true)) else (vernierlaw10_ProdLaws.j0 k bt550.1 t557 bt562.1 t566 true)) else (vernierlaw10_ProdLaws.j0 k bt550.1 t557 bt562.1 t566 true)) else (vernierlaw10_ProdLaws.j0 k bt550.1 t557 bt562.1 t566 true)) else (vernierlaw10_ProdLaws.j0 k bt550.1 t557 bt562.1 t566 true)) else (vernierlaw10_ProdLaws.j0 k bt550.1 t557 bt562.1 t566 true))))))))) else (if t548 = true then (if bt550.2.isNone = true then (some false) else (if (bt550.2.getD 0) = 2 then (if bt552.2.isNone = true then (some false) else (if (bt552.2.getD 0) = 2 then (if bt550.1 = 0 then (some (bt552.1 == 0)) else (some false)) else (some false))) else (some false))) else (some false)))))) = some r := H
 have A4 := Aside0.mk A40
 clear A40
 replace H := Option.bind_eq_some_iff.mp H
 obtain ⟨t549, A50, H⟩ := H
 replace H : ((prod_Mul.f k a0 a1 a2).bind fun bt550 => ((prod_Mul.f k a0 a2 a1).bind fun bt552 => (if t549 = true then ((vernierref05_Power.f k (wrap64 (a0 - 2))).bind fun t556 => ((vernierref05_Power.f k (wrap64 (a0 - 1))).bind fun t557 => ((prod_Mul.f k a0 a1 t556).bind fun bt558 => ((prod_Mul.f k a0 (IntKind.u64.wrap (-t556)) a1).bind fun bt560 => ((prod_Mul.f k a0 a1 0).bind fun bt562 => ((prod_Mul.f k a0 (IntKind.u64.wrap (-a1)) a2).bind fun bt564 => ((vernierref06_Fold.f k a0 a1).bind fun t566 => (if t548 = true then (if bt550.2.isNone = true then (if bt552.2.isNone = true then (if bt558.2.isNone = true then (if bt560.2.isNone = true then (if bt562.2.isNone = true then (if bt564.2.isNone = true then (if bt550.1 = bt552.1 then (if bt558.1 = t566 then ((vernierref06_Neg.f k a0 a1).bind fun t573 => (if bt560.1 = t573 then ((vernierref06_Neg.f k a0 bt550.1).bind fun t574 => (vernierlaw10_ProdLaws.j0 k bt550.1 t557 bt562.1 t566 (bt564.1 != t574))) else (vernierlaw10_ProdLaws.j0 k bt550.1 t557 bt562.1 t566 true))) else (vernierlaw10_ProdLaws.j0 k bt550.1 t557 bt562.1 t566 true)) else (vernierlaw10_ProdLaws.j0 k bt550.1 t557 bt562.1 t566 true)) else (vernierlaw10_ProdLaws.j0 k bt550.1 t557 bt562.1 t566 true)) else (vernierlaw10_ProdLaws.j0 k bt550.1 t557 bt562.1 t566 true)) else (vernierlaw10_ProdLaws.j0 k bt550.1 t557 bt562.1 t566 true)) else (vernierlaw10_ProdLaws.j0 k bt550.1 t557 bt562.1 t566 true)) else (vernierlaw10_ProdLaws.j0 k bt550.1 t557 bt562.1 t566 true)) else (vernierlaw10_ProdLaws.j0 k bt550.1 t557 bt562.1 t566 true)) else (vernierlaw10_ProdLaws.j0 k bt550.1 t557 bt562.1 t566 true))))))))) else (if t548 = true then (if bt550.2.isNone = true then (some false) else (if (bt550.2.getD 0) = 2 then (if bt552.2.isNone = true then (some false) else (if (bt552.2.getD 0) = 2 then (if bt550.1 = 0 then (some (bt552.1 == 0)) else (some false)) else (some false))) else (some false))) else (some false))))) = some r := H
 have A5 := Aside0.mk A50
 clear A50
 replace H := Option.bind_eq_some_iff.mp H
 obtain ⟨⟨t550, t551⟩, A60, H⟩ := H
 replace H : ((prod_Mul.f k a0 a2 a1).bind fun bt552 => (if t549 = true then ((vernierref05_Power.f k (wrap64 (a0 - 2))).bind fun t556 => ((vernierref05_Power.f k (wrap64 (a0 - 1))).bind fun t557 => ((prod_Mul.f k a0 a1 t556).bind fun bt558 => ((prod_Mul.f k a0 (IntKind.u64.wrap (-t556)) a1).bind fun bt560 => ((prod_Mul.f k a0 a1 0).bind fun bt562 => ((prod_Mul.f k a0 (IntKind.u64.wrap (-a1)) a2).bind fun bt564 => ((vernierref06_Fold.f k a0 a1).bind fun t566 => (if t548 = true then (if t551.isNone = true then (if bt552.2.isNone = true then (if bt558.2.isNone = true then (if bt560.2.isNone = true then (if bt562.2.isNone = true then (if bt564.2.isNone = true then (if t550 = bt552.1 then (if bt558.1 = t566 then ((vernierref06_Neg.f k a0 a1).bind fun t573 => (if bt560.1 = t573 then ((vernierref06_Neg.f k a0 t550).bind fun t574 => (vernierlaw10_ProdLaws.j0 k t550 t557 bt562.1 t566 (bt564.1 != t574))) else (vernierlaw10_ProdLaws.j0 k t550 t557 bt562.1 t566 true))) else (vernierlaw10_ProdLaws.j0 k t550 t557 bt562.1 t566 true)) else (vernierlaw10_ProdLaws.j0 k t550 t557 bt562.1 t566 true)) else (vernierlaw10_ProdLaws.j0 k t550 t557 bt562.1 t566 true)) else (vernierlaw10_ProdLaws.j0 k t550 t557 bt562.1 t566 true)) else (vernierlaw10_ProdLaws.j0 k t550 t557 bt562.1 t566 true)) else (vernierlaw10_ProdLaws.j0 k t550 t557 bt562.1 t566 true)) else (vernierlaw10_ProdLaws.j0 k t550 t557 bt562.1 t566 true)) else (vernierlaw10_ProdLaws.j0 k t550 t557 bt562.1 t566 true)) else (vernierlaw10_ProdLaws.j0 k t550 t557 bt562.1 t566 true))))))))) else (if t548 = true then (if t551.isNone = true then (some false) else (if (t551.getD 0) = 2 then (if bt552.2.isNone = true then (some false) else (if (bt552.2.getD 0) = 2 then (if t550 = 0 then (some (bt552.1 == 0)) else (some false)) else (some false))) else (some false))) else (some false)))) = some r := H
 have A6 := Aside0.mk A60
 clear A60
 replace H := Option.bind_eq_some_iff.mp H
 obtain ⟨⟨t552, t553⟩, A70, H⟩ := H
 replace H : (if t549 = true then ((vernierref05_Power.f k (wrap64 (a0 - 2))).bind fun t556 => ((vernierref05_Power.f k (wrap64 (a0 - 1))).bind fun t557 => ((prod_Mul.f k a0 a1 t556).bind fun bt558 => ((prod_Mul.f k a0 (IntKind.u64.wrap (-t556)) a1).bind fun bt560 => ((prod_Mul.f k a0 a1 0).bind fun bt562 => ((prod_Mul.f k a0 (IntKind.u64.wrap (-a1)) a2).bind fun bt564 => ((vernierref06_Fold.f k a0 a1).bind fun t566 => (if t548 = true then (if t551.isNone = true then (if t553.isNone = true then (if bt558.2.isNone = true then (if bt560.2.isNone = true then (if bt562.2.isNone = true then (if bt564.2.isNone = true then (if t550 = t552 then (if bt558.1 = t566 then ((vernierref06_Neg.f k a0 a1).bind fun t573 => (if bt560.1 = t573 then ((vernierref06_Neg.f k a0 t550).bind fun t574 => (vernierlaw10_ProdLaws.j0 k t550 t557 bt562.1 t566 (bt564.1 != t574))) else (vernierlaw10_ProdLaws.j0 k t550 t557 bt562.1 t566 true))) else (vernierlaw10_ProdLaws.j0 k t550 t557 bt562.1 t566 true)) else (vernierlaw10_ProdLaws.j0 k t550 t557 bt562.1 t566 true)) else (vernierlaw10_ProdLaws.j0 k t550 t557 bt562.1 t566 true)) else (vernierlaw10_ProdLaws.j0 k t550 t557 bt562.1 t566 true)) else (vernierlaw10_ProdLaws.j0 k t550 t557 bt562.1 t566 true)) else (vernierlaw10_ProdLaws.j0 k t550 t557 bt562.1 t566 true)) else (vernierlaw10_ProdLaws.j0 k t550 t557 bt562.1 t566 true)) else (vernierlaw10_ProdLaws.j0 k t550 t557 bt562.1 t566 true)) else (vernierlaw10_ProdLaws.j0 k t550 t557 bt562.1 t566 true))))))))) else (if t548 = true then (if t551.isNone = true then (some false) else (if (t551.getD 0) = 2 then (if t553.isNone = true then (some false) else (if (t553.getD 0) = 2 then (if t550 = 0 then (some (t552 == 0)) else (some false)) else (some false))) else (some false))) else (some false))) = some r := H
 have A7 := Aside0.mk A70
 clear A70
 by_cases c8 : t549 = true
 ·subst c8
  have H1 : ((vernierref05_Power.f k (wrap64 (a0 - 2))).bind fun t556 => ((vernierref05_Power.f k (wrap64 (a0 - 1))).bind fun t557 => ((prod_Mul.f k a0 a1 t556).bind fun bt558 => ((prod_Mul.f k a0 (IntKind.u64.wrap (-t556)) a1).bind fun bt560 => ((prod_Mul.f k a0 a1 0).bind fun bt562 => ((prod_Mul.f k a0 (IntKind.u64.wrap (-a1)) a2).bind fun bt564 => ((vernierref06_Fold.f k a0 a1).bind fun t566 => (if t548 = true then (if t551.isNone = true then (if t553.isNone = true then (if bt558.2.isNone = true then (if bt560.2.isNone = true then (if bt562.2.isNone = true then (if bt564.2.isNone = true then (if t550 = t552 then (if bt558.1 = t566 then ((vernierref06_Neg.f k a0 a1).bind fun t573 => (if bt560.1 = t573 then ((vernierref06_Neg.f k a0 t550).bind fun t574 => (vernierlaw10_ProdLaws.j0 k t550 t557 bt562.1 t566 (bt564.1 != t574))) else (vernierlaw10_ProdLaws.j0 k t550 t557 bt562.1 t566 true))) else (vernierlaw10_ProdLaws.j0 k t550 t557 bt562.1 t566 true)) else (vernierlaw10_ProdLaws.j0 k t550 t557 bt562.1 t566 true)) else (vernierlaw10_ProdLaws.j0 k t550 t557 bt562.1 t566 true)) else (vernierlaw10_ProdLaws.j0 k t550 t557 bt562.1 t566 true)) else (vernierlaw10_ProdLaws.j0 k t550 t557 bt562.1 t566 true)) else (vernierlaw10_ProdLaws.j0 k t550 t557 bt562.1 t566 true)) else (vernierlaw10_ProdLaws.j0 k t550 t557 bt562.1 t566 true)) else (vernierlaw10_ProdLaws.j0 k t550 t557 bt562.1 t566 true)) else (vernierlaw10_ProdLaws.j0 k t550 t557 bt562.1 t566 true))))))))) = some r := by rw [if_pos rfl] at H; exact H
  clear H
  have H := H1
  clear H1
  replace H := Option.bind_eq_some_iff.mp H
  obtain ⟨t556, A90, H⟩ := H
  replace H : ((vernierref05_Power.f k (wrap64 (a0 - 1))).bind fun t557 => ((prod_Mul.f k a0 a1 t556).bind fun bt558 => ((prod_Mul.f k a0 (IntKind.u64.wrap (-t556)) a1).bind fun bt560 => ((prod_Mul.f k a0 a1 0).bind fun bt562 => ((prod_Mul.f k a0 (IntKind.u64.wrap (-a1)) a2).bind fun bt564 => ((vernierref06_Fold.f k a0 a1).bind fun t566 => (if t548 = true then (if t551.isNone = true then (if t553.isNone = true then (if bt558.2.isNone = true then (if bt560.2.isNone = true then (if bt562.2.isNone = true then (if bt564.2.isNone = true then (if t550 = t552 then (if bt558.1 = t566 then ((vernierref06_Neg.f k a0 a1).bind fun t573 => (if bt560.1 = t573 then ((vernierref06_Neg.f k a0 t550).bind fun t574 => (vernierlaw10_ProdLaws.j0 k t550 t557 bt562.1 t566 (bt564.1 != t574))) else (vernierlaw10_ProdLaws.j0 k t550 t557 bt562.1 t566 true))) else (vernierlaw10_ProdLaws.j0 k t550 t557 bt562.1 t566 true)) else (vernierlaw10_ProdLaws.j0 k t550 t557 bt562.1 t566 true)) else (vernierlaw10_ProdLaws.j0 k t550 t557 bt562.1 t566 true)) else (vernierlaw10_ProdLaws.j0 k t550 t557 bt562.1 t566 true)) else (vernierlaw10_ProdLaws.j0 k t550 t557 bt562.1 t566 true)) else (vernierlaw10_ProdLaws.j0 k t550 t557 bt562.1 t566 true)) else (vernierlaw10_ProdLaws.j0 k t550 t557 bt562.1 t566 true)) else (vernierlaw10_ProdLaws.j0 k t550 t557 bt562.1 t566 true)) else (vernierlaw10_ProdLaws.j0 k t550 t557 bt562.1 t566 true)))))))) = some r := H
  have A9 := Aside0.mk A90
  clear A90
  replace H := Option.bind_eq_some_iff.mp H
  obtain ⟨t557, A100, H⟩ := H
  replace H : ((prod_Mul.f k a0 a1 t556).bind fun bt558 => ((prod_Mul.f k a0 (IntKind.u64.wrap (-t556)) a1).bind fun bt560 => ((prod_Mul.f k a0 a1 0).bind fun bt562 => ((prod_Mul.f k a0 (IntKind.u64.wrap (-a1)) a2).bind fun bt564 => ((vernierref06_Fold.f k a0 a1).bind fun t566 => (if t548 = true then (if t551.isNone = true then (if t553.isNone = true then (if bt558.2.isNone = true then (if bt560.2.isNone = true then (if bt562.2.isNone = true then (if bt564.2.isNone = true then (if t550 = t552 then (if bt558.1 = t566 then ((vernierref06_Neg.f k a0 a1).bind fun t573 => (if bt560.1 = t573 then ((vernierref06_Neg.f k a0 t550).bind fun t574 => (vernierlaw10_ProdLaws.j0 k t550 t557 bt562.1 t566 (bt564.1 != t574))) else (vernierlaw10_ProdLaws.j0 k t550 t557 bt562.1 t566 true))) else (vernierlaw10_ProdLaws.j0 k t550 t557 bt562.1 t566 true)) else (vernierlaw10_ProdLaws.j0 k t550 t557 bt562.1 t566 true)) else (vernierlaw10_ProdLaws.j0 k t550 t557 bt562.1 t566 true)) else (vernierlaw10_ProdLaws.j0 k t550 t557 bt562.1 t566 true)) else (vernierlaw10_ProdLaws.j0 k t550 t557 bt562.1 t566 true)) else (vernierlaw10_ProdLaws.j0 k t550 t557 bt562.1 t566 true)) else (vernierlaw10_ProdLaws.j0 k t550 t557 bt562.1 t566 true)) else (vernierlaw10_ProdLaws.j0 k t550 t557 bt562.1 t566 true)) else (vernierlaw10_ProdLaws.j0 k t550 t557 bt562.1 t566 true))))))) = some r := H
  have A10 := Aside0.mk A100
  clear A100
  replace H := Option.bind_eq_some_iff.mp H
  obtain ⟨⟨t558, t559⟩, A110, H⟩ := H
  replace H : ((prod_Mul.f k a0 (IntKind.u64.wrap (-t556)) a1).bind fun bt560 => ((prod_Mul.f k a0 a1 0).bind fun bt562 => ((prod_Mul.f k a0 (IntKind.u64.wrap (-a1)) a2).bind fun bt564 => ((vernierref06_Fold.f k a0 a1).bind fun t566 => (if t548 = true then (if t551.isNone = true then (if t553.isNone = true then (if t559.isNone = true then (if bt560.2.isNone = true then (if bt562.2.isNone = true then (if bt564.2.isNone = true then (if t550 = t552 then (if t558 = t566 then ((vernierref06_Neg.f k a0 a1).bind fun t573 => (if bt560.1 = t573 then ((vernierref06_Neg.f k a0 t550).bind fun t574 => (vernierlaw10_ProdLaws.j0 k t550 t557 bt562.1 t566 (bt564.1 != t574))) else (vernierlaw10_ProdLaws.j0 k t550 t557 bt562.1 t566 true))) else (vernierlaw10_ProdLaws.j0 k t550 t557 bt562.1 t566 true)) else (vernierlaw10_ProdLaws.j0 k t550 t557 bt562.1 t566 true)) else (vernierlaw10_ProdLaws.j0 k t550 t557 bt562.1 t566 true)) else (vernierlaw10_ProdLaws.j0 k t550 t557 bt562.1 t566 true)) else (vernierlaw10_ProdLaws.j0 k t550 t557 bt562.1 t566 true)) else (vernierlaw10_ProdLaws.j0 k t550 t557 bt562.1 t566 true)) else (vernierlaw10_ProdLaws.j0 k t550 t557 bt562.1 t566 true)) else (vernierlaw10_ProdLaws.j0 k t550 t557 bt562.1 t566 true)) else (vernierlaw10_ProdLaws.j0 k t550 t557 bt562.1 t566 true)))))) = some r := H
  have A11 := Aside0.mk A110
  clear A110
  replace H := Option.bind_eq_some_iff.mp H
  obtain ⟨⟨t560, t561⟩, A120, H⟩ := H
  replace H : ((prod_Mul.f k a0 a1 0).bind fun bt562 => ((prod_Mul.f k a0 (IntKind.u64.wrap (-a1)) a2).bind fun bt564 => ((vernierref06_Fold.f k a0 a1).bind fun t566 => (if t548 = true then (if t551.isNone = true then (if t553.isNone = true then (if t559.isNone = true then (if t561.isNone = true then (if bt562.2.isNone = true then (if bt564.2.isNone = true then (if t550 = t552 then (if t558 = t566 then ((vernierref06_Neg.f k a0 a1).bind fun t573 => (if t560 = t573 then ((vernierref06_Neg.f k a0 t550).bind fun t574 => (vernierlaw10_ProdLaws.j0 k t550 t557 bt562.1 t566 (bt564.1 != t574))) else (vernierlaw10_ProdLaws.j0 k t550 t557 bt562.1 t566 true))) else (vernierlaw10_ProdLaws.j0 k t550 t557 bt562.1 t566 true)) else (vernierlaw10_ProdLaws.j0 k t550 t557 bt562.1 t566 true)) else (vernierlaw10_ProdLaws.j0 k t550 t557 bt562.1 t566 true)) else (vernierlaw10_ProdLaws.j0 k t550 t557 bt562.1 t566 true)) else (vernierlaw10_ProdLaws.j0 k t550 t557 bt562.1 t566 true)) else (vernierlaw10_ProdLaws.j0 k t550 t557 bt562.1 t566 true)) else (vernierlaw10_ProdLaws.j0 k t550 t557 bt562.1 t566 true)) else (vernierlaw10_ProdLaws.j0 k t550 t557 bt562.1 t566 true)) else (vernierlaw10_ProdLaws.j0 k t550 t557 bt562.1 t566 true))))) = some r := H
  have A12 := Aside0.mk A120
  clear A120
  replace H := Option.bind_eq_some_iff.mp H
  obtain ⟨⟨t562, t563⟩, A130, H⟩ := H
  replace H : ((prod_Mul.f k a0 (IntKind.u64.wrap (-a1)) a2).bind fun bt564 => ((vernierref06_Fold.f k a0 a1).bind fun t566 => (if t548 = true then (if t551.isNone = true then (if t553.isNone = true then (if t559.isNone = true then (if t561.isNone = true then (if t563.isNone = true then (if bt564.2.isNone = true then (if t550 = t552 then (if t558 = t566 then ((vernierref06_Neg.f k a0 a1).bind fun t573 => (if t560 = t573 then ((vernierref06_Neg.f k a0 t550).bind fun t574 => (vernierlaw10_ProdLaws.j0 k t550 t557 t562 t566 (bt564.1 != t574))) else (vernierlaw10_ProdLaws.j0 k t550 t557 t562 t566 true))) else (vernierlaw10_ProdLaws.j0 k t550 t557 t562 t566 true)) else (vernierlaw10_ProdLaws.j0 k t550 t557 t562 t566 true)) else (vernierlaw10_ProdLaws.j0 k t550 t557 t562 t566 true)) else (vernierlaw10_ProdLaws.j0 k t550 t557 t562 t566 true)) else (vernierlaw10_ProdLaws.j0 k t550 t557 t562 t566 true)) else (vernierlaw10_ProdLaws.j0 k t550 t557 t562 t566 true)) else (vernierlaw10_ProdLaws.j0 k t550 t557 t562 t566 true)) else (vernierlaw10_ProdLaws.j0 k t550 t557 t562 t566 true)) else (vernierlaw10_ProdLaws.j0 k t550 t557 t562 t566 true)))) = some r := H
  have A13 := Aside0.mk A130
  clear A130
  replace H := Option.bind_eq_some_iff.mp H
  obtain ⟨⟨t564, t565⟩, A140, H⟩ := H
  replace H : ((vernierref06_Fold.f k a0 a1).bind fun t566 => (if t548 = true then (if t551.isNone = true then (if t553.isNone = true then (if t559.isNone = true then (if t561.isNone = true then (if t563.isNone = true then (if t565.isNone = true then (if t550 = t552 then (if t558 = t566 then ((vernierref06_Neg.f k a0 a1).bind fun t573 => (if t560 = t573 then ((vernierref06_Neg.f k a0 t550).bind fun t574 => (vernierlaw10_ProdLaws.j0 k t550 t557 t562 t566 (t564 != t574))) else (vernierlaw10_ProdLaws.j0 k t550 t557 t562 t566 true))) else (vernierlaw10_ProdLaws.j0 k t550 t557 t562 t566 true)) else (vernierlaw10_ProdLaws.j0 k t550 t557 t562 t566 true)) else (vernierlaw10_ProdLaws.j0 k t550 t557 t562 t566 true)) else (vernierlaw10_ProdLaws.j0 k t550 t557 t562 t566 true)) else (vernierlaw10_ProdLaws.j0 k t550 t557 t562 t566 true)) else (vernierlaw10_ProdLaws.j0 k t550 t557 t562 t566 true)) else (vernierlaw10_ProdLaws.j0 k t550 t557 t562 t566 true)) else (vernierlaw10_ProdLaws.j0 k t550 t557 t562 t566 true)) else (vernierlaw10_ProdLaws.j0 k t550 t557 t562 t566 true))) = some r := H
  have A14 := Aside0.mk A140
  clear A140
  replace H := Option.bind_eq_some_iff.mp H
  obtain ⟨t566, A150, H⟩ := H
  replace H : (if t548 = true then (if t551.isNone = true then (if t553.isNone = true then (if t559.isNone = true then (if t561.isNone = true then (if t563.isNone = true then (if t565.isNone = true then (if t550 = t552 then (if t558 = t566 then ((vernierref06_Neg.f k a0 a1).bind fun t573 => (if t560 = t573 then ((vernierref06_Neg.f k a0 t550).bind fun t574 => (vernierlaw10_ProdLaws.j0 k t550 t557 t562 t566 (t564 != t574))) else (vernierlaw10_ProdLaws.j0 k t550 t557 t562 t566 true))) else (vernierlaw10_ProdLaws.j0 k t550 t557 t562 t566 true)) else (vernierlaw10_ProdLaws.j0 k t550 t557 t562 t566 true)) else (vernierlaw10_ProdLaws.j0 k t550 t557 t562 t566 true)) else (vernierlaw10_ProdLaws.j0 k t550 t557 t562 t566 true)) else (vernierlaw10_ProdLaws.j0 k t550 t557 t562 t566 true)) else (vernierlaw10_ProdLaws.j0 k t550 t557 t562 t566 true)) else (vernierlaw10_ProdLaws.j0 k t550 t557 t562 t566 true)) else (vernierlaw10_ProdLaws.j0 k t550 t557 t562 t566 true)) else (vernierlaw10_ProdLaws.j0 k t550 t557 t562 t566 true)) = some r := H
  have A15 := Aside0.mk A150
  clear A150
  have HC16 := Aside0.mk H
  clear H
  go_enter Try.func5, Try.ntmps5
  go_upto_region 14 with (first | ((with_reducible refine gate_callee (f := 8) rfl ?_); refine goesL_ (some 24) rfl rfl Try.func8 (by kernel_rfl) rfl #[] rfl z5_ ?_; (with_reducible refine (vernierlaw10_up.calls k  t548 _ A4.out).mono ?_); rintro e w17 ⟨rfl, hb⟩; refine ⟨_, rfl, ?_⟩; have n0_ := Aside0.mk (below_step (z3_ HB.out) hb); clear HB; have HB := n0_; clear n0_; (try clear hb); (try clear hb2); (try clear hk); (try clear hi)) | ((with_reducible refine gate_callee (f := 14) rfl ?_); refine goesL_ (some 26) rfl rfl Try.func14 (by kernel_rfl) rfl #[.int .i64 a0] rfl z5_ ?_; (with_reducible refine (vernierref05_Is.calls a0 true _ A5.out).mono ?_); rintro e w' ⟨rfl, ⟨nd, rfl⟩⟩; refine ⟨_, rfl, ?_⟩) | ((with_reducible refine gate_callee (f := 12) rfl ?_); refine goesL_ (some 31) rfl rfl Try.func12 (by kernel_rfl) rfl #[.int .i64 a0, .int .u64 a1, .int .u64 a2] rfl z5_ ?_; (with_reducible refine (prod_Mul.calls k a0 a1 a2 t550 t551 _ A6.out).mono ?_); rintro e w18 ⟨rfl, hb⟩; refine ⟨_, rfl, ?_⟩; have n0_ := Aside0.mk (below_step (z3_ HB.out) hb); clear HB; have HB := n0_; clear n0_; (try clear hb); (try clear hb2); (try clear hk); (try clear hi); (try simp only [errW_none, errW_some])) | ((with_reducible refine gate_callee (f := 12) rfl ?_); refine goesL_ (some 38) rfl rfl Try.func12 (by kernel_rfl) rfl #[.int .i64 a0, .int .u64 a2, .int .u64 a1] rfl z5_ ?_; (with_reducible refine (prod_Mul.calls k a0 a2 a1 t552 t553 _ A7.out).mono ?_); rintro e w19 ⟨rfl, hb⟩; refine ⟨_, rfl, ?_⟩; have n0_ := Aside0.mk (below_step (z3_ HB.out) hb); clear HB; have HB := n0_; clear n0_; (try clear hb); (try clear hb2); (try clear hk); (try clear hi); (try simp only [errW_none, errW_some])) | ((with_reducible refine gate_callee (f := 15) rfl ?_); refine goesL_ (some 64) rfl rfl Try.func15 (by kernel_rfl) rfl #[.int .i64 (wrap64 (a0 - 2))] rfl z5_ ?_; (with_reducible refine (vernierref05_Power.calls k (wrap64 (a0 - 2)) t556 _ A9.out).mono ?_); rintro e w' ⟨rfl, ⟨nd, rfl⟩⟩; refine ⟨_, rfl, ?_⟩) | ((with_reducible refine gate_callee (f := 15) rfl ?_); refine goesL_ (some 67) rfl rfl Try.func15 (by kernel_rfl) rfl #[.int .i64 (wrap64 (a0 - 1))] rfl z5_ ?_; (with_reducible refine (vernierref05_Power.calls k (wrap64 (a0 - 1)) t557 _ A10.out).mono ?_); rintro e w' ⟨rfl, ⟨nd, rfl⟩⟩; refine ⟨_, rfl, ?_⟩) | ((with_reducible refine gate_callee (f := 12) rfl ?_); refine goesL_ (some 72) rfl rfl Try.func12 (by kernel_rfl) rfl #[.int .i64 a0, .int .u64 a1, .int .u64 t556] rfl z5_ ?_; (with_reducible refine (prod_Mul.calls k a0 a1 t556 t558 t559 _ A11.out).mono ?_); rintro e w20 ⟨rfl, hb⟩; refine ⟨_, rfl, ?_⟩; have n0_ := Aside0.mk (below_step (z3_ HB.out) hb); clear HB; have HB := n0_; clear n0_; (try clear hb); (try clear hb2); (try clear hk); (try clear hi); (try simp only [errW_none, errW_some])) | ((with_reducible refine gate_callee (f := 12) rfl ?_); refine goesL_ (some 80) rfl rfl Try.func12 (by kernel_rfl) rfl #[.int .i64 a0, .int .u64 (IntKind.u64.wrap (-t556)), .int .u64 a1] rfl z5_ ?_; (with_reducible refine (prod_Mul.calls k a0 (IntKind.u64.wrap (-t556)) a1 t560 t561 _ A12.out).mono ?_); rintro e w21 ⟨rfl, hb⟩; refine ⟨_, rfl, ?_⟩; have n0_ := Aside0.mk (below_step (z3_ HB.out) hb); clear HB; have HB := n0_; clear n0_; (try clear hb); (try clear hb2); (try clear hk); (try clear hi); (try simp only [errW_none, errW_some])) | ((with_reducible refine gate_callee (f := 12) rfl ?_); refine goesL_ (some 86) rfl rfl Try.func12 (by kernel_rfl) rfl #[.int .i64 a0, .int .u64 a1, .int .u64 0] rfl z5_ ?_; (with_reducible refine (prod_Mul.calls k a0 a1 0 t562 t563 _ A13.out).mono ?_); rintro e w22 ⟨rfl, hb⟩; refine ⟨_, rfl, ?_⟩; have n0_ := Aside0.mk (below_step (z3_ HB.out) hb); clear HB; have HB := n0_; clear n0_; (try clear hb); (try clear hb2); (try clear hk); (try clear hi); (try simp only [errW_none, errW_some])) | ((with_reducible refine gate_callee (f := 12) rfl ?_); refine goesL_ (some 94) rfl rfl Try.func12 (by kernel_rfl) rfl #[.int .i64 a0, .int .u64 (IntKind.u64.wrap (-a1)), .int .u64 a2] rfl z5_ ?_; (with_reducible refine (prod_Mul.calls k a0 (IntKind.u64.wrap (-a1)) a2 t564 t565 _ A14.out).mono ?_); rintro e w23 ⟨rfl, hb⟩; refine ⟨_, rfl, ?_⟩; have n0_ := Aside0.mk (below_step (z3_ HB.out) hb); clear HB; have HB := n0_; clear n0_; (try clear hb); (try clear hb2); (try clear hk); (try clear hi); (try simp only [errW_none, errW_some])) | ((with_reducible refine gate_callee (f := 16) rfl ?_); refine goesL_ (some 99) rfl rfl Try.func16 (by kernel_rfl) rfl #[.int .i64 a0, .int .u64 a1] rfl z5_ ?_; (with_reducible refine (vernierref06_Fold.calls k a0 a1 t566 _ A15.out).mono ?_); rintro e w24 ⟨rfl, hb⟩; refine ⟨_, rfl, ?_⟩; have n0_ := Aside0.mk (below_step (z3_ HB.out) hb); clear HB; have HB := n0_; clear n0_; (try clear hb); (try clear hb2); (try clear hk); (try clear hi)))
  (try simp only [Act.put, List.setIfInBounds_toArray, List.set_cons_zero, List.set_cons_succ])
  go_cut [149] (fun v149 wc => ∃ (kq : Nat) (x149_15 : Bool), v149 = .bool x149_15 ∧ Aside0 (vernierlaw10_ProdLaws.j0 kq t550 t557 t562 t566 x149_15 = some r) ∧ Aside0 (kq ≤ k) ∧ Aside0 (Below w.heap.size w wc))
  case first =>
   have H := HC16.out
   clear HC16
   by_cases c25 : t548 = true
   ·subst c25
    have H1 : (if t551.isNone = true then (if t553.isNone = true then (if t559.isNone = true then (if t561.isNone = true then (if t563.isNone = true then (if t565.isNone = true then (if t550 = t552 then (if t558 = t566 then ((vernierref06_Neg.f k a0 a1).bind fun t573 => (if t560 = t573 then ((vernierref06_Neg.f k a0 t550).bind fun t574 => (vernierlaw10_ProdLaws.j0 k t550 t557 t562 t566 (t564 != t574))) else (vernierlaw10_ProdLaws.j0 k t550 t557 t562 t566 true))) else (vernierlaw10_ProdLaws.j0 k t550 t557 t562 t566 true)) else (vernierlaw10_ProdLaws.j0 k t550 t557 t562 t566 true)) else (vernierlaw10_ProdLaws.j0 k t550 t557 t562 t566 true)) else (vernierlaw10_ProdLaws.j0 k t550 t557 t562 t566 true)) else (vernierlaw10_ProdLaws.j0 k t550 t557 t562 t566 true)) else (vernierlaw10_ProdLaws.j0 k t550 t557 t562 t566 true)) else (vernierlaw10_ProdLaws.j0 k t550 t557 t562 t566 true)) else (vernierlaw10_ProdLaws.j0 k t550 t557 t562 t566 true)) = some r := by rw [if_pos rfl] at H; exact H
    clear H
    have H := H1
    clear H1
    rcases t551 with _ | q567
    ·have H1 : (if t553.isNone = true then (if t559.isNone = true then (if t561.isNone = true then (if t563.isNone = true then (if t565.isNone = true then (if t550 = t552 then (if t558 = t566 then ((vernierref06_Neg.f k a0 a1).bind fun t573 => (if t560 = t573 then ((vernierref06_Neg.f k a0 t550).bind fun t574 => (vernierlaw10_ProdLaws.j0 k t550 t557 t562 t566 (t564 != t574))) else (vernierlaw10_ProdLaws.j0 k t550 t557 t562 t566 true))) else (vernierlaw10_ProdLaws.j0 k t550 t557 t562 t566 true)) else (vernierlaw10_ProdLaws.j0 k t550 t557 t562 t566 true)) else (vernierlaw10_ProdLaws.j0 k t550 t557 t562 t566 true)) else (vernierlaw10_ProdLaws.j0 k t550 t557 t562 t566 true)) else (vernierlaw10_ProdLaws.j0 k t550 t557 t562 t566 true)) else (vernierlaw10_ProdLaws.j0 k t550 t557 t562 t566 true)) else (vernierlaw10_ProdLaws.j0 k t550 t557 t562 t566 true)) = some r := by rw [if_pos (show (none : Option Int).isNone = true by rfl)] at H; exact H
     clear H
     have H := H1
     clear H1
     try simp only [errW_none, errW_some]
     rcases t553 with _ | q568
     ·have H1 : (if t559.isNone = true then (if t561.isNone = true then (if t563.isNone = true then (if t565.isNone = true then (if t550 = t552 then (if t558 = t566 then ((vernierref06_Neg.f k a0 a1).bind fun t573 => (if t560 = t573 then ((vernierref06_Neg.f k a0 t550).bind fun t574 => (vernierlaw10_ProdLaws.j0 k t550 t557 t562 t566 (t564 != t574))) else (vernierlaw10_ProdLaws.j0 k t550 t557 t562 t566 true))) else (vernierlaw10_ProdLaws.j0 k t550 t557 t562 t566 true)) else (vernierlaw10_ProdLaws.j0 k t550 t557 t562 t566 true)) else (vernierlaw10_ProdLaws.j0 k t550 t557 t562 t566 true)) else (vernierlaw10_ProdLaws.j0 k t550 t557 t562 t566 true)) else (vernierlaw10_ProdLaws.j0 k t550 t557 t562 t566 true)) else (vernierlaw10_ProdLaws.j0 k t550 t557 t562 t566 true)) = some r := by rw [if_pos (show (none : Option Int).isNone = true by rfl)] at H; exact H
      clear H
      have H := H1
      clear H1
      try simp only [errW_none, errW_some]
      rcases t559 with _ | q569
      ·have H1 : (if t561.isNone = true then (if t563.isNone = true then (if t565.isNone = true then (if t550 = t552 then (if t558 = t566 then ((vernierref06_Neg.f k a0 a1).bind fun t573 => (if t560 = t573 then ((vernierref06_Neg.f k a0 t550).bind fun t574 => (vernierlaw10_ProdLaws.j0 k t550 t557 t562 t566 (t564 != t574))) else (vernierlaw10_ProdLaws.j0 k t550 t557 t562 t566 true))) else (vernierlaw10_ProdLaws.j0 k t550 t557 t562 t566 true)) else (vernierlaw10_ProdLaws.j0 k t550 t557 t562 t566 true)) else (vernierlaw10_ProdLaws.j0 k t550 t557 t562 t566 true)) else (vernierlaw10_ProdLaws.j0 k t550 t557 t562 t566 true)) else (vernierlaw10_ProdLaws.j0 k t550 t557 t562 t566 true)) = some r := by rw [if_pos (show (none : Option Int).isNone = true by rfl)] at H; exact H
       clear H
       have H := H1
       clear H1
       try simp only [errW_none, errW_some]
       rcases t561 with _ | q570
       ·have H1 : (if t563.isNone = true then (if t565.isNone = true then (if t550 = t552 then (if t558 = t566 then ((vernierref06_Neg.f k a0 a1).bind fun t573 => (if t560 = t573 then ((vernierref06_Neg.f k a0 t550).bind fun t574 => (vernierlaw10_ProdLaws.j0 k t550 t557 t562 t566 (t564 != t574))) else (vernierlaw10_ProdLaws.j0 k t550 t557 t562 t566 true))) else (vernierlaw10_ProdLaws.j0 k t550 t557 t562 t566 true)) else (vernierlaw10_ProdLaws.j0 k t550 t557 t562 t566 true)) else (vernierlaw10_ProdLaws.j0 k t550 t557 t562 t566 true)) else (vernierlaw10_ProdLaws.j0 k t550 t557 t562 t566 true)) = some r := by rw [if_pos (show (none : Option Int).isNone = true by rfl)] at H; exact H
        clear H
        have H := H1
        clear H1
        try simp only [errW_none, errW_some]
        rcases t563 with _ | q571
        ·have H1 : (if t565.isNone = true then (if t550 = t552 then (if t558 = t566 then ((vernierref06_Neg.f k a0 a1).bind fun t573 => (if t560 = t573 then ((vernierref06_Neg.f k a0 t550).bind fun t574 => (vernierlaw10_ProdLaws.j0 k t550 t557 t562 t566 (t564 != t574))) else (vernierlaw10_ProdLaws.j0 k t550 t557 t562 t566 true))) else (vernierlaw10_ProdLaws.j0 k t550 t557 t562 t566 true)) else (vernierlaw10_ProdLaws.j0 k t550 t557 t562 t566 true)) else (vernierlaw10_ProdLaws.j0 k t550 t557 t562 t566 true)) = some r := by rw [if_pos (show (none : Option Int).isNone = true by rfl)] at H; exact H
         clear H
         have H := H1
         clear H1
         try simp only [errW_none, errW_some]
         rcases t565 with _ | q572
         ·have H1 : (if t550 = t552 then (if t558 = t566 then ((vernierref06_Neg.f k a0 a1).bind fun t573 => (if t560 = t573 then ((vernierref06_Neg.f k a0 t550).bind fun t574 => (vernierlaw10_ProdLaws.j0 k t550 t557 t562 t566 (t564 != t574))) else (vernierlaw10_ProdLaws.j0 k t550 t557 t562 t566 true))) else (vernierlaw10_ProdLaws.j0 k t550 t557 t562 t566 true)) else (vernierlaw10_ProdLaws.j0 k t550 t557 t562 t566 true)) = some r := by rw [if_pos (show (none : Option Int).isNone = true by rfl)] at H; exact H
          clear H
          have H := H1
          clear H1
          try simp only [errW_none, errW_some]
          by_cases c26 : t550 = t552
          ·rw [if_pos c26] at H
           have c26b0 : (t550 == t552) = true := beq_iff_eq.mpr c26
           have c26b1 : (t550 != t552) = false := bne_eq_false_iff_eq.mpr c26
           clear c26
           (first | rw [c26b0] | (simp only [i64_w, i32_w]; rw [c26b0]) | skip)
           by_cases c27 : t558 = t566
           ·rw [if_pos c27] at H
            have c27b0 : (t558 == t566) = true := beq_iff_eq.mpr c27
            have c27b1 : (t558 != t566) = false := bne_eq_false_iff_eq.mpr c27
            clear c27
            replace H := Option.bind_eq_some_iff.mp H
            obtain ⟨t573, A280, H⟩ := H
            replace H : (if t560 = t573 then ((vernierref06_Neg.f k a0 t550).bind fun t574 => (vernierlaw10_ProdLaws.j0 k t550 t557 t562 t566 (t564 != t574))) else (vernierlaw10_ProdLaws.j0 k t550 t557 t562 t566 true)) = some r := H
            have A28 := Aside0.mk A280
            clear A280
            by_cases c29 : t560 = t573
            ·rw [if_pos c29] at H
             have c29b0 : (t560 == t573) = true := beq_iff_eq.mpr c29
             have c29b1 : (t560 != t573) = false := bne_eq_false_iff_eq.mpr c29
             clear c29
             replace H := Option.bind_eq_some_iff.mp H
             obtain ⟨t574, A300, H⟩ := H
             replace H : (vernierlaw10_ProdLaws.j0 k t550 t557 t562 t566 (t564 != t574)) = some r := H
             have A30 := Aside0.mk A300
             clear A300
             have H' := Aside0.mk H
             clear H
             go_wp2_with (first | (go_at_call 17; (with_reducible refine (vernierref06_Neg.calls k a0 a1 t573 _ A28.out).mono ?_); rintro e w31 ⟨rfl, hb⟩; have n0_ := Aside0.mk (below_step (z3_ HB.out) hb); clear HB; have HB := n0_; clear n0_; (try clear hb); (try clear hb2); (try clear hk); (try clear hi)) | (go_at_call 17; (with_reducible refine (vernierref06_Neg.calls k a0 t550 t574 _ A30.out).mono ?_); rintro e w32 ⟨rfl, hb⟩; have n0_ := Aside0.mk (below_step (z3_ HB.out) hb); clear HB; have HB := n0_; clear n0_; (try clear hb); (try clear hb2); (try clear hk); (try clear hi)))
             go_meet
             case rel => exact ⟨_, ((t564 != t574)), (by first | rfl | (simp; done) | (simp [*]; done)), H', ⟨by first | omega | exact Nat.le_refl _⟩, ⟨by repeat (first | (with_reducible first | exact HB.out | apply below_alloc | apply pw_below_drewN | apply below_drew1) | exact HB.out)⟩⟩
            ·rw [if_neg c29] at H
             have c29b0 : (t560 == t573) = false := beq_eq_false_iff_ne.mpr c29
             have c29b1 : (t560 != t573) = true := bne_iff_ne.mpr c29
             have H' := Aside0.mk H
             clear H
             go_wp2_with (first | (go_at_call 17; (with_reducible refine (vernierref06_Neg.calls k a0 a1 t573 _ A28.out).mono ?_); rintro e w33 ⟨rfl, hb⟩; have n0_ := Aside0.mk (below_step (z3_ HB.out) hb); clear HB; have HB := n0_; clear n0_; (try clear hb); (try clear hb2); (try clear hk); (try clear hi)))
             go_meet
             case rel => exact ⟨_, (true), (by first | rfl | (simp; done) | (simp [*]; done)), H', ⟨by first | omega | exact Nat.le_refl _⟩, ⟨by repeat (first | (with_reducible first | exact HB.out | apply below_alloc | apply pw_below_drewN | apply below_drew1) | exact HB.out)⟩⟩
           ·rw [if_neg c27] at H
            have c27b0 : (t558 == t566) = false := beq_eq_false_iff_ne.mpr c27
            have c27b1 : (t558 != t566) = true := bne_iff_ne.mpr c27
            have H' := Aside0.mk H
            clear H
            go_wp2
            go_meet
            case rel => exact ⟨_, (true), (by first | rfl | (simp; done) | (simp [*]; done)), H', ⟨by first | omega | exact Nat.le_refl _⟩, ⟨by repeat (first | (with_reducible first | exact HB.out | apply below_alloc | apply pw_below_drewN | apply below_drew1) | exact HB.out)⟩⟩
          ·rw [if_neg c26] at H
           have c26b0 : (t550 == t552) = false := beq_eq_false_iff_ne.mpr c26
           have c26b1 : (t550 != t552) = true := bne_iff_ne.mpr c26
           (first | rw [c26b0] | (simp only [i64_w, i32_w]; rw [c26b0]) | skip)
           have H' := Aside0.mk H
           clear H
           go_wp2
           go_meet
           case rel => exact ⟨_, (true), (by first | rfl | (simp; done) | (simp [*]; done)), H', ⟨by first | omega | exact Nat.le_refl _⟩, ⟨by repeat (first | (with_reducible first | exact HB.out | apply below_alloc | apply pw_below_drewN | apply below_drew1) | exact HB.out)⟩⟩
         ·have H1 : (vernierlaw10_ProdLaws.j0 k t550 t557 t562 t566 true) = some r := by rw [if_neg (show ¬ (some q572).isNone = true by simp)] at H; exact H
          clear H
          have H := H1
          clear H1
          try simp only [errW_none, errW_some]
          have H' := Aside0.mk H
          clear H
          go_wp2
          go_meet
          case rel => exact ⟨_, (true), (by first | rfl | (simp; done) | (simp [*]; done)), H', ⟨by first | omega | exact Nat.le_refl _⟩, ⟨by repeat (first | (with_reducible first | exact HB.out | apply below_alloc | apply pw_below_drewN | apply below_drew1) | exact HB.out)⟩⟩
        ·have H1 : (vernierlaw10_ProdLaws.j0 k t550 t557 t562 t566 true) = some r := by rw [if_neg (show ¬ (some q571).isNone = true by simp)] at H; exact H
         clear H
         have H := H1
         clear H1
         try simp only [errW_none, errW_some]
         have H' := Aside0.mk H
         clear H
         go_wp2
         go_meet
         case rel => exact ⟨_, (true), (by first | rfl | (simp; done) | (simp [*]; done)), H', ⟨by first | omega | exact Nat.le_refl _⟩, ⟨by repeat (first | (with_reducible first | exact HB.out | apply below_alloc | apply pw_below_drewN | apply below_drew1) | exact HB.out)⟩⟩
       ·have H1 : (vernierlaw10_ProdLaws.j0 k t550 t557 t562 t566 true) = some r := by rw [if_neg (show ¬ (some q570).isNone = true by simp)] at H; exact H
        clear H
        have H := H1
        clear H1
        try simp only [errW_none, errW_some]
        have H' := Aside0.mk H
        clear H
        go_wp2
        go_meet
        case rel => exact ⟨_, (true), (by first | rfl | (simp; done) | (simp [*]; done)), H', ⟨by first | omega | exact Nat.le_refl _⟩, ⟨by repeat (first | (with_reducible first | exact HB.out | apply below_alloc | apply pw_below_drewN | apply below_drew1) | exact HB.out)⟩⟩
      ·have H1 : (vernierlaw10_ProdLaws.j0 k t550 t557 t562 t566 true) = some r := by rw [if_neg (show ¬ (some q569).isNone = true by simp)] at H; exact H
       clear H
       have H := H1
       clear H1
       try simp only [errW_none, errW_some]
       have H' := Aside0.mk H
       clear H
       go_wp2
       go_meet
       case rel => exact ⟨_, (true), (by first | rfl | (simp; done) | (simp [*]; done)), H', ⟨by first | omega | exact Nat.le_refl _⟩, ⟨by repeat (first | (with_reducible first | exact HB.out | apply below_alloc | apply pw_below_drewN | apply below_drew1) | exact HB.out)⟩⟩
     ·have H1 : (vernierlaw10_ProdLaws.j0 k t550 t557 t562 t566 true) = some r := by rw [if_neg (show ¬ (some q568).isNone = true by simp)] at H; exact H
      clear H
      have H := H1
      clear H1
      try simp only [errW_none, errW_some]
      have H' := Aside0.mk H
      clear H
      go_wp2
      go_meet
      case rel => exact ⟨_, (true), (by first | rfl | (simp; done) | (simp [*]; done)), H', ⟨by first | omega | exact Nat.le_refl _⟩, ⟨by repeat (first | (with_reducible first | exact HB.out | apply below_alloc | apply pw_below_drewN | apply below_drew1) | exact HB.out)⟩⟩
    ·have H1 : (vernierlaw10_ProdLaws.j0 k t550 t557 t562 t566 true) = some r := by rw [if_neg (show ¬ (some q567).isNone = true by simp)] at H; exact H
     clear H
     have H := H1
     clear H1
     try simp only [errW_none, errW_some]
     have H' := Aside0.mk H
     clear H
     go_wp2
     go_meet
     case rel => exact ⟨_, (true), (by first | rfl | (simp; done) | (simp [*]; done)), H', ⟨by first | omega | exact Nat.le_refl _⟩, ⟨by repeat (first | (with_reducible first | exact HB.out | apply below_alloc | apply pw_below_drewN | apply below_drew1) | exact HB.out)⟩⟩
   ·replace c25 := Bool.eq_false_iff.mpr c25
    subst c25
    have H1 : (vernierlaw10_ProdLaws.j0 k t550 t557 t562 t566 true) = some r := by rw [if_neg (show ¬ (false = true) by decide)] at H; exact H
    clear H
    have H := H1
    clear H1
    have H' := Aside0.mk H
    clear H
    go_wp2
    go_meet
    case rel => exact ⟨_, (true), (by first | rfl | (simp; done) | (simp [*]; done)), H', ⟨by first | omega | exact Nat.le_refl _⟩, ⟨by repeat (first | (with_reducible first | exact HB.out | apply below_alloc | apply pw_below_drewN | apply below_drew1) | exact HB.out)⟩⟩
  case rest =>
   clear HC16
   try clear c1
   try clear c2
   try clear p2
   try clear c5
   try clear q5
   try clear p6
   try clear c8
   try clear c12
   try clear c14
   try clear c15
   try clear c16
   try clear c25
   try clear c26
   try clear c26b0
   try clear c26b1
   try clear c27
   try clear c27b0
   try clear c27b1
   try clear c29
   try clear c29b0
   try clear c29b1
   try clear q567
   try clear q568
   try clear q569
   try clear q570
   try clear q571
   try clear q572
   obtain ⟨kq, x149_15, rfl, HA, HJ15, HB⟩ := hcut
   cases kq with
   | zero => exact absurd HA.out (by simp [vernierlaw10_ProdLaws.j0])
   | succ kj15 =>
    have H := HA.out
    clear HA
    simp only [vernierlaw10_ProdLaws.j0] at H
    by_cases c34 : x149_15 = true
    ·subst c34
     have H1 : (some false) = some r := by rw [if_pos rfl] at H; exact H
     clear H
     have H := H1
     clear H1
     obtain rfl := Option.some.inj H
     go_wp2
     go_ret
     exact ⟨by first | rfl | (simp [errW_none, errW_some] <;> rfl) | (simp [*, errW_none, errW_some] <;> rfl), by repeat (first | (with_reducible first | exact HB.out | apply below_alloc | apply pw_below_drewN | apply below_drew1) | exact HB.out)⟩
    ·replace c34 := Bool.eq_false_iff.mpr c34
     subst c34
     have H1 : (if t566 = t557 then (if t562 = t557 then (some (t550 == t557)) else (some false)) else (some (t562 == 0))) = some r := by rw [if_neg (show ¬ (false = true) by decide)] at H; exact H
     clear H
     have H := H1
     clear H1
     by_cases c35 : t566 = t557
     ·rw [if_pos c35] at H
      have c35b0 : (t566 == t557) = true := beq_iff_eq.mpr c35
      have c35b1 : (t566 != t557) = false := bne_eq_false_iff_eq.mpr c35
      clear c35
      by_cases c36 : t562 = t557
      ·rw [if_pos c36] at H
       have c36b0 : (t562 == t557) = true := beq_iff_eq.mpr c36
       have c36b1 : (t562 != t557) = false := bne_eq_false_iff_eq.mpr c36
       clear c36
       obtain rfl := Option.some.inj H
       go_wp2
       go_ret
       exact ⟨by first | rfl | (simp [errW_none, errW_some] <;> rfl) | (simp [*, errW_none, errW_some] <;> rfl), by repeat (first | (with_reducible first | exact HB.out | apply below_alloc | apply pw_below_drewN | apply below_drew1) | exact HB.out)⟩
      ·rw [if_neg c36] at H
       have c36b0 : (t562 == t557) = false := beq_eq_false_iff_ne.mpr c36
       have c36b1 : (t562 != t557) = true := bne_iff_ne.mpr c36
       obtain rfl := Option.some.inj H
       go_wp2
       go_ret
       exact ⟨by first | rfl | (simp [errW_none, errW_some] <;> rfl) | (simp [*, errW_none, errW_some] <;> rfl), by repeat (first | (with_reducible first | exact HB.out | apply below_alloc | apply pw_below_drewN | apply below_drew1) | exact HB.out)⟩
     ·rw [if_neg c35] at H
      have c35b0 : (t566 == t557) = false := beq_eq_false_iff_ne.mpr c35
      have c35b1 : (t566 != t557) = true := bne_iff_ne.mpr c35
      obtain rfl := Option.some.inj H
      go_wp2
      go_ret
      exact ⟨by first | rfl | (simp [errW_none, errW_some] <;> rfl) | (simp [*, errW_none, errW_some] <;> rfl), by repeat (first | (with_reducible first | exact HB.out | apply below_alloc | apply pw_below_drewN | apply below_drew1) | exact HB.out)⟩
 ·replace c8 := Bool.eq_false_iff.mpr c8
  subst c8
  have H1 : (if t548 = true then (if t551.isNone = true then (some false) else (if (t551.getD 0) = 2 then (if t553.isNone = true then (some false) else (if (t553.getD 0) = 2 then (if t550 = 0 then (some (t552 == 0)) else (some false)) else (some false))) else (some false))) else (some false)) = some r := by rw [if_neg (show ¬ (false = true) by decide)] at H; exact H
  clear H
  have H := H1
  clear H1
  by_cases c37 : t548 = true
  ·subst c37
   have H1 : (if t551.isNone = true then (some false) else (if (t551.getD 0) = 2 then (if t553.isNone = true then (some false) else (if (t553.getD 0) = 2 then (if t550 = 0 then (some (t552 == 0)) else (some false)) else (some false))) else (some false))) = some r := by rw [if_pos rfl] at H; exact H
   clear H
   have H := H1
   clear H1
   rcases t551 with _ | q554
   ·have H1 : (some false) = some r := by rw [if_pos (show (none : Option Int).isNone = true by rfl)] at H; exact H
    clear H
    have H := H1
    clear H1
    try simp only [errW_none, errW_some]
    obtain rfl := Option.some.inj H
    go_enter Try.func5, Try.ntmps5
    go_wp2_with (first | ((with_reducible refine gate_callee (f := 8) rfl ?_); refine goesL_ (some 24) rfl rfl Try.func8 (by kernel_rfl) rfl #[] rfl z5_ ?_; (with_reducible refine (vernierlaw10_up.calls k  true _ A4.out).mono ?_); rintro e w38 ⟨rfl, hb⟩; refine ⟨_, rfl, ?_⟩; have n0_ := Aside0.mk (below_step (z3_ HB.out) hb); clear HB; have HB := n0_; clear n0_; (try clear hb); (try clear hb2); (try clear hk); (try clear hi)) | ((with_reducible refine gate_callee (f := 14) rfl ?_); refine goesL_ (some 26) rfl rfl Try.func14 (by kernel_rfl) rfl #[.int .i64 a0] rfl z5_ ?_; (with_reducible refine (vernierref05_Is.calls a0 false _ A5.out).mono ?_); rintro e w' ⟨rfl, ⟨nd, rfl⟩⟩; refine ⟨_, rfl, ?_⟩) | ((with_reducible refine gate_callee (f := 12) rfl ?_); refine goesL_ (some 31) rfl rfl Try.func12 (by kernel_rfl) rfl #[.int .i64 a0, .int .u64 a1, .int .u64 a2] rfl z5_ ?_; (with_reducible refine (prod_Mul.calls k a0 a1 a2 t550 none _ A6.out).mono ?_); rintro e w39 ⟨rfl, hb⟩; refine ⟨_, rfl, ?_⟩; have n0_ := Aside0.mk (below_step (z3_ HB.out) hb); clear HB; have HB := n0_; clear n0_; (try clear hb); (try clear hb2); (try clear hk); (try clear hi); (try simp only [errW_none, errW_some])) | ((with_reducible refine gate_callee (f := 12) rfl ?_); refine goesL_ (some 38) rfl rfl Try.func12 (by kernel_rfl) rfl #[.int .i64 a0, .int .u64 a2, .int .u64 a1] rfl z5_ ?_; (with_reducible refine (prod_Mul.calls k a0 a2 a1 t552 t553 _ A7.out).mono ?_); rintro e w40 ⟨rfl, hb⟩; refine ⟨_, rfl, ?_⟩; have n0_ := Aside0.mk (below_step (z3_ HB.out) hb); clear HB; have HB := n0_; clear n0_; (try clear hb); (try clear hb2); (try clear hk); (try clear hi); (try simp only [errW_none, errW_some])))
    go_ret
    exact ⟨by first | rfl | (simp [errW_none, errW_some] <;> rfl) | (simp [*, errW_none, errW_some] <;> rfl), by repeat (first | (with_reducible first | exact HB.out | apply below_alloc | apply pw_below_drewN | apply below_drew1) | exact HB.out)⟩
   ·have H1 : (if q554 = 2 then (if t553.isNone = true then (some false) else (if (t553.getD 0) = 2 then (if t550 = 0 then (some (t552 == 0)) else (some false)) else (some false))) else (some false)) = some r := by rw [if_neg (show ¬ (some q554).isNone = true by simp)] at H; exact H
    clear H
    have H := H1
    clear H1
    try simp only [errW_none, errW_some]
    by_cases c41 : q554 = 2
    ·rw [if_pos c41] at H
     have c41b0 : (q554 == 2) = true := beq_iff_eq.mpr c41
     have c41b1 : (q554 != 2) = false := bne_eq_false_iff_eq.mpr c41
     clear c41
     rcases t553 with _ | q555
     ·have H1 : (some false) = some r := by rw [if_pos (show (none : Option Int).isNone = true by rfl)] at H; exact H
      clear H
      have H := H1
      clear H1
      try simp only [errW_none, errW_some]
      obtain rfl := Option.some.inj H
      go_enter Try.func5, Try.ntmps5
      go_wp2_with (first | ((with_reducible refine gate_callee (f := 8) rfl ?_); refine goesL_ (some 24) rfl rfl Try.func8 (by kernel_rfl) rfl #[] rfl z5_ ?_; (with_reducible refine (vernierlaw10_up.calls k  true _ A4.out).mono ?_); rintro e w42 ⟨rfl, hb⟩; refine ⟨_, rfl, ?_⟩; have n0_ := Aside0.mk (below_step (z3_ HB.out) hb); clear HB; have HB := n0_; clear n0_; (try clear hb); (try clear hb2); (try clear hk); (try clear hi)) | ((with_reducible refine gate_callee (f := 14) rfl ?_); refine goesL_ (some 26) rfl rfl Try.func14 (by kernel_rfl) rfl #[.int .i64 a0] rfl z5_ ?_; (with_reducible refine (vernierref05_Is.calls a0 false _ A5.out).mono ?_); rintro e w' ⟨rfl, ⟨nd, rfl⟩⟩; refine ⟨_, rfl, ?_⟩) | ((with_reducible refine gate_callee (f := 12) rfl ?_); refine goesL_ (some 31) rfl rfl Try.func12 (by kernel_rfl) rfl #[.int .i64 a0, .int .u64 a1, .int .u64 a2] rfl z5_ ?_; (with_reducible refine (prod_Mul.calls k a0 a1 a2 t550 (some q554) _ A6.out).mono ?_); rintro e w43 ⟨rfl, hb⟩; refine ⟨_, rfl, ?_⟩; have n0_ := Aside0.mk (below_step (z3_ HB.out) hb); clear HB; have HB := n0_; clear n0_; (try clear hb); (try clear hb2); (try clear hk); (try clear hi); (try simp only [errW_none, errW_some])) | ((with_reducible refine gate_callee (f := 12) rfl ?_); refine goesL_ (some 38) rfl rfl Try.func12 (by kernel_rfl) rfl #[.int .i64 a0, .int .u64 a2, .int .u64 a1] rfl z5_ ?_; (with_reducible refine (prod_Mul.calls k a0 a2 a1 t552 none _ A7.out).mono ?_); rintro e w44 ⟨rfl, hb⟩; refine ⟨_, rfl, ?_⟩; have n0_ := Aside0.mk (below_step (z3_ HB.out) hb); clear HB; have HB := n0_; clear n0_; (try clear hb); (try clear hb2); (try clear hk); (try clear hi); (try simp only [errW_none, errW_some])))
      go_ret
      exact ⟨by first | rfl | (simp [errW_none, errW_some] <;> rfl) | (simp [*, errW_none, errW_some] <;> rfl), by repeat (first | (with_reducible first | exact HB.out | apply below_alloc | apply pw_below_drewN | apply below_drew1) | exact HB.out)⟩
     ·have H1 : (if q555 = 2 then (if t550 = 0 then (some (t552 == 0)) else (some false)) else (some false)) = some r := by rw [if_neg (show ¬ (some q555).isNone = true by simp)] at H; exact H
      clear H
      have H := H1
      clear H1
      try simp only [errW_none, errW_some]
      by_cases c45 : q555 = 2
      ·rw [if_pos c45] at H
       have c45b0 : (q555 == 2) = true := beq_iff_eq.mpr c45
       have c45b1 : (q555 != 2) = false := bne_eq_false_iff_eq.mpr c45
       clear c45
       by_cases c46 : t550 = 0
       ·rw [if_pos c46] at H
        have c46b0 : (t550 == 0) = true := beq_iff_eq.mpr c46
        have c46b1 : (t550 != 0) = false := bne_eq_false_iff_eq.mpr c46
        clear c46
        obtain rfl := Option.some.inj H
        go_enter Try.func5, Try.ntmps5
        go_wp2_with (first | ((with_reducible refine gate_callee (f := 8) rfl ?_); refine goesL_ (some 24) rfl rfl Try.func8 (by kernel_rfl) rfl #[] rfl z5_ ?_; (with_reducible refine (vernierlaw10_up.calls k  true _ A4.out).mono ?_); rintro e w47 ⟨rfl, hb⟩; refine ⟨_, rfl, ?_⟩; have n0_ := Aside0.mk (below_step (z3_ HB.out) hb); clear HB; have HB := n0_; clear n0_; (try clear hb); (try clear hb2); (try clear hk); (try clear hi)) | ((with_reducible refine gate_callee (f := 14) rfl ?_); refine goesL_ (some 26) rfl rfl Try.func14 (by kernel_rfl) rfl #[.int .i64 a0] rfl z5_ ?_; (with_reducible refine (vernierref05_Is.calls a0 false _ A5.out).mono ?_); rintro e w' ⟨rfl, ⟨nd, rfl⟩⟩; refine ⟨_, rfl, ?_⟩) | ((with_reducible refine gate_callee (f := 12) rfl ?_); refine goesL_ (some 31) rfl rfl Try.func12 (by kernel_rfl) rfl #[.int .i64 a0, .int .u64 a1, .int .u64 a2] rfl z5_ ?_; (with_reducible refine (prod_Mul.calls k a0 a1 a2 t550 (some q554) _ A6.out).mono ?_); rintro e w48 ⟨rfl, hb⟩; refine ⟨_, rfl, ?_⟩; have n0_ := Aside0.mk (below_step (z3_ HB.out) hb); clear HB; have HB := n0_; clear n0_; (try clear hb); (try clear hb2); (try clear hk); (try clear hi); (try simp only [errW_none, errW_some])) | ((with_reducible refine gate_callee (f := 12) rfl ?_); refine goesL_ (some 38) rfl rfl Try.func12 (by kernel_rfl) rfl #[.int .i64 a0, .int .u64 a2, .int .u64 a1] rfl z5_ ?_; (with_reducible refine (prod_Mul.calls k a0 a2 a1 t552 (some q555) _ A7.out).mono ?_); rintro e w49 ⟨rfl, hb⟩; refine ⟨_, rfl, ?_⟩; have n0_ := Aside0.mk (below_step (z3_ HB.out) hb); clear HB; have HB := n0_; clear n0_; (try clear hb); (try clear hb2); (try clear hk); (try clear hi); (try simp only [errW_none, errW_some])))
        go_ret
        exact ⟨by first | rfl | (simp [errW_none, errW_some] <;> rfl) | (simp [*, errW_none, errW_some] <;> rfl), by repeat (first | (with_reducible first | exact HB.out | apply below_alloc | apply pw_below_drewN | apply below_drew1) | exact HB.out)⟩
       ·rw [if_neg c46] at H
        have c46b0 : (t550 == 0) = false := beq_eq_false_iff_ne.mpr c46
        have c46b1 : (t550 != 0) = true := bne_iff_ne.mpr c46
        obtain rfl := Option.some.inj H
        go_enter Try.func5, Try.ntmps5
        go_wp2_with (first | ((with_reducible refine gate_callee (f := 8) rfl ?_); refine goesL_ (some 24) rfl rfl Try.func8 (by kernel_rfl) rfl #[] rfl z5_ ?_; (with_reducible refine (vernierlaw10_up.calls k  true _ A4.out).mono ?_); rintro e w50 ⟨rfl, hb⟩; refine ⟨_, rfl, ?_⟩; have n0_ := Aside0.mk (below_step (z3_ HB.out) hb); clear HB; have HB := n0_; clear n0_; (try clear hb); (try clear hb2); (try clear hk); (try clear hi)) | ((with_reducible refine gate_callee (f := 14) rfl ?_); refine goesL_ (some 26) rfl rfl Try.func14 (by kernel_rfl) rfl #[.int .i64 a0] rfl z5_ ?_; (with_reducible refine (vernierref05_Is.calls a0 false _ A5.out).mono ?_); rintro e w' ⟨rfl, ⟨nd, rfl⟩⟩; refine ⟨_, rfl, ?_⟩) | ((with_reducible refine gate_callee (f := 12) rfl ?_); refine goesL_ (some 31) rfl rfl Try.func12 (by kernel_rfl) rfl #[.int .i64 a0, .int .u64 a1, .int .u64 a2] rfl z5_ ?_; (with_reducible refine (prod_Mul.calls k a0 a1 a2 t550 (some q554) _ A6.out).mono ?_); rintro e w51 ⟨rfl, hb⟩; refine ⟨_, rfl, ?_⟩; have n0_ := Aside0.mk (below_step (z3_ HB.out) hb); clear HB; have HB := n0_; clear n0_; (try clear hb); (try clear hb2); (try clear hk); (try clear hi); (try simp only [errW_none, errW_some])) | ((with_reducible refine gate_callee (f := 12) rfl ?_); refine goesL_ (some 38) rfl rfl Try.func12 (by kernel_rfl) rfl #[.int .i64 a0, .int .u64 a2, .int .u64 a1] rfl z5_ ?_; (with_reducible refine (prod_Mul.calls k a0 a2 a1 t552 (some q555) _ A7.out).mono ?_); rintro e w52 ⟨rfl, hb⟩; refine ⟨_, rfl, ?_⟩; have n0_ := Aside0.mk (below_step (z3_ HB.out) hb); clear HB; have HB := n0_; clear n0_; (try clear hb); (try clear hb2); (try clear hk); (try clear hi); (try simp only [errW_none, errW_some])))
        go_ret
        exact ⟨by first | rfl | (simp [errW_none, errW_some] <;> rfl) | (simp [*, errW_none, errW_some] <;> rfl), by repeat (first | (with_reducible first | exact HB.out | apply below_alloc | apply pw_below_drewN | apply below_drew1) | exact HB.out)⟩
      ·rw [if_neg c45] at H
       have c45b0 : (q555 == 2) = false := beq_eq_false_iff_ne.mpr c45
       have c45b1 : (q555 != 2) = true := bne_iff_ne.mpr c45
       obtain rfl := Option.some.inj H
       go_enter Try.func5, Try.ntmps5
       go_wp2_with (first | ((with_reducible refine gate_callee (f := 8) rfl ?_); refine goesL_ (some 24) rfl rfl Try.func8 (by kernel_rfl) rfl #[] rfl z5_ ?_; (with_reducible refine (vernierlaw10_up.calls k  true _ A4.out).mono ?_); rintro e w53 ⟨rfl, hb⟩; refine ⟨_, rfl, ?_⟩; have n0_ := Aside0.mk (below_step (z3_ HB.out) hb); clear HB; have HB := n0_; clear n0_; (try clear hb); (try clear hb2); (try clear hk); (try clear hi)) | ((with_reducible refine gate_callee (f := 14) rfl ?_); refine goesL_ (some 26) rfl rfl Try.func14 (by kernel_rfl) rfl #[.int .i64 a0] rfl z5_ ?_; (with_reducible refine (vernierref05_Is.calls a0 false _ A5.out).mono ?_); rintro e w' ⟨rfl, ⟨nd, rfl⟩⟩; refine ⟨_, rfl, ?_⟩) | ((with_reducible refine gate_callee (f := 12) rfl ?_); refine goesL_ (some 31) rfl rfl Try.func12 (by kernel_rfl) rfl #[.int .i64 a0, .int .u64 a1, .int .u64 a2] rfl z5_ ?_; (with_reducible refine (prod_Mul.calls k a0 a1 a2 t550 (some q554) _ A6.out).mono ?_); rintro e w54 ⟨rfl, hb⟩; refine ⟨_, rfl, ?_⟩; have n0_ := Aside0.mk (below_step (z3_ HB.out) hb); clear HB; have HB := n0_; clear n0_; (try clear hb); (try clear hb2); (try clear hk); (try clear hi); (try simp only [errW_none, errW_some])) | ((with_reducible refine gate_callee (f := 12) rfl ?_); refine goesL_ (some 38) rfl rfl Try.func12 (by kernel_rfl) rfl #[.int .i64 a0, .int .u64 a2, .int .u64 a1] rfl z5_ ?_; (with_reducible refine (prod_Mul.calls k a0 a2 a1 t552 (some q555) _ A7.out).mono ?_); rintro e w55 ⟨rfl, hb⟩; refine ⟨_, rfl, ?_⟩; have n0_ := Aside0.mk (below_step (z3_ HB.out) hb); clear HB; have HB := n0_; clear n0_; (try clear hb); (try clear hb2); (try clear hk); (try clear hi); (try simp only [errW_none, errW_some])))
       go_ret
       exact ⟨by first | rfl | (simp [errW_none, errW_some] <;> rfl) | (simp [*, errW_none, errW_some] <;> rfl), by repeat (first | (with_reducible first | exact HB.out | apply below_alloc | apply pw_below_drewN | apply below_drew1) | exact HB.out)⟩
    ·rw [if_neg c41] at H
     have c41b0 : (q554 == 2) = false := beq_eq_false_iff_ne.mpr c41
     have c41b1 : (q554 != 2) = true := bne_iff_ne.mpr c41
     obtain rfl := Option.some.inj H
     go_enter Try.func5, Try.ntmps5
     go_wp2_with (first | ((with_reducible refine gate_callee (f := 8) rfl ?_); refine goesL_ (some 24) rfl rfl Try.func8 (by kernel_rfl) rfl #[] rfl z5_ ?_; (with_reducible refine (vernierlaw10_up.calls k  true _ A4.out).mono ?_); rintro e w56 ⟨rfl, hb⟩; refine ⟨_, rfl, ?_⟩; have n0_ := Aside0.mk (below_step (z3_ HB.out) hb); clear HB; have HB := n0_; clear n0_; (try clear hb); (try clear hb2); (try clear hk); (try clear hi)) | ((with_reducible refine gate_callee (f := 14) rfl ?_); refine goesL_ (some 26) rfl rfl Try.func14 (by kernel_rfl) rfl #[.int .i64 a0] rfl z5_ ?_; (with_reducible refine (vernierref05_Is.calls a0 false _ A5.out).mono ?_); rintro e w' ⟨rfl, ⟨nd, rfl⟩⟩; refine ⟨_, rfl, ?_⟩) | ((with_reducible refine gate_callee (f := 12) rfl ?_); refine goesL_ (some 31) rfl rfl Try.func12 (by kernel_rfl) rfl #[.int .i64 a0, .int .u64 a1, .int .u64 a2] rfl z5_ ?_; (with_reducible refine (prod_Mul.calls k a0 a1 a2 t550 (some q554) _ A6.out).mono ?_); rintro e w57 ⟨rfl, hb⟩; refine ⟨_, rfl, ?_⟩; have n0_ := Aside0.mk (below_step (z3_ HB.out) hb); clear HB; have HB := n0_; clear n0_; (try clear hb); (try clear hb2); (try clear hk); (try clear hi); (try simp only [errW_none, errW_some])) | ((with_reducible refine gate_callee (f := 12) rfl ?_); refine goesL_ (some 38) rfl rfl Try.func12 (by kernel_rfl) rfl #[.int .i64 a0, .int .u64 a2, .int .u64 a1] rfl z5_ ?_; (with_reducible refine (prod_Mul.calls k a0 a2 a1 t552 t553 _ A7.out).mono ?_); rintro e w58 ⟨rfl, hb⟩; refine ⟨_, rfl, ?_⟩; have n0_ := Aside0.mk (below_step (z3_ HB.out) hb); clear HB; have HB := n0_; clear n0_; (try clear hb); (try clear hb2); (try clear hk); (try clear hi); (try simp only [errW_none, errW_some])))
     go_ret
     exact ⟨by first | rfl | (simp [errW_none, errW_some] <;> rfl) | (simp [*, errW_none, errW_some] <;> rfl), by repeat (first | (with_reducible first | exact HB.out | apply below_alloc | apply pw_below_drewN | apply below_drew1) | exact HB.out)⟩
  ·replace c37 := Bool.eq_false_iff.mpr c37
   subst c37
   have H1 : (some false) = some r := by rw [if_neg (show ¬ (false = true) by decide)] at H; exact H
   clear H
   have H := H1
   clear H1
   obtain rfl := Option.some.inj H
   go_enter Try.func5, Try.ntmps5
   go_wp2_with (first | ((with_reducible refine gate_callee (f := 8) rfl ?_); refine goesL_ (some 24) rfl rfl Try.func8 (by kernel_rfl) rfl #[] rfl z5_ ?_; (with_reducible refine (vernierlaw10_up.calls k  false _ A4.out).mono ?_); rintro e w59 ⟨rfl, hb⟩; refine ⟨_, rfl, ?_⟩; have n0_ := Aside0.mk (below_step (z3_ HB.out) hb); clear HB; have HB := n0_; clear n0_; (try clear hb); (try clear hb2); (try clear hk); (try clear hi)) | ((with_reducible refine gate_callee (f := 14) rfl ?_); refine goesL_ (some 26) rfl rfl Try.func14 (by kernel_rfl) rfl #[.int .i64 a0] rfl z5_ ?_; (with_reducible refine (vernierref05_Is.calls a0 false _ A5.out).mono ?_); rintro e w' ⟨rfl, ⟨nd, rfl⟩⟩; refine ⟨_, rfl, ?_⟩) | ((with_reducible refine gate_callee (f := 12) rfl ?_); refine goesL_ (some 31) rfl rfl Try.func12 (by kernel_rfl) rfl #[.int .i64 a0, .int .u64 a1, .int .u64 a2] rfl z5_ ?_; (with_reducible refine (prod_Mul.calls k a0 a1 a2 t550 t551 _ A6.out).mono ?_); rintro e w60 ⟨rfl, hb⟩; refine ⟨_, rfl, ?_⟩; have n0_ := Aside0.mk (below_step (z3_ HB.out) hb); clear HB; have HB := n0_; clear n0_; (try clear hb); (try clear hb2); (try clear hk); (try clear hi); (try simp only [errW_none, errW_some])) | ((with_reducible refine gate_callee (f := 12) rfl ?_); refine goesL_ (some 38) rfl rfl Try.func12 (by kernel_rfl) rfl #[.int .i64 a0, .int .u64 a2, .int .u64 a1] rfl z5_ ?_; (with_reducible refine (prod_Mul.calls k a0 a2 a1 t552 t553 _ A7.out).mono ?_); rintro e w61 ⟨rfl, hb⟩; refine ⟨_, rfl, ?_⟩; have n0_ := Aside0.mk (below_step (z3_ HB.out) hb); clear HB; have HB := n0_; clear n0_; (try clear hb); (try clear hb2); (try clear hk); (try clear hi); (try simp only [errW_none, errW_some])))
   go_ret
   exact ⟨by first | rfl | (simp [errW_none, errW_some] <;> rfl) | (simp [*, errW_none, errW_some] <;> rfl), by repeat (first | (with_reducible first | exact HB.out | apply below_alloc | apply pw_below_drewN | apply below_drew1) | exact HB.out)⟩
def vernierlaw10_ProdLaws.Pure : Prop := ∀ (a0 : Int) (a1 : Int) (a2 : Int), (Lit.int .i64 a0).wf = true → (Lit.int .u64 a1).wf = true → (Lit.int .u64 a2).wf = true → ∃ k, vernierlaw10_ProdLaws.f k a0 a1 a2 = some true
theorem vernierlaw10_ProdLaws.walk (P : vernierlaw10_ProdLaws.Pure) (a0 : Int) (a1 : Int) (a2 : Int) (w : World) (w0 : (Lit.int .i64 a0).wf = true) (w1 : (Lit.int .u64 a1).wf = true) (w2 : (Lit.int .u64 a2).wf = true) :
  Calls Try.prog 5 #[.int .i64 a0, .int .u64 a1, .int .u64 a2] w fun e w' => e = .returned (.bool true) ∧ Below w.heap.size w w' := by
 obtain ⟨k, h⟩ := P a0 a1 a2 w0 w1 w2
 refine (vernierlaw10_ProdLaws.calls k a0 a1 a2 true w h).mono ?_
 rintro e w' ⟨rfl, hd⟩
 exact ⟨rfl, hd⟩
-- ERRCMP
end Go.Proofs.Ytebhpipfkomhjaa.PAll
namespace Go.Proofs.Ytebhpipfkomhjaa.V
open Go Go.RowKit Go.Proofs.YtebhpipfkomhjaaW.PrintWords Go.Proofs.YtebhpipfkomhjaaW.PrintLast Go.Proofs.YtebhpipfkomhjaaW.PrintMore Go.Proofs.Ytebhpipfkomhjaa.PAll
set_option linter.unusedVariables false
set_option linter.unusedSimpArgs false
theorem shl_hi (V k : Nat) (h : V < 2 ^ 128) (hk : k ≤ 64) :
    V * 2 ^ k % 2 ^ 128 / 2 ^ 64 = V / 2 ^ 64 * 2 ^ k % 2 ^ 64 + V % 2 ^ 64 / 2 ^ (64 - k) := by
  have s := pow_split hk
  have p1 := two_pos k
  have p2 := two_pos (64 - k)
  rw [show (2:Nat)^128 = 2^64 * 2^64 by decide, Nat.mod_mul_right_div_self]
  generalize hq : V / 2 ^ 64 = q
  generalize hr : V % 2 ^ 64 = r
  have hV : V = q * 2 ^ 64 + r := by subst hq hr; have := Nat.div_add_mod V (2^64); omega
  have hr' : r < 2 ^ 64 := by subst hr; exact Nat.mod_lt _ (two_pos 64)
  generalize hb : r / 2 ^ (64 - k) = b
  generalize hc : r % 2 ^ (64 - k) = c
  have hr2 : r = 2 ^ (64 - k) * b + c := by subst hb hc; exact (Nat.div_add_mod _ _).symm
  have hc' : c < 2 ^ (64 - k) := by subst hc; exact Nat.mod_lt _ p2
  have hb' : b < 2 ^ k := by subst hb; rw [Nat.div_lt_iff_lt_mul p2]; rw [s]; exact hr'
  have e : V * 2 ^ k = (q * 2 ^ k + b) * 2 ^ 64 + c * 2 ^ k := by
    rw [hV, hr2, ← s]; grind
  have hc2 : c * 2 ^ k < 2 ^ 64 := by
    rw [← s, Nat.mul_comm]; exact Nat.mul_lt_mul_of_pos_left hc' p1
  have d : V * 2 ^ k / 2 ^ 64 = q * 2 ^ k + b := by
    rw [e, Nat.add_comm, Nat.add_mul_div_right _ _ (two_pos 64), Nat.div_eq_of_lt hc2]; omega
  rw [d]
  have m1 : q * 2 ^ k % 2 ^ 64 = q % 2 ^ (64 - k) * 2 ^ k := by
    rw [← s, Nat.mul_comm (2 ^ k), Nat.mul_mod_mul_right]
  have m2 : q % 2 ^ (64 - k) * 2 ^ k + b < 2 ^ 64 := by
    have : q % 2 ^ (64 - k) + 1 ≤ 2 ^ (64 - k) := Nat.mod_lt _ p2
    have := Nat.mul_le_mul_right (2 ^ k) this
    rw [Nat.mul_comm (2 ^ (64 - k)), s, Nat.add_mul] at this
    omega
  rw [Nat.add_mod, m1, Nat.mod_eq_of_lt (Nat.lt_of_lt_of_le hb' (pow_le hk)), Nat.mod_eq_of_lt m2]
theorem twin_shl_eq (V k : Nat) (h : V < 2 ^ 128) (hk : k ≤ 128) :
    twin_shl.f (TH V) (TL V) (k : Int) = some (TH (V * 2 ^ k % 2 ^ 128), TL (V * 2 ^ k % 2 ^ 128)) := by
  unfold twin_shl.f
  have hT : V / 18446744073709551616 < 18446744073709551616 := by rw [p128] at h; omega
  have hL : V % 18446744073709551616 < 18446744073709551616 := by omega
  by_cases h64 : 64 ≤ k
  · rw [if_pos (by omega), w64 (by omega) (by omega), if_pos (by omega)]
    have e : ((k : Int) - 64) = ((k - 64 : Nat) : Int) := by omega
    rw [e]
    unfold TL TH
    rw [shl_nat _ _ (by omega)]
    have s : (2 : Nat) ^ k = 2 ^ 64 * 2 ^ (k - 64) := by rw [← Nat.pow_add]; congr 1; omega
    have g : V * 2 ^ k = V * 2 ^ (k - 64) * 18446744073709551616 := by rw [s, p64]; grind
    have g1 : V % 18446744073709551616 * 2 ^ (k - 64) % 18446744073709551616 = V * 2 ^ k % 2 ^ 128 / 18446744073709551616 := by
      rw [p128, mod128_hi, g, Nat.mul_div_cancel _ (by decide), Nat.mod_mul_mod]
    have g2 : V * 2 ^ k % 2 ^ 128 % 18446744073709551616 = 0 := by rw [g, p128]; omega
    rw [g1, g2]
    rfl
  · rw [if_neg (by omega), if_pos (by omega), w64 (by omega) (by omega), if_pos (by omega)]
    have e : (64 - (k : Int)) = ((64 - k : Nat) : Int) := by omega
    rw [e]
    unfold TL TH
    rw [shl_nat _ _ (by omega), shl_nat _ _ (by omega), shr_nat _ _ (by omega)]
    have hh := shl_hi V k h (by omega)
    have p2 := two_pos (64 - k)
    have s := pow_split (show k ≤ 64 by omega)
    rw [or_add _ _ k (Nat.mod_lt _ (by decide)) ?_ ?_ ?_]
    · congr 3
      · rw [← p64, hh]
      · rw [Nat.mod_mul_mod, p128]; omega
    · rw [← p64, ← s, Nat.mod_mul_right_mod, Nat.mul_mod_left]
    · rw [Nat.div_lt_iff_lt_mul p2, s, p64]; exact hL
    · exact Nat.lt_of_le_of_lt (Nat.div_le_self _ _) hL
theorem shr_lo (V k : Nat) (hk : k ≤ 64) : V / 2 ^ k % 2 ^ 64 = V % 2 ^ 64 / 2 ^ k + V / 2 ^ 64 * 2 ^ (64 - k) % 2 ^ 64 := by
  have s := pow_split hk
  have p1 := two_pos k
  have p2 := two_pos (64 - k)
  generalize hq : V / 2 ^ 64 = q
  generalize hr : V % 2 ^ 64 = r
  have hV : V = q * 2 ^ 64 + r := by subst hq hr; have := Nat.div_add_mod V (2^64); omega
  have hr' : r < 2 ^ 64 := by subst hr; exact Nat.mod_lt _ (two_pos 64)
  have e : V / 2 ^ k = r / 2 ^ k + q * 2 ^ (64 - k) := by
    rw [hV, ← s, show q * (2 ^ k * 2 ^ (64 - k)) + r = r + q * 2 ^ (64 - k) * 2 ^ k by grind, Nat.add_mul_div_right _ _ p1]
  have hb : r / 2 ^ k < 2 ^ (64 - k) := by rw [Nat.div_lt_iff_lt_mul p1, Nat.mul_comm, s]; exact hr'
  have m1 : q * 2 ^ (64 - k) % 2 ^ 64 = q % 2 ^ k * 2 ^ (64 - k) := by
    rw [← s, Nat.mul_mod_mul_right]
  have m2 : r / 2 ^ k + q % 2 ^ k * 2 ^ (64 - k) < 2 ^ 64 := by
    have : q % 2 ^ k + 1 ≤ 2 ^ k := Nat.mod_lt _ p1
    have := Nat.mul_le_mul_right (2 ^ (64 - k)) this
    rw [s, Nat.add_mul] at this
    omega
  rw [e, Nat.add_mod, m1, Nat.mod_eq_of_lt (Nat.lt_of_lt_of_le hb (pow_le (by omega))), Nat.mod_eq_of_lt m2]
theorem twin_shr_eq (V k : Nat) (h : V < 2 ^ 128) (hk : k ≤ 128) :
    twin_shr.f (TH V) (TL V) (k : Int) = some (TH (V / 2 ^ k), TL (V / 2 ^ k)) := by
  unfold twin_shr.f
  have hT : V / 18446744073709551616 < 18446744073709551616 := by rw [p128] at h; omega
  have hL : V % 18446744073709551616 < 18446744073709551616 := by omega
  by_cases h64 : 64 ≤ k
  · rw [if_pos (by omega), w64 (by omega) (by omega), if_pos (by omega)]
    have e : ((k : Int) - 64) = ((k - 64 : Nat) : Int) := by omega
    rw [e]
    unfold TL TH
    rw [shr_nat _ _ (by omega)]
    have s : (2 : Nat) ^ k = 2 ^ 64 * 2 ^ (k - 64) := by rw [← Nat.pow_add]; congr 1; omega
    have lt : V / 2 ^ k < 2 ^ 64 := by
      rw [s, ← Nat.div_div_eq_div_mul, p64]
      exact Nat.lt_of_le_of_lt (Nat.div_le_self _ _) hT
    rw [Nat.div_eq_of_lt (show V / 2 ^ k < 18446744073709551616 by rw [← p64]; exact lt), Nat.mod_eq_of_lt (show V / 2 ^ k < 18446744073709551616 by rw [← p64]; exact lt), s, ← Nat.div_div_eq_div_mul, p64]
    rfl
  · rw [if_neg (by omega), if_pos (by omega), w64 (by omega) (by omega), if_pos (by omega)]
    have e : (64 - (k : Int)) = ((64 - k : Nat) : Int) := by omega
    rw [e]
    unfold TL TH
    rw [shr_nat _ _ (by omega), shr_nat _ _ (by omega), shl_nat _ _ (by omega)]
    have hh := shr_lo V k (by omega)
    have p1 := two_pos k
    have s := pow_split (show k ≤ 64 by omega)
    have hs : V % 18446744073709551616 / 2 ^ k < 2 ^ (64 - k) := by rw [Nat.div_lt_iff_lt_mul p1, Nat.mul_comm, s, p64]; exact hL
    have oc : Go.bits .or .u64 ((V % 18446744073709551616 / 2 ^ k : Nat) : Int) ((V / 18446744073709551616 * 2 ^ (64 - k) % 18446744073709551616 : Nat) : Int) = ((V % 18446744073709551616 / 2 ^ k + V / 18446744073709551616 * 2 ^ (64 - k) % 18446744073709551616 : Nat) : Int) := by
      rw [or_nat _ _ (Nat.lt_of_le_of_lt (Nat.div_le_self _ _) hL) (Nat.mod_lt _ (by decide)), Nat.or_comm]
      have e2 : V / 18446744073709551616 * 2 ^ (64 - k) % 18446744073709551616 = V / 18446744073709551616 % 2 ^ k * 2 ^ (64 - k) := by
        rw [← p64, ← s, Nat.mul_mod_mul_right]
      rw [e2, or_parts hs, Nat.add_comm]
    have g1 : V / 18446744073709551616 / 2 ^ k = V / 2 ^ k / 18446744073709551616 := by rw [Nat.div_div_eq_div_mul, Nat.div_div_eq_div_mul, Nat.mul_comm]
    rw [oc, g1, ← p64, hh]
theorem twin_Len_eq (V : Nat) (h : V < 2 ^ 128) : twin_Len.f (TH V) (TL V) = some ((bl V : Nat) : Int) := by
  unfold twin_Len.f bits_Len64.f TH TL
  have hT : V / 18446744073709551616 < 18446744073709551616 := by rw [p128] at h; omega
  have hL : V % 18446744073709551616 < 18446744073709551616 := by omega
  have c1 := bl_le_of_lt h
  by_cases h0 : 0 < V / 18446744073709551616
  · rw [if_pos (by omega), if_pos ⟨by omega, by omega⟩]
    simp only [Option.bind_some]
    have e : Lib.bitLen (V / 18446744073709551616) = bl (V / 18446744073709551616) := bitLen_bl (by rw [p64]; exact hT)
    have c2 := bl_le_of_lt (show V / 18446744073709551616 < 2 ^ 64 by rw [p64]; exact hT)
    have a := bl_lt (V / 18446744073709551616)
    have b := bl_le h0
    have c := bl_pos h0
    have l : bl V = 64 + bl (V / 18446744073709551616) := by
      refine bl_unique (by omega) ?_ ?_
      · rw [show 64 + bl (V / 18446744073709551616) - 1 = 64 + (bl (V / 18446744073709551616) - 1) by omega, Nat.pow_add, p64]
        have := Nat.div_mul_le_self V 18446744073709551616
        have := Nat.mul_le_mul_left 18446744073709551616 b
        omega
      · rw [Nat.pow_add, p64]
        have e := Nat.div_add_mod V 18446744073709551616
        have := Nat.mul_le_mul_left 18446744073709551616 a
        omega
    rw [Int.toNat_natCast, e, w64 (by omega) (by omega), l]
    congr 1
  · rw [if_neg (by omega), if_pos ⟨by omega, by omega⟩]
    simp only [Option.bind_some]
    rw [Int.toNat_natCast, bitLen_bl (by rw [p64]; exact hL)]
    have : V % 18446744073709551616 = V := by omega
    rw [this]
theorem twin_Shl_eq (V k : Nat) (h : V < 2 ^ 128) (hk : k ≤ 128) :
    twin_Shl.f (TH V) (TL V) (k : Int) = some (TH (V * 2 ^ k % 2 ^ 128), TL (V * 2 ^ k % 2 ^ 128), decide (128 < bl V + k), none) := by
  unfold twin_Shl.f
  rw [if_neg (by omega)]
  have e : mn (k : Int) 128 = k := by unfold mn; rw [if_neg (by omega)]
  rw [e, twin_shl_eq V k h hk]
  simp only [Option.bind_some]
  rw [twin_Len_eq V h]
  simp only [Option.bind_some]
  have c1 := bl_le_of_lt h
  rw [w64 (by omega) (by omega)]
  congr 4
  rw [decide_eq_decide]
  omega
theorem twin_Shr_eq (V k : Nat) (h : V < 2 ^ 128) (hk : k ≤ 128) :
    twin_Shr.f (TH V) (TL V) (k : Int) = some (TH (V / 2 ^ k), TL (V / 2 ^ k), decide (V % 2 ^ k ≠ 0), none) := by
  unfold twin_Shr.f
  rw [if_neg (by omega)]
  have e : mn (k : Int) 128 = k := by unfold mn; rw [if_neg (by omega)]
  rw [e, twin_shr_eq V k h hk]
  simp only [Option.bind_some]
  have h2 : V / 2 ^ k < 2 ^ 128 := Nat.lt_of_le_of_lt (Nat.div_le_self _ _) h
  rw [twin_shl_eq _ k h2 hk]
  simp only [Option.bind_some]
  have hm : V / 2 ^ k * 2 ^ k % 2 ^ 128 = V / 2 ^ k * 2 ^ k := Nat.mod_eq_of_lt (Nat.lt_of_le_of_lt (Nat.div_mul_le_self _ _) h)
  rw [hm]
  have hd := Nat.div_add_mod V (2 ^ k)
  rw [Nat.mul_comm] at hd
  have key : (!(TH (V / 2 ^ k * 2 ^ k) == TH V) || !(TL (V / 2 ^ k * 2 ^ k) == TL V)) = decide (V % 2 ^ k ≠ 0) := by
    by_cases hz : V % 2 ^ k = 0
    · have : V / 2 ^ k * 2 ^ k = V := by omega
      rw [this]; simp [hz]
    · have : V / 2 ^ k * 2 ^ k ≠ V := by omega
      have hne : ¬ (TH (V / 2 ^ k * 2 ^ k) = TH V ∧ TL (V / 2 ^ k * 2 ^ k) = TL V) := fun ⟨h1, h2⟩ => this (T_eq h1 h2)
      rw [decide_eq_true hz]
      by_cases h1 : TH (V / 2 ^ k * 2 ^ k) = TH V
      · have h2 : TL (V / 2 ^ k * 2 ^ k) ≠ TL V := fun h2 => hne ⟨h1, h2⟩
        simp [h1, h2]
      · simp [h1]
  rw [key]
theorem twin_Norm_zero : twin_Norm.f 0 0 = some (0, 0, 0) := by unfold twin_Norm.f; rfl
theorem twin_Norm_eq (V : Nat) (h : V < 2 ^ 128) (h0 : 0 < V) :
    twin_Norm.f (TH V) (TL V) = some (TH (V * 2 ^ (128 - bl V)), TL (V * 2 ^ (128 - bl V)), ((128 - bl V : Nat) : Int)) := by
  unfold twin_Norm.f
  have c1 := bl_le_of_lt h
  have hz : ¬ (TH V == 0 && TL V == 0) = true := by
    intro hc
    simp only [Bool.and_eq_true, beq_iff_eq] at hc
    unfold TH TL at hc; omega
  rw [if_neg hz, twin_Len_eq V h]
  simp only [Option.bind_some]
  rw [w64 (by omega) (by omega)]
  have e : (128 - (bl V : Int)) = ((128 - bl V : Nat) : Int) := by omega
  rw [e, twin_shl_eq V _ h (by omega)]
  simp only [Option.bind_some]
  have hm : V * 2 ^ (128 - bl V) % 2 ^ 128 = V * 2 ^ (128 - bl V) := by
    refine Nat.mod_eq_of_lt ?_
    rw [← pow_split c1]
    exact Nat.mul_lt_mul_of_pos_right (bl_lt V) (two_pos _)
  rw [hm]
end Go.Proofs.Ytebhpipfkomhjaa.V
namespace Go.Proofs.Ytebhpipfkomhjaa.V
open Go Go.RowKit Go.Proofs.YtebhpipfkomhjaaW.PrintWords Go.Proofs.YtebhpipfkomhjaaW.PrintLast Go.Proofs.YtebhpipfkomhjaaW.PrintMore Go.Proofs.Ytebhpipfkomhjaa.PAll
set_option linter.unusedVariables false
set_option linter.unusedSimpArgs false
def isW (n : Int) : Bool := n == 8 || n == 16 || n == 32 || n == 64
theorem isW_cases {n : Int} (h : isW n = true) : n = 8 ∨ n = 16 ∨ n = 32 ∨ n = 64 := by
  unfold isW at h; simp at h; omega
theorem isW_nat {n : Int} (h : isW n = true) : ∃ m : Nat, n = m ∧ (m = 8 ∨ m = 16 ∨ m = 32 ∨ m = 64) := by
  rcases isW_cases h with h | h | h | h
  · exact ⟨8, h, .inl rfl⟩
  · exact ⟨16, h, .inr (.inl rfl)⟩
  · exact ⟨32, h, .inr (.inr (.inl rfl))⟩
  · exact ⟨64, h, .inr (.inr (.inr rfl))⟩
theorem shape_is_eq (n : Int) : shape_is.f n = some (isW n) := by
  unfold shape_is.f isW
  by_cases h1 : n = 8
  · simp [h1]
  · by_cases h2 : n = 16
    · simp [h2]
    · by_cases h3 : n = 32
      · simp [h3]
      · by_cases h4 : n = 64
        · simp [h4]
        · simp [h1, h2, h3, h4]
theorem shape_Of_eq {n : Nat} (h : isW n = true) : shape_Of.f n = some ((n : Int), ((2 ^ (n - 1) - 1 : Nat) : Int), 1, ((2 ^ (n - 1) : Nat) : Int), 4 * (n : Int) - 8, none) := by
  unfold shape_Of.f
  rw [shape_is_eq, h]
  have h' : n = 8 ∨ n = 16 ∨ n = 32 ∨ n = 64 := by have := isW_cases h; omega
  rcases h' with rfl | rfl | rfl | rfl <;> decide +kernel
def soundE (kd : Int) (ng : Bool) (sc hi lo : Int) (rs : Bool) : Bool :=
  if kd = 0 ∨ kd = 2 then (!ng && (sc == 0 && (hi == 0 && (lo == 0 && !rs))))
  else decide (kd = 1 ∧ 9223372036854775808 ≤ hi ∧ -1099511627776 ≤ sc ∧ sc ≤ 1099511627776)
def heldI (s : Int) : Int := if s < -1099511627776 then -1099511627776 else if 1099511627776 < s then 1099511627776 else s
theorem round_held_eq (s : Int) : round_held.f s = some (heldI s) := by
  unfold round_held.f heldI mx mn
  congr 1
  repeat' split
  all_goals omega
theorem round_sound_eq (kd : Int) (ng : Bool) (sc hi lo : Int) (rs : Bool) (h : hi < 18446744073709551616) (h0 : 0 ≤ hi) :
    Ev (fun k => round_sound.f k kd ng sc hi lo rs) (soundE kd ng sc hi lo rs) := by
  unfold round_sound.f soundE
  by_cases h0 : kd = 0
  · simp only [if_pos h0, if_pos (Or.inl h0 : kd = 0 ∨ kd = 2)]
    refine Ev.step (f := fun _ => _) (fun k => by simp only [round_sound.j0]; rw [if_pos (by simp [h0])]) (Ev.now _)
  · simp only [if_neg h0]
    by_cases h2 : kd = 2
    · simp only [if_pos (Or.inr h2 : kd = 0 ∨ kd = 2)]
      refine Ev.step (f := fun _ => _) (fun k => by simp only [round_sound.j0]; rw [if_pos (by simp [h2])]) (Ev.now _)
    · simp only [if_neg (show ¬ (kd = 0 ∨ kd = 2) by omega)]
      refine Ev.step (f := fun _ => _) (fun k => by simp only [round_sound.j0]; rw [if_neg (by simp [h2])]) ?_
      simp only [round_held_eq, Option.bind_some]
      refine Ev.congr (f := fun _ => some _) (fun _ => ?_) (Ev.now _)
      by_cases h1 : kd = 1
      · rw [if_pos h1]
        by_cases h3 : hi / 9223372036854775808 = 1
        · rw [if_pos h3]
          congr 1
          rw [Bool.eq_iff_iff]
          simp only [beq_iff_eq, decide_eq_true_eq, heldI]
          split
          · omega
          · split <;> omega
        · rw [if_neg h3]
          congr 1
          symm
          rw [decide_eq_false_iff_not]
          omega
      · rw [if_neg h1]
        congr 1
        symm
        rw [decide_eq_false_iff_not]
        omega
theorem round_under_eq (X a b m : Nat) (R : Bool) (hX : X < 2 ^ (128 + a)) (hb : b < 2 ^ m) (hm : m ≤ 64) :
    round_under.f (TH (X / 2 ^ a)) (TL (X / 2 ^ a)) (b : Int) (m : Int) (R || decide (X % 2 ^ a ≠ 0)) =
      some (TH ((b * 2 ^ (128 + a) + X) / 2 ^ (a + m)), TL ((b * 2 ^ (128 + a) + X) / 2 ^ (a + m)), R || decide ((b * 2 ^ (128 + a) + X) % 2 ^ (a + m) ≠ 0)) := by
  unfold round_under.f
  have pa := two_pos a
  have pm := two_pos m
  have hw : X / 2 ^ a < 2 ^ 128 := by rw [Nat.div_lt_iff_lt_mul pa, ← Nat.pow_add]; exact hX
  rw [twin_Shr_eq _ m hw (by omega)]
  simp only [Option.bind_some]
  rw [w64 (by omega) (by omega), if_pos (by omega)]
  have e64 : (64 - (m : Int)) = ((64 - m : Nat) : Int) := by omega
  rw [e64, shl_nat _ _ (by omega)]
  -- the new string's upper bits
  have s := pow_split hm
  have hbl : b * 2 ^ (64 - m) < 2 ^ 64 := by rw [← s]; exact Nat.mul_lt_mul_of_pos_right hb (two_pos _)
  rw [Nat.mod_eq_of_lt (show b * 2 ^ (64 - m) < 18446744073709551616 by rw [← p64]; exact hbl)]
  generalize hw2 : X / 2 ^ a = w at hw
  have e1 : (b * 2 ^ (128 + a) + X) / 2 ^ (a + m) = b * 2 ^ (128 - m) + w / 2 ^ m := by
    have s1 : b * 2 ^ (128 + a) = b * 2 ^ (128 - m) * 2 ^ (a + m) := by
      rw [Nat.mul_assoc, ← Nat.pow_add]; congr 2; omega
    rw [s1, Nat.add_comm, Nat.add_mul_div_right _ _ (two_pos _), Nat.pow_add, ← Nat.div_div_eq_div_mul, hw2, Nat.add_comm]
  have hwm : w / 2 ^ m < 2 ^ (128 - m) := by
    rw [Nat.div_lt_iff_lt_mul pm, Nat.mul_comm, pow_split (by omega)]; exact hw
  have e2 : b * 2 ^ (128 - m) = b * 2 ^ (64 - m) * 18446744073709551616 := by
    rw [← p64, Nat.mul_assoc, ← Nat.pow_add]; congr 2; omega
  have hq : w / 2 ^ m / 18446744073709551616 < 2 ^ (64 - m) := by
    rw [← p64, Nat.div_lt_iff_lt_mul (two_pos 64), ← Nat.pow_add]
    exact Nat.lt_of_lt_of_eq hwm (by congr 1; omega)
  have hor : Go.bits .or .u64 (TH (w / 2 ^ m)) ((b * 2 ^ (64 - m) : Nat) : Int) = TH (b * 2 ^ (128 - m) + w / 2 ^ m) := by
    unfold TH
    have hlt : w / 2 ^ m / 18446744073709551616 < 18446744073709551616 := Nat.lt_of_lt_of_le hq (by rw [← p64]; exact pow_le (by omega))
    rw [or_nat _ _ hlt (by rw [← p64]; exact hbl), Nat.or_comm, or_parts hq, e2]
    congr 1
    omega
  have hlo : TL (w / 2 ^ m) = TL (b * 2 ^ (128 - m) + w / 2 ^ m) := by unfold TL; rw [e2]; congr 1; omega
  have e3 : decide ((b * 2 ^ (128 + a) + X) % 2 ^ (a + m) ≠ 0) = (decide (X % 2 ^ a ≠ 0) || decide (w % 2 ^ m ≠ 0)) := by
    have s1 : b * 2 ^ (128 + a) = b * 2 ^ (128 - m) * 2 ^ (a + m) := by
      rw [Nat.mul_assoc, ← Nat.pow_add]; congr 2; omega
    have s2 : (b * 2 ^ (128 + a) + X) % 2 ^ (a + m) = X % 2 ^ (a + m) := by rw [s1, Nat.mul_add_mod_self_right]
    have s3 : X % 2 ^ (a + m) = 2 ^ a * (w % 2 ^ m) + X % 2 ^ a := by
      rw [Nat.pow_add, Nat.mod_mul, hw2, Nat.add_comm]
    rw [s2, s3, Bool.eq_iff_iff]
    simp only [Bool.or_eq_true, decide_eq_true_eq]
    have hz : 2 ^ a * (w % 2 ^ m) = 0 ↔ w % 2 ^ m = 0 := by
      rw [Nat.mul_eq_zero]; constructor
      · rintro (h | h)
        · omega
        · exact h
      · exact .inr
    omega
  rw [hor, hlo, e1, e3]
  cases R <;> by_cases hd : X % 2 ^ a = 0 <;> simp [hd]
theorem round_left_eq (b : Nat) (R : Bool) (hb : b < 18446744073709551616) : Ev (fun k => round_left.f k (b : Int) R) (lft b 64 R) := by
  unfold round_left.f lft
  rw [p64]
  by_cases h1 : (b : Int) > 9223372036854775808
  · simp only [if_pos h1, if_pos (show 18446744073709551616 < 2 * b by omega)]
    exact Ev.step (f := fun _ => some 3) (fun k => by simp only [round_left.j0]; rw [if_pos (by simpa using h1)]) (Ev.now _)
  · simp only [if_neg h1, if_neg (show ¬ 18446744073709551616 < 2 * b by omega)]
    by_cases h2 : (b : Int) = 9223372036854775808
    · simp only [if_pos h2, if_pos (show 2 * b = 18446744073709551616 by omega)]
      refine evs ?_
      simp only [round_left.j0]
      refine evn ?_
      cases R
      · simp [h2]
      · simp
    · simp only [if_neg h2, if_neg (show ¬ 2 * b = 18446744073709551616 by omega)]
      refine evs ?_
      simp only [round_left.j0]
      refine evn ?_
      by_cases h3 : 0 < b
      · rw [if_neg (by simp), if_neg h2, if_pos (by omega), if_pos h3]
      · rw [if_neg (by simp), if_neg h2, if_neg (by omega), if_neg h3]
        cases R <;> simp
theorem round_Cut_j3 (n X a : Nat) (R : Bool) (h8 : 8 ≤ n) (h64 : n ≤ 64) (hX : X < 2 ^ (128 + a)) :
    Ev (fun k => round_Cut.j3 k (n : Int) (R || decide (X % 2 ^ a ≠ 0)) (TH (X / 2 ^ a)) (TL (X / 2 ^ a)))
      (((X / 2 ^ (129 - n + a) : Nat) : Int), lft (X % 2 ^ (129 - n + a)) (129 - n + a) R, none) := by
  have pa := two_pos a
  have hw : X / 2 ^ a < 2 ^ 128 := by rw [Nat.div_lt_iff_lt_mul pa, ← Nat.pow_add]; exact hX
  generalize hw2 : X / 2 ^ a = w at hw
  refine evs ?_
  simp only [round_Cut.j3]
  have e1 : wrap64 (65 - (n : Int)) = ((65 - n : Nat) : Int) := by rw [w64 (by omega) (by omega)]; omega
  have e2 : wrap64 ((n : Int) - 1) = ((n - 1 : Nat) : Int) := by rw [w64 (by omega) (by omega)]; omega
  simp only [e1, e2, if_pos (show (0 : Int) ≤ ((65 - n : Nat) : Int) by omega)]
  simp only [twin_Shl_eq w (n - 1) hw (by omega), Option.bind_some]
  -- what is behind
  have hsplit : w * 2 ^ (n - 1) % 2 ^ 128 = w % 2 ^ (129 - n) * 2 ^ (n - 1) := by
    have e : (2 : Nat) ^ 128 = 2 ^ (129 - n) * 2 ^ (n - 1) := by rw [← Nat.pow_add]; congr 1; omega
    rw [e, Nat.mul_mod_mul_right]
  generalize hb : w * 2 ^ (n - 1) % 2 ^ 128 = bh at hsplit
  have hbh : bh < 340282366920938463463374607431768211456 := by rw [← hb, ← p128]; exact Nat.mod_lt _ (two_pos 128)
  have hP : shr .u64 (TH w) ((65 - n : Nat) : Int) = ((X / 2 ^ (129 - n + a) : Nat) : Int) := by
    unfold TH
    rw [shr_nat _ _ (by omega), ← p64, div_div_pow, ← hw2, div_div_pow]
    congr 3; omega
  have hL : ∀ R' : Bool, R' = (R || decide (X % 2 ^ a ≠ 0)) → lft (bh / 18446744073709551616) 64 (R' || decide (bh % 18446744073709551616 ≠ 0)) = lft (X % 2 ^ (129 - n + a)) (129 - n + a) R := by
    intro R' hR
    have a1 := lft_split (bh / 18446744073709551616) (bh % 18446744073709551616) 64 64 R' (by rw [p64]; omega) (by omega)
    rw [p64, show bh / 18446744073709551616 * 18446744073709551616 + bh % 18446744073709551616 = bh by omega] at a1
    rw [← a1, hsplit, show 64 + 64 = (129 - n) + (n - 1) by omega, lft_scale _ _ _ _ (by omega), hR]
    have a2 := lft_split (w % 2 ^ (129 - n)) (X % 2 ^ a) a (129 - n) R (Nat.mod_lt _ pa) (by omega)
    rw [← a2]
    congr 1
    rw [Nat.add_comm (129 - n) a, Nat.pow_add, Nat.mod_mul, hw2, Nat.mul_comm, Nat.add_comm]
  by_cases h0 : TL bh = 0
  · simp only [if_pos h0]
    have hz : bh % 18446744073709551616 = 0 := by unfold TL at h0; omega
    have hl := hL _ rfl
    rw [hz] at hl
    simp only [ne_eq, not_true_eq_false, decide_false, Bool.or_false] at hl
    refine Ev.bind (a := lft (bh / 18446744073709551616) 64 (R || decide (X % 2 ^ a ≠ 0))) ?_ ?_
    · exact round_left_eq (bh / 18446744073709551616) _ (by omega)
    · rw [hP]
      simp only [ne_eq] at hl ⊢
      rw [hl]
      exact Ev.now _
  · simp only [if_neg h0]
    have hz : bh % 18446744073709551616 ≠ 0 := by unfold TL at h0; omega
    have hl := hL _ rfl
    rw [decide_eq_true hz, Bool.or_true] at hl
    refine Ev.bind (a := lft (bh / 18446744073709551616) 64 true) ?_ ?_
    · exact round_left_eq (bh / 18446744073709551616) _ (by omega)
    · rw [hP, hl]
      exact Ev.now _
theorem round_Cut_l0 (n : Nat) (R : Bool) (b : Nat) (h8 : 8 ≤ n) (h64 : n ≤ 64) (hb : b ≤ 64) : ∀ (d i X a : Nat), i + d = b → X < 2 ^ (128 + a) →
    Ev (fun k => round_Cut.l0 k (n : Int) (R || decide (X % 2 ^ a ≠ 0)) (b : Int) (i : Int) (TH (X / 2 ^ a)) (TL (X / 2 ^ a)))
      ((((((2 ^ d - 1) * 2 ^ (128 + a) + X) / 2 ^ (129 - n + (a + d)) : Nat)) : Int), lft (((2 ^ d - 1) * 2 ^ (128 + a) + X) % 2 ^ (129 - n + (a + d))) (129 - n + (a + d)) R, none)
  | 0, i, X, a, hi, hX => by
    refine evs ?_
    simp only [round_Cut.l0]
    simp only [if_neg (show ¬ (i : Int) < (b : Int) by omega)]
    have := round_Cut_j3 n X a R h8 h64 hX
    simpa using this
  | d + 1, i, X, a, hi, hX => by
    refine evs ?_
    simp only [round_Cut.l0]
    simp only [if_pos (show (i : Int) < (b : Int) by omega)]
    have u := round_under_eq X a 1 1 R hX (by decide) (by decide)
    simp only [Nat.one_mul] at u
    have u' : round_under.f (TH (X / 2 ^ a)) (TL (X / 2 ^ a)) 1 1 (R || decide (X % 2 ^ a ≠ 0)) = _ := u
    simp only [u', Option.bind_some]
    have e : wrap64 ((i : Int) + 1) = ((i + 1 : Nat) : Int) := by rw [w64 (by omega) (by omega)]; omega
    rw [e]
    have hX' : 2 ^ (128 + a) + X < 2 ^ (128 + (a + 1)) := by
      rw [show 128 + (a + 1) = 128 + a + 1 by omega, Nat.pow_succ]; omega
    have ih := round_Cut_l0 n R b h8 h64 hb d (i + 1) (2 ^ (128 + a) + X) (a + 1) (by omega) hX'
    have e2 : (2 ^ d - 1) * 2 ^ (128 + (a + 1)) + (2 ^ (128 + a) + X) = (2 ^ (d + 1) - 1) * 2 ^ (128 + a) + X := by
      have p := two_pos d
      obtain ⟨q, hq⟩ : ∃ q, 2 ^ d = q + 1 := ⟨2 ^ d - 1, by omega⟩
      rw [show 128 + (a + 1) = 128 + a + 1 by omega, Nat.pow_succ 2 (128 + a), Nat.pow_succ 2 d, hq]
      generalize 2 ^ (128 + a) = Z
      rw [show (q + 1) * 2 - 1 = 2 * q + 1 by omega, show q + 1 - 1 = q by omega]
      grind
    rw [e2, show a + 1 + d = a + (d + 1) by omega] at ih
    exact ih
theorem round_Cut_l1 (n : Nat) (R : Bool) (b : Nat) (h8 : 8 ≤ n) (h64 : n ≤ 64) (hb : b ≤ 64) : ∀ (d i X a : Nat), i + d = b → X < 2 ^ (128 + a) →
    Ev (fun k => round_Cut.l1 k (n : Int) (R || decide (X % 2 ^ a ≠ 0)) (b : Int) (i : Int) (TH (X / 2 ^ a)) (TL (X / 2 ^ a)))
      (((X / 2 ^ (129 - n + (a + d)) : Nat) : Int), lft (X % 2 ^ (129 - n + (a + d))) (129 - n + (a + d)) R, none)
  | 0, i, X, a, hi, hX => by
    refine evs ?_
    simp only [round_Cut.l1]
    simp only [if_neg (show ¬ (i : Int) < (b : Int) by omega)]
    exact round_Cut_j3 n X a R h8 h64 hX
  | d + 1, i, X, a, hi, hX => by
    refine evs ?_
    simp only [round_Cut.l1]
    simp only [if_pos (show (i : Int) < (b : Int) by omega)]
    have u := round_under_eq X a 0 1 R hX (by decide) (by decide)
    simp only [Nat.zero_mul, Nat.zero_add] at u
    have u' : round_under.f (TH (X / 2 ^ a)) (TL (X / 2 ^ a)) 0 1 (R || decide (X % 2 ^ a ≠ 0)) = _ := u
    simp only [u', Option.bind_some]
    have e : wrap64 ((i : Int) + 1) = ((i + 1 : Nat) : Int) := by rw [w64 (by omega) (by omega)]; omega
    rw [e]
    have hX' : X < 2 ^ (128 + (a + 1)) := Nat.lt_of_lt_of_le hX (pow_le (by omega))
    have ih := round_Cut_l1 n R b h8 h64 hb d (i + 1) X (a + 1) (by omega) hX'
    rw [show a + 1 + d = a + (d + 1) by omega] at ih
    exact ih
theorem round_Cut_j0_eq (n f : Nat) (kd : Int) (ng : Bool) (s : Int) (R : Bool) (hn : isW n = true) (h0 : -(4 * (n : Int) - 8) ≤ s) (h1 : s < 4 * (n : Int) - 8) (hf : f < 2 ^ 127) :
    Ev (fun k => round_Cut.j0 k (n : Int) kd ng s (TH (2 ^ 127 + f)) (TL (2 ^ 127 + f)) R) (((cutP n (sig s f) : Nat) : Int), cutL n (sig s f) R, none) := by
  have hn' : n = 8 ∨ n = 16 ∨ n = 32 ∨ n = 64 := by have := isW_cases hn; omega
  have h8 : 8 ≤ n := by omega
  have h64 : n ≤ 64 := by omega
  have hV : 2 ^ 127 + f < 2 ^ 128 := by rw [show (2 : Nat) ^ 128 = 2 * 2 ^ 127 by decide]; omega
  refine evs ?_
  simp only [round_Cut.j0]
  have s1 := twin_Shl_eq (2 ^ 127 + f) 1 hV (by decide)
  have m1 : (2 ^ 127 + f) * 2 ^ 1 % 2 ^ 128 = 2 * f := by rw [p127, p128] at *; omega
  rw [m1] at s1
  have s1' : twin_Shl.f (TH (2 ^ 127 + f)) (TL (2 ^ 127 + f)) 1 = _ := s1
  simp only [s1', Option.bind_some]
  have e4 : IntKind.u64.wrap (Go.bits .and .i64 s 3) = (((s % 4).toNat : Nat) : Int) := by rw [and_i64_3, u64_of (by omega) (by omega)]; omega
  rw [e4]
  generalize he : (s % 4).toNat = e
  have he4 : e < 2 ^ 2 := by have : (2 : Nat) ^ 2 = 4 := by decide
                             omega
  have hX0 : 2 * f < 2 ^ (128 + 0) := by rw [show (2 : Nat) ^ (128 + 0) = 2 * 2 ^ 127 by decide]; omega
  have u1 := round_under_eq (2 * f) 0 e 2 R hX0 he4 (by decide)
  simp only [Nat.pow_zero, Nat.div_one, Nat.mod_one, ne_eq, not_true_eq_false, decide_false, Bool.or_false, Nat.zero_add, Nat.add_zero] at u1
  have u1' : round_under.f (TH (2 * f)) (TL (2 * f)) (e : Int) 2 R = _ := u1
  simp only [u1', Option.bind_some]
  have hX1 : e * 2 ^ 128 + 2 * f < 2 ^ (128 + 2) := by
    have : (e + 1) * 2 ^ 128 ≤ 2 ^ 2 * 2 ^ 128 := Nat.mul_le_mul_right _ he4
    rw [Nat.add_mul] at this
    rw [show (2 : Nat) ^ (128 + 2) = 2 ^ 2 * 2 ^ 128 by decide]
    simp only [Nat.add_zero] at hX0
    omega
  by_cases hk : s / 4 ≥ 0
  · simp only [if_pos hk]
    have u2 := round_under_eq (e * 2 ^ 128 + 2 * f) 2 0 1 R hX1 (by decide) (by decide)
    simp only [Nat.zero_mul, Nat.zero_add] at u2
    have u2' : round_under.f (TH ((e * 2 ^ 128 + 2 * f) / 2 ^ 2)) (TL ((e * 2 ^ 128 + 2 * f) / 2 ^ 2)) 0 1 (R || decide (¬(e * 2 ^ 128 + 2 * f) % 2 ^ 2 = 0)) = _ := u2
    simp only [u2', Option.bind_some]
    generalize hq : (s / 4).toNat = q
    have hq61 : q ≤ 61 := by omega
    have ew : wrap64 (s / 4 + 1) = ((q + 1 : Nat) : Int) := by rw [w64 (by omega) (by omega)]; omega
    rw [ew]
    have l := round_Cut_l0 n R (q + 1) h8 h64 (by omega) (q + 1) 0 (e * 2 ^ 128 + 2 * f) 3 (by omega) (Nat.lt_of_lt_of_le hX1 (pow_le (by decide)))
    have c := cut_of n ((2 ^ (q + 1) - 1) * 2 ^ (128 + 3) + (e * 2 ^ 128 + 2 * f)) (129 - n + (3 + (q + 1))) (68 - q) R h64 (by omega) (by omega)
    have es : sig s f = ((2 ^ (q + 1) - 1) * 2 ^ (128 + 3) + (e * 2 ^ 128 + 2 * f)) * 2 ^ (68 - q) := by
      unfold sig
      rw [if_pos hk, hq, he, show 69 - q = 1 + (68 - q) by omega, Nat.pow_add 2 1, ← Nat.mul_assoc]
      congr 1
      rw [show (2 : Nat) ^ (128 + 3) = 2 ^ 130 * 2 by decide, show (2 : Nat) ^ 128 = 2 ^ 127 * 2 by decide]
      generalize 2 ^ (q + 1) - 1 = z
      grind
    rw [es, c.1, c.2]
    exact l
  · simp only [if_neg hk]
    have u2 := round_under_eq (e * 2 ^ 128 + 2 * f) 2 1 1 R hX1 (by decide) (by decide)
    simp only [Nat.one_mul] at u2
    have u2' : round_under.f (TH ((e * 2 ^ 128 + 2 * f) / 2 ^ 2)) (TL ((e * 2 ^ 128 + 2 * f) / 2 ^ 2)) 1 1 (R || decide (¬(e * 2 ^ 128 + 2 * f) % 2 ^ 2 = 0)) = _ := u2
    simp only [u2', Option.bind_some]
    generalize hq : (-(s / 4)).toNat = q
    have hq62 : q ≤ 62 := by omega
    have ew : wrap64 (-(s / 4)) = ((q : Nat) : Int) := by rw [w64 (by omega) (by omega)]; omega
    rw [ew]
    have hX2 : 2 ^ (128 + 2) + (e * 2 ^ 128 + 2 * f) < 2 ^ (128 + 3) := by
      rw [show (2 : Nat) ^ (128 + 3) = 2 ^ (128 + 2) + 2 ^ (128 + 2) by decide]; omega
    have l := round_Cut_l1 n R q h8 h64 (by omega) q 0 (2 ^ (128 + 2) + (e * 2 ^ 128 + 2 * f)) 3 (by omega) hX2
    have c := cut_of n (2 ^ (128 + 2) + (e * 2 ^ 128 + 2 * f)) (129 - n + (3 + q)) (69 - q) R h64 (by omega) (by omega)
    have es : sig s f = (2 ^ (128 + 2) + (e * 2 ^ 128 + 2 * f)) * 2 ^ (69 - q) := by
      unfold sig
      rw [if_neg (by omega), hq, he, show 70 - q = 1 + (69 - q) by omega, Nat.pow_add 2 1, ← Nat.mul_assoc]
      congr 1
      rw [show (2 : Nat) ^ (128 + 2) = 2 ^ 129 * 2 by decide, show (2 : Nat) ^ 128 = 2 ^ 127 * 2 by decide]
      grind
    rw [es, c.1, c.2]
    exact l
theorem sound_kinds {kd sc hi lo : Int} {ng rs : Bool} (h : soundE kd ng sc hi lo rs = true) : kd = 0 ∨ kd = 2 ∨ kd = 1 := by
  unfold soundE at h
  split at h
  · omega
  · have := of_decide_eq_true h; omega
theorem sound_real {sc hi lo : Int} {ng rs : Bool} (h : soundE 1 ng sc hi lo rs = true) : 9223372036854775808 ≤ hi ∧ -1099511627776 ≤ sc ∧ sc ≤ 1099511627776 := by
  unfold soundE at h
  rw [if_neg (by decide)] at h
  have := of_decide_eq_true h; omega
theorem round_Cut_eq {n hi lo : Nat} {kd sc : Int} {ng rs : Bool} (hn : isW n = true) (hh : hi < 18446744073709551616) (hl : lo < 18446744073709551616) (h : soundE kd ng sc hi lo rs = true) :
    Ev (fun k => round_Cut.f k n kd ng sc hi lo rs) ((cutE n kd sc (hi * 18446744073709551616 + lo) rs).1, (cutE n kd sc (hi * 18446744073709551616 + lo) rs).2, none) := by
  unfold round_Cut.f
  have hn' : n = 8 ∨ n = 16 ∨ n = 32 ∨ n = 64 := by have := isW_cases hn; omega
  simp only [shape_Of_eq hn, Option.bind_some, Option.isNone_none, if_true]
  refine Ev.bind (round_sound_eq _ _ _ _ _ _ (by omega) (by omega)) ?_
  simp only [h, if_true]
  unfold cutE
  by_cases k0 : kd = 0
  · simp only [if_pos k0]; exact Ev.now _
  · simp only [if_neg k0]
    by_cases k2 : kd = 2
    · simp only [if_pos k2]; exact Ev.now _
    · simp only [if_neg k2]
      have k1 : kd = 1 := by have := sound_kinds h; omega
      subst k1
      obtain ⟨b0, b1, b2⟩ := sound_real h
      have ew : wrap64 (-(4 * (n : Int) - 8)) = -(4 * (n : Int) - 8) := w64 (by omega) (by omega)
      by_cases c1 : sc ≥ 4 * (n : Int) - 8
      · simp only [if_pos c1, if_pos (show 4 * (n : Int) - 8 ≤ sc by omega)]; exact Ev.now _
      · simp only [if_neg c1, if_neg (show ¬ 4 * (n : Int) - 8 ≤ sc by omega), ew]
        by_cases c2 : sc < -(4 * (n : Int) - 8)
        · simp only [if_pos c2, if_pos (Or.inl c2 : sc < -(4 * (n : Int) - 8) ∨ (sc = -(4 * (n : Int) - 8) ∧ hi * 18446744073709551616 + lo = 2 ^ 127 ∧ rs = false))]; exact Ev.now _
        · simp only [if_neg c2]
          have key : ¬ (sc = -(4 * (n : Int) - 8) ∧ hi * 18446744073709551616 + lo = 2 ^ 127 ∧ rs = false) →
              Ev (fun k => round_Cut.j0 k (n : Int) 1 ng sc (hi : Int) (lo : Int) rs)
                ((if sc < -(4 * (n : Int) - 8) ∨ (sc = -(4 * (n : Int) - 8) ∧ hi * 18446744073709551616 + lo = 2 ^ 127 ∧ rs = false) then ((1 : Int), (0 : Int)) else ((cutP n (sig sc (hi * 18446744073709551616 + lo - 2 ^ 127)) : Int), cutL n (sig sc (hi * 18446744073709551616 + lo - 2 ^ 127)) rs)).1,
                 (if sc < -(4 * (n : Int) - 8) ∨ (sc = -(4 * (n : Int) - 8) ∧ hi * 18446744073709551616 + lo = 2 ^ 127 ∧ rs = false) then ((1 : Int), (0 : Int)) else ((cutP n (sig sc (hi * 18446744073709551616 + lo - 2 ^ 127)) : Int), cutL n (sig sc (hi * 18446744073709551616 + lo - 2 ^ 127)) rs)).2, none) := by
            intro hno
            rw [if_neg (fun hh => hh.elim c2 hno)]
            have hf : 2 ^ 127 + (hi * 18446744073709551616 + lo - 2 ^ 127) = hi * 18446744073709551616 + lo := by rw [p127]; omega
            have j := round_Cut_j0_eq n (hi * 18446744073709551616 + lo - 2 ^ 127) 1 ng sc rs hn (by omega) (by omega) (by rw [p127]; omega)
            rw [hf, TH_of hl, TL_of hl] at j
            exact j
          by_cases c3 : sc = -(4 * (n : Int) - 8)
          · simp only [if_pos c3]
            by_cases c4 : (hi : Int) = 9223372036854775808
            · simp only [if_pos c4]
              by_cases c5 : (lo : Int) = 0
              · simp only [if_pos c5]
                cases rs
                · simp only [Bool.false_eq_true, if_false]
                  rw [if_pos (Or.inr ⟨c3, by rw [p127]; omega, trivial⟩)]
                  exact Ev.now _
                · simp only [if_true]
                  exact key (by simp)
              · simp only [if_neg c5]
                exact key (by rw [p127]; omega)
            · simp only [if_neg c4]
              exact key (by rw [p127]; omega)
          · simp only [if_neg c3]
            exact key (by omega)
theorem pow64 {n : Nat} (h : isW n = true) : n ≤ 64 ∧ 8 ≤ n := by have := isW_cases h; omega
theorem lead_ones_eq {n : Nat} (h : n ≤ 64) : lead_ones.f (n : Int) = some ((2 ^ n - 1 : Nat) : Int) := by
  unfold lead_ones.f
  by_cases h1 : n = 64
  · subst h1; rfl
  · rw [if_neg (by omega), if_pos (by omega)]
    have e := shl_nat 1 n h
    have e' : shl .u64 1 (n : Int) = _ := e
    have hp : 2 ^ n < 2 ^ 64 := pow_lt (by omega)
    have hp0 := two_pos n
    rw [p64] at hp
    rw [e', Nat.one_mul, Nat.mod_eq_of_lt hp, u64_of (by omega) (by omega)]
    congr 1
    omega
theorem shape_Fold_eq {n x : Nat} (h : isW n = true) (hx : x < 18446744073709551616) : shape_Fold.f (n : Int) (x : Int) = some (((x % 2 ^ n : Nat) : Int), none) := by
  have hb := pow64 h
  unfold shape_Fold.f lead_Mask.f
  simp only [shape_is_eq, h, if_true, Option.bind_some, if_neg (show ¬ (n : Int) < 0 by omega), if_neg (show ¬ (n : Int) > 64 by omega), lead_ones_eq hb.1]
  rw [and_mask x n hx hb.1]
theorem shape_Fold_no {n x : Int} (h : isW n = false) : shape_Fold.f n x = some (0, some 2) := by
  unfold shape_Fold.f
  simp [shape_is_eq, h]
theorem neg_wrap {p : Nat} (h : p < 18446744073709551616) : IntKind.u64.wrap (-(p : Int)) = (((18446744073709551616 - p) % 18446744073709551616 : Nat) : Int) := by
  rw [u64_wrap]; omega
theorem and_one {p : Nat} (h : p < 18446744073709551616) : Go.bits .and .u64 (p : Int) 1 = ((p % 2 : Nat) : Int) := by
  have := and_mask p 1 h (by decide)
  simpa using this
theorem round_Round_eq {n hi lo : Nat} {kd sc : Int} {ng rs : Bool} (hn : isW n = true) (hh : hi < 18446744073709551616) (hl : lo < 18446744073709551616) (h : soundE kd ng sc hi lo rs = true) :
    Ev (fun k => round_Round.f k n kd ng sc hi lo rs) (((rnd n kd ng sc (hi * 18446744073709551616 + lo) rs : Nat) : Int), none) := by
  obtain ⟨b64, b8⟩ := pow64 hn
  unfold round_Round.f
  refine Ev.bind (round_Cut_eq hn hh hl h) ?_
  have hV : hi * 18446744073709551616 + lo < 2 ^ 128 := by rw [p128]; omega
  have hb := cutE_bounds (kd := kd) (sc := sc) (R := rs) b64 b8 hV
  unfold rnd
  generalize cutE n kd sc (hi * 18446744073709551616 + lo) rs = c at hb
  obtain ⟨c1, c2⟩ := c
  simp only at hb
  obtain ⟨p, rfl⟩ := Int.eq_ofNat_of_zero_le hb.1
  have hp1 : p ≤ 2 ^ (n - 1) := by omega
  have hp2 : 2 ^ (n - 1) < 2 ^ 64 := pow_lt (by omega)
  have hp3 : 2 ^ (n - 1) + 1 < 2 ^ n := by
    have : 2 ^ n = 2 * 2 ^ (n - 1) := by rw [show n = n - 1 + 1 by omega, Nat.pow_succ]; simp; omega
    have : 2 ^ 1 ≤ 2 ^ (n - 1) := pow_le (by omega)
    omega
  have hp4 : (2 : Nat) ^ n ≤ 2 ^ 64 := pow_le b64
  rw [p64] at hp2 hp4
  have fo : ∀ x : Nat, x < 2 ^ n → shape_Fold.f (n : Int) (x : Int) = some ((x : Int), none) := fun x hx => by
    rw [shape_Fold_eq hn (by omega), Nat.mod_eq_of_lt hx]
  have fn : ∀ x : Nat, x < 2 ^ n → shape_Fold.f (n : Int) (IntKind.u64.wrap (-(x : Int))) = some (((negN n x : Nat) : Int), none) := fun x hx => by
    rw [neg_wrap (by omega), shape_Fold_eq hn (Nat.mod_lt _ (by decide))]; rfl
  have e1 : IntKind.u64.wrap ((p : Int) + 1) = ((p + 1 : Nat) : Int) := by rw [u64_of (by omega) (by omega)]; omega
  refine evn ?_
  simp only [Option.isNone_none, if_true, e1, fo p (by omega), fo (p + 1) (by omega), fn p (by omega), fn (p + 1) (by omega), Option.bind_some, and_one (show p < 18446744073709551616 by omega), Int.toNat_natCast]
  by_cases k2 : c2 = 2
  · subst k2
    by_cases hp : p % 2 = 0
    · simp only [if_true, if_pos (show ((p % 2 : Nat) : Int) = 0 by omega)]
      cases ng <;> simp [hp]
    · have hp' : p % 2 = 1 := by omega
      simp only [if_true, if_neg (show ¬ ((p % 2 : Nat) : Int) = 0 by omega)]
      cases ng <;> simp [hp']
  · by_cases k3 : c2 = 3
    · subst k3
      cases ng <;> simp
    · simp only [if_neg k2, if_neg k3]
      cases ng <;> simp [k2, k3]
def soundN (kd : Int) (ng : Bool) (sc fr : Int) : Bool :=
  if kd = 0 ∨ kd = 2 then (!ng && (sc == 0 && fr == 0))
  else decide (kd = 1 ∧ 9223372036854775808 ≤ fr ∧ -1073741824 ≤ sc ∧ sc ≤ 1073741824)
theorem round_Of_eq (kd : Int) (ng : Bool) (sc fr : Int) (h : fr < 18446744073709551616) (h0 : 0 ≤ fr) :
    Ev (fun k => round_Of.f k kd ng sc fr) (if soundN kd ng sc fr then (kd, ng, sc, fr, 0, false, none) else (0, false, 0, 0, 0, false, some 1)) := by
  unfold round_Of.f
  refine Ev.bind (round_sound_eq _ _ _ _ _ _ h h0) ?_
  refine evn ?_
  unfold soundE soundN
  by_cases hk : kd = 0 ∨ kd = 2
  · simp only [if_pos hk]
    cases ng
    · by_cases h1 : sc = 0
      · by_cases h2 : fr = 0
        · simp [h1, h2]
        · simp [h1, h2]
      · simp [h1]
    · simp
  · simp only [if_neg hk]
    by_cases h1 : kd = 1 ∧ 9223372036854775808 ≤ fr ∧ -1073741824 ≤ sc ∧ sc ≤ 1073741824
    · have h2 : kd = 1 ∧ 9223372036854775808 ≤ fr ∧ -1099511627776 ≤ sc ∧ sc ≤ 1099511627776 := by omega
      rw [decide_eq_true h1, decide_eq_true h2]
      simp only [if_true]
      rw [if_neg (by omega), if_neg (by omega)]
    · rw [decide_eq_false h1]
      simp only [Bool.false_eq_true, if_false]
      by_cases h2 : kd = 1 ∧ 9223372036854775808 ≤ fr ∧ -1099511627776 ≤ sc ∧ sc ≤ 1099511627776
      · rw [decide_eq_true h2]
        simp only [if_true]
        by_cases h3 : sc < -1073741824
        · rw [if_pos h3]
        · rw [if_neg h3, if_pos (by omega)]
      · rw [decide_eq_false h2]
        simp
def mkV (m : Nat) : Nat := if bl m ≤ 128 then m * 2 ^ (128 - bl m) else m / 2 ^ (bl m - 128)
def mkR (m : Nat) (R : Bool) : Bool := R || decide (m % 2 ^ (bl m - 128) ≠ 0)
def farI (e : Int) : Int := if e < -4398046511104 then -4398046511104 else if 4398046511104 < e then 4398046511104 else e
theorem farI_bounds (e : Int) : -4398046511104 ≤ farI e ∧ farI e ≤ 4398046511104 := by
  unfold farI
  repeat' split
  all_goals omega
theorem farI_mx (e : Int) : mx (-4398046511104) (mn e 4398046511104) = farI e := by
  unfold mx mn farI
  repeat' split
  all_goals omega
theorem T_zero {V : Nat} (h : V ≠ 0) : ¬ (TH V == 0 && TL V == 0) = true := by
  intro hc
  simp only [Bool.and_eq_true, beq_iff_eq] at hc
  unfold TH TL at hc; omega
def makeV (ng : Bool) (V : Nat) (e : Int) (R : Bool) : Int × Bool × Int × Int × Int × Bool × Option Int :=
  if V = 0 then (0, false, 0, 0, 0, false, none)
  else (1, ng, heldI (farI e + (bl V : Int) - 1), TH (mkV V), TL (mkV V), R, none)
theorem round_Make_j0 (ng : Bool) (V : Nat) (e : Int) (R : Bool) (hV : V < 2 ^ 128) : Ev (fun k => round_Make.j0 k ng (TH V) (TL V) e R false) (makeV ng V e R) := by
  refine evs ?_
  simp only [round_Make.j0, Bool.false_eq_true, if_false]
  unfold makeV
  by_cases h2 : V = 0
  · subst h2
    have t : twin_Norm.f (TH 0) (TL 0) = some (0, 0, 0) := twin_Norm_zero
    rw [if_pos rfl, t]
    exact Ev.now _
  · rw [if_neg h2]
    simp only [twin_Norm_eq V hV (by omega), Option.bind_some]
    have c1 := bl_le_of_lt hV
    have c2 := bl_pos (x := V) (by omega)
    have hm : mkV V = V * 2 ^ (128 - bl V) := by unfold mkV; rw [if_pos c1]
    rw [← hm]
    have hpos : mkV V ≠ 0 := by
      have : 0 < mkV V := by rw [hm]; exact Nat.mul_pos (by omega) (two_pos _)
      omega
    rw [if_neg (T_zero hpos), round_held_eq, Option.bind_some, farI_mx]
    have hfb := farI_bounds e
    rw [w64 (n := farI e + 127) (by omega) (by omega), w64 (by omega) (by omega)]
    have ee : farI e + 127 - ((128 - bl V : Nat) : Int) = farI e + (bl V : Int) - 1 := by omega
    rw [ee]
    exact Ev.now _
theorem round_Make_bad (ng : Bool) (hi lo e : Int) (R : Bool) : Ev (fun k => round_Make.j0 k ng hi lo e R true) (0, false, 0, 0, 0, false, some 1) := by
  refine evs ?_
  simp only [round_Make.j0, if_true]
  exact Ev.now _
theorem round_Make_eq (ng : Bool) (V : Nat) (e : Int) (R : Bool) (hV : V < 2 ^ 128) :
    Ev (fun k => round_Make.f k ng (TH V) (TL V) e R) (if R = true ∧ V < 2 ^ 127 then (0, false, 0, 0, 0, false, some 1) else makeV ng V e R) := by
  unfold round_Make.f
  cases R
  · rw [if_neg (fun h => Bool.noConfusion h.1)]
    exact Ev.congr (f := fun k => round_Make.j0 k ng (TH V) (TL V) e false false) (fun _ => by rw [if_neg Bool.false_ne_true]) (round_Make_j0 ng V e false hV)
  · refine Ev.congr (f := fun k => round_Make.j0 k ng (TH V) (TL V) e true (TH V / 9223372036854775808 == 0)) (fun _ => by rw [if_pos rfl]) ?_
    by_cases h : V < 2 ^ 127
    · rw [if_pos ⟨rfl, h⟩]
      have hb : (TH V / 9223372036854775808 == 0) = true := by
        rw [beq_iff_eq]; unfold TH; rw [p127] at h; omega
      rw [hb]
      exact round_Make_bad ng _ _ e true
    · rw [if_neg (fun hh => h hh.2)]
      have hb : (TH V / 9223372036854775808 == 0) = false := by
        rw [beq_eq_false_iff_ne]; unfold TH; rw [p127] at h; omega
      rw [hb]
      exact round_Make_j0 ng V e true hV
end Go.Proofs.Ytebhpipfkomhjaa.V
namespace Go.Proofs.Ytebhpipfkomhjaa.V
open Go Go.RowKit Go.Proofs.YtebhpipfkomhjaaW.PrintWords Go.Proofs.YtebhpipfkomhjaaW.PrintLast Go.Proofs.YtebhpipfkomhjaaW.PrintMore Go.Proofs.Ytebhpipfkomhjaa.PAll
set_option linter.unusedVariables false
set_option linter.unusedSimpArgs false
def runO (m w : Nat) : Bool := decide (2 ^ (m - 1) ≤ w)
def runL (m w : Nat) : Nat := if runO m w then m - bl (2 ^ m - 1 - w) else m - bl w
def dL1 (m w : Nat) : Nat := m - runL m w - 1
def dEb (m w : Nat) : Nat := min (dL1 m w) 2
def dLf (m w : Nat) : Nat := dL1 m w - dEb m w
def decK (m w : Nat) : Int := if runO m w then (runL m w : Int) - 1 else -(runL m w : Int)
def decEx (m w : Nat) : Nat := w / 2 ^ dLf m w % 2 ^ dEb m w * 2 ^ (2 - dEb m w)
def decS (m w : Nat) : Int := 4 * decK m w + (decEx m w : Int)
def decFr (m w : Nat) : Nat := 2 ^ 63 + w % 2 ^ dLf m w * 2 ^ (63 - dLf m w)
theorem run_ones {m w : Nat} (h1 : 1 ≤ m) (hw : w < 2 ^ m) (ho : 2 ^ (m - 1) ≤ w) :
    ∃ r l A t, runL m w = r ∧ dL1 m w = l ∧ 1 ≤ r ∧ r ≤ m ∧ l = m - r - 1 ∧ w = A * 2 ^ l + t ∧ t < 2 ^ l ∧ ((r < m ∧ A = 2 * (2 ^ r - 1)) ∨ (r = m ∧ l = 0 ∧ A = 2 ^ m - 1 ∧ t = 0)) := by
  have e : runL m w = m - bl (2 ^ m - 1 - w) := by unfold runL runO; rw [if_pos (by simpa using ho)]
  have hm : (2 : Nat) ^ m = 2 * 2 ^ (m - 1) := by rw [show m = m - 1 + 1 by omega, Nat.pow_succ]; simp; omega
  have hz : 2 ^ m - 1 - w < 2 ^ (m - 1) := by omega
  have hb := bl_le_of_lt hz
  by_cases h0 : 2 ^ m - 1 - w = 0
  · rw [h0, bl_zero, Nat.sub_zero] at e
    refine ⟨m, 0, w, 0, e, by unfold dL1; rw [e]; omega, h1, Nat.le_refl _, by omega, by simp, by decide, .inr ⟨rfl, rfl, by omega, rfl⟩⟩
  · have b1 := bl_pos (x := 2 ^ m - 1 - w) (by omega)
    have b2 := bl_le (x := 2 ^ m - 1 - w) (by omega)
    have b3 := bl_lt (2 ^ m - 1 - w)
    generalize bl (2 ^ m - 1 - w) = b at *
    have e1 : dL1 m w = b - 1 := by unfold dL1; rw [e]; omega
    have q1 : (2 : Nat) ^ b = 2 * 2 ^ (b - 1) := by rw [show b = b - 1 + 1 by omega, Nat.pow_succ]; simp; omega
    have q2 : (2 : Nat) ^ m = 2 ^ (m - b) * 2 ^ b := by rw [← Nat.pow_add]; exact pow_congr (by omega)
    have p1 := two_pos (m - b)
    obtain ⟨a, ha⟩ : ∃ a, 2 ^ (m - b) = a + 1 := ⟨2 ^ (m - b) - 1, by omega⟩
    have q3 : 2 * (2 ^ (m - b) - 1) * 2 ^ (b - 1) = 2 ^ m - 2 ^ b := by
      rw [q2, ha, q1, Nat.add_sub_cancel, Nat.add_mul]
      have : 2 * a * 2 ^ (b - 1) = a * (2 * 2 ^ (b - 1)) := by grind
      omega
    have q4 : 2 ^ b ≤ 2 ^ m := pow_le (by omega)
    refine ⟨m - b, b - 1, 2 * (2 ^ (m - b) - 1), w - 2 * (2 ^ (m - b) - 1) * 2 ^ (b - 1), e, e1, by omega, by omega, by omega, ?_, ?_, .inl ⟨by omega, rfl⟩⟩
    · rw [q3]; omega
    · rw [q3]; omega
theorem run_noughts {m w : Nat} (h1 : 1 ≤ m) (hw0 : 0 < w) (ho : ¬ 2 ^ (m - 1) ≤ w) :
    ∃ r l t, runL m w = r ∧ dL1 m w = l ∧ 1 ≤ r ∧ r < m ∧ l = m - r - 1 ∧ w = 1 * 2 ^ l + t ∧ t < 2 ^ l := by
  have e : runL m w = m - bl w := by unfold runL runO; rw [if_neg (by simpa using ho)]
  have hb := bl_le_of_lt (show w < 2 ^ (m - 1) by omega)
  have b1 := bl_pos hw0
  have b2 := bl_le hw0
  have b3 := bl_lt w
  generalize bl w = b at *
  have q1 : (2 : Nat) ^ b = 2 * 2 ^ (b - 1) := by rw [show b = b - 1 + 1 by omega, Nat.pow_succ]; simp; omega
  exact ⟨m - b, b - 1, w - 2 ^ (b - 1), e, by unfold dL1; rw [e]; omega, by omega, by omega, by omega, by omega, by omega⟩
theorem tail_parts {m w l A t : Nat} (hl : dL1 m w = l) (hw : w = A * 2 ^ l + t) (ht : t < 2 ^ l) :
    t = w / 2 ^ dLf m w % 2 ^ dEb m w * 2 ^ dLf m w + w % 2 ^ dLf m w ∧ dEb m w + dLf m w = l ∧ dEb m w ≤ 2 ∧ (0 < dLf m w → dEb m w = 2) := by
  have hs : dEb m w + dLf m w = l := by unfold dLf dEb; omega
  refine ⟨?_, hs, by unfold dEb; omega, by unfold dLf dEb; omega⟩
  have h : w % 2 ^ l = t := by rw [hw, Nat.add_comm, Nat.add_mul_mod_self_right, Nat.mod_eq_of_lt ht]
  rw [← hs, Nat.add_comm, Nat.pow_add, Nat.mod_mul] at h
  have := Nat.mul_comm (2 ^ dLf m w) (w / 2 ^ dLf m w % 2 ^ dEb m w)
  omega
theorem tail_sig {m r l t eb lf er fr : Nat} (hm : m ≤ 63) (hr : r < m) (hl : l = m - r - 1) (ht : t = er * 2 ^ lf + fr) (hs : eb + lf = l) (he : eb ≤ 2) (hlf : 0 < lf → eb = 2) (hfr : fr < 2 ^ lf) :
    (er * 2 ^ (2 - eb) * 2 ^ 127 + fr * 2 ^ (63 - lf) * 2 ^ 64) * 2 ^ (70 - r) = t * 2 ^ (200 - m) := by
  rw [ht, Nat.add_mul, Nat.add_mul]
  have a1 : er * 2 ^ (2 - eb) * 2 ^ 127 * 2 ^ (70 - r) = er * 2 ^ lf * 2 ^ (200 - m) := by
    rw [Nat.mul_assoc, Nat.mul_assoc, ← Nat.pow_add, ← Nat.pow_add, Nat.mul_assoc, ← Nat.pow_add]
    rw [show 2 - eb + (127 + (70 - r)) = lf + (200 - m) by omega]
  have a2 : fr * 2 ^ (63 - lf) * 2 ^ 64 * 2 ^ (70 - r) = fr * 2 ^ (200 - m) := by
    by_cases h0 : lf = 0
    · subst h0
      have : fr = 0 := by simpa using hfr
      simp [this]
    · have := hlf (by omega)
      rw [Nat.mul_assoc, Nat.mul_assoc, ← Nat.pow_add, ← Nat.pow_add]
      rw [show 63 - lf + (64 + (70 - r)) = 200 - m by omega]
  rw [a1, a2]
theorem fr_back {m w : Nat} : (decFr m w - 2 ^ 63) * 2 ^ 64 = w % 2 ^ dLf m w * 2 ^ (63 - dLf m w) * 2 ^ 64 := by
  unfold decFr; rw [Nat.add_sub_cancel_left]
theorem decEx_lt {m w : Nat} : decEx m w < 4 := by
  unfold decEx
  have h1 := Nat.mod_lt (w / 2 ^ dLf m w) (two_pos (dEb m w))
  have he : dEb m w ≤ 2 := by unfold dEb; omega
  have : 2 ^ dEb m w * 2 ^ (2 - dEb m w) = 2 ^ 2 := pow_split he
  have := Nat.mul_lt_mul_of_pos_right h1 (two_pos (2 - dEb m w))
  omega
theorem decFr_range {m w : Nat} (h : dLf m w ≤ 63) : 2 ^ 63 ≤ decFr m w ∧ decFr m w < 2 ^ 64 := by
  unfold decFr
  have h1 := Nat.mod_lt w (two_pos (dLf m w))
  have h2 : 2 ^ dLf m w * 2 ^ (63 - dLf m w) = 2 ^ 63 := pow_split h
  have h3 := Nat.mul_lt_mul_of_pos_right h1 (two_pos (63 - dLf m w))
  rw [h2] at h3
  rw [p63] at *
  rw [p64]
  omega
theorem dec_sig {m w : Nat} (h1 : 7 ≤ m) (hm : m ≤ 63) (hw0 : 0 < w) (hw : w < 2 ^ m) :
    sig (decS m w) ((decFr m w - 2 ^ 63) * 2 ^ 64) = w * 2 ^ (200 - m) ∧ -(4 * (m : Int) - 4) ≤ decS m w ∧ decS m w ≤ 4 * (m : Int) - 4 ∧ 1 ≤ runL m w ∧ runL m w ≤ m := by
  have he := decEx_lt (m := m) (w := w)
  by_cases ho : 2 ^ (m - 1) ≤ w
  · obtain ⟨r, l, A, t, e1, e2, r1, r2, hl, hA, ht, hc⟩ := run_ones (by omega) hw ho
    obtain ⟨t1, t2, t3, t4⟩ := tail_parts e2 hA ht
    have hk : decK m w = ((r - 1 : Nat) : Int) := by unfold decK runO; rw [if_pos (by simpa using ho), e1]; omega
    have hs : decS m w = 4 * ((r - 1 : Nat) : Int) + ((decEx m w : Nat) : Int) := by unfold decS; rw [hk]
    have hfr := Nat.mod_lt w (two_pos (dLf m w))
    rcases hc with ⟨c1, c2⟩ | ⟨c1, c2, c3, c4⟩
    · refine ⟨?_, by omega, by omega, by omega, by omega⟩
      rw [sig_pos_eq hs he, fr_back, show 69 - (r - 1) = 70 - r by omega, show r - 1 + 1 = r by omega]
      have k := tail_sig hm c1 hl t1 t2 t3 t4 hfr
      have e3 : (2 ^ r - 1) * 2 ^ 130 * 2 ^ (70 - r) = A * 2 ^ l * 2 ^ (200 - m) := by
        rw [c2, Nat.mul_assoc, Nat.mul_comm 2, Nat.mul_assoc (2 ^ r - 1), Nat.mul_assoc (2 ^ r - 1)]
        congr 1
        have : (2 : Nat) * 2 ^ l * 2 ^ (200 - m) = 2 ^ (1 + l + (200 - m)) := by rw [Nat.pow_add, Nat.pow_add, Nat.pow_one]
        rw [this, ← Nat.pow_add]
        exact pow_congr (by omega)
      have e4 : w * 2 ^ (200 - m) = A * 2 ^ l * 2 ^ (200 - m) + t * 2 ^ (200 - m) := by
        rw [← Nat.add_mul, ← hA]
      rw [e4, ← k, ← e3, Nat.add_assoc, Nat.add_mul]
      rfl
    · have hlf : dLf m w = 0 ∧ dEb m w = 0 := by omega
      have hex : decEx m w = 0 := by unfold decEx; rw [hlf.2, Nat.pow_zero, Nat.mod_one, Nat.zero_mul]
      refine ⟨?_, by omega, by omega, by omega, by omega⟩
      rw [sig_pos_eq hs he, fr_back, hlf.1, hex, show 69 - (r - 1) = 70 - m by omega, show r - 1 + 1 = m by omega]
      simp only [Nat.pow_zero, Nat.mod_one, Nat.zero_mul, Nat.add_zero]
      have : w = 2 ^ m - 1 := by rw [hA, c2, c4, c3]; simp
      rw [this, Nat.mul_assoc, ← Nat.pow_add]
      congr 1
      exact pow_congr (by omega)
  · obtain ⟨r, l, t, e1, e2, r1, r2, hl, hA, ht⟩ := run_noughts (by omega) hw0 ho
    obtain ⟨t1, t2, t3, t4⟩ := tail_parts e2 hA ht
    have hk : decK m w = -(r : Int) := by unfold decK runO; rw [if_neg (by simpa using ho), e1]
    have hs : decS m w = -(4 * (r : Int)) + ((decEx m w : Nat) : Int) := by unfold decS; rw [hk]; omega
    have hfr := Nat.mod_lt w (two_pos (dLf m w))
    have k := tail_sig hm r2 hl t1 t2 t3 t4 hfr
    refine ⟨?_, by omega, by omega, by omega, by omega⟩
    rw [sig_neg_eq hs (by omega) he, fr_back]
    have e3 : 2 ^ 129 * 2 ^ (70 - r) = 1 * 2 ^ l * 2 ^ (200 - m) := by
      rw [Nat.one_mul, ← Nat.pow_add, ← Nat.pow_add]
      exact pow_congr (by omega)
    have e4 : w * 2 ^ (200 - m) = 1 * 2 ^ l * 2 ^ (200 - m) + t * 2 ^ (200 - m) := by
      rw [← Nat.add_mul, ← hA]
    rw [e4, ← k, ← e3, Nat.add_assoc, Nat.add_mul]
    rfl
theorem mn_min (a b : Nat) : mn (a : Int) (b : Int) = ((min a b : Nat) : Int) := by unfold mn; split <;> omega
theorem mx_zero (a : Int) : mx a 0 = ((a.toNat : Nat) : Int) := by unfold mx; split <;> omega
theorem lead_field_eq {a n : Nat} (h : a + n ≤ 64) : lead_field.f (a : Int) (n : Int) = some true := by
  unfold lead_field.f
  rw [if_pos (by omega), if_pos (by omega), if_pos (by omega), w64 (by omega) (by omega), decide_eq_true (by omega)]
theorem lead_Field_eq {x a n : Nat} (hx : x < 18446744073709551616) (h : a + n ≤ 64) : lead_Field.f (x : Int) (a : Int) (n : Int) = some (((x / 2 ^ a % 2 ^ n : Nat) : Int), none) := by
  unfold lead_Field.f
  rw [lead_field_eq h, Option.bind_some, if_pos rfl, if_pos (by omega), lead_ones_eq (by omega), Option.bind_some, shr_nat x a (by omega), and_mask _ _ (Nat.lt_of_le_of_lt (Nat.div_le_self _ _) hx) (by omega)]
theorem Len64_eq {x : Nat} (hx : x < 18446744073709551616) : bits_Len64.f (x : Int) = some ((bl x : Nat) : Int) := by
  unfold bits_Len64.f
  rw [if_pos ⟨by omega, by omega⟩, Int.toNat_natCast, bitLen_bl (by rw [p64]; exact hx)]
theorem Lead0_eq {x : Nat} (hx : x < 18446744073709551616) : bits_LeadingZeros64.f (x : Int) = some ((64 - bl x : Nat) : Int) := by
  have hb : bl x ≤ 64 := bl_le_of_lt (by rw [p64]; exact hx)
  unfold bits_LeadingZeros64.f
  rw [Len64_eq hx, Option.bind_some, w64 (by omega) (by omega)]
  congr 1; omega
theorem bl_add {z c k : Nat} (hz : 0 < z) (hc : c < 2 ^ k) : bl (z * 2 ^ k + c) = bl z + k := by
  have h1 := bl_le hz
  have h2 := bl_lt z
  have h0 := bl_pos hz
  refine bl_unique (by omega) ?_ ?_
  · rw [show bl z + k - 1 = bl z - 1 + k by omega, Nat.pow_add]
    exact Nat.le_trans (Nat.mul_le_mul_right _ h1) (Nat.le_add_right _ _)
  · rw [Nat.pow_add]
    have := Nat.mul_le_mul_right (2 ^ k) (show z + 1 ≤ 2 ^ bl z by omega)
    rw [Nat.add_mul] at this; omega
theorem lead_Run_eq {x m w : Nat} (h1 : 1 ≤ m) (hm : m ≤ 63) (hx : x < 18446744073709551616) (hw : x % 2 ^ m = w) (hw0 : 0 < w) :
    Ev (fun k => lead_Run.f k (x : Int) (m : Int)) (runO m w, ((runL m w : Nat) : Int), none) := by
  have hwl : w < 2 ^ m := by rw [← hw]; exact Nat.mod_lt _ (two_pos m)
  unfold lead_Run.f
  simp only [if_neg (show ¬ (m : Int) < 1 by omega), decide_eq_false (show ¬ (m : Int) > 64 by omega)]
  refine evs ?_
  have e1 : wrap64 (64 - (m : Int)) = ((64 - m : Nat) : Int) := by rw [w64 (by omega) (by omega)]; omega
  have hs : (2 : Nat) ^ m * 2 ^ (64 - m) = 18446744073709551616 := by rw [pow_split (by omega), p64]
  have e2 : shl .u64 (x : Int) ((64 - m : Nat) : Int) = ((w * 2 ^ (64 - m) : Nat) : Int) := by
    rw [shl_nat x _ (by omega), ← hs, Nat.mul_mod_mul_right, hw]
  simp only [lead_Run.j0, Bool.false_eq_true, if_false, e1, if_pos (show (0 : Int) ≤ ((64 - m : Nat) : Int) by omega), e2]
  clear e1 e2
  have hp := two_pos (64 - m)
  have hlt : w * 2 ^ (64 - m) < 18446744073709551616 := by rw [← hs]; exact Nat.mul_lt_mul_of_pos_right hwl hp
  have h63 : 2 ^ (m - 1) * 2 ^ (64 - m) = 9223372036854775808 := by rw [← Nat.pow_add, ← p63]; exact pow_congr (by omega)
  have htop : 2 ^ (m - 1) ≤ w ↔ 9223372036854775808 ≤ w * 2 ^ (64 - m) := by
    rw [← h63]
    exact ⟨fun h => Nat.mul_le_mul_right _ h, fun h => Nat.le_of_mul_le_mul_right h hp⟩
  have hbw := bl_le_of_lt hwl
  by_cases ho : 2 ^ (m - 1) ≤ w
  · have eo : runO m w = true := by unfold runO; simpa using ho
    have h9 := htop.mp ho
    have el : runL m w = m - bl (2 ^ m - 1 - w) := by unfold runL; rw [if_pos eo]
    generalize hu : w * 2 ^ (64 - m) = u at *
    simp only [if_pos (show ((u : Nat) : Int) / 9223372036854775808 = 1 by omega), show (((u : Nat) : Int) / 9223372036854775808 == 1) = true by rw [beq_iff_eq]; omega, xor_all u hlt, Lead0_eq (show 18446744073709551615 - u < 18446744073709551616 by omega), Option.bind_some, eo]
    refine evn ?_
    have e3 : 18446744073709551615 - u = (2 ^ m - 1 - w) * 2 ^ (64 - m) + (2 ^ (64 - m) - 1) := by
      have hm1 : 1 ≤ 2 ^ m := two_pos m
      obtain ⟨z, hz⟩ : ∃ z, 2 ^ m = z + w + 1 := ⟨2 ^ m - 1 - w, by omega⟩
      have : 2 ^ m - 1 - w = z := by omega
      rw [this]
      rw [hz, Nat.add_mul, Nat.add_mul, hu, Nat.one_mul] at hs
      omega
    have hbl : bl (18446744073709551615 - u) = bl (2 ^ m - 1 - w) + (64 - m) := by
      rw [e3]
      by_cases h0 : 2 ^ m - 1 - w = 0
      · rw [h0, Nat.zero_mul, Nat.zero_add, bl_zero, Nat.zero_add]
        refine bl_unique (by omega) ?_ (by omega)
        have : (2 : Nat) ^ (64 - m) = 2 * 2 ^ (64 - m - 1) := by rw [show 64 - m = 64 - m - 1 + 1 by omega, Nat.pow_succ]; simp; omega
        have := two_pos (64 - m - 1)
        omega
      · exact bl_add (by omega) (by omega)
    have hb2 : bl (2 ^ m - 1 - w) ≤ m := bl_le_of_lt (by omega)
    rw [hbl, el]
    rw [mn_min]
    congr 3
    omega
  · have eo : runO m w = false := by unfold runO; simpa using ho
    have h9 : ¬ 9223372036854775808 ≤ w * 2 ^ (64 - m) := fun h => ho (htop.mpr h)
    have el : runL m w = m - bl w := by unfold runL; rw [eo]; rfl
    have hbl := bl_mul_pow (64 - m) hw0
    generalize hu : w * 2 ^ (64 - m) = u at *
    simp only [if_neg (show ¬ ((u : Nat) : Int) / 9223372036854775808 = 1 by omega), show (((u : Nat) : Int) / 9223372036854775808 == 1) = false by rw [beq_eq_false_iff_ne]; omega, Lead0_eq hlt, Option.bind_some, eo]
    refine evn ?_
    rw [hbl, el]
    rw [mn_min]
    congr 3
    omega
theorem shape_Kind_no {n : Int} (h : isW n = false) (x : Int) : shape_Kind.f n x = some (0, some 2) := by
  unfold shape_Kind.f
  rw [shape_Fold_no h]; rfl
theorem shape_Kind_eq {n x : Nat} (h : isW (n : Int) = true) (hx : x < 18446744073709551616) : shape_Kind.f (n : Int) (x : Int) = some (if x % 2 ^ n = 0 then 0 else if x % 2 ^ n = 2 ^ (n - 1) then 2 else 1, none) := by
  obtain ⟨b64, b8⟩ := pow64 h
  have hp : (2 : Nat) ^ (n - 1) < 18446744073709551616 := by rw [← p64]; exact pow_lt (by omega)
  have e1 : wrap64 ((n : Int) - 1) = ((n - 1 : Nat) : Int) := by rw [w64 (by omega) (by omega)]; omega
  have e2 : shl .u64 1 ((n - 1 : Nat) : Int) = ((2 ^ (n - 1) : Nat) : Int) := by
    have := shl_nat 1 (n - 1) (by omega)
    rw [Nat.one_mul, Nat.mod_eq_of_lt hp] at this
    exact this
  unfold shape_Kind.f
  rw [shape_Fold_eq h hx, Option.bind_some]
  simp only [Option.isNone_none, if_true, e1, e2, if_pos (show (0 : Int) ≤ ((n - 1 : Nat) : Int) by omega)]
  generalize x % 2 ^ n = y
  by_cases h0 : y = 0
  · rw [if_pos (by omega), if_pos h0]
  · rw [if_neg (by omega), if_neg h0]
    by_cases h1 : y = 2 ^ (n - 1)
    · rw [if_pos (by omega), if_pos h1]
    · rw [if_neg (by omega), if_neg h1]
theorem rank_shift {z k : Nat} (n : Nat) (hn : n + k = 64) (h1 : 1 ≤ n) (hz : z < 2 ^ n) : wrap64 ((z * 2 ^ k : Nat) : Int) / 2 ^ k = rkN n z := by
  have hp := two_pos k
  have e : (2 : Nat) ^ n * 2 ^ k = 18446744073709551616 := by rw [← Nat.pow_add, hn, p64]
  have e1 : (2 : Nat) ^ (n - 1) * 2 ^ k = 9223372036854775808 := by rw [← Nat.pow_add, ← p63]; exact pow_congr (by omega)
  have hlt : z * 2 ^ k < 18446744073709551616 := by rw [← e]; exact Nat.mul_lt_mul_of_pos_right hz hp
  rw [pow_cast]
  unfold rkN
  by_cases h : 2 ^ (n - 1) ≤ z
  · have h9 : 9223372036854775808 ≤ z * 2 ^ k := by rw [← e1]; exact Nat.mul_le_mul_right _ h
    rw [if_pos h]
    have w : wrap64 ((z * 2 ^ k : Nat) : Int) = ((z : Int) - ((2 ^ n : Nat) : Int)) * ((2 ^ k : Nat) : Int) := by
      have : ((z : Int) - ((2 ^ n : Nat) : Int)) * ((2 ^ k : Nat) : Int) = ((z * 2 ^ k : Nat) : Int) - ((2 ^ n * 2 ^ k : Nat) : Int) := by
        rw [Int.sub_mul, Int.natCast_mul, Int.natCast_mul]
      rw [this, e]
      generalize z * 2 ^ k = u at *
      unfold wrap64; omega
    rw [w]
    exact Int.mul_ediv_cancel _ (by generalize 2 ^ k = q at *; omega)
  · have h9 : z * 2 ^ k < 9223372036854775808 := by rw [← e1]; exact Nat.mul_lt_mul_of_pos_right (by omega) hp
    rw [if_neg h, w64 (by omega) (by omega), Int.natCast_mul]
    exact Int.mul_ediv_cancel _ (by generalize 2 ^ k = q at *; omega)
theorem lead_Extend_eq {n x : Nat} (h1 : 1 ≤ n) (hn : n ≤ 64) (hx : x < 18446744073709551616) : lead_Extend.f (x : Int) (n : Int) = some (rkN n (x % 2 ^ n), none) := by
  unfold lead_Extend.f
  have e1 : wrap64 (64 - (n : Int)) = ((64 - n : Nat) : Int) := by rw [w64 (by omega) (by omega)]; omega
  have hs : (2 : Nat) ^ n * 2 ^ (64 - n) = 18446744073709551616 := by rw [pow_split (by omega), p64]
  have e2 : shl .u64 (x : Int) ((64 - n : Nat) : Int) = ((x % 2 ^ n * 2 ^ (64 - n) : Nat) : Int) := by
    rw [shl_nat x _ (by omega), ← hs, Nat.mul_mod_mul_right]
  rw [if_neg (by omega), if_neg (by omega), e1, if_pos (by omega), e2]
  have e3 : ∀ y : Int, shr .i64 y ((64 - n : Nat) : Int) = y / 2 ^ (64 - n) := fun y => by
    unfold shr
    rw [Int.toNat_natCast, Nat.min_eq_left (by simp [IntKind.bits])]
  rw [e3, rank_shift n (by omega) h1 (Nat.mod_lt _ (two_pos n))]
theorem shape_Rank_eq {n x : Nat} (h : isW (n : Int) = true) (hx : x < 18446744073709551616) : shape_Rank.f (n : Int) (x : Int) = some (rkN n (x % 2 ^ n), none) := by
  obtain ⟨b64, b8⟩ := pow64 h
  unfold shape_Rank.f
  rw [shape_is_eq, Option.bind_some, if_pos h, lead_Extend_eq (by omega) b64 hx]; rfl
def magN (n x : Nat) : Nat := if 2 ^ (n - 1) < x then 2 ^ n - x else x
theorem two_halves {n : Nat} (h : 1 ≤ n) : (2 : Nat) ^ n = 2 * 2 ^ (n - 1) := by
  rw [show n = n - 1 + 1 by omega, Nat.pow_succ]; simp; omega
theorem magN_bounds {n x : Nat} (h1 : 1 ≤ n) (hx : x < 2 ^ n) (h0 : x ≠ 0) (h2 : x ≠ 2 ^ (n - 1)) : 0 < magN n x ∧ magN n x < 2 ^ (n - 1) := by
  have e := two_halves h1
  unfold magN
  split <;> omega
theorem neg_mod {n p : Nat} (h1 : 1 ≤ n) (hn : n ≤ 64) (hp : p < 18446744073709551616) (h2 : 2 ^ (n - 1) < p % 2 ^ n) : (18446744073709551616 - p) % 18446744073709551616 % 2 ^ (n - 1) = 2 ^ n - p % 2 ^ n := by
  have e := two_halves h1
  have s : (18446744073709551616 : Nat) = 2 ^ n * 2 ^ (64 - n) := by rw [pow_split hn, p64]
  have hl := Nat.mod_lt p (two_pos n)
  have hd := Nat.div_add_mod p (2 ^ n)
  have hq : p / 2 ^ n < 2 ^ (64 - n) := by rw [Nat.div_lt_iff_lt_mul (two_pos n), Nat.mul_comm, ← s]; exact hp
  have hpp : 0 < p := by
    rcases Nat.eq_zero_or_pos p with h | h
    · rw [h, Nat.zero_mod] at h2; omega
    · exact h
  rw [Nat.mod_eq_of_lt (show 18446744073709551616 - p < 18446744073709551616 by omega)]
  generalize p % 2 ^ n = y at *
  generalize p / 2 ^ n = q at *
  obtain ⟨c, hc⟩ : ∃ c, 2 ^ (64 - n) = q + c + 1 := ⟨2 ^ (64 - n) - q - 1, by omega⟩
  have e2 : 18446744073709551616 - p = (2 ^ n - y) + 2 ^ (n - 1) * (2 * c) := by
    have : 2 ^ n * (q + c + 1) = 2 ^ n * q + 2 ^ (n - 1) * (2 * c) + 2 ^ n := by rw [e]; grind
    rw [s, hc, this, ← hd]
    omega
  rw [e2, Nat.add_mul_mod_self_left, Nat.mod_eq_of_lt (by omega)]
def splE (ng : Bool) (m w : Nat) : Bool × Bool × Int × Int × Int × Int × Int × Int × Option Int :=
  (ng, runO m w, ((runL m w : Nat) : Int), decK m w, ((dEb m w : Nat) : Int), ((decEx m w : Nat) : Int), ((dLf m w : Nat) : Int), ((w % 2 ^ dLf m w : Nat) : Int), none)
theorem Split_j1 {n x w : Nat} {ng : Bool} (h : isW (n : Int) = true) (hx : x < 18446744073709551616) (hw : x % 2 ^ (n - 1) = w) (hw0 : 0 < w) :
    Ev (fun k => codec_Split.j1 k (n : Int) (x : Int) ng false 0 0 0 0 0 0) (splE ng (n - 1) w) := by
  obtain ⟨b64, b8⟩ := pow64 h
  have hwl : w < 2 ^ (n - 1) := by rw [← hw]; exact Nat.mod_lt _ (two_pos (n - 1))
  obtain ⟨m, rfl⟩ : ∃ m, n = m + 1 := ⟨n - 1, by omega⟩
  rw [Nat.add_sub_cancel] at *
  obtain ⟨_, _, _, r1, r2⟩ := dec_sig (m := m) (w := w) (by omega) (by omega) hw0 hwl
  have em : wrap64 (((m + 1 : Nat) : Int) - 1) = (m : Int) := by rw [w64 (by omega) (by omega)]; omega
  have hd1 : dL1 m w ≤ m := by unfold dL1; omega
  have hd2 : dEb m w ≤ dL1 m w := by unfold dEb; omega
  have hd3 : dEb m w ≤ 2 := by unfold dEb; omega
  have hlf : dLf m w + dEb m w ≤ 64 := by unfold dLf; omega
  have hlf0 : dLf m w ≤ 64 := by omega
  have hlm : dLf m w + dEb m w ≤ m := by unfold dLf; omega
  have hlm2 : dLf m w ≤ m := by omega
  have el1 : mx (wrap64 (wrap64 ((m : Int) - ((runL m w : Nat) : Int)) - 1)) 0 = ((dL1 m w : Nat) : Int) := by
    clear em
    rw [w64 (n := (m : Int) - ((runL m w : Nat) : Int)) (by omega) (by omega), w64 (by omega) (by omega), mx_zero]
    unfold dL1; congr 1; omega
  have eeb : mn ((dL1 m w : Nat) : Int) 2 = ((dEb m w : Nat) : Int) := by
    have := mn_min (dL1 m w) 2
    exact this
  have elf : wrap64 (((dL1 m w : Nat) : Int) - ((dEb m w : Nat) : Int)) = ((dLf m w : Nat) : Int) := by
    clear em el1 eeb
    rw [w64 (by omega) (by omega)]; unfold dLf; omega
  have f1 := lead_Field_eq (x := x) (a := dLf m w) (n := dEb m w) hx hlf
  have f2 : lead_Field.f (x : Int) 0 ((dLf m w : Nat) : Int) = _ := lead_Field_eq (x := x) (a := 0) (n := dLf m w) hx (by rw [Nat.zero_add]; exact hlf0)
  have g1 : x / 2 ^ dLf m w % 2 ^ dEb m w = w / 2 ^ dLf m w % 2 ^ dEb m w := by
    rw [← Nat.mod_mul_right_div_self x, ← Nat.mod_mul_right_div_self w, ← Nat.pow_add, ← hw, mod_pow_le (by rw [hw]; exact hlm), hw]
  have g2 : x / 2 ^ 0 % 2 ^ dLf m w = w % 2 ^ dLf m w := by
    rw [Nat.pow_zero, Nat.div_one, ← mod_pow_le (a := x) hlm2, hw]
  rw [g1] at f1
  rw [g2] at f2
  have hex : shl .i64 (wrap64 ((w / 2 ^ dLf m w % 2 ^ dEb m w : Nat) : Int)) (2 - ((dEb m w : Nat) : Int)) = ((decEx m w : Nat) : Int) := by
    clear em el1 eeb elf f1 f2 g1 g2
    have hl := Nat.mod_lt (w / 2 ^ dLf m w) (two_pos (dEb m w))
    have hl2 : (2 : Nat) ^ dEb m w ≤ 2 ^ 2 := pow_le hd3
    have hx4 := decEx_lt (m := m) (w := w)
    unfold decEx at *
    have e3 : (2 : Int) - ((dEb m w : Nat) : Int) = ((2 - dEb m w : Nat) : Int) := by omega
    rw [e3]
    generalize w / 2 ^ dLf m w % 2 ^ dEb m w = u at *
    rw [w64 (by omega) (by omega)]
    unfold shl
    rw [Int.toNat_natCast, Nat.min_eq_left (by simp [IntKind.bits]; omega), pow_cast, ← Int.natCast_mul]
    generalize u * 2 ^ (2 - dEb m w) = v at *
    simp [IntKind.wrap, IntKind.bits, IntKind.signed]
    omega
  have er1 : runO m w = true → wrap64 (((runL m w : Nat) : Int) - 1) = decK m w := fun ho => by
    clear em el1 eeb elf f1 f2 g1 g2 hex
    unfold decK; rw [if_pos ho, w64 (by omega) (by omega)]
  have er2 : runO m w = false → wrap64 (-((runL m w : Nat) : Int)) = decK m w := fun ho => by
    clear em el1 eeb elf f1 f2 g1 g2 hex
    unfold decK; rw [ho, w64 (by omega) (by omega)]; rfl
  refine evs ?_
  simp only [codec_Split.j1, em]
  have hm1 : 1 ≤ m := by clear em el1 eeb elf f1 f2 g1 g2 hex er1 er2; omega
  have hm2 : m ≤ 63 := by clear em el1 eeb elf f1 f2 g1 g2 hex er1 er2; omega
  refine Ev.bind (lead_Run_eq hm1 hm2 hx hw hw0) ?_
  refine evn ?_
  simp only [el1, eeb, elf, f1, f2, Option.bind_some, hex]
  unfold splE
  cases ho : runO m w
  · simp [er2 ho]
  · simp [er1 ho]
theorem Split_real {n p : Nat} (h : isW (n : Int) = true) (hp : p < 18446744073709551616) (h0 : p % 2 ^ n ≠ 0) (h1 : p % 2 ^ n ≠ 2 ^ (n - 1)) :
    Ev (fun k => codec_Split.f k (n : Int) (p : Int)) (splE (decide (2 ^ (n - 1) < p % 2 ^ n)) (n - 1) (magN n (p % 2 ^ n))) := by
  obtain ⟨b64, b8⟩ := pow64 h
  have hm := magN_bounds (n := n) (by omega) (Nat.mod_lt p (two_pos n)) h0 h1
  have hl := Nat.mod_lt p (two_pos n)
  have e := two_halves (n := n) (by omega)
  unfold codec_Split.f
  simp only [shape_Kind_eq h hp, if_neg h0, if_neg h1, Option.bind_some, Option.isNone_none, if_true]
  refine evs ?_
  simp only [codec_Split.j0, show ((1 : Int) != 1) = false from rfl, Bool.false_eq_true, if_false, shape_Rank_eq h hp, Option.bind_some]
  by_cases hs : 2 ^ (n - 1) < p % 2 ^ n
  · have hr : rkN n (p % 2 ^ n) < 0 := by unfold rkN; rw [if_pos (by omega)]; omega
    simp only [if_pos hr, neg_wrap hp, decide_eq_true hs]
    refine Split_j1 h (Nat.mod_lt _ (by decide)) ?_ hm.1
    rw [neg_mod (by omega) b64 hp hs]
    unfold magN; rw [if_pos hs]
  · have hr : ¬ rkN n (p % 2 ^ n) < 0 := by unfold rkN; rw [if_neg (by omega)]; omega
    simp only [if_neg hr, decide_eq_false hs]
    refine Split_j1 h hp ?_ hm.1
    have : magN n (p % 2 ^ n) = p % 2 ^ n := by unfold magN; rw [if_neg hs]
    rw [this, ← mod_pow_le (a := p) (show n - 1 ≤ n by omega), Nat.mod_eq_of_lt (by omega)]
theorem Decode_no {n : Int} (h : isW n = false) (x : Int) : Ev (fun k => codec_Decode.f k n x) (0, false, 0, 0, some 2) := by
  unfold codec_Decode.f
  simp only [shape_Kind_no h, Option.bind_some]
  exact Ev.now _
def decE (n x : Nat) : Int × Bool × Int × Int × Option Int :=
  if x = 0 then (0, false, 0, 0, none) else if x = 2 ^ (n - 1) then (2, false, 0, 0, none)
  else (1, decide (2 ^ (n - 1) < x), decS (n - 1) (magN n x), ((decFr (n - 1) (magN n x) : Nat) : Int), none)
theorem Decode_eq {n p : Nat} (h : isW (n : Int) = true) (hp : p < 18446744073709551616) : Ev (fun k => codec_Decode.f k (n : Int) (p : Int)) (decE n (p % 2 ^ n)) := by
  obtain ⟨b64, b8⟩ := pow64 h
  unfold codec_Decode.f decE
  simp only [shape_Kind_eq h hp, Option.bind_some, Option.isNone_none, if_true]
  by_cases h0 : p % 2 ^ n = 0
  · simp only [if_pos h0]
    exact Ev.now _
  · simp only [if_neg h0]
    by_cases h1 : p % 2 ^ n = 2 ^ (n - 1)
    · simp only [if_pos h1]
      exact Ev.now _
    · simp only [if_neg h1, if_true]
      refine Ev.bind (Split_real h hp h0 h1) ?_
      have hm := magN_bounds (n := n) (by omega) (Nat.mod_lt p (two_pos n)) h0 h1
      generalize hg : magN n (p % 2 ^ n) = w at *
      obtain ⟨m, rfl⟩ : ∃ m, n = m + 1 := ⟨n - 1, by omega⟩
      rw [Nat.add_sub_cancel] at *
      obtain ⟨_, s1, s2, r1, r2⟩ := dec_sig (m := m) (w := w) (by omega) (by omega) hm.1 hm.2
      have hx4 := decEx_lt (m := m) (w := w)
      have hlf : dLf m w ≤ 63 := by unfold dLf dL1; omega
      have hfr := decFr_range hlf
      have ew : wrap64 (63 - ((dLf m w : Nat) : Int)) = ((63 - dLf m w : Nat) : Int) := by rw [w64 (by omega) (by omega)]; omega
      have es : wrap64 (wrap64 (4 * decK m w) + ((decEx m w : Nat) : Int)) = decS m w := by
        clear ew
        unfold decS at *
        rw [w64 (n := 4 * decK m w) (by omega) (by omega), w64 (by omega) (by omega)]
      have ef : Go.bits .or .u64 9223372036854775808 (shl .u64 ((w % 2 ^ dLf m w : Nat) : Int) ((63 - dLf m w : Nat) : Int)) = ((decFr m w : Nat) : Int) := by
        clear ew es
        have hl := Nat.mod_lt w (two_pos (dLf m w))
        have hb : w % 2 ^ dLf m w * 2 ^ (63 - dLf m w) < 2 ^ 63 := by
          have h2 : 2 ^ dLf m w * 2 ^ (63 - dLf m w) = 2 ^ 63 := pow_split hlf
          rw [← h2]; exact Nat.mul_lt_mul_of_pos_right hl (two_pos _)
        have hb' := hb
        rw [p63] at hb'
        rw [shl_nat _ _ (by omega), Nat.mod_eq_of_lt (by omega)]
        have := or_add 9223372036854775808 (w % 2 ^ dLf m w * 2 ^ (63 - dLf m w)) 63 (by decide) (by decide) hb (by omega)
        unfold decFr
        rw [p63]
        exact this
      refine evn ?_
      unfold splE
      simp only [ew, es, ef, if_pos (show (0 : Int) ≤ ((63 - dLf m w : Nat) : Int) by clear ew es ef; omega)]
end Go.Proofs.Ytebhpipfkomhjaa.V
namespace Go.Proofs.Ytebhpipfkomhjaa.V
open Go Go.RowKit Go.Proofs.YtebhpipfkomhjaaW.PrintWords Go.Proofs.YtebhpipfkomhjaaW.PrintLast Go.Proofs.YtebhpipfkomhjaaW.PrintMore Go.Proofs.Ytebhpipfkomhjaa.PAll
set_option linter.unusedVariables false
set_option linter.unusedSimpArgs false
def decV (m w : Nat) : Nat := decFr m w * 18446744073709551616
theorem decV_sub {m w : Nat} (h : dLf m w ≤ 63) : decV m w - 2 ^ 127 = (decFr m w - 2 ^ 63) * 2 ^ 64 ∧ 2 ^ 127 ≤ decV m w ∧ decV m w < 2 ^ 128 := by
  have := decFr_range h
  unfold decV
  rw [p63, p64] at *
  rw [p127, p128]
  omega
theorem dLf_le {m w : Nat} (h : m ≤ 63) : dLf m w ≤ 63 := by unfold dLf dL1; omega
theorem decV_sig {m w : Nat} (h1 : 7 ≤ m) (hm : m ≤ 63) (hw0 : 0 < w) (hw : w < 2 ^ m) : sig (decS m w) (decV m w - 2 ^ 127) = w * 2 ^ (200 - m) := by
  rw [(decV_sub (dLf_le hm)).1]
  exact (dec_sig h1 hm hw0 hw).1
theorem dec_pos {n w : Nat} (h8 : 8 ≤ n) (hn : n ≤ 64) (hw0 : 0 < w) (hw : w < 2 ^ (n - 1)) : posP n (decS (n - 1) w) (decV (n - 1) w) false = w := by
  obtain ⟨d1, d2, d3⟩ := decV_sub (m := n - 1) (w := w) (dLf_le (by omega))
  obtain ⟨_, s1, s2, _, _⟩ := dec_sig (m := n - 1) (w := w) (by omega) (by omega) hw0 hw
  have hs := decV_sig (m := n - 1) (w := w) (by omega) (by omega) hw0 hw
  rw [show 200 - (n - 1) = 201 - n by omega] at hs
  unfold posP
  by_cases c1 : 4 * (n : Int) - 8 ≤ decS (n - 1) w
  · rw [if_pos c1]
    have e : decS (n - 1) w = 4 * (n : Int) - 8 := by omega
    rw [e] at hs
    have hle : sig (4 * (n : Int) - 8) 0 ≤ w * 2 ^ (201 - n) := by
      rw [← hs]
      rcases Nat.eq_zero_or_pos (decV (n - 1) w - 2 ^ 127) with h | h
      · rw [h]; exact Nat.le_refl _
      · exact Nat.le_of_lt (sig_mono (by omega) (by omega) (two_pos 127) (fr_lt d3) (.inr ⟨rfl, h⟩))
    rw [sig_most h8 hn] at hle
    have := Nat.le_of_mul_le_mul_right hle (two_pos (201 - n))
    omega
  · rw [if_neg c1, if_neg (by omega), hs]
    have e : 2 * (w * 2 ^ (201 - n)) + bR false = w * 2 ^ (202 - n) := by
      rw [show 202 - n = 201 - n + 1 by omega, Nat.pow_succ]
      simp only [bR, Bool.false_eq_true, if_false]
      grind
    rw [e, rne_exact]
theorem dec_soundN {n w : Nat} {ng : Bool} (h8 : 8 ≤ n) (hn : n ≤ 64) (hw0 : 0 < w) (hw : w < 2 ^ (n - 1)) : soundN 1 ng (decS (n - 1) w) ((decFr (n - 1) w : Nat) : Int) = true := by
  obtain ⟨_, s1, s2, _, _⟩ := dec_sig (m := n - 1) (w := w) (by omega) (by omega) hw0 hw
  have := decFr_range (m := n - 1) (w := w) (dLf_le (by omega))
  rw [p63] at this
  unfold soundN
  rw [if_neg (by omega)]
  exact decide_eq_true (by omega)
theorem q4 {n : Nat} (hn : n ≤ 63) : (2 : Nat) ^ (202 - n) = 4 * 2 ^ (200 - n) ∧ (2 : Nat) ^ (201 - n) = 2 * 2 ^ (200 - n) := by
  rw [show 202 - n = 200 - n + 1 + 1 by omega, show 201 - n = 200 - n + 1 by omega, Nat.pow_succ, Nat.pow_succ]
  omega
end Go.Proofs.Ytebhpipfkomhjaa.V
namespace Go.Proofs.Ytebhpipfkomhjaa.V
open Go Go.RowKit Go.Proofs.YtebhpipfkomhjaaW.PrintWords Go.Proofs.YtebhpipfkomhjaaW.PrintLast Go.Proofs.YtebhpipfkomhjaaW.PrintMore Go.Proofs.Ytebhpipfkomhjaa.PAll
set_option linter.unusedVariables false
set_option linter.unusedSimpArgs false
def numL (l : List UInt8) : Nat := l.foldl (fun x b => 2 * x + (b.toNat - 48)) 0
def okL (l : List UInt8) : Prop := ∀ b ∈ l, b.toNat = 48 ∨ b.toNat = 49
theorem numL_acc (l : List UInt8) : ∀ x, l.foldl (fun x b => 2 * x + (b.toNat - 48)) x = x * 2 ^ l.length + numL l := by
  induction l with
  | nil => intro x; simp [numL]
  | cons b l ih =>
    intro x
    simp only [List.foldl_cons, List.length_cons, numL]
    rw [ih, ih (2 * 0 + (b.toNat - 48)), Nat.pow_succ]
    generalize 2 ^ l.length = z
    generalize numL l = y
    generalize b.toNat - 48 = w
    grind
theorem numL_append (a b : List UInt8) : numL (a ++ b) = numL a * 2 ^ b.length + numL b := by
  unfold numL
  rw [List.foldl_append, numL_acc]
  rfl
theorem numL_lt {l : List UInt8} (h : okL l) : numL l < 2 ^ l.length := by
  induction l with
  | nil => simp [numL]
  | cons b l ih =>
    have ih := ih (fun x hx => h x (List.mem_cons_of_mem _ hx))
    have hb := h b List.mem_cons_self
    rw [show b :: l = [b] ++ l from rfl, numL_append]
    have e : numL [b] = b.toNat - 48 := by simp [numL]
    rw [e, List.length_append, Nat.pow_add]
    simp only [List.length_singleton, Nat.pow_one]
    rcases hb with hb | hb <;> rw [hb] <;> omega
theorem okL_append {a b : List UInt8} (ha : okL a) (hb : okL b) : okL (a ++ b) := fun x hx => (List.mem_append.mp hx).elim (ha x) (hb x)
theorem okL_drop {a : List UInt8} (m : Nat) (h : okL a) : okL (a.drop m) := fun x hx => h x (List.mem_of_mem_drop hx)
structure BT (s : ByteArray) (L X : Nat) : Prop where
  ok : okL s.data.toList
  size : s.size = L
  num : numL s.data.toList = X
theorem lenB (s : ByteArray) : s.data.toList.length = s.size := Array.length_toList
theorem BT.len {s : ByteArray} {L X : Nat} (h : BT s L X) : s.data.toList.length = L := by rw [← h.size]; exact lenB s
theorem BT.lt {s : ByteArray} {L X : Nat} (h : BT s L X) : X < 2 ^ L := by have := numL_lt h.ok; rw [h.len, h.num] at this; exact this
theorem BT.append {s t : ByteArray} {L M X Y : Nat} (h : BT s L X) (k : BT t M Y) : BT (s ++ t) (L + M) (X * 2 ^ M + Y) := by
  refine ⟨?_, ?_, ?_⟩
  · rw [ByteArray.data_append, Array.toList_append]; exact okL_append h.ok k.ok
  · rw [ByteArray.size_append, h.size, k.size]
  · rw [ByteArray.data_append, Array.toList_append, numL_append, h.num, k.num, k.len]
theorem bt_of {s : ByteArray} {i : Nat} (h : i < s.size) : bt s (i : Int) = ((s.data.toList[i]'(by rw [lenB]; exact h)).toNat : Int) := by
  unfold bt
  rw [dif_pos (by simpa using h)]
  simp [ByteArray.getElem_eq_getElem_data]
theorem BT.bit {s : ByteArray} {L X i : Nat} (h : BT s L X) (hi : i < L) : bt s (i : Int) = 48 + ((X / 2 ^ (L - 1 - i) % 2 : Nat) : Int) := by
  have hs : i < s.size := by rw [h.size]; exact hi
  rw [bt_of hs]
  have hl := h.len
  have hi' : i < s.data.toList.length := by omega
  have hx := h.ok _ (List.getElem_mem hi')
  have e1 : X = numL (s.data.toList.take (i + 1)) * 2 ^ (L - 1 - i) + numL (s.data.toList.drop (i + 1)) := by
    have := numL_append (s.data.toList.take (i + 1)) (s.data.toList.drop (i + 1))
    rw [List.take_append_drop, h.num, List.length_drop, hl, show L - (i + 1) = L - 1 - i by omega] at this
    exact this
  have hlt : numL (s.data.toList.drop (i + 1)) < 2 ^ (L - 1 - i) := by
    have := numL_lt (okL_drop (i + 1) h.ok)
    rw [List.length_drop, hl, show L - (i + 1) = L - 1 - i by omega] at this
    exact this
  have e2 : X / 2 ^ (L - 1 - i) = numL (s.data.toList.take (i + 1)) := by
    rw [e1, Nat.add_comm, Nat.add_mul_div_right _ _ (two_pos _), Nat.div_eq_of_lt hlt, Nat.zero_add]
  have e3 : numL (s.data.toList.take (i + 1)) = 2 * numL (s.data.toList.take i) + ((s.data.toList[i]'hi').toNat - 48) := by
    rw [List.take_succ_eq_append_getElem hi', numL_append]
    simp [numL]; omega
  rw [e2, e3]
  rcases hx with hx | hx <;> rw [hx] <;> omega
theorem BT.nil : BT ByteArray.empty 0 0 := ⟨by intro b hb; simp at hb, rfl, rfl⟩
structure BN (l : List Int) (L X : Nat) : Prop where
  len : l.length = L
  bt : BT (strOfNums l) L X
theorem BN.nil : BN [] 0 0 := ⟨rfl, ⟨by intro b hb; simp [strOfNums_data] at hb, rfl, rfl⟩⟩
theorem BN.snoc {l : List Int} {L X : Nat} (h : BN l L X) (b : Nat) (hb : b < 2) : BN (l ++ [48 + (b : Int)]) (L + 1) (2 * X + b) := by
  have e : (strOfNums (l ++ [48 + (b : Int)])).data.toList = (strOfNums l).data.toList ++ [UInt8.ofNat (48 + b)] := by
    rw [strOfNums_data, strOfNums_data, List.map_append]
    have : (48 + (b : Int)).toNat = 48 + b := by omega
    simp [this]
  have hv : (UInt8.ofNat (48 + b)).toNat = 48 + b := by
    rw [UInt8.toNat_ofNat']; omega
  refine ⟨by simp [h.len], ⟨?_, ?_, ?_⟩⟩
  · rw [e]
    refine okL_append h.bt.ok ?_
    intro x hx
    simp only [List.mem_singleton] at hx
    subst hx; rw [hv]; omega
  · rw [strOfNums_size]; simp [h.len]
  · rw [e, numL_append, h.bt.num]
    have : numL [UInt8.ofNat (48 + b)] = b := by unfold numL; simp only [List.foldl_cons, List.foldl_nil]; rw [hv]; omega
    rw [this]; simp; omega
theorem tmod2 (n : Nat) : Int.tmod (n : Int) 2 = ((n % 2 : Nat) : Int) := by
  rw [Int.tmod_eq_emod_of_nonneg (by omega)]; omega
theorem byte_bit (n : Nat) : (48 + Int.tmod (n : Int) 2) % 256 = 48 + ((n % 2 : Nat) : Int) := by rw [tmod2]; omega
theorem Text_l0 (x : Nat) (hx : x < 18446744073709551616) : ∀ (d : Nat) (l : List Int) (L : Nat), d ≤ 64 → L ≤ 64 → L + d ≤ 64 → BN l L (x % 2 ^ (L + d) / 2 ^ d) →
    ∃ s, Ev (fun k => vernierref01_Text.l0 k (x : Int) l ((d : Int) - 1)) s ∧ BT s (L + d) (x % 2 ^ (L + d))
  | 0, l, L, _, _, _, h => by
    refine ⟨strOfNums l, ?_, by simpa using h.bt⟩
    refine evs ?_
    simp only [vernierref01_Text.l0]
    simp only [if_neg (show ¬ ((0 : Nat) : Int) - 1 ≥ 0 by omega)]
    exact Ev.now _
  | d + 1, l, L, hd, hL, hs, h => by
    have hb := BN.snoc h (x / 2 ^ d % 2) (Nat.mod_lt _ (by decide))
    have e : 2 * (x % 2 ^ (L + (d + 1)) / 2 ^ (d + 1)) + x / 2 ^ d % 2 = x % 2 ^ (L + 1 + d) / 2 ^ d := by
      rw [show L + (d + 1) = L + 1 + d by omega, Nat.pow_succ 2 d, ← Nat.div_div_eq_div_mul]
      have e1 : x % 2 ^ (L + 1 + d) / 2 ^ d % 2 = x / 2 ^ d % 2 := by
        rw [show L + 1 + d = d + (L + 1) by omega, Nat.pow_add, Nat.mod_mul_right_div_self, Nat.pow_succ, Nat.mod_mul_left_mod]
      omega
    rw [e] at hb
    obtain ⟨s, h1, h2⟩ := Text_l0 x hx d _ (L + 1) (by omega) (by omega) (by omega) hb
    refine ⟨s, ?_, by rw [show L + (d + 1) = L + 1 + d by omega]; exact h2⟩
    refine evs ?_
    simp only [vernierref01_Text.l0]
    have ei : ((d + 1 : Nat) : Int) - 1 = (d : Int) := by omega
    rw [ei]
    have ew : wrap64 ((d : Int) - 1) = (d : Int) - 1 := w64 (by omega) (by omega)
    have hlen := h.len
    have esh := shr_nat x d (by omega)
    have eb := byte_bit (x / 2 ^ d)
    simp only [if_pos (show (d : Int) ≥ 0 by omega), if_pos (show (0 : Int) ≤ (d : Int) by omega), if_pos (show l.length < 140737488355328 by omega), ew, esh, eb]
    exact h1
theorem Text_eq (x n : Nat) (hx : x < 18446744073709551616) (hn : n ≤ 64) :
    ∃ s, Ev (fun k => vernierref01_Text.f k (x : Int) (n : Int)) s ∧ BT s n (x % 2 ^ n) := by
  have h0 : BN [] 0 (x % 2 ^ (0 + n) / 2 ^ n) := by
    rw [Nat.zero_add, Nat.div_eq_of_lt (Nat.mod_lt _ (two_pos n))]; exact BN.nil
  obtain ⟨s, h1, h2⟩ := Text_l0 x hx n [] 0 hn (by omega) (by omega) h0
  refine ⟨s, ?_, by rw [Nat.zero_add] at h2; exact h2⟩
  unfold vernierref01_Text.f
  rw [w64 (by omega) (by omega)]
  exact h1
theorem Number_l0 {s : ByteArray} {L X : Nat} (h : BT s L X) (hL : L ≤ 64) : ∀ (d i : Nat), i + d = L →
    Ev (fun k => vernierref01_Number.l0 k s ((X / 2 ^ d : Nat) : Int) (i : Int)) (X : Int)
  | 0, i, hi => by
    refine evs ?_
    simp only [vernierref01_Number.l0]
    simp only [if_neg (show ¬ (i : Int) < (s.size : Int) by rw [h.size]; omega)]
    simpa using Ev.now (X : Int)
  | d + 1, i, hi => by
    refine evs ?_
    simp only [vernierref01_Number.l0]
    have hb := h.bit (i := i) (by omega)
    have hlt := h.lt
    simp only [if_pos (show (i : Int) < (s.size : Int) by rw [h.size]; omega), if_pos (show (0 : Int) ≤ (i : Int) by omega), hb]
    have ed : L - 1 - i = d := by omega
    rw [ed]
    have ew : wrap64 ((i : Int) + 1) = ((i + 1 : Nat) : Int) := by rw [w64 (by omega) (by omega)]; omega
    have hq : X / 2 ^ d < 2 ^ 64 := Nat.lt_of_le_of_lt (Nat.div_le_self _ _) (Nat.lt_of_lt_of_le hlt (pow_le hL))
    rw [p64] at hq
    have e2 : X / 2 ^ (d + 1) = X / 2 ^ d / 2 := by rw [Nat.pow_succ, Nat.div_div_eq_div_mul]
    have e1 : IntKind.u64.wrap (IntKind.u64.wrap (2 * ((X / 2 ^ (d + 1) : Nat) : Int)) + (48 + ((X / 2 ^ d % 2 : Nat) : Int) - 48) % 256) = ((X / 2 ^ d : Nat) : Int) := by
      rw [e2]
      generalize X / 2 ^ d = q at hq
      rw [u64_of (n := 2 * ((q / 2 : Nat) : Int)) (by omega) (by omega), u64_of (by omega) (by omega)]; omega
    rw [ew, e1]
    exact Number_l0 h hL d (i + 1) (by omega)
theorem Number_eq {s : ByteArray} {L X : Nat} (h : BT s L X) (hL : L ≤ 64) : Ev (fun k => vernierref01_Number.f k s) (X : Int) := by
  have := Number_l0 h hL L 0 (by omega)
  rw [Nat.div_eq_of_lt h.lt] at this
  unfold vernierref01_Number.f
  exact this
end Go.Proofs.Ytebhpipfkomhjaa.V
