/- A dot of one place is the product, of a place and a number times 1 the fused product and sum, of two places the pair; with the second one taken away the cross; a sum of two is the sum. No condition. -/
-- Written by a program of this session out of its own texts (wip/tools/link.py).
import Derived.Below
import Derived.ChangeKeysEq
import Derived.ChangeOld
import Derived.Deep.MidRow
import Derived.Deep.RegionHeld3
import Derived.Great.BuildSlice
import Derived.IntWalk
import Derived.KernelRfl
import Derived.LaidEql
import Derived.Laws.Bits64
import Derived.Laws.BitsLemmas
import Derived.Laws.BytesArg
import Derived.Laws.IdiomCopy
import Derived.Laws.OwnMore
import Derived.Laws.Rows
import Derived.Laws.Slices
import Derived.Laws.Strings
import Derived.Laws.StructEq
import Derived.Laws.Tables
import Derived.Lib.BitFns
import Derived.Lib.Mul64
import Derived.Lib.Slices
import Derived.Lib.Small
import Derived.Lib.SmallJoins
import Derived.Lib.Strings
import Derived.Lib.Walk
import Derived.LoopIn
import Derived.LoopNIn
import Derived.Maps.AppendAt
import Derived.OpenShut
import Derived.OrdersHeld
import Derived.OwnWalkIn
import Derived.RangeFuncBound
import Derived.RangeFuncCalls
import Derived.RangeFuncLeaves
import Derived.RangeFuncNested
import Derived.RowKit
import Derived.RowKit3
import Derived.Scope
import Derived.Shelf.Abstract
import Derived.Shelf.RegionOpen
import Derived.Shelf.Spec.BitsCarry
import Derived.SizedLaws
import Derived.TacticsInMore
import Derived.Test.YthofoolgbngobaaProg
import Derived.Test.YthofoolgbngobaaRows
import Derived.WalkKit
import Derived.WideLaws
import Derived.Test.YthofoolgbngobaaCTopPairs1
import Derived.Test.YthofoolgbngobaaCTopPairs16
import Derived.Test.YthofoolgbngobaaCTopPairs17
namespace Go.Proofs.Ythofoolgbngobaa.topPairs
open Go Go.ChangeShapes Go.WideShapes Go.ChangeAt Go.RowKit Go.Proofs.Ythofoolgbngobaa.Ab
open Go.ChangeMaps (open_string shut_string)
set_option linter.unusedVariables false
set_option linter.unusedSimpArgs false
theorem own : ownKnob Try.prog.godebug = none := by kernel_rfl
set_option maxRecDepth 100000 in
theorem lifted (os : Os) (started : os.Started) (H : Type) (enc : TypeId × Value → H) :
    ReturnsInHanded {} Try.checked os 7 .any (Rows.topPairsSpec.pre6 enc Try.prog Try.f7 Rows.topPairsRow.domain false) (Rows.topPairsSpec.post enc Try.prog Try.f7 false true false false) := by
  refine returnsInHanded_of_change_sized (C := Try.checked) own started (by kernel_rfl) Try.func7
    (ChangeSpec.witness6 (enc := enc) (C := Try.checked) false ⟨#[], #[.int .i64 0, .agg #[.int .u64 0, .int .u64 0, .int .u64 0, .int .u64 0]], []⟩ 8 (by kernel_rfl) (by kernel_rfl) (by kernel_rfl) (by kernel_rfl)) ?_
  intro W base args ds gs before hval0 hW hcnd hsz0 _
  have hsz : (DataW.weightsEach Try.prog (Try.f7.params.toList ++ Rows.topPairsSpec.plain.varTypes Try.prog) (ds ++ gs)).all (· ≤ reachBytes) = true := hsz0
  have hval : ∀ (j : Nat) t v, Try.f7.params[j]? = some t → args[j]? = some v → Value.okWide Try.prog W .any base t v := hval0
  have hW' := hW
  obtain ⟨p, q, hA0, hV, rfl, hfz, hnd⟩ := hW
  have hA : DataW.TrodAll enc Try.prog W 0 (fun _ => true) true Try.f7.params.toList args.toList ds p := hA0
  rw [Try.params7] at hA hval hsz
  obtain ⟨v0, vs0, d0, ds0, p0, q0, hargs, rfl, rfl, h0, r0⟩ := trodAll_cons hA
  obtain ⟨v1, vs1, d1, ds1, p1, q1, rfl, rfl, rfl, h1, r1⟩ := trodAll_cons r0
  obtain ⟨rfl, rfl, rfl⟩ := trodAll_nil r1
  obtain rfl : args = #[v0, v1] := by cases args; simp_all
  obtain ⟨rfl, rfl⟩ := trodVars_none hV
  obtain ⟨a0, rfl, rfl, rfl, w0⟩ := open_int Try.underlying3 (hval 0 3 v0 rfl rfl) h0
  obtain ⟨v1_0, v1_1, v1_2, v1_3, y1_0, y1_1, y1_2, y1_3, n1_, rfl, rfl, rfl, h1_0, h1_1, h1_2, h1_3⟩ := AggX.open_agg4 Try.underlying82 (by kernel_rfl) (by kernel_rfl) (hval 1 82 v1 rfl rfl) h1
  obtain ⟨a1_0, rfl, rfl, w1_0⟩ := AggX.cell_int Try.underlying25 h1_0
  obtain ⟨a1_1, rfl, rfl, w1_1⟩ := AggX.cell_int Try.underlying25 h1_1
  obtain ⟨a1_2, rfl, rfl, w1_2⟩ := AggX.cell_int Try.underlying25 h1_2
  obtain ⟨a1_3, rfl, rfl, w1_3⟩ := AggX.cell_int Try.underlying25 h1_3
  clear hA0 hval0 hsz0 hsz
  obtain ⟨k, hk⟩ := Pure.TopPairs a0 a1_0 a1_1 a1_2 a1_3 w0 w1_0 w1_1 w1_2 w1_3
  refine (FnOk.truth Try.func7 (by rfl) (by rfl) (Fn.verniertop_TopPairs.ok k) (x := (a0, a1_0, a1_1, a1_2, a1_3)) hk W #[.int .i64 a0, .agg #[.int .u64 a1_0, .int .u64 a1_1, .int .u64 a1_2, .int .u64 a1_3]] ⟨⟨rfl, inK_wf w0, by simp, by simp⟩, ⟨_, rfl, ⟨rfl, inK_wf w1_0, by simp, by simp⟩, ⟨rfl, inK_wf w1_1, by simp, by simp⟩, ⟨rfl, inK_wf w1_2, by simp, by simp⟩, ⟨rfl, inK_wf w1_3, by simp, by simp⟩, trivial⟩, trivial⟩).mono fun e W' ⟨he, bel⟩ => ?_
  subst he
  exact ⟨_, rfl, _, _, _, [], _, [], hW', trodAll_mk1 (shut_bool Try.underlying4 _), (trodAll_cons_mk (shut_int Try.underlying3 w0) (trodAll_cons_mk (AggX.shut_agg4 Try.underlying82 (by kernel_rfl) (by kernel_rfl) (AggX.shut_int1 Try.underlying25 w1_0) (AggX.shut_int1 Try.underlying25 w1_1) (AggX.shut_int1 Try.underlying25 w1_2) (AggX.shut_int1 Try.underlying25 w1_3)) trodAll_mk0)), rfl, bel.frame _, fun h => by cases h⟩
theorem over : Rows.topPairsRow.holds Try.pinned (OpenSpec.ofChange Rows.topPairsSpec) :=
  OpenClaim.holds_of_wide 7 Try.f7 rfl rfl rfl rfl rfl rfl rfl ⟨rfl, rfl, rfl, rfl, rfl⟩ rfl rfl rfl rfl rfl (by kernel_rfl) Try.func7 (by kernel_rfl)
    (of_decide_eq_true (by kernel_rfl)) (by unfold Func.isWrapper; first | (rw [if_pos (by decide +kernel)]; kernel_rfl) | (rw [if_neg (by decide +kernel)]; exact ⟨rfl, rfl⟩))
    (fun os started H enc _ => lifted os started H enc)
theorem proved : Rows.TopPairsSaid := over
end Go.Proofs.Ythofoolgbngobaa.topPairs
namespace Go.Proofs.Ythofoolgbngobaa
theorem topPairs_holds : Rows.TopPairsSaid := topPairs.proved
end Go.Proofs.Ythofoolgbngobaa
