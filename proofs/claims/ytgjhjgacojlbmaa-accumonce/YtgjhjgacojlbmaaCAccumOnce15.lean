/- One deposit, read, is the product, rounded; one pattern is itself; a product and a pattern are the fused product and sum. No condition. -/
-- Written by a program of this session out of its own texts (wip/tools/link.py).
import Derived.Below
import Derived.ChangeKeysEq
import Derived.ChangeOld
import Derived.Deep.MidRow
import Derived.Deep.RegionHeld3
import Derived.Great.BuildSlice
import Derived.IntWalk
import Derived.KernelRfl
import Derived.LaidEql
import Derived.Laws.Bits64
import Derived.Laws.BitsLemmas
import Derived.Laws.BytesArg
import Derived.Laws.IdiomCopy
import Derived.Laws.OwnMore
import Derived.Laws.Rows
import Derived.Laws.Slices
import Derived.Laws.Strings
import Derived.Laws.StructEq
import Derived.Laws.Tables
import Derived.Lib.BitFns
import Derived.Lib.Mul64
import Derived.Lib.Slices
import Derived.Lib.Small
import Derived.Lib.SmallJoins
import Derived.Lib.Strings
import Derived.Lib.Walk
import Derived.Maps.AppendAt
import Derived.OpenShut
import Derived.OrdersHeld
import Derived.RowKit
import Derived.RowKit3
import Derived.Scope
import Derived.Shelf.Spec.BitsCarry
import Derived.SizedLaws
import Derived.Test.YtgjhjgacojlbmaaProg
import Derived.Test.YtgjhjgacojlbmaaRows
import Derived.WideLaws
import Derived.Test.YtgjhjgacojlbmaaCAccumOnce1
import Derived.Test.YtgjhjgacojlbmaaCAccumOnce11
import Derived.Test.YtgjhjgacojlbmaaCAccumOnce14
namespace Go.Proofs.Ytgjhjgacojlbmaa.accumOnce
open Go Go.ChangeShapes Go.WideShapes Go.ChangeAt Go.RowKit Go.Proofs.Ytgjhjgacojlbmaa.Ab
open Go.ChangeMaps (open_string shut_string)
set_option linter.unusedVariables false
set_option linter.unusedSimpArgs false
theorem own : ownKnob Try.prog.godebug = none := by kernel_rfl
set_option maxRecDepth 100000 in
theorem lifted (os : Os) (started : os.Started) (H : Type) (enc : TypeId × Value → H) :
    ReturnsInHanded {} Try.checked os 8 .any (Rows.accumOnceSpec.pre6 enc Try.prog Try.f8 Rows.accumOnceRow.domain false) (Rows.accumOnceSpec.post enc Try.prog Try.f8 false true false false) := by
  refine returnsInHanded_of_change_sized (C := Try.checked) own started (by kernel_rfl) Try.func8
    (ChangeSpec.witness6 (enc := enc) (C := Try.checked) false ⟨#[], #[.int .i64 0, .agg #[.int .u64 0, .int .u64 0, .bool false], .int .u64 0], []⟩ 8 (by kernel_rfl) (by kernel_rfl) (by kernel_rfl) (by kernel_rfl)) ?_
  intro W base args ds gs before hval0 hW hcnd hsz0 _
  have hsz : (DataW.weightsEach Try.prog (Try.f8.params.toList ++ Rows.accumOnceSpec.plain.varTypes Try.prog) (ds ++ gs)).all (· ≤ reachBytes) = true := hsz0
  have hval : ∀ (j : Nat) t v, Try.f8.params[j]? = some t → args[j]? = some v → Value.okWide Try.prog W .any base t v := hval0
  have hW' := hW
  obtain ⟨p, q, hA0, hV, rfl, hfz, hnd⟩ := hW
  have hA : DataW.TrodAll enc Try.prog W 0 (fun _ => true) true Try.f8.params.toList args.toList ds p := hA0
  rw [Try.params8] at hA hval hsz
  obtain ⟨v0, vs0, d0, ds0, p0, q0, hargs, rfl, rfl, h0, r0⟩ := trodAll_cons hA
  obtain ⟨v1, vs1, d1, ds1, p1, q1, rfl, rfl, rfl, h1, r1⟩ := trodAll_cons r0
  obtain ⟨v2, vs2, d2, ds2, p2, q2, rfl, rfl, rfl, h2, r2⟩ := trodAll_cons r1
  obtain ⟨rfl, rfl, rfl⟩ := trodAll_nil r2
  obtain rfl : args = #[v0, v1, v2] := by cases args; simp_all
  obtain ⟨rfl, rfl⟩ := trodVars_none hV
  obtain ⟨a0, rfl, rfl, rfl, w0⟩ := open_int Try.underlying3 (hval 0 3 v0 rfl rfl) h0
  obtain ⟨v1_0, v1_1, v1_2, y1_0, y1_1, y1_2, n1_, rfl, rfl, rfl, h1_0, h1_1, h1_2⟩ := AggX.open_agg3 Try.underlying45 (by kernel_rfl) (by kernel_rfl) (hval 1 45 v1 rfl rfl) h1
  obtain ⟨a1_0, rfl, rfl, w1_0⟩ := AggX.cell_int Try.underlying34 h1_0
  obtain ⟨a1_1, rfl, rfl, w1_1⟩ := AggX.cell_int Try.underlying34 h1_1
  obtain ⟨a1_2, rfl, rfl⟩ := AggX.cell_bool Try.underlying4 h1_2
  obtain ⟨a2, rfl, rfl, rfl, w2⟩ := open_int Try.underlying34 (hval 2 34 v2 rfl rfl) h2
  clear hA0 hval0 hsz0 hsz
  obtain ⟨k, hk⟩ := Pure.AccumOnce a0 a1_0 a1_1 a1_2 a2 w0 w1_0 w1_1 w2
  refine (FnOk.truth Try.func8 (by rfl) (by rfl) (Fn.vernierlaw15_AccumOnce.ok k) (x := (a0, a1_0, a1_1, a1_2, a2)) hk W #[.int .i64 a0, .agg #[.int .u64 a1_0, .int .u64 a1_1, .bool a1_2], .int .u64 a2] ⟨⟨rfl, inK_wf w0, by simp, by simp⟩, ⟨_, rfl, ⟨rfl, inK_wf w1_0, by simp, by simp⟩, ⟨rfl, inK_wf w1_1, by simp, by simp⟩, rfl, trivial⟩, ⟨rfl, inK_wf w2, by simp, by simp⟩, trivial⟩).mono fun e W' ⟨he, bel⟩ => ?_
  subst he
  exact ⟨_, rfl, _, _, _, [], _, [], hW', trodAll_mk1 (shut_bool Try.underlying4 _), (trodAll_cons_mk (shut_int Try.underlying3 w0) (trodAll_cons_mk (AggX.shut_agg3 Try.underlying45 (by kernel_rfl) (by kernel_rfl) (AggX.shut_int1 Try.underlying34 w1_0) (AggX.shut_int1 Try.underlying34 w1_1) (AggX.shut_bool1 Try.underlying4 _)) (trodAll_cons_mk (shut_int Try.underlying34 w2) trodAll_mk0))), rfl, bel.frame _, fun h => by cases h⟩
theorem over : Rows.accumOnceRow.holds Try.pinned (OpenSpec.ofChange Rows.accumOnceSpec) :=
  OpenClaim.holds_of_wide 8 Try.f8 rfl rfl rfl rfl rfl rfl rfl ⟨rfl, rfl, rfl, rfl, rfl⟩ rfl rfl rfl rfl rfl (by kernel_rfl) Try.func8 (by kernel_rfl)
    (of_decide_eq_true (by kernel_rfl)) (by unfold Func.isWrapper; first | (rw [if_pos (by decide +kernel)]; kernel_rfl) | (rw [if_neg (by decide +kernel)]; exact ⟨rfl, rfl⟩))
    (fun os started H enc _ => lifted os started H enc)
theorem proved : Rows.AccumOnceSaid := over
end Go.Proofs.Ytgjhjgacojlbmaa.accumOnce
namespace Go.Proofs.Ytgjhjgacojlbmaa
theorem accumOnce_holds : Rows.AccumOnceSaid := accumOnce.proved
end Go.Proofs.Ytgjhjgacojlbmaa
