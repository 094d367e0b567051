/- fuse.Exact of any two Exacts is what the document says: the exact sum's first 128 digits and whether something is behind them, or ErrArg where one isn't sound or has a Rest. No condition. -/
-- Written by a program of this session out of its own texts (wip/tools/link.py).
import Derived.Below
import Derived.ChangeKeysEq
import Derived.ChangeOld
import Derived.Deep.MidRow
import Derived.Deep.RegionHeld3
import Derived.Great.BuildSlice
import Derived.IntWalk
import Derived.KernelRfl
import Derived.LaidEql
import Derived.Laws.Bits64
import Derived.Laws.BitsLemmas
import Derived.Laws.BytesArg
import Derived.Laws.IdiomCopy
import Derived.Laws.OwnMore
import Derived.Laws.Rows
import Derived.Laws.Slices
import Derived.Laws.Strings
import Derived.Laws.StructEq
import Derived.Laws.Tables
import Derived.Lib.BitFns
import Derived.Lib.Mul64
import Derived.Lib.Slices
import Derived.Lib.Small
import Derived.Lib.SmallJoins
import Derived.Lib.Strings
import Derived.Lib.Walk
import Derived.Maps.AppendAt
import Derived.OpenShut
import Derived.OrdersHeld
import Derived.RowKit
import Derived.RowKit3
import Derived.Shelf.Spec.BitsCarry
import Derived.SizedLaws
import Derived.Test.YtfbbnpliaokmbaaProg
import Derived.Test.YtfbbnpliaokmbaaRows
import Derived.WideLaws
import Derived.Test.YtfbbnpliaokmbaaCFuseExacts1
import Derived.Test.YtfbbnpliaokmbaaCFuseExacts10
import Derived.Test.YtfbbnpliaokmbaaCFuseExacts13
namespace Go.Proofs.Ytfbbnpliaokmbaa.fuseExacts
open Go Go.ChangeShapes Go.WideShapes Go.ChangeAt Go.RowKit Go.Proofs.Ytfbbnpliaokmbaa.Ab
open Go.ChangeMaps (open_string shut_string)
set_option linter.unusedVariables false
set_option linter.unusedSimpArgs false
theorem own : ownKnob Try.prog.godebug = none := by kernel_rfl
set_option maxRecDepth 100000 in
theorem lifted (os : Os) (started : os.Started) (H : Type) (enc : TypeId × Value → H) :
    ReturnsInHanded {} Try.checked os 5 .any (Rows.fuseExactsSpec.pre6 enc Try.prog Try.f5 Rows.fuseExactsRow.domain false) (Rows.fuseExactsSpec.post enc Try.prog Try.f5 false true false false) := by
  refine returnsInHanded_of_change_sized (C := Try.checked) own started (by kernel_rfl) Try.func5
    (ChangeSpec.witness6 (enc := enc) (C := Try.checked) false ⟨#[], #[.agg #[.int .i64 0, .bool false, .int .i64 0, .int .u64 0, .int .u64 0, .bool false], .agg #[.int .i64 0, .bool false, .int .i64 0, .int .u64 0, .int .u64 0, .bool false]], []⟩ 8 (by kernel_rfl) (by kernel_rfl) (by kernel_rfl) (by kernel_rfl)) ?_
  intro W base args ds gs before hval0 hW hcnd hsz0 _
  have hsz : (DataW.weightsEach Try.prog (Try.f5.params.toList ++ Rows.fuseExactsSpec.plain.varTypes Try.prog) (ds ++ gs)).all (· ≤ reachBytes) = true := hsz0
  have hval : ∀ (j : Nat) t v, Try.f5.params[j]? = some t → args[j]? = some v → Value.okWide Try.prog W .any base t v := hval0
  have hW' := hW
  obtain ⟨p, q, hA0, hV, rfl, hfz, hnd⟩ := hW
  have hA : DataW.TrodAll enc Try.prog W 0 (fun _ => true) true Try.f5.params.toList args.toList ds p := hA0
  rw [Try.params5] at hA hval hsz
  obtain ⟨v0, vs0, d0, ds0, p0, q0, hargs, rfl, rfl, h0, r0⟩ := trodAll_cons hA
  obtain ⟨v1, vs1, d1, ds1, p1, q1, rfl, rfl, rfl, h1, r1⟩ := trodAll_cons r0
  obtain ⟨rfl, rfl, rfl⟩ := trodAll_nil r1
  obtain rfl : args = #[v0, v1] := by cases args; simp_all
  obtain ⟨rfl, rfl⟩ := trodVars_none hV
  obtain ⟨v0_0, v0_1, v0_2, v0_3, v0_4, v0_5, y0_0, y0_1, y0_2, y0_3, y0_4, y0_5, n0_, rfl, rfl, rfl, h0_0, h0_1, h0_2, h0_3, h0_4, h0_5⟩ := AggX.open_agg6 Try.underlying36 (by kernel_rfl) (by kernel_rfl) (hval 0 36 v0 rfl rfl) h0
  obtain ⟨a0_0, rfl, rfl, w0_0⟩ := AggX.cell_int Try.underlying3 h0_0
  obtain ⟨a0_1, rfl, rfl⟩ := AggX.cell_bool Try.underlying4 h0_1
  obtain ⟨a0_2, rfl, rfl, w0_2⟩ := AggX.cell_int Try.underlying3 h0_2
  obtain ⟨a0_3, rfl, rfl, w0_3⟩ := AggX.cell_int Try.underlying22 h0_3
  obtain ⟨a0_4, rfl, rfl, w0_4⟩ := AggX.cell_int Try.underlying22 h0_4
  obtain ⟨a0_5, rfl, rfl⟩ := AggX.cell_bool Try.underlying4 h0_5
  obtain ⟨v1_0, v1_1, v1_2, v1_3, v1_4, v1_5, y1_0, y1_1, y1_2, y1_3, y1_4, y1_5, n1_, rfl, rfl, rfl, h1_0, h1_1, h1_2, h1_3, h1_4, h1_5⟩ := AggX.open_agg6 Try.underlying36 (by kernel_rfl) (by kernel_rfl) (hval 1 36 v1 rfl rfl) h1
  obtain ⟨a1_0, rfl, rfl, w1_0⟩ := AggX.cell_int Try.underlying3 h1_0
  obtain ⟨a1_1, rfl, rfl⟩ := AggX.cell_bool Try.underlying4 h1_1
  obtain ⟨a1_2, rfl, rfl, w1_2⟩ := AggX.cell_int Try.underlying3 h1_2
  obtain ⟨a1_3, rfl, rfl, w1_3⟩ := AggX.cell_int Try.underlying22 h1_3
  obtain ⟨a1_4, rfl, rfl, w1_4⟩ := AggX.cell_int Try.underlying22 h1_4
  obtain ⟨a1_5, rfl, rfl⟩ := AggX.cell_bool Try.underlying4 h1_5
  clear hA0 hval0 hsz0 hsz
  obtain ⟨k, hk⟩ := Pure.FuseExacts a0_0 a0_1 a0_2 a0_3 a0_4 a0_5 a1_0 a1_1 a1_2 a1_3 a1_4 a1_5 w0_0 w0_2 w0_3 w0_4 w1_0 w1_2 w1_3 w1_4
  refine (FnOk.truth Try.func5 (by rfl) (by rfl) (Fn.vernierlaw13_FuseExacts.ok k) (x := (a0_0, a0_1, a0_2, a0_3, a0_4, a0_5, a1_0, a1_1, a1_2, a1_3, a1_4, a1_5)) hk W #[.agg #[.int .i64 a0_0, .bool a0_1, .int .i64 a0_2, .int .u64 a0_3, .int .u64 a0_4, .bool a0_5], .agg #[.int .i64 a1_0, .bool a1_1, .int .i64 a1_2, .int .u64 a1_3, .int .u64 a1_4, .bool a1_5]] ⟨⟨_, rfl, ⟨rfl, inK_wf w0_0, by simp, by simp⟩, rfl, ⟨rfl, inK_wf w0_2, by simp, by simp⟩, ⟨rfl, inK_wf w0_3, by simp, by simp⟩, ⟨rfl, inK_wf w0_4, by simp, by simp⟩, rfl, trivial⟩, ⟨_, rfl, ⟨rfl, inK_wf w1_0, by simp, by simp⟩, rfl, ⟨rfl, inK_wf w1_2, by simp, by simp⟩, ⟨rfl, inK_wf w1_3, by simp, by simp⟩, ⟨rfl, inK_wf w1_4, by simp, by simp⟩, rfl, trivial⟩, trivial⟩).mono fun e W' ⟨he, bel⟩ => ?_
  subst he
  exact ⟨_, rfl, _, _, _, [], _, [], hW', trodAll_mk1 (shut_bool Try.underlying4 _), (trodAll_cons_mk (AggX.shut_agg6 Try.underlying36 (by kernel_rfl) (by kernel_rfl) (AggX.shut_int1 Try.underlying3 w0_0) (AggX.shut_bool1 Try.underlying4 _) (AggX.shut_int1 Try.underlying3 w0_2) (AggX.shut_int1 Try.underlying22 w0_3) (AggX.shut_int1 Try.underlying22 w0_4) (AggX.shut_bool1 Try.underlying4 _)) (trodAll_cons_mk (AggX.shut_agg6 Try.underlying36 (by kernel_rfl) (by kernel_rfl) (AggX.shut_int1 Try.underlying3 w1_0) (AggX.shut_bool1 Try.underlying4 _) (AggX.shut_int1 Try.underlying3 w1_2) (AggX.shut_int1 Try.underlying22 w1_3) (AggX.shut_int1 Try.underlying22 w1_4) (AggX.shut_bool1 Try.underlying4 _)) trodAll_mk0)), rfl, bel.frame _, fun h => by cases h⟩
theorem over : Rows.fuseExactsRow.holds Try.pinned (OpenSpec.ofChange Rows.fuseExactsSpec) :=
  OpenClaim.holds_of_wide 5 Try.f5 rfl rfl rfl rfl rfl rfl rfl ⟨rfl, rfl, rfl, rfl, rfl⟩ rfl rfl rfl rfl rfl (by kernel_rfl) Try.func5 (by kernel_rfl)
    (of_decide_eq_true (by kernel_rfl)) (by unfold Func.isWrapper; first | (rw [if_pos (by decide +kernel)]; kernel_rfl) | (rw [if_neg (by decide +kernel)]; exact ⟨rfl, rfl⟩))
    (fun os started H enc _ => lifted os started H enc)
theorem proved : Rows.FuseExactsSaid := over
end Go.Proofs.Ytfbbnpliaokmbaa.fuseExacts
namespace Go.Proofs.Ytfbbnpliaokmbaa
theorem fuseExacts_holds : Rows.FuseExactsSaid := fuseExacts.proved
end Go.Proofs.Ytfbbnpliaokmbaa
