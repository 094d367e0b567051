/- gen.Horner of any list and number is what the document says, in the widths 16 and 64; the list stays, its spare room too. No condition but a list's own size. -/
-- Written by a program of this session out of its own texts (wip/tools/link.py).
import Derived.Below
import Derived.Carry
import Derived.ChangeKeysEq
import Derived.ChangeOld
import Derived.ChangeSlices
import Derived.Deep.MidRow
import Derived.Deep.RegionHeld3
import Derived.Great.BuildSlice
import Derived.IntWalk
import Derived.KernelRfl
import Derived.LaidEql
import Derived.Laws.Bits64
import Derived.Laws.BitsLemmas
import Derived.Laws.BytesArg
import Derived.Laws.IdiomCopy
import Derived.Laws.OwnMore
import Derived.Laws.Rows
import Derived.Laws.Slices
import Derived.Laws.Strings
import Derived.Laws.StructEq
import Derived.Laws.Tables
import Derived.Lib.BitFns
import Derived.Lib.Mul64
import Derived.Lib.Slices
import Derived.Lib.Small
import Derived.Lib.SmallJoins
import Derived.Lib.Strings
import Derived.Lib.Walk
import Derived.Maps.AppendAt
import Derived.OpenShut
import Derived.OrdersHeld
import Derived.RowKit
import Derived.RowKit3
import Derived.Shelf.Spec.BitsCarry
import Derived.SizedLaws
import Derived.Test.YtnjhblakghjdoaaGreatProg
import Derived.Test.YtnjhblakghjdoaaGreatRows
import Derived.WideLaws
import Derived.Test.YtnjhblakghjdoaaGreatCGenHorners9
import Derived.Test.YtnjhblakghjdoaaGreatCGenHorners11
import Derived.Test.YtnjhblakghjdoaaGreatCGenHorners13
namespace Go.Proofs.YtnjhblakghjdoaaGreat.genHorners
open Go Go.ChangeShapes Go.WideShapes Go.ChangeAt Go.RowKit Go.Proofs.YtnjhblakghjdoaaGreat.Ab
open Go.ChangeMaps (open_string shut_string)
set_option linter.unusedVariables false
set_option linter.unusedSimpArgs false
theorem own : ownKnob Tryz.prog.godebug = none := by kernel_rfl
theorem laidOut : laidOutB Tryz.prog = true := by kernel_rfl
set_option maxRecDepth 100000 in
theorem lifted (os : Os) (started : os.Started) (H : Type) (enc : TypeId × Value → H) :
    ReturnsInHanded {} Tryz.checked os 3 .any (Rows.genHornersSpec.pre6 enc Tryz.prog Tryz.f3 Rows.genHornersRow.domain false) (Rows.genHornersSpec.post enc Tryz.prog Tryz.f3 false true false false) := by
  refine returnsInHanded_of_change_sized (C := Tryz.checked) own started (by kernel_rfl) Tryz.func3
    (ChangeSpec.witness6 (enc := enc) (C := Tryz.checked) false ⟨#[], #[.slice none 0 0, .int .u64 0], []⟩ 8 (by kernel_rfl) (by kernel_rfl) (by kernel_rfl) (by kernel_rfl)) ?_
  intro W base args ds gs before hval0 hW hcnd hsz0 _
  have hsz : (DataW.weightsEach Tryz.prog (Tryz.f3.params.toList ++ Rows.genHornersSpec.plain.varTypes Tryz.prog) (ds ++ gs)).all (· ≤ reachBytes) = true := hsz0
  have hval : ∀ (j : Nat) t v, Tryz.f3.params[j]? = some t → args[j]? = some v → Value.okWide Tryz.prog W .any base t v := hval0
  have hW' := hW
  obtain ⟨p, q, hA0, hV, rfl, hfz, hnd⟩ := hW
  have hA : DataW.TrodAll enc Tryz.prog W 0 (fun _ => true) true Tryz.f3.params.toList args.toList ds p := hA0
  rw [Tryz.params3] at hA hval hsz
  obtain ⟨v0, vs0, d0, ds0, p0, q0, hargs, rfl, rfl, h0, r0⟩ := trodAll_cons hA
  obtain ⟨v1, vs1, d1, ds1, p1, q1, rfl, rfl, rfl, h1, r1⟩ := trodAll_cons r0
  obtain ⟨rfl, rfl, rfl⟩ := trodAll_nil r1
  obtain rfl : args = #[v0, v1] := by cases args; simp_all
  obtain ⟨rfl, rfl⟩ := trodVars_none hV
  obtain ⟨a0, len0, cap0, rfl⟩ := okWide_slice Tryz.underlying22 (hval 0 22 v0 rfl rfl)
  have k0 := h0
  have lt0 : ∀ x ∈ p0, x.block < W.heap.size := by obtain ⟨m, hm⟩ := k0; exact DataW.trod_lt m _ _ _ hm
  obtain ⟨l0, z0, w0, y0⟩ := row_rd (eT := 156) (k := .u64) (B := 8) hsz (j := 0) (t := 22) rfl rfl Tryz.underlying22 Tryz.underlying23 (by kernel_rfl) (by kernel_rfl) h0
  obtain ⟨a1, rfl, rfl, rfl, w1⟩ := open_int Tryz.underlying23 (hval 1 23 v1 rfl rfl) h1
  clear hA0 hval0 hsz0 hsz
  obtain ⟨k, hk⟩ := Pure.GenHorners l0 a1 w0 y0 w1
  refine (FnOk.truthL Tryz.func3 (by rfl) (by rfl) (Fn.vernierlaw14_GenHorners.ok k) (x := (l0, a1)) hk W #[.slice a0 len0 cap0, .int .u64 a1] ⟨z0, ⟨rfl, inK_wf w1, by simp, by simp⟩, trivial⟩).mono fun e W' ⟨he, bel⟩ => ?_
  subst he
  exact ⟨_, rfl, _, _, _, [], _, [], hW', trodAll_mk1 (shut_bool Tryz.underlying4 _), (trodAll_cons_mk (Below.trod laidOut (by kernel_rfl) (of_decide_eq_true (by kernel_rfl)) k0 bel lt0) (trodAll_cons_mk (shut_int Tryz.underlying23 w1) trodAll_mk0)), rfl, bel.frame _, fun h => by cases h⟩
theorem over : Rows.genHornersRow.holds Tryz.pinned (OpenSpec.ofChange Rows.genHornersSpec) :=
  OpenClaim.holds_of_wide 3 Tryz.f3 rfl rfl rfl rfl rfl rfl rfl ⟨rfl, rfl, rfl, rfl, rfl⟩ rfl rfl rfl rfl rfl (by kernel_rfl) Tryz.func3 (by kernel_rfl)
    (of_decide_eq_true (by kernel_rfl)) (by unfold Func.isWrapper; first | (rw [if_pos (by decide +kernel)]; kernel_rfl) | (rw [if_neg (by decide +kernel)]; exact ⟨rfl, rfl⟩))
    (fun os started H enc _ => lifted os started H enc)
theorem proved : Rows.GenHornersSaid := over
end Go.Proofs.YtnjhblakghjdoaaGreat.genHorners
namespace Go.Proofs.YtnjhblakghjdoaaGreat
theorem genHorners_holds : Rows.GenHornersSaid := genHorners.proved
end Go.Proofs.YtnjhblakghjdoaaGreat
