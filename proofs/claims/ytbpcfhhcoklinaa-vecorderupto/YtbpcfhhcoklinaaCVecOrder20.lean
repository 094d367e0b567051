/- A dot, a sum, a sorted list are the same for every order of the places, where what is read is of bulk at most 1048576. -/
-- Written by a program of this session out of its own texts (wip/tools/link.py).
import Derived.Below
import Derived.Carry
import Derived.ChangeKeysEq
import Derived.ChangeOld
import Derived.ChangeSlices
import Derived.Deep.CondSized
import Derived.Deep.MidRow
import Derived.Deep.RegionHeld3
import Derived.Great.BuildSlice
import Derived.Ground.SlsfProg
import Derived.IntWalk
import Derived.JoinedCond
import Derived.KernelRfl
import Derived.LaidEql
import Derived.Laws.Bits64
import Derived.Laws.BitsLemmas
import Derived.Laws.BytesArg
import Derived.Laws.IdiomCopy
import Derived.Laws.OwnMore
import Derived.Laws.Rows
import Derived.Laws.Slices
import Derived.Laws.Strings
import Derived.Laws.StructEq
import Derived.Laws.Tables
import Derived.Lib.BitFns
import Derived.Lib.Mul64
import Derived.Lib.Slices
import Derived.Lib.Small
import Derived.Lib.SmallJoins
import Derived.Lib.Strings
import Derived.Lib.Walk
import Derived.LoopIn
import Derived.LoopNIn
import Derived.Maps.AppendAt
import Derived.OpenShut
import Derived.OrdersHeld
import Derived.OwnWalkIn
import Derived.RangeFuncBound
import Derived.RangeFuncCalls
import Derived.RangeFuncLeaves
import Derived.RangeFuncNested
import Derived.RowKit
import Derived.RowKit3
import Derived.Scope
import Derived.Shelf.Abstract
import Derived.Shelf.RegionOpen
import Derived.Shelf.SlGeneric
import Derived.Shelf.SlSortCmp.NoneTotal
import Derived.Shelf.Spec.BitsCarry
import Derived.SizedLaws
import Derived.TacticsInMore
import Derived.Test.YtbpcfhhcoklinaaProg
import Derived.Test.YtbpcfhhcoklinaaRows
import Derived.WalkKit
import Derived.WideLaws
import Derived.Test.YtbpcfhhcoklinaaCVecOrder11
import Derived.Test.YtbpcfhhcoklinaaCVecOrder17
import Derived.Test.YtbpcfhhcoklinaaCVecOrder19
namespace Go.Proofs.Ytbpcfhhcoklinaa.vecOrder
open Go Go.ChangeShapes Go.WideShapes Go.ChangeAt Go.RowKit Go.Proofs.Ytbpcfhhcoklinaa.Ab
open Go.ChangeMaps (open_string shut_string)
set_option linter.unusedVariables false
set_option linter.unusedSimpArgs false
theorem own : ownKnob Try.prog.godebug = none := by kernel_rfl
theorem laidOut : laidOutB Try.prog = true := by kernel_rfl
theorem bulk_len {H : Type} (l : List (DataW H)) : l.length ≤ Rows.uptoBulkAll l := by
  induction l with
  | nil => simp [Rows.uptoBulkAll]
  | cons x r ih =>
    have : 1 ≤ Rows.uptoBulk x := by
      cases x with
      | lit l => cases l <;> simp [Rows.uptoBulk]
      | nil => simp [Rows.uptoBulk]
      | ptr d => simp [Rows.uptoBulk]
      | slice elems spare => simp [Rows.uptoBulk]
      | agg parts => simp [Rows.uptoBulk]
      | iface t d => simp [Rows.uptoBulk]
      | map entries => simp [Rows.uptoBulk]
      | held h => simp [Rows.uptoBulk]
    simp only [Rows.uptoBulkAll, List.length_cons]; omega
theorem dlen_bulk {H : Type} (d : DataW H) : dlen d ≤ Rows.uptoBulk d := by
  cases d with
  | slice elems spare =>
    have h1 := bulk_len elems
    have h2 := bulk_len spare
    simp only [Rows.uptoBulk, dlen]; omega
  | _ => simp [dlen]
theorem dlen_le {H : Type} {d : DataW H} {l : List (DataW H)} (h : d ∈ l) (hk : Rows.uptoSmall H l = true) : dlen d ≤ 1048576 := by
  have hb : Rows.uptoBulkAll l ≤ 1048576 := of_decide_eq_true hk
  refine Nat.le_trans (dlen_bulk d) (Nat.le_trans ?_ hb)
  clear hb hk
  induction l with
  | nil => cases h
  | cons x r ih =>
    simp only [Rows.uptoBulkAll]
    rcases List.mem_cons.1 h with rfl | e
    · omega
    · have := ih e; omega
set_option maxRecDepth 100000 in
theorem contract (H : Type) (enc : TypeId × Value → H) (W : World) (base : Nat) (args : Array Value) (ds gs : List (DataW H)) (before : List MemPlace)
    (hval0 : ∀ (j : Nat) t v, Try.f4.params[j]? = some t → args[j]? = some v → Value.okWide Try.prog W .any base t v) (hW : DataW.Whole enc Try.prog Try.f4.params.toList Rows.vecOrderSpec.vars false W args.toList ds gs before) (hk : Rows.uptoSmall H (ds ++ gs) = true)
    (hsz0 : (DataW.weightsEach Try.prog (Try.f4.params.toList ++ Rows.vecOrderSpec.plain.varTypes Try.prog) (ds ++ gs)).all (· ≤ reachBytes) = true) :
    Calls Try.prog 4 args W fun e W' => ∃ v, e = .returned v ∧ Rows.vecOrderSpec.post enc Try.prog Try.f4 false true false false W args v W' := by
  have hsz : (DataW.weightsEach Try.prog (Try.f4.params.toList ++ Rows.vecOrderSpec.plain.varTypes Try.prog) (ds ++ gs)).all (· ≤ reachBytes) = true := hsz0
  have hval : ∀ (j : Nat) t v, Try.f4.params[j]? = some t → args[j]? = some v → Value.okWide Try.prog W .any base t v := hval0
  have hW' := hW
  obtain ⟨p, q, hA0, hV, rfl, hfz, hnd⟩ := hW
  have hA : DataW.TrodAll enc Try.prog W 0 (fun _ => true) true Try.f4.params.toList args.toList ds p := hA0
  rw [Try.params4] at hA hval hsz
  obtain ⟨v0, vs0, d0, ds0, p0, q0, hargs, rfl, rfl, h0, r0⟩ := trodAll_cons hA
  obtain ⟨v1, vs1, d1, ds1, p1, q1, rfl, rfl, rfl, h1, r1⟩ := trodAll_cons r0
  obtain ⟨v2, vs2, d2, ds2, p2, q2, rfl, rfl, rfl, h2, r2⟩ := trodAll_cons r1
  obtain ⟨rfl, rfl, rfl⟩ := trodAll_nil r2
  obtain rfl : args = #[v0, v1, v2] := by cases args; simp_all
  obtain ⟨rfl, rfl⟩ := trodVars_none hV
  obtain ⟨a0, rfl, rfl, rfl, w0⟩ := open_int Try.underlying3 (hval 0 3 v0 rfl rfl) h0
  obtain ⟨a1, len1, cap1, rfl⟩ := okWide_slice Try.underlying22 (hval 1 22 v1 rfl rfl)
  have k1 := h1
  have lt1 : ∀ x ∈ p1, x.block < W.heap.size := by obtain ⟨m, hm⟩ := k1; exact DataW.trod_lt m _ _ _ hm
  obtain ⟨l1, z1, w1, y1, u1⟩ := row_rd (eT := 59) (k := .u64) (B := 8) hsz (j := 1) (t := 22) rfl rfl Try.underlying22 Try.underlying35 (by kernel_rfl) (by kernel_rfl) h1
  obtain ⟨a2, len2, cap2, rfl⟩ := okWide_slice Try.underlying33 (hval 2 33 v2 rfl rfl)
  have k2 := h2
  have lt2 : ∀ x ∈ p2, x.block < W.heap.size := by obtain ⟨m, hm⟩ := k2; exact DataW.trod_lt m _ _ _ hm
  obtain ⟨l2, z2, w2, y2, u2⟩ := row_rd (eT := 59) (k := .i64) (B := 8) hsz (j := 2) (t := 33) rfl rfl Try.underlying33 Try.underlying3 (by kernel_rfl) (by kernel_rfl) h2
  have b1 : l1.length ≤ 1048576 := Nat.le_trans u1 (dlen_le (by simp) hk)
  have b2 : l2.length ≤ 1048576 := Nat.le_trans u2 (dlen_le (by simp) hk)
  clear hA0 hval0 hsz0 hsz hk
  obtain ⟨k, hkk⟩ := Pure.VecOrder a0 l1 l2 w0 w1 y1 w2 y2 b1 b2
  refine (FnOk.truthL Try.func4 (by rfl) (by rfl) (Fn.vernierlaw20_VecOrder.ok k) (x := (a0, l1, l2)) hkk W #[.int .i64 a0, .slice a1 len1 cap1, .slice a2 len2 cap2] ⟨⟨rfl, inK_wf w0, by simp, by simp⟩, z1, z2, trivial⟩).mono fun e W' ⟨he, bel⟩ => ?_
  subst he
  exact ⟨_, rfl, _, _, _, [], _, [], hW', trodAll_mk1 (shut_bool Try.underlying4 _), (trodAll_cons_mk (shut_int Try.underlying3 w0) (trodAll_cons_mk (Below.trod laidOut (by kernel_rfl) (of_decide_eq_true (by kernel_rfl)) k1 bel lt1) (trodAll_cons_mk (Below.trod laidOut (by kernel_rfl) (of_decide_eq_true (by kernel_rfl)) k2 bel lt2) trodAll_mk0))), rfl, bel.frame _, fun h => by cases h⟩
set_option maxRecDepth 100000 in
theorem lifted (os : Os) (started : os.Started) (H : Type) (enc : TypeId × Value → H) (F : Stop.Interp) :
    ReturnsInHanded {} Try.checked os 4 .any ((Rows.OpenSpec.upto Rows.vecOrderSpec).pre6 enc Try.prog Try.f4 Rows.vecOrderUptoRow.domain false) (((Rows.OpenSpec.upto Rows.vecOrderSpec).at F).post enc Try.prog Try.f4 false true false false) := by
  refine returnsInHanded_of_cond_sized (C := Try.checked) (s := Rows.OpenSpec.upto Rows.vecOrderSpec) (k := Rows.uptoSmall) rfl own started (by kernel_rfl) Try.func4
    (OpenSpec.witness (enc := enc) (C := Try.checked) (s := Rows.OpenSpec.upto Rows.vecOrderSpec) (k := Rows.uptoSmall) rfl false ⟨#[], #[.int .i64 0, .slice none 0 0, .slice none 0 0], []⟩ 8 (by kernel_rfl) (by kernel_rfl) (by kernel_rfl)
      (x := ([.lit (.int .i64 0), .nil, .nil], [], [])) (by kernel_rfl) rfl (by kernel_rfl)) ?_
  intro W base args ds gs before hval hW _ hk hsz _
  exact contract H enc W base args ds gs before hval hW hk hsz
theorem over : Rows.vecOrderUptoRow.holds Try.pinned (Rows.OpenSpec.upto Rows.vecOrderSpec) :=
  OpenClaim.holds_of_cond 4 Try.f4 rfl rfl rfl rfl rfl rfl rfl ⟨rfl, rfl, rfl, rfl, rfl⟩ rfl rfl rfl rfl rfl (by kernel_rfl) Try.func4 (by kernel_rfl)
    (of_decide_eq_true (by kernel_rfl)) (by unfold Func.isWrapper; first | (rw [if_pos (by decide +kernel)]; kernel_rfl) | (rw [if_neg (by decide +kernel)]; exact ⟨rfl, rfl⟩))
    (fun os started H enc _ F => lifted os started H enc F)
theorem proved : Rows.VecOrderUptoSaid := over
end Go.Proofs.Ytbpcfhhcoklinaa.vecOrder
namespace Go.Proofs.Ytbpcfhhcoklinaa
theorem vecOrder_holds : Rows.VecOrderUptoSaid := vecOrder.proved
end Go.Proofs.Ytbpcfhhcoklinaa
