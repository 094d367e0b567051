-- Written by a program of this session out of its own texts (wip/tools/link.py).
import Derived.ArgAppend
import Derived.Below
import Derived.BigQuiet
import Derived.Deep.AppendLies
import Derived.Deep.CutBlock
import Derived.Deep.DeepCutAuto
import Derived.Deep.Draws
import Derived.Deep.LoopGhost
import Derived.Deep.OwnRows
import Derived.Deep.QuietTactic
import Derived.Deep.RegionHeld3
import Derived.KernelRfl
import Derived.LaidEql
import Derived.Laws.BitsLemmas
import Derived.Laws.BytesArg
import Derived.Laws.IdiomCopy
import Derived.Laws.MakeOwn
import Derived.Laws.OwnMore
import Derived.Laws.Rows
import Derived.Laws.Slices
import Derived.Laws.StructEq
import Derived.Lib.AppendStr
import Derived.Lib.BitFns
import Derived.Lib.ConvBytes
import Derived.Lib.Slices
import Derived.Lib.Small
import Derived.Lib.Strings
import Derived.Lib.Walk
import Derived.Maps.AppendAt
import Derived.OrdersHeld
import Derived.OwnWalk
import Derived.RowKit
import Derived.RowKit3
import Derived.Tactics
import Derived.Test.YtebhpipfkomhjaaProg
import Derived.WalkKit
import Derived.WideLaws
import Derived.Test.YtebhpipfkomhjaaCProdLaws8
import Derived.Test.YtebhpipfkomhjaaCProdLaws12
namespace Go.Proofs.Ytebhpipfkomhjaa.PAll
open Go.RowKit Go.Proofs.YtebhpipfkomhjaaW.PrintWords Go.Proofs.YtebhpipfkomhjaaW.PrintLast Go.Proofs.YtebhpipfkomhjaaW.PrintMore
attribute [local go_sem] max2_int min2_int max_two min_two max_three min_three max_four min_four
set_option linter.unusedVariables false
set_option linter.unusedSimpArgs false
mutual
def vernierref07_Exactly.j0 : Nat → List Int → Bool → Int → Int → Bool → Int → Int → Int → Bool → Option (Int × Bool × Int × Int × Int × Bool)
 | 0, _, _, _, _, _, _, _, _, _ => none
 | k + 1, x1, x3, x9, x378000, x378001, x378002, x378003, x378004, x378005 => if x9 > 128 then ((vernierref04_Low.f k x1 (wrap64 (x9 - 128))).bind fun t381 => (if x3 = true then (vernierref07_Exactly.j1 k x1 x9 x378000 x378001 x378002 x378003 x378004 true) else (vernierref07_Exactly.j1 k x1 x9 x378000 x378001 x378002 x378003 x378004 t381))) else ((vernierref04_Word.f k x1).bind fun t390 => ((vernierref04_Shr.f k x1 64).bind fun t391 => ((vernierref04_Word.f k t391).bind fun t394 => (some (x378000, x378001, x378002, t394, t390, x378005)))))
def vernierref07_Exactly.j1 : Nat → List Int → Int → Int → Bool → Int → Int → Int → Bool → Option (Int × Bool × Int × Int × Int × Bool)
 | 0, _, _, _, _, _, _, _, _ => none
 | k + 1, x1, x9, x378000, x378001, x378002, x378003, x378004, x378005 => (vernierref04_Shr.f k x1 (wrap64 (x9 - 128))).bind fun t382 => ((vernierref04_Word.f k t382).bind fun t385 => ((vernierref04_Shr.f k t382 64).bind fun t386 => ((vernierref04_Word.f k t386).bind fun t389 => (some (x378000, x378001, x378002, t389, t385, x378005)))))
end
def vernierref07_Exactly.f (k : Nat) (a0 : Bool) (l1 : List Int) (a2 : Int) (a3 : Bool) : Option (Int × Bool × Int × Int × Int × Bool) := (vernierref04_Bits.f k l1).bind fun t375 => (if t375 = 0 then (some (0, false, 0, 0, 0, false)) else ((vernierref07_Held.f (wrap64 ((wrap64 (a2 + t375)) - 1))).bind fun t376 => (if t375 < 128 then ((vernierref04_Shl.f k l1 (wrap64 (128 - t375))).bind fun t378 => (vernierref07_Exactly.j0 k t378 a3 t375 1 a0 t376 0 0 a3)) else (vernierref07_Exactly.j0 k l1 a3 t375 1 a0 t376 0 0 a3))))
theorem vernierref07_Exactly.mono_l : ∀ k, (∀ y0 y1 y2 y3 y4 y5 y6 y7 y8, LeO (vernierref07_Exactly.j0 k y0 y1 y2 y3 y4 y5 y6 y7 y8) (vernierref07_Exactly.j0 (k + 1) y0 y1 y2 y3 y4 y5 y6 y7 y8)) ∧ (∀ y0 y1 y2 y3 y4 y5 y6 y7, LeO (vernierref07_Exactly.j1 k y0 y1 y2 y3 y4 y5 y6 y7) (vernierref07_Exactly.j1 (k + 1) y0 y1 y2 y3 y4 y5 y6 y7))
 | 0 => ⟨fun _ _ _ _ _ _ _ _ _ r h => by simp [vernierref07_Exactly.j0] at h, fun _ _ _ _ _ _ _ _ r h => by simp [vernierref07_Exactly.j1] at h⟩
 | k + 1 => by
  obtain ⟨ih0, ih1⟩ := vernierref07_Exactly.mono_l k
  refine ⟨?_, ?_⟩
  ·intro y0 y1 y2 y3 y4 y5 y6 y7 y8
   unfold vernierref07_Exactly.j0
   repeat' first
   | (with_reducible exact ih0 _ _ _ _ _ _ _ _ _)
   | (with_reducible exact ih1 _ _ _ _ _ _ _ _)
   | (with_reducible exact vernierref04_Bits.mono _ _)
   | (with_reducible exact vernierref04_Low.mono _ _ _)
   | (with_reducible exact vernierref04_Shl.mono _ _ _)
   | (with_reducible exact vernierref04_Shr.mono _ _ _)
   | (with_reducible exact vernierref04_Word.mono _ _)
   | (with_reducible exact LeO.refl _)
   | (with_reducible exact LeO.none _)
   | (with_reducible refine LeO.ite ?_ ?_)
   | (with_reducible refine LeO.bind ?_ (fun _ => ?_))
   | exact ih0 _ _ _ _ _ _ _ _ _
   | exact ih1 _ _ _ _ _ _ _ _
   | exact vernierref04_Bits.mono _ _
   | exact vernierref04_Low.mono _ _ _
   | exact vernierref04_Shl.mono _ _ _
   | exact vernierref04_Shr.mono _ _ _
   | exact vernierref04_Word.mono _ _
   | exact LeO.none _
   | refine LeO.ite ?_ ?_
   | refine LeO.bind ?_ (fun _ => ?_)
  ·intro y0 y1 y2 y3 y4 y5 y6 y7
   unfold vernierref07_Exactly.j1
   repeat' first
   | (with_reducible exact ih0 _ _ _ _ _ _ _ _ _)
   | (with_reducible exact ih1 _ _ _ _ _ _ _ _)
   | (with_reducible exact vernierref04_Bits.mono _ _)
   | (with_reducible exact vernierref04_Low.mono _ _ _)
   | (with_reducible exact vernierref04_Shl.mono _ _ _)
   | (with_reducible exact vernierref04_Shr.mono _ _ _)
   | (with_reducible exact vernierref04_Word.mono _ _)
   | (with_reducible exact LeO.refl _)
   | (with_reducible exact LeO.none _)
   | (with_reducible refine LeO.ite ?_ ?_)
   | (with_reducible refine LeO.bind ?_ (fun _ => ?_))
   | exact ih0 _ _ _ _ _ _ _ _ _
   | exact ih1 _ _ _ _ _ _ _ _
   | exact vernierref04_Bits.mono _ _
   | exact vernierref04_Low.mono _ _ _
   | exact vernierref04_Shl.mono _ _ _
   | exact vernierref04_Shr.mono _ _ _
   | exact vernierref04_Word.mono _ _
   | exact LeO.none _
   | refine LeO.ite ?_ ?_
   | refine LeO.bind ?_ (fun _ => ?_)
theorem vernierref07_Exactly.mono : ∀ a0 a1 a2 a3 k, LeO (vernierref07_Exactly.f k a0 a1 a2 a3) (vernierref07_Exactly.f (k + 1) a0 a1 a2 a3) := by
 intro a0 a1 a2 a3 k
 obtain ⟨ih0, ih1⟩ := vernierref07_Exactly.mono_l k
 unfold vernierref07_Exactly.f
 repeat' first
   | (with_reducible exact ih0 _ _ _ _ _ _ _ _ _)
   | (with_reducible exact ih1 _ _ _ _ _ _ _ _)
   | (with_reducible exact vernierref04_Bits.mono _ _)
   | (with_reducible exact vernierref04_Low.mono _ _ _)
   | (with_reducible exact vernierref04_Shl.mono _ _ _)
   | (with_reducible exact vernierref04_Shr.mono _ _ _)
   | (with_reducible exact vernierref04_Word.mono _ _)
   | (with_reducible exact LeO.refl _)
   | (with_reducible exact LeO.none _)
   | (with_reducible refine LeO.ite ?_ ?_)
   | (with_reducible refine LeO.bind ?_ (fun _ => ?_))
   | exact ih0 _ _ _ _ _ _ _ _ _
   | exact ih1 _ _ _ _ _ _ _ _
   | exact vernierref04_Bits.mono _ _
   | exact vernierref04_Low.mono _ _ _
   | exact vernierref04_Shl.mono _ _ _
   | exact vernierref04_Shr.mono _ _ _
   | exact vernierref04_Word.mono _ _
   | exact LeO.none _
   | refine LeO.ite ?_ ?_
   | refine LeO.bind ?_ (fun _ => ?_)
set_option maxHeartbeats 8000000 in
set_option maxRecDepth 100000 in
theorem vernierref07_Exactly.calls (k : Nat) (a0 : Bool) (P1_ : Nat → Prop) (u9000_ : Value) (l1 : List Int) (a2 : Int) (a3 : Bool) (r1 : Int) (r2 : Bool) (r3 : Int) (r4 : Int) (r5 : Int) (r6 : Bool) (w0 w : World) (hB : Below w0.heap.size w0 w) (ho1 : Kd.R (Kd.int .i64) 3 w w0.heap.size P1_ u9000_ l1) (h : vernierref07_Exactly.f k a0 l1 a2 a3 = some (r1, r2, r3, r4, r5, r6)) :
  Calls Try.prog 27 #[.bool a0, u9000_, .int .i64 a2, .bool a3] w fun e w' => e = .returned (.agg #[.int .i64 r1, .bool r2, .int .i64 r3, .int .u64 r4, .int .u64 r5, .bool r6]) ∧ Below w0.heap.size w0 w' ∧ Kept w w' (fun k_ => P1_ k_) := by
 have hu27 := Try.underlying27
 have HO1 := Aside0.mk (show Kd.R (Kd.int .i64) 3 w w0.heap.size (fun k_ => (P1_ k_ ∨ w.heap.size ≤ k_)) u9000_ l1 from Kd.R_mono ho1 (fun k_ hk => (.inl hk)))
 have HK := Aside0.mk (Kept.refl w (fun k_ => P1_ k_))
 have HW0 := Aside0.mk hB.size
 have HB := Aside0.mk hB
 clear hB
 have H : ((vernierref04_Bits.f k l1).bind fun t375 => (if t375 = 0 then (some (0, false, 0, 0, 0, false)) else ((vernierref07_Held.f (wrap64 ((wrap64 (a2 + t375)) - 1))).bind fun t376 => (if t375 < 128 then ((vernierref04_Shl.f k l1 (wrap64 (128 - t375))).bind fun t378 => (vernierref07_Exactly.j0 k t378 a3 t375 1 a0 t376 0 0 a3)) else (vernierref07_Exactly.j0 k l1 a3 t375 1 a0 t376 0 0 a3))))) = some (r1, r2, r3, r4, r5, r6) := h
 clear h
 replace H := Option.bind_eq_some_iff.mp H
 obtain ⟨t375, A50, H⟩ := H
 replace H : (if t375 = 0 then (some (0, false, 0, 0, 0, false)) else ((vernierref07_Held.f (wrap64 ((wrap64 (a2 + t375)) - 1))).bind fun t376 => (if t375 < 128 then ((vernierref04_Shl.f k l1 (wrap64 (128 - t375))).bind fun t378 => (vernierref07_Exactly.j0 k t378 a3 t375 1 a0 t376 0 0 a3)) else (vernierref07_Exactly.j0 k l1 a3 t375 1 a0 t376 0 0 a3)))) = some (r1, r2, r3, r4, r5, r6) := H
 have A5 := Aside0.mk A50
 clear A50
 by_cases c6 : t375 = 0
 ·rw [if_pos c6] at H
  have c6b0 : (t375 == 0) = true := beq_iff_eq.mpr c6
  have c6b1 : (t375 != 0) = false := bne_eq_false_iff_eq.mpr c6
  clear c6
  simp only [Option.some.injEq, Prod.mk.injEq] at H
  obtain ⟨rfl, rfl, rfl, rfl, rfl, rfl⟩ := H
  go_enter Try.func27, Try.ntmps27
  go_wp2_with (first | ((with_reducible refine gate_dst (N := 8) rfl ?_); refine box_event ?hg (N := 8) ?hd (cs := #[.int .i64 0, .bool false, .int .i64 0, .int .u64 0, .int .u64 0, .bool false]) (t := 27) ?hr ?_; (case hd => rfl); (case hg => rfl); (case hr => first | (go_simp; done) | (go_simp; rfl)); intro gb374 hg w7 hbox hb; have n0_ := Aside0.mk (Kd.R_below (by (with_reducible repeat (first | apply Kd.R_alloc | apply Kd.R_drewN | apply Kd.R_drew)); exact HO1.out) hb); have n1_ := Aside0.mk (Kept.below (S := (fun k_ => P1_ k_)) (by repeat (first | (with_reducible first | exact HK.out | apply Kept.alloc | apply Kept.drewN | apply Kept.drew) | exact HK.out)) hb); have n2_ := Aside0.mk (below_step (z3_ HB.out) hb); have n3_ := Aside0.mk (hbox); have n4_ := Aside0.mk ((by rw [hg]; exact (by first | exact HK.out.1 | exact (show Kept w _ (fun k_ => P1_ k_) from by repeat (first | (with_reducible first | exact HK.out | apply Kept.alloc | apply Kept.drewN | apply Kept.drew) | exact HK.out)).1) : w.heap.size ≤ gb374)); have n5_ := Aside0.mk ((by rw [hg]; exact (below_size (z3_ HB.out)) : w0.heap.size ≤ gb374)); clear HO1; clear HK; clear HB; have HO1 := n0_; have HK := n1_; have HB := n2_; have BK374 := n3_; have GW374 := n4_; have GE374 := n5_; clear n0_ n1_ n2_ n3_ n4_ n5_; clear hb hbox hg; obtain ⟨Ao8, co8, eo8⟩ := Kd.R_slice HO1.out; subst eo8) | ((with_reducible refine gate_callee (f := 41) rfl ?_); refine goesL_ (some 13) rfl rfl Try.func41 (by kernel_rfl) rfl #[.slice Ao8 l1.length co8] rfl z5_ ?_; (with_reducible refine (vernierref04_Bits.calls k _ _ l1 t375 _ ?side1 ?side2 A5.out).mono ?_); (case side1 => repeat (first | exact (Kd.R_reads' HO1.out).2.2 | (with_reducible refine Kd.C_alloc ?_ _) | (with_reducible refine Kd.C_drewN ?_ _) | (with_reducible refine Kd.C_drew ?_))); (case side2 => exact (Kd.R_reads' HO1.out).2.1); rintro e w' ⟨rfl, ⟨nd, rfl⟩⟩; refine ⟨_, rfl, ?_⟩; (try (rw [drewN_self w7]; generalize hq_ : World.drewN w7 _ = w7; have n0_ : Aside0 (Kd.R (Kd.int .i64) 3 w7 w0.heap.size (fun k_ => (P1_ k_ ∨ w.heap.size ≤ k_)) (.slice Ao8 l1.length co8) l1) := ⟨by rw [← hq_]; exact (by (with_reducible repeat (first | apply Kd.R_alloc | apply Kd.R_drewN | apply Kd.R_drew)); exact HO1.out)⟩; have n1_ : Aside0 (w7.heap[gb374]? = some (.cells #[.int .i64 0, .bool false, .int .i64 0, .int .u64 0, .int .u64 0, .bool false] 27 (0, 0))) := ⟨by rw [← hq_]; exact (z1_ BK374.out)⟩; have n2_ : Aside0 (Kept w w7 (fun k_ => P1_ k_)) := ⟨by rw [← hq_]; exact (by repeat (first | (with_reducible first | exact HK.out | apply Kept.alloc | apply Kept.drewN | apply Kept.drew | refine Kept.setCell ?_ (.inr GW374.out) _) | exact HK.out))⟩; have n3_ : Aside0 (Below w0.heap.size w0 w7) := ⟨by rw [← hq_]; exact (z3_ HB.out)⟩; clear HO1 BK374 HK HB hq_; have HO1 := n0_; have BK374 := n1_; have HK := n2_; have HB := n3_; clear n0_ n1_ n2_ n3_)); have hcz9_0 := z4_ BK374.out 0 (.int .i64 0) rfl; have hcz9_1 := z4_ BK374.out 1 (.bool false) rfl; have hcz9_2 := z4_ BK374.out 2 (.int .i64 0) rfl; have hcz9_3 := z4_ BK374.out 3 (.int .u64 0) rfl; have hcz9_4 := z4_ BK374.out 4 (.int .u64 0) rfl; have hcz9_5 := z4_ BK374.out 5 (.bool false) rfl; have hfz9_0 := blk_frozen BK374.out 0; have hfz9_1 := blk_frozen BK374.out 1; have hfz9_2 := blk_frozen BK374.out 2; have hfz9_3 := blk_frozen BK374.out 3; have hfz9_4 := blk_frozen BK374.out 4; have hfz9_5 := blk_frozen BK374.out 5))
  refine bodyPost_ret (results_cell_row rfl _ _ gb374 27 #[.int .i64 0, .bool false, .int .i64 0, .int .u64 0, .int .u64 0, .bool false] (0, 0) _ rfl (by refine z2_ ?_; refine blk_put (cs := #[.int .i64 0, .bool false, .int .i64 0, .int .u64 0, .int .u64 0, .bool false]) ?_ 5 _ rfl; refine z2_ ?_; refine blk_put (cs := #[.int .i64 0, .bool false, .int .i64 0, .int .u64 0, .int .u64 0, .bool false]) ?_ 4 _ rfl; refine z2_ ?_; refine blk_put (cs := #[.int .i64 0, .bool false, .int .i64 0, .int .u64 0, .int .u64 0, .bool false]) ?_ 3 _ rfl; refine z2_ ?_; refine blk_put (cs := #[.int .i64 0, .bool false, .int .i64 0, .int .u64 0, .int .u64 0, .bool false]) ?_ 2 _ rfl; refine z2_ ?_; refine blk_put (cs := #[.int .i64 0, .bool false, .int .i64 0, .int .u64 0, .int .u64 0, .bool false]) ?_ 1 _ rfl; refine z2_ ?_; refine blk_put (cs := #[.int .i64 0, .bool false, .int .i64 0, .int .u64 0, .int .u64 0, .bool false]) ?_ 0 _ rfl; refine z2_ ?_; exact BK374.out) Try.underlying27 rfl (by kernel_rfl)) rfl ?_
  exact ⟨by first | rfl | (simp [errW_none, errW_some] <;> rfl) | (simp [*, errW_none, errW_some] <;> rfl), by repeat (first | (with_reducible first | exact HB.out | apply below_alloc | apply pw_below_drewN | apply below_drew1 | refine below_set ?_ GE374.out) | exact HB.out), by repeat (first | (with_reducible first | exact HK.out | apply Kept.alloc | apply Kept.drewN | apply Kept.drew | refine Kept.setCell ?_ (.inr GW374.out) _) | exact HK.out)⟩
 ·rw [if_neg c6] at H
  have c6b0 : (t375 == 0) = false := beq_eq_false_iff_ne.mpr c6
  have c6b1 : (t375 != 0) = true := bne_iff_ne.mpr c6
  replace H := Option.bind_eq_some_iff.mp H
  obtain ⟨t376, A100, H⟩ := H
  replace H : (if t375 < 128 then ((vernierref04_Shl.f k l1 (wrap64 (128 - t375))).bind fun t378 => (vernierref07_Exactly.j0 k t378 a3 t375 1 a0 t376 0 0 a3)) else (vernierref07_Exactly.j0 k l1 a3 t375 1 a0 t376 0 0 a3)) = some (r1, r2, r3, r4, r5, r6) := H
  have A10 := Aside0.mk A100
  clear A100
  have HC11 := Aside0.mk H
  clear H
  go_enter Try.func27, Try.ntmps27
  go_upto_if 26 with (first | ((with_reducible refine gate_dst (N := 8) rfl ?_); refine box_event ?hg (N := 8) ?hd (cs := #[.int .i64 0, .bool false, .int .i64 0, .int .u64 0, .int .u64 0, .bool false]) (t := 27) ?hr ?_; (case hd => rfl); (case hg => rfl); (case hr => first | (go_simp; done) | (go_simp; rfl)); intro gb374 hg w12 hbox hb; have n0_ := Aside0.mk (Kd.R_below (by (with_reducible repeat (first | apply Kd.R_alloc | apply Kd.R_drewN | apply Kd.R_drew)); exact HO1.out) hb); have n1_ := Aside0.mk (Kept.below (S := (fun k_ => P1_ k_)) (by repeat (first | (with_reducible first | exact HK.out | apply Kept.alloc | apply Kept.drewN | apply Kept.drew) | exact HK.out)) hb); have n2_ := Aside0.mk (below_step (z3_ HB.out) hb); have n3_ := Aside0.mk (hbox); have n4_ := Aside0.mk ((by rw [hg]; exact (by first | exact HK.out.1 | exact (show Kept w _ (fun k_ => P1_ k_) from by repeat (first | (with_reducible first | exact HK.out | apply Kept.alloc | apply Kept.drewN | apply Kept.drew) | exact HK.out)).1) : w.heap.size ≤ gb374)); have n5_ := Aside0.mk ((by rw [hg]; exact (below_size (z3_ HB.out)) : w0.heap.size ≤ gb374)); clear HO1; clear HK; clear HB; have HO1 := n0_; have HK := n1_; have HB := n2_; have BK374 := n3_; have GW374 := n4_; have GE374 := n5_; clear n0_ n1_ n2_ n3_ n4_ n5_; clear hb hbox hg; obtain ⟨Ao13, co13, eo13⟩ := Kd.R_slice HO1.out; subst eo13) | ((with_reducible refine gate_callee (f := 41) rfl ?_); refine goesL_ (some 13) rfl rfl Try.func41 (by kernel_rfl) rfl #[.slice Ao13 l1.length co13] rfl z5_ ?_; (with_reducible refine (vernierref04_Bits.calls k _ _ l1 t375 _ ?side1 ?side2 A5.out).mono ?_); (case side1 => repeat (first | exact (Kd.R_reads' HO1.out).2.2 | (with_reducible refine Kd.C_alloc ?_ _) | (with_reducible refine Kd.C_drewN ?_ _) | (with_reducible refine Kd.C_drew ?_))); (case side2 => exact (Kd.R_reads' HO1.out).2.1); rintro e w' ⟨rfl, ⟨nd, rfl⟩⟩; refine ⟨_, rfl, ?_⟩; (try (rw [drewN_self w12]; generalize hq_ : World.drewN w12 _ = w12; have n0_ : Aside0 (Kd.R (Kd.int .i64) 3 w12 w0.heap.size (fun k_ => (P1_ k_ ∨ w.heap.size ≤ k_)) (.slice Ao13 l1.length co13) l1) := ⟨by rw [← hq_]; exact (by (with_reducible repeat (first | apply Kd.R_alloc | apply Kd.R_drewN | apply Kd.R_drew)); exact HO1.out)⟩; have n1_ : Aside0 (w12.heap[gb374]? = some (.cells #[.int .i64 0, .bool false, .int .i64 0, .int .u64 0, .int .u64 0, .bool false] 27 (0, 0))) := ⟨by rw [← hq_]; exact (z1_ BK374.out)⟩; have n2_ : Aside0 (Kept w w12 (fun k_ => P1_ k_)) := ⟨by rw [← hq_]; exact (by repeat (first | (with_reducible first | exact HK.out | apply Kept.alloc | apply Kept.drewN | apply Kept.drew | refine Kept.setCell ?_ (.inr GW374.out) _) | exact HK.out))⟩; have n3_ : Aside0 (Below w0.heap.size w0 w12) := ⟨by rw [← hq_]; exact (z3_ HB.out)⟩; clear HO1 BK374 HK HB hq_; have HO1 := n0_; have BK374 := n1_; have HK := n2_; have HB := n3_; clear n0_ n1_ n2_ n3_))) | ((with_reducible refine gate_callee (f := 42) rfl ?_); refine goesL_ (some 22) rfl rfl Try.func42 (by kernel_rfl) rfl #[.int .i64 (wrap64 ((wrap64 (a2 + t375)) - 1))] rfl z5_ ?_; (with_reducible refine (vernierref07_Held.calls (wrap64 ((wrap64 (a2 + t375)) - 1)) t376 _ A10.out).mono ?_); rintro e w' ⟨rfl, ⟨nd, rfl⟩⟩; refine ⟨_, rfl, ?_⟩; (try (rw [drewN_self w12]; generalize hq_ : World.drewN w12 _ = w12; have n0_ : Aside0 (Kd.R (Kd.int .i64) 3 w12 w0.heap.size (fun k_ => (P1_ k_ ∨ w.heap.size ≤ k_)) (.slice Ao13 l1.length co13) l1) := ⟨by rw [← hq_]; exact (by (with_reducible repeat (first | apply Kd.R_alloc | apply Kd.R_drewN | apply Kd.R_drew)); exact HO1.out)⟩; have n1_ : Aside0 (w12.heap[gb374]? = some (.cells #[.int .i64 0, .bool false, .int .i64 0, .int .u64 0, .int .u64 0, .bool false] 27 (0, 0))) := ⟨by rw [← hq_]; exact (z1_ BK374.out)⟩; have n2_ : Aside0 (Kept w w12 (fun k_ => P1_ k_)) := ⟨by rw [← hq_]; exact (by repeat (first | (with_reducible first | exact HK.out | apply Kept.alloc | apply Kept.drewN | apply Kept.drew | refine Kept.setCell ?_ (.inr GW374.out) _) | exact HK.out))⟩; have n3_ : Aside0 (Below w0.heap.size w0 w12) := ⟨by rw [← hq_]; exact (z3_ HB.out)⟩; clear HO1 BK374 HK HB hq_; have HO1 := n0_; have BK374 := n1_; have HK := n2_; have HB := n3_; clear n0_ n1_ n2_ n3_))) | ((with_reducible refine gate_dst (N := 10) rfl ?_); refine box_event ?hg (N := 10) ?hd (cs := #[.int .i64 0, .bool false, .int .i64 0, .int .u64 0, .int .u64 0, .bool false]) (t := 27) ?hr ?_; (case hd => rfl); (case hg => rfl); (case hr => first | (go_simp; done) | (go_simp; rfl)); intro gb377 hg w14 hbox hb; have n0_ := Aside0.mk (Kd.R_below (by (with_reducible repeat (first | apply Kd.R_alloc | apply Kd.R_drewN | apply Kd.R_drew)); exact HO1.out) hb); have n1_ := Aside0.mk (blk_below (g := gb374) (z1_ BK374.out) hb); have n2_ := Aside0.mk (Kept.below (S := (fun k_ => P1_ k_)) (by repeat (first | (with_reducible first | exact HK.out | apply Kept.alloc | apply Kept.drewN | apply Kept.drew | refine Kept.setCell ?_ (.inr GW374.out) _) | exact HK.out)) hb); have n3_ := Aside0.mk (below_step (z3_ HB.out) hb); have n4_ := Aside0.mk (hbox); have n5_ := Aside0.mk ((by rw [hg]; exact (by first | exact HK.out.1 | exact (show Kept w _ (fun k_ => P1_ k_) from by repeat (first | (with_reducible first | exact HK.out | apply Kept.alloc | apply Kept.drewN | apply Kept.drew | refine Kept.setCell ?_ (.inr GW374.out) _) | exact HK.out)).1) : w.heap.size ≤ gb377)); have n6_ := Aside0.mk ((by rw [hg]; exact (below_size (z3_ HB.out)) : w0.heap.size ≤ gb377)); have n7_ := Aside0.mk ((by rw [hg]; exact Nat.ne_of_lt (blk_lt (g := gb374) (o := .cells #[.int .i64 0, .bool false, .int .i64 0, .int .u64 0, .int .u64 0, .bool false] 27 (0, 0)) (z1_ BK374.out)) : gb374 ≠ gb377)); have n8_ := Aside0.mk ((by rw [hg]; exact Nat.ne_of_gt (blk_lt (g := gb374) (o := .cells #[.int .i64 0, .bool false, .int .i64 0, .int .u64 0, .int .u64 0, .bool false] 27 (0, 0)) (z1_ BK374.out)) : gb377 ≠ gb374)); clear HO1; clear BK374; clear HK; clear HB; have HO1 := n0_; have BK374 := n1_; have HK := n2_; have HB := n3_; have BK377 := n4_; have GW377 := n5_; have GE377 := n6_; have NB374_377 := n7_; have NB377_374 := n8_; clear n0_ n1_ n2_ n3_ n4_ n5_ n6_ n7_ n8_; clear hb hbox hg; have hnb15 := NB377_374.out; have hnc15 := NB374_377.out; have hcz16_0 := z4_ BK377.out 0 (.int .i64 0) rfl; have hcz16_1 := z4_ BK377.out 1 (.bool false) rfl; have hcz16_2 := z4_ BK377.out 2 (.int .i64 0) rfl; have hcz16_3 := z4_ BK377.out 3 (.int .u64 0) rfl; have hcz16_4 := z4_ BK377.out 4 (.int .u64 0) rfl; have hcz16_5 := z4_ BK377.out 5 (.bool false) rfl; have hfz16_0 := blk_frozen BK377.out 0; have hfz16_1 := blk_frozen BK377.out 1; have hfz16_2 := blk_frozen BK377.out 2; have hfz16_3 := blk_frozen BK377.out 3; have hfz16_4 := blk_frozen BK377.out 4; have hfz16_5 := blk_frozen BK377.out 5))
  (try simp only [Act.put, List.setIfInBounds_toArray, List.set_cons_zero, List.set_cons_succ])
  go_cut [1] (fun v1 wc => ∃ (kq : Nat) (x1_10 : List Int), Aside0 (vernierref07_Exactly.j0 kq x1_10 a3 t375 1 a0 t376 0 0 a3 = some (r1, r2, r3, r4, r5, r6)) ∧ Aside0 (kq ≤ k) ∧ Aside0 (Kd.R (Kd.int .i64) 3 wc w0.heap.size (fun k_ => (P1_ k_ ∨ w.heap.size ≤ k_)) v1 x1_10) ∧ Aside0 (wc.heap[gb374]? = some (.cells #[.int .i64 0, .bool false, .int .i64 0, .int .u64 0, .int .u64 0, .bool false] 27 (0, 0))) ∧ Aside0 (wc.heap[gb377]? = some (.cells #[.int .i64 1, .bool a0, .int .i64 t376, .int .u64 0, .int .u64 0, .bool a3] 27 (0, 0))) ∧ Aside0 (Kept w wc (fun k_ => P1_ k_)) ∧ Aside0 (Below w0.heap.size w0 wc))
  case first =>
   have H := HC11.out
   clear HC11
   by_cases c17 : t375 < 128
   ·rw [if_pos c17] at H
    have c17b0 : decide (t375 < 128) = true := decide_eq_true c17
    clear c17
    (first | rw [c17b0] | (simp only [i64_w, i32_w]; rw [c17b0]) | skip)
    replace H := Option.bind_eq_some_iff.mp H
    obtain ⟨t378, A180, H⟩ := H
    replace H : (vernierref07_Exactly.j0 k t378 a3 t375 1 a0 t376 0 0 a3) = some (r1, r2, r3, r4, r5, r6) := H
    have A18 := Aside0.mk A180
    clear A180
    have H' := Aside0.mk H
    clear H
    go_wp2_with (first | ((with_reducible refine gate_callee (f := 43) rfl ?_); refine goesL_ (some 30) rfl rfl Try.func43 (by kernel_rfl) rfl #[.slice Ao13 l1.length co13, .int .i64 (wrap64 (128 - t375))] rfl z5_ ?_; (with_reducible refine (vernierref04_Shl.calls k _ _ l1 (wrap64 (128 - t375)) t378 _ ?side1 ?side2 A18.out).mono ?_); (case side1 => refine (Kd.R_reads' (e := 3) (base := w0.heap.size) (ok := fun k_ => (P1_ k_ ∨ w.heap.size ≤ k_)) (n := l1.length) (c := co13) ?_).2.2; exact (by (with_reducible repeat (first | apply Kd.R_alloc | apply Kd.R_drewN | apply Kd.R_drew)); exact (Kd.R_mono (Kd.R_far (p := ⟨gb377, 5, none⟩) (Kd.R_far (p := ⟨gb377, 4, none⟩) (Kd.R_far (p := ⟨gb377, 3, none⟩) (Kd.R_far (p := ⟨gb377, 2, none⟩) (Kd.R_far (p := ⟨gb377, 1, none⟩) (Kd.R_far (p := ⟨gb377, 0, none⟩) (Kd.R_types HO1.out BK377.out (by decide)) (fun _ hk => hk.2) (.int .i64 1)) (fun _ hk => hk.2) (.bool a0)) (fun _ hk => hk.2) (.int .i64 t376)) (fun _ hk => hk.2) (.int .u64 0)) (fun _ hk => hk.2) (.int .u64 0)) (fun _ hk => hk.2) (.bool a3)) (fun _ h_ => h_.1)))); (case side2 => exact (Kd.R_reads' HO1.out).2.1); rintro e w19 ⟨v379, rfl, ho0, hb⟩; refine ⟨_, rfl, ?_⟩; have n0_ := Aside0.mk (Kd.R_elder' (by (with_reducible repeat (first | apply Kd.R_alloc | apply Kd.R_drewN | apply Kd.R_drew)); exact (Kd.R_mono (Kd.R_far (p := ⟨gb377, 5, none⟩) (Kd.R_far (p := ⟨gb377, 4, none⟩) (Kd.R_far (p := ⟨gb377, 3, none⟩) (Kd.R_far (p := ⟨gb377, 2, none⟩) (Kd.R_far (p := ⟨gb377, 1, none⟩) (Kd.R_far (p := ⟨gb377, 0, none⟩) (Kd.R_types HO1.out BK377.out (by decide)) (fun _ hk => hk.2) (.int .i64 1)) (fun _ hk => hk.2) (.bool a0)) (fun _ hk => hk.2) (.int .i64 t376)) (fun _ hk => hk.2) (.int .u64 0)) (fun _ hk => hk.2) (.int .u64 0)) (fun _ hk => hk.2) (.bool a3)) (fun _ h_ => h_.1))) (Kd.R_base ho0) hb); have n1_ := Aside0.mk (Kd.R_lower (Kd.R_new' (Kd.R_newM (M := fun k_ => (P1_ k_ ∨ w.heap.size ≤ k_)) ho0 (show Kept w _ (fun k_ => P1_ k_) from by repeat (first | (with_reducible first | exact HK.out | apply Kept.alloc | apply Kept.drewN | apply Kept.drew | refine Kept.setCell ?_ (.inr GW374.out) _ | refine Kept.setCell ?_ (.inr GW377.out) _) | exact HK.out)).1 (fun k_ h_ => .inr h_)) (Kd.R_lt (by (with_reducible repeat (first | apply Kd.R_alloc | apply Kd.R_drewN | apply Kd.R_drew)); exact (Kd.R_mono (Kd.R_far (p := ⟨gb377, 5, none⟩) (Kd.R_far (p := ⟨gb377, 4, none⟩) (Kd.R_far (p := ⟨gb377, 3, none⟩) (Kd.R_far (p := ⟨gb377, 2, none⟩) (Kd.R_far (p := ⟨gb377, 1, none⟩) (Kd.R_far (p := ⟨gb377, 0, none⟩) (Kd.R_types HO1.out BK377.out (by decide)) (fun _ hk => hk.2) (.int .i64 1)) (fun _ hk => hk.2) (.bool a0)) (fun _ hk => hk.2) (.int .i64 t376)) (fun _ hk => hk.2) (.int .u64 0)) (fun _ hk => hk.2) (.int .u64 0)) (fun _ hk => hk.2) (.bool a3)) (fun _ h_ => h_.1))))) (below_size (z3_ HB.out))); have n2_ := Aside0.mk (blk_below (g := gb374) (o := .cells #[.int .i64 0, .bool false, .int .i64 0, .int .u64 0, .int .u64 0, .bool false] 27 (0, 0)) (by refine z2_ ?_; refine blk_far ?_ NB374_377.out _; refine z2_ ?_; refine blk_far ?_ NB374_377.out _; refine z2_ ?_; refine blk_far ?_ NB374_377.out _; refine z2_ ?_; refine blk_far ?_ NB374_377.out _; refine z2_ ?_; refine blk_far ?_ NB374_377.out _; refine z2_ ?_; refine blk_far ?_ NB374_377.out _; refine z2_ ?_; exact BK374.out) hb); have n3_ := Aside0.mk (blk_below (g := gb377) (o := .cells #[.int .i64 1, .bool a0, .int .i64 t376, .int .u64 0, .int .u64 0, .bool a3] 27 (0, 0)) (by refine z2_ ?_; refine blk_put (cs := #[.int .i64 1, .bool a0, .int .i64 t376, .int .u64 0, .int .u64 0, .bool false]) ?_ 5 _ rfl; refine z2_ ?_; refine blk_put (cs := #[.int .i64 1, .bool a0, .int .i64 t376, .int .u64 0, .int .u64 0, .bool false]) ?_ 4 _ rfl; refine z2_ ?_; refine blk_put (cs := #[.int .i64 1, .bool a0, .int .i64 t376, .int .u64 0, .int .u64 0, .bool false]) ?_ 3 _ rfl; refine z2_ ?_; refine blk_put (cs := #[.int .i64 1, .bool a0, .int .i64 0, .int .u64 0, .int .u64 0, .bool false]) ?_ 2 _ rfl; refine z2_ ?_; refine blk_put (cs := #[.int .i64 1, .bool false, .int .i64 0, .int .u64 0, .int .u64 0, .bool false]) ?_ 1 _ rfl; refine z2_ ?_; refine blk_put (cs := #[.int .i64 0, .bool false, .int .i64 0, .int .u64 0, .int .u64 0, .bool false]) ?_ 0 _ rfl; refine z2_ ?_; exact BK377.out) hb); have n4_ := Aside0.mk (Kept.below (S := (fun k_ => P1_ k_)) (by repeat (first | (with_reducible first | exact HK.out | apply Kept.alloc | apply Kept.drewN | apply Kept.drew | refine Kept.setCell ?_ (.inr GW374.out) _ | refine Kept.setCell ?_ (.inr GW377.out) _) | exact HK.out)) hb); have n5_ := Aside0.mk (below_step (z3_ HB.out) hb); clear HO1; clear BK374; clear BK377; clear HK; clear HB; have HO1 := n0_; have HO380 := n1_; have BK374 := n2_; have BK377 := n3_; have HK := n4_; have HB := n5_; clear n0_ n1_ n2_ n3_ n4_ n5_; (try clear hb); (try clear hb2); (try clear hk); (try clear hi); (try clear ho0)))
    go_meet
    case rel => exact ⟨_, (t378), H', ⟨by first | omega | exact Nat.le_refl _⟩, ⟨by (with_reducible repeat (first | apply Kd.R_alloc | apply Kd.R_drewN | apply Kd.R_drew)); exact Kd.R_mono HO380.out (fun _ hk => hk.1.1)⟩, ⟨by refine z2_ ?_; exact BK374.out⟩, ⟨by refine z2_ ?_; exact BK377.out⟩, ⟨by repeat (first | (with_reducible first | exact HK.out | apply Kept.alloc | apply Kept.drewN | apply Kept.drew | refine Kept.setCell ?_ (.inr GW374.out) _ | refine Kept.setCell ?_ (.inr GW377.out) _) | exact HK.out)⟩, ⟨by repeat (first | (with_reducible first | exact HB.out | apply below_alloc | apply pw_below_drewN | apply below_drew1 | refine below_set ?_ GE374.out | refine below_set ?_ GE377.out) | exact HB.out)⟩⟩
   ·rw [if_neg c17] at H
    have c17b0 : decide (t375 < 128) = false := decide_eq_false c17
    clear c17
    (first | rw [c17b0] | (simp only [i64_w, i32_w]; rw [c17b0]) | skip)
    have H' := Aside0.mk H
    clear H
    go_wp2
    go_meet
    case rel => exact ⟨_, (l1), H', ⟨by first | omega | exact Nat.le_refl _⟩, ⟨by (with_reducible repeat (first | apply Kd.R_alloc | apply Kd.R_drewN | apply Kd.R_drew)); exact Kd.R_mono (Kd.R_far (p := ⟨gb377, 5, none⟩) (Kd.R_far (p := ⟨gb377, 4, none⟩) (Kd.R_far (p := ⟨gb377, 3, none⟩) (Kd.R_far (p := ⟨gb377, 2, none⟩) (Kd.R_far (p := ⟨gb377, 1, none⟩) (Kd.R_far (p := ⟨gb377, 0, none⟩) (Kd.R_types HO1.out BK377.out (by decide)) (fun _ hk => hk.2) (.int .i64 1)) (fun _ hk => hk.2) (.bool a0)) (fun _ hk => hk.2) (.int .i64 t376)) (fun _ hk => hk.2) (.int .u64 0)) (fun _ hk => hk.2) (.int .u64 0)) (fun _ hk => hk.2) (.bool a3)) (fun _ hk => hk.1)⟩, ⟨by refine z2_ ?_; refine blk_far ?_ NB374_377.out _; refine z2_ ?_; refine blk_far ?_ NB374_377.out _; refine z2_ ?_; refine blk_far ?_ NB374_377.out _; refine z2_ ?_; refine blk_far ?_ NB374_377.out _; refine z2_ ?_; refine blk_far ?_ NB374_377.out _; refine z2_ ?_; refine blk_far ?_ NB374_377.out _; refine z2_ ?_; exact BK374.out⟩, ⟨by refine z2_ ?_; refine blk_put (cs := #[.int .i64 1, .bool a0, .int .i64 t376, .int .u64 0, .int .u64 0, .bool false]) ?_ 5 _ rfl; refine z2_ ?_; refine blk_put (cs := #[.int .i64 1, .bool a0, .int .i64 t376, .int .u64 0, .int .u64 0, .bool false]) ?_ 4 _ rfl; refine z2_ ?_; refine blk_put (cs := #[.int .i64 1, .bool a0, .int .i64 t376, .int .u64 0, .int .u64 0, .bool false]) ?_ 3 _ rfl; refine z2_ ?_; refine blk_put (cs := #[.int .i64 1, .bool a0, .int .i64 0, .int .u64 0, .int .u64 0, .bool false]) ?_ 2 _ rfl; refine z2_ ?_; refine blk_put (cs := #[.int .i64 1, .bool false, .int .i64 0, .int .u64 0, .int .u64 0, .bool false]) ?_ 1 _ rfl; refine z2_ ?_; refine blk_put (cs := #[.int .i64 0, .bool false, .int .i64 0, .int .u64 0, .int .u64 0, .bool false]) ?_ 0 _ rfl; refine z2_ ?_; exact BK377.out⟩, ⟨by repeat (first | (with_reducible first | exact HK.out | apply Kept.alloc | apply Kept.drewN | apply Kept.drew | refine Kept.setCell ?_ (.inr GW374.out) _ | refine Kept.setCell ?_ (.inr GW377.out) _) | exact HK.out)⟩, ⟨by repeat (first | (with_reducible first | exact HB.out | apply below_alloc | apply pw_below_drewN | apply below_drew1 | refine below_set ?_ GE374.out | refine below_set ?_ GE377.out) | exact HB.out)⟩⟩
  case rest =>
   clear HC11
   try clear c1
   try clear c2
   try clear p2
   try clear c4
   try clear c6
   try clear c6b0
   try clear c6b1
   try clear p6
   try clear c15
   try clear c17
   try clear c17b0
   try clear hcz16_0
   try clear hcz16_1
   try clear hcz16_2
   try clear hcz16_3
   try clear hcz16_4
   try clear hcz16_5
   try clear hcz9_0
   try clear hcz9_1
   try clear hcz9_2
   try clear hcz9_3
   try clear hcz9_4
   try clear hcz9_5
   try clear hfz16_0
   try clear hfz16_1
   try clear hfz16_2
   try clear hfz16_3
   try clear hfz16_4
   try clear hfz16_5
   try clear hfz9_0
   try clear hfz9_1
   try clear hfz9_2
   try clear hfz9_3
   try clear hfz9_4
   try clear hfz9_5
   obtain ⟨kq, x1_10, HA, HJ10, HO_1, BK374, BK377, HK, HB⟩ := hcut
   cases kq with
   | zero => exact absurd HA.out (by simp [vernierref07_Exactly.j0])
   | succ kj10 =>
    have H := HA.out
    clear HA
    simp only [vernierref07_Exactly.j0] at H
    by_cases c20 : t375 > 128
    ·rw [if_pos c20] at H
     have c20b0 : decide (128 < t375) = true := decide_eq_true c20
     clear c20
     replace H := Option.bind_eq_some_iff.mp H
     obtain ⟨t381, A210, H⟩ := H
     replace H : (if a3 = true then (vernierref07_Exactly.j1 kj10 x1_10 t375 1 a0 t376 0 0 true) else (vernierref07_Exactly.j1 kj10 x1_10 t375 1 a0 t376 0 0 t381)) = some (r1, r2, r3, r4, r5, r6) := H
     have A21 := Aside0.mk A210
     clear A210
     have HC22 := Aside0.mk H
     clear H
     obtain ⟨Ao23, co23, eo23⟩ := Kd.R_slice HO_1.out
     subst eo23
     go_upto_region 9 with (first | ((with_reducible refine gate_callee (f := 44) rfl ?_); refine goesL_ (some 36) rfl rfl Try.func44 (by kernel_rfl) rfl #[.slice Ao23 x1_10.length co23, .int .i64 (wrap64 (t375 - 128))] rfl z5_ ?_; (with_reducible refine (vernierref04_Low.calls kj10 _ _ x1_10 (wrap64 (t375 - 128)) t381 _ ?side1 ?side2 A21.out).mono ?_); (case side1 => repeat (first | exact (Kd.R_reads' HO_1.out).2.2 | (with_reducible refine Kd.C_alloc ?_ _) | (with_reducible refine Kd.C_drewN ?_ _) | (with_reducible refine Kd.C_drew ?_))); (case side2 => exact (Kd.R_reads' HO_1.out).2.1); rintro e w' ⟨rfl, ⟨nd, rfl⟩⟩; refine ⟨_, rfl, ?_⟩))
     (try simp only [Act.put, List.setIfInBounds_toArray, List.set_cons_zero, List.set_cons_succ])
     go_cut [] (fun wc => ∃ (kq : Nat) (x378005_21 : Bool), Aside0 (vernierref07_Exactly.j1 kq x1_10 t375 1 a0 t376 0 0 x378005_21 = some (r1, r2, r3, r4, r5, r6)) ∧ Aside0 (kq ≤ kj10) ∧ Aside0 (Kd.R (Kd.int .i64) 3 wc w0.heap.size (fun k_ => (P1_ k_ ∨ w.heap.size ≤ k_)) (.slice Ao23 x1_10.length co23) x1_10) ∧ Aside0 (wc.heap[gb374]? = some (.cells #[.int .i64 0, .bool false, .int .i64 0, .int .u64 0, .int .u64 0, .bool false] 27 (0, 0))) ∧ Aside0 (wc.heap[gb377]? = some (.cells #[.int .i64 1, .bool a0, .int .i64 t376, .int .u64 0, .int .u64 0, .bool x378005_21] 27 (0, 0))) ∧ Aside0 (Kept w wc (fun k_ => P1_ k_)) ∧ Aside0 (Below w0.heap.size w0 wc))
     case first =>
      have H := HC22.out
      clear HC22
      by_cases c24 : a3 = true
      ·subst c24
       have H1 : (vernierref07_Exactly.j1 kj10 x1_10 t375 1 a0 t376 0 0 true) = some (r1, r2, r3, r4, r5, r6) := by rw [if_pos rfl] at H; exact H
       clear H
       have H := H1
       clear H1
       have H' := Aside0.mk H
       clear H
       have hnb25 := NB377_374.out
       have hnc25 := NB374_377.out
       have hcz26_0 := z4_ BK377.out 0 (.int .i64 1) rfl
       have hcz26_1 := z4_ BK377.out 1 (.bool a0) rfl
       have hcz26_2 := z4_ BK377.out 2 (.int .i64 t376) rfl
       have hcz26_3 := z4_ BK377.out 3 (.int .u64 0) rfl
       have hcz26_4 := z4_ BK377.out 4 (.int .u64 0) rfl
       have hcz26_5 := z4_ BK377.out 5 (.bool true) rfl
       have hfz26_0 := blk_frozen BK377.out 0
       have hfz26_1 := blk_frozen BK377.out 1
       have hfz26_2 := blk_frozen BK377.out 2
       have hfz26_3 := blk_frozen BK377.out 3
       have hfz26_4 := blk_frozen BK377.out 4
       have hfz26_5 := blk_frozen BK377.out 5
       go_wp2
       go_meet
       case rel => exact ⟨_, (true), H', ⟨by have := HJ10.out; first | omega | exact Nat.le_refl _⟩, ⟨by (with_reducible repeat (first | apply Kd.R_alloc | apply Kd.R_drewN | apply Kd.R_drew)); exact Kd.R_mono (Kd.R_far (p := ⟨gb377, 5, none⟩) (Kd.R_types HO_1.out BK377.out (by decide)) (fun _ hk => hk.2) (.bool true)) (fun _ hk => hk.1)⟩, ⟨by refine z2_ ?_; refine blk_far ?_ NB374_377.out _; refine z2_ ?_; exact BK374.out⟩, ⟨by refine z2_ ?_; refine blk_put (cs := #[.int .i64 1, .bool a0, .int .i64 t376, .int .u64 0, .int .u64 0, .bool true]) ?_ 5 _ rfl; refine z2_ ?_; exact BK377.out⟩, ⟨by repeat (first | (with_reducible first | exact HK.out | apply Kept.alloc | apply Kept.drewN | apply Kept.drew | refine Kept.setCell ?_ (.inr GW374.out) _ | refine Kept.setCell ?_ (.inr GW377.out) _) | exact HK.out)⟩, ⟨by repeat (first | (with_reducible first | exact HB.out | apply below_alloc | apply pw_below_drewN | apply below_drew1 | refine below_set ?_ GE374.out | refine below_set ?_ GE377.out) | exact HB.out)⟩⟩
      ·replace c24 := Bool.eq_false_iff.mpr c24
       subst c24
       have H1 : (vernierref07_Exactly.j1 kj10 x1_10 t375 1 a0 t376 0 0 t381) = some (r1, r2, r3, r4, r5, r6) := by rw [if_neg (show ¬ (false = true) by decide)] at H; exact H
       clear H
       have H := H1
       clear H1
       have H' := Aside0.mk H
       clear H
       have hnb27 := NB377_374.out
       have hnc27 := NB374_377.out
       have hcz28_0 := z4_ BK377.out 0 (.int .i64 1) rfl
       have hcz28_1 := z4_ BK377.out 1 (.bool a0) rfl
       have hcz28_2 := z4_ BK377.out 2 (.int .i64 t376) rfl
       have hcz28_3 := z4_ BK377.out 3 (.int .u64 0) rfl
       have hcz28_4 := z4_ BK377.out 4 (.int .u64 0) rfl
       have hcz28_5 := z4_ BK377.out 5 (.bool false) rfl
       have hfz28_0 := blk_frozen BK377.out 0
       have hfz28_1 := blk_frozen BK377.out 1
       have hfz28_2 := blk_frozen BK377.out 2
       have hfz28_3 := blk_frozen BK377.out 3
       have hfz28_4 := blk_frozen BK377.out 4
       have hfz28_5 := blk_frozen BK377.out 5
       go_wp2
       go_meet
       case rel => exact ⟨_, (t381), H', ⟨by have := HJ10.out; first | omega | exact Nat.le_refl _⟩, ⟨by (with_reducible repeat (first | apply Kd.R_alloc | apply Kd.R_drewN | apply Kd.R_drew)); exact Kd.R_mono (Kd.R_far (p := ⟨gb377, 5, none⟩) (Kd.R_types HO_1.out BK377.out (by decide)) (fun _ hk => hk.2) (.bool t381)) (fun _ hk => hk.1)⟩, ⟨by refine z2_ ?_; refine blk_far ?_ NB374_377.out _; refine z2_ ?_; exact BK374.out⟩, ⟨by refine z2_ ?_; refine blk_put (cs := #[.int .i64 1, .bool a0, .int .i64 t376, .int .u64 0, .int .u64 0, .bool false]) ?_ 5 _ rfl; refine z2_ ?_; exact BK377.out⟩, ⟨by repeat (first | (with_reducible first | exact HK.out | apply Kept.alloc | apply Kept.drewN | apply Kept.drew | refine Kept.setCell ?_ (.inr GW374.out) _ | refine Kept.setCell ?_ (.inr GW377.out) _) | exact HK.out)⟩, ⟨by repeat (first | (with_reducible first | exact HB.out | apply below_alloc | apply pw_below_drewN | apply below_drew1 | refine below_set ?_ GE374.out | refine below_set ?_ GE377.out) | exact HB.out)⟩⟩
     case rest =>
      clear HC22
      try clear c1
      try clear c2
      try clear p2
      try clear c4
      try clear c6
      try clear c6b0
      try clear c6b1
      try clear p6
      try clear c15
      try clear c17
      try clear c17b0
      try clear c20
      try clear c20b0
      try clear c24
      try clear c25
      try clear c27
      try clear hcz16_0
      try clear hcz16_1
      try clear hcz16_2
      try clear hcz16_3
      try clear hcz16_4
      try clear hcz16_5
      try clear hcz26_0
      try clear hcz26_1
      try clear hcz26_2
      try clear hcz26_3
      try clear hcz26_4
      try clear hcz26_5
      try clear hcz28_0
      try clear hcz28_1
      try clear hcz28_2
      try clear hcz28_3
      try clear hcz28_4
      try clear hcz28_5
      try clear hcz9_0
      try clear hcz9_1
      try clear hcz9_2
      try clear hcz9_3
      try clear hcz9_4
      try clear hcz9_5
      try clear hfz16_0
      try clear hfz16_1
      try clear hfz16_2
      try clear hfz16_3
      try clear hfz16_4
      try clear hfz16_5
      try clear hfz26_0
      try clear hfz26_1
      try clear hfz26_2
      try clear hfz26_3
      try clear hfz26_4
      try clear hfz26_5
      try clear hfz28_0
      try clear hfz28_1
      try clear hfz28_2
      try clear hfz28_3
      try clear hfz28_4
      try clear hfz28_5
      try clear hfz9_0
      try clear hfz9_1
      try clear hfz9_2
      try clear hfz9_3
      try clear hfz9_4
      try clear hfz9_5
      try clear p2
      try clear p6
      obtain ⟨kq, x378005_21, HA, HJ21, HO_1, BK374, BK377, HK, HB⟩ := hcut
      cases kq with
      | zero => exact absurd HA.out (by simp [vernierref07_Exactly.j1])
      | succ kj21 =>
       have H := HA.out
       clear HA
       simp only [vernierref07_Exactly.j1] at H
       replace H := Option.bind_eq_some_iff.mp H
       obtain ⟨t382, A290, H⟩ := H
       replace H : ((vernierref04_Word.f kj21 t382).bind fun t385 => ((vernierref04_Shr.f kj21 t382 64).bind fun t386 => ((vernierref04_Word.f kj21 t386).bind fun t389 => (some (1, a0, t376, t389, t385, x378005_21))))) = some (r1, r2, r3, r4, r5, r6) := H
       have A29 := Aside0.mk A290
       clear A290
       replace H := Option.bind_eq_some_iff.mp H
       obtain ⟨t385, A300, H⟩ := H
       replace H : ((vernierref04_Shr.f kj21 t382 64).bind fun t386 => ((vernierref04_Word.f kj21 t386).bind fun t389 => (some (1, a0, t376, t389, t385, x378005_21)))) = some (r1, r2, r3, r4, r5, r6) := H
       have A30 := Aside0.mk A300
       clear A300
       replace H := Option.bind_eq_some_iff.mp H
       obtain ⟨t386, A310, H⟩ := H
       replace H : ((vernierref04_Word.f kj21 t386).bind fun t389 => (some (1, a0, t376, t389, t385, x378005_21))) = some (r1, r2, r3, r4, r5, r6) := H
       have A31 := Aside0.mk A310
       clear A310
       replace H := Option.bind_eq_some_iff.mp H
       obtain ⟨t389, A320, H⟩ := H
       replace H : (some (1, a0, t376, t389, t385, x378005_21)) = some (r1, r2, r3, r4, r5, r6) := H
       have A32 := Aside0.mk A320
       clear A320
       simp only [Option.some.injEq, Prod.mk.injEq] at H
       obtain ⟨rfl, rfl, rfl, rfl, rfl, rfl⟩ := H
       go_wp2_with (first | ((with_reducible refine gate_callee (f := 45) rfl ?_); refine goesL_ (some 45) rfl rfl Try.func45 (by kernel_rfl) rfl #[.slice Ao23 x1_10.length co23, .int .i64 (wrap64 (t375 - 128))] rfl z5_ ?_; (with_reducible refine (vernierref04_Shr.calls kj21 _ _ x1_10 (wrap64 (t375 - 128)) t382 _ ?side1 ?side2 A29.out).mono ?_); (case side1 => repeat (first | exact (Kd.R_reads' HO_1.out).2.2 | (with_reducible refine Kd.C_alloc ?_ _) | (with_reducible refine Kd.C_drewN ?_ _) | (with_reducible refine Kd.C_drew ?_))); (case side2 => exact (Kd.R_reads' HO_1.out).2.1); rintro e w33 ⟨v383, rfl, ho0, hb⟩; refine ⟨_, rfl, ?_⟩; have n0_ := Aside0.mk (Kd.R_elder' (by (with_reducible repeat (first | apply Kd.R_alloc | apply Kd.R_drewN | apply Kd.R_drew)); exact HO_1.out) (Kd.R_base ho0) hb); have n1_ := Aside0.mk (Kd.R_lower (Kd.R_new' (Kd.R_newM (M := fun k_ => (P1_ k_ ∨ w.heap.size ≤ k_)) ho0 (by first | exact HK.out.1 | exact (show Kept w _ (fun k_ => P1_ k_) from by repeat (first | (with_reducible first | exact HK.out | apply Kept.alloc | apply Kept.drewN | apply Kept.drew | refine Kept.setCell ?_ (.inr GW374.out) _ | refine Kept.setCell ?_ (.inr GW377.out) _) | exact HK.out)).1) (fun k_ h_ => .inr h_)) (Kd.R_lt (by (with_reducible repeat (first | apply Kd.R_alloc | apply Kd.R_drewN | apply Kd.R_drew)); exact HO_1.out))) (below_size (z3_ HB.out))); have n2_ := Aside0.mk (blk_below (g := gb374) (z1_ BK374.out) hb); have n3_ := Aside0.mk (blk_below (g := gb377) (z1_ BK377.out) hb); have n4_ := Aside0.mk (Kept.below (S := (fun k_ => P1_ k_)) (by repeat (first | (with_reducible first | exact HK.out | apply Kept.alloc | apply Kept.drewN | apply Kept.drew | refine Kept.setCell ?_ (.inr GW374.out) _ | refine Kept.setCell ?_ (.inr GW377.out) _) | exact HK.out)) hb); have n5_ := Aside0.mk (below_step (z3_ HB.out) hb); clear HO_1; clear BK374; clear BK377; clear HK; clear HB; have HO_1 := n0_; have HO384 := n1_; have BK374 := n2_; have BK377 := n3_; have HK := n4_; have HB := n5_; clear n0_ n1_ n2_ n3_ n4_ n5_; (try clear hb); (try clear hb2); (try clear hk); (try clear hi); (try clear ho0); obtain ⟨Ao34, co34, eo34⟩ := Kd.R_slice HO384.out; subst eo34) | ((with_reducible refine gate_callee (f := 46) rfl ?_); refine goesL_ (some 47) rfl rfl Try.func46 (by kernel_rfl) rfl #[.slice Ao34 t382.length co34] rfl z5_ ?_; (with_reducible refine (vernierref04_Word.calls kj21 _ _ t382 t385 _ ?side1 ?side2 A30.out).mono ?_); (case side1 => repeat (first | exact (Kd.R_reads' HO384.out).2.2 | (with_reducible refine Kd.C_alloc ?_ _) | (with_reducible refine Kd.C_drewN ?_ _) | (with_reducible refine Kd.C_drew ?_))); (case side2 => exact (Kd.R_reads' HO384.out).2.1); rintro e w' ⟨rfl, ⟨nd, rfl⟩⟩; refine ⟨_, rfl, ?_⟩; (try (rw [drewN_self w33]; generalize hq_ : World.drewN w33 _ = w33; have n0_ : Aside0 (Kd.R (Kd.int .i64) 3 w33 w0.heap.size (fun k_ => (P1_ k_ ∨ w.heap.size ≤ k_) ∧ some k_ ≠ (.slice Ao23 x1_10.length co23 : Value).ownBlock) (.slice Ao34 t382.length co34) t382) := ⟨by rw [← hq_]; exact (by (with_reducible repeat (first | apply Kd.R_alloc | apply Kd.R_drewN | apply Kd.R_drew)); exact Kd.R_mono HO384.out (fun _ hk => ⟨hk.1.1, hk.2⟩))⟩; have n1_ : Aside0 (Kd.R (Kd.int .i64) 3 w33 w0.heap.size (fun k_ => (P1_ k_ ∨ w.heap.size ≤ k_) ∧ some k_ ≠ (.slice Ao34 t382.length co34 : Value).ownBlock) (.slice Ao23 x1_10.length co23) x1_10) := ⟨by rw [← hq_]; exact (by (with_reducible repeat (first | apply Kd.R_alloc | apply Kd.R_drewN | apply Kd.R_drew)); exact HO_1.out)⟩; have n2_ : Aside0 (w33.heap[gb374]? = some (.cells #[.int .i64 0, .bool false, .int .i64 0, .int .u64 0, .int .u64 0, .bool false] 27 (0, 0))) := ⟨by rw [← hq_]; exact (z1_ BK374.out)⟩; have n3_ : Aside0 (w33.heap[gb377]? = some (.cells #[.int .i64 1, .bool a0, .int .i64 t376, .int .u64 0, .int .u64 0, .bool x378005_21] 27 (0, 0))) := ⟨by rw [← hq_]; exact (z1_ BK377.out)⟩; have n4_ : Aside0 (Kept w w33 (fun k_ => P1_ k_)) := ⟨by rw [← hq_]; exact (by repeat (first | (with_reducible first | exact HK.out | apply Kept.alloc | apply Kept.drewN | apply Kept.drew | refine Kept.setCell ?_ (.inr GW374.out) _ | refine Kept.setCell ?_ (.inr GW377.out) _) | exact HK.out))⟩; have n5_ : Aside0 (Below w0.heap.size w0 w33) := ⟨by rw [← hq_]; exact (z3_ HB.out)⟩; clear HO384 HO_1 BK374 BK377 HK HB hq_; have HO384 := n0_; have HO_1 := n1_; have BK374 := n2_; have BK377 := n3_; have HK := n4_; have HB := n5_; clear n0_ n1_ n2_ n3_ n4_ n5_)); have hnb35 := NB377_374.out; have hnc35 := NB374_377.out; have hcz36_0 := z4_ BK377.out 0 (.int .i64 1) rfl; have hcz36_1 := z4_ BK377.out 1 (.bool a0) rfl; have hcz36_2 := z4_ BK377.out 2 (.int .i64 t376) rfl; have hcz36_3 := z4_ BK377.out 3 (.int .u64 0) rfl; have hcz36_4 := z4_ BK377.out 4 (.int .u64 0) rfl; have hcz36_5 := z4_ BK377.out 5 (.bool x378005_21) rfl; have hfz36_0 := blk_frozen BK377.out 0; have hfz36_1 := blk_frozen BK377.out 1; have hfz36_2 := blk_frozen BK377.out 2; have hfz36_3 := blk_frozen BK377.out 3; have hfz36_4 := blk_frozen BK377.out 4; have hfz36_5 := blk_frozen BK377.out 5) | ((with_reducible refine gate_callee (f := 45) rfl ?_); refine goesL_ (some 50) rfl rfl Try.func45 (by kernel_rfl) rfl #[.slice Ao34 t382.length co34, .int .i64 64] rfl z5_ ?_; (with_reducible refine (vernierref04_Shr.calls kj21 _ _ t382 64 t386 _ ?side1 ?side2 A31.out).mono ?_); (case side1 => refine (Kd.R_reads' (e := 3) (base := w0.heap.size) (ok := fun k_ => ((P1_ k_ ∨ w.heap.size ≤ k_) ∧ some k_ ≠ (.slice Ao23 x1_10.length co23 : Value).ownBlock)) (n := t382.length) (c := co34) ?_).2.2; exact (by (with_reducible repeat (first | apply Kd.R_alloc | apply Kd.R_drewN | apply Kd.R_drew)); exact (Kd.R_mono (Kd.R_far (p := ⟨gb377, 4, none⟩) (Kd.R_types HO384.out BK377.out (by decide)) (fun _ hk => hk.2) (.int .u64 t385)) (fun _ h_ => h_.1)))); (case side2 => exact (Kd.R_reads' HO384.out).2.1); rintro e w37 ⟨v387, rfl, ho0, hb⟩; refine ⟨_, rfl, ?_⟩; have n0_ := Aside0.mk (Kd.R_elder' (by (with_reducible repeat (first | apply Kd.R_alloc | apply Kd.R_drewN | apply Kd.R_drew)); exact (Kd.R_mono (Kd.R_far (p := ⟨gb377, 4, none⟩) (Kd.R_types HO_1.out BK377.out (by decide)) (fun _ hk => hk.2) (.int .u64 t385)) (fun _ h_ => h_.1))) (Kd.R_base ho0) hb); have n1_ := Aside0.mk (Kd.R_elder' (by (with_reducible repeat (first | apply Kd.R_alloc | apply Kd.R_drewN | apply Kd.R_drew)); exact (Kd.R_mono (Kd.R_far (p := ⟨gb377, 4, none⟩) (Kd.R_types HO384.out BK377.out (by decide)) (fun _ hk => hk.2) (.int .u64 t385)) (fun _ h_ => h_.1))) (Kd.R_base ho0) hb); have n2_ := Aside0.mk (Kd.R_lower (Kd.R_new' (Kd.R_new' (Kd.R_newM (M := fun k_ => (P1_ k_ ∨ w.heap.size ≤ k_)) ho0 (show Kept w _ (fun k_ => P1_ k_) from by repeat (first | (with_reducible first | exact HK.out | apply Kept.alloc | apply Kept.drewN | apply Kept.drew | refine Kept.setCell ?_ (.inr GW374.out) _ | refine Kept.setCell ?_ (.inr GW377.out) _) | exact HK.out)).1 (fun k_ h_ => .inr h_)) (Kd.R_lt (by (with_reducible repeat (first | apply Kd.R_alloc | apply Kd.R_drewN | apply Kd.R_drew)); exact (Kd.R_mono (Kd.R_far (p := ⟨gb377, 4, none⟩) (Kd.R_types HO_1.out BK377.out (by decide)) (fun _ hk => hk.2) (.int .u64 t385)) (fun _ h_ => h_.1))))) (Kd.R_lt (by (with_reducible repeat (first | apply Kd.R_alloc | apply Kd.R_drewN | apply Kd.R_drew)); exact (Kd.R_mono (Kd.R_far (p := ⟨gb377, 4, none⟩) (Kd.R_types HO384.out BK377.out (by decide)) (fun _ hk => hk.2) (.int .u64 t385)) (fun _ h_ => h_.1))))) (below_size (z3_ HB.out))); have n3_ := Aside0.mk (blk_below (g := gb374) (o := .cells #[.int .i64 0, .bool false, .int .i64 0, .int .u64 0, .int .u64 0, .bool false] 27 (0, 0)) (by refine z2_ ?_; refine blk_far ?_ NB374_377.out _; refine z2_ ?_; exact BK374.out) hb); have n4_ := Aside0.mk (blk_below (g := gb377) (o := .cells #[.int .i64 1, .bool a0, .int .i64 t376, .int .u64 0, .int .u64 t385, .bool x378005_21] 27 (0, 0)) (by refine z2_ ?_; refine blk_put (cs := #[.int .i64 1, .bool a0, .int .i64 t376, .int .u64 0, .int .u64 0, .bool x378005_21]) ?_ 4 _ rfl; refine z2_ ?_; exact BK377.out) hb); have n5_ := Aside0.mk (Kept.below (S := (fun k_ => P1_ k_)) (by repeat (first | (with_reducible first | exact HK.out | apply Kept.alloc | apply Kept.drewN | apply Kept.drew | refine Kept.setCell ?_ (.inr GW374.out) _ | refine Kept.setCell ?_ (.inr GW377.out) _) | exact HK.out)) hb); have n6_ := Aside0.mk (below_step (z3_ HB.out) hb); clear HO_1; clear HO384; clear BK374; clear BK377; clear HK; clear HB; have HO_1 := n0_; have HO384 := n1_; have HO388 := n2_; have BK374 := n3_; have BK377 := n4_; have HK := n5_; have HB := n6_; clear n0_ n1_ n2_ n3_ n4_ n5_ n6_; (try clear hb); (try clear hb2); (try clear hk); (try clear hi); (try clear ho0); obtain ⟨Ao38, co38, eo38⟩ := Kd.R_slice HO388.out; subst eo38) | ((with_reducible refine gate_callee (f := 46) rfl ?_); refine goesL_ (some 51) rfl rfl Try.func46 (by kernel_rfl) rfl #[.slice Ao38 t386.length co38] rfl z5_ ?_; (with_reducible refine (vernierref04_Word.calls kj21 _ _ t386 t389 _ ?side1 ?side2 A32.out).mono ?_); (case side1 => repeat (first | exact (Kd.R_reads' HO388.out).2.2 | (with_reducible refine Kd.C_alloc ?_ _) | (with_reducible refine Kd.C_drewN ?_ _) | (with_reducible refine Kd.C_drew ?_))); (case side2 => exact (Kd.R_reads' HO388.out).2.1); rintro e w' ⟨rfl, ⟨nd, rfl⟩⟩; refine ⟨_, rfl, ?_⟩; (try (rw [drewN_self w37]; generalize hq_ : World.drewN w37 _ = w37; have n0_ : Aside0 (Kd.R (Kd.int .i64) 3 w37 w0.heap.size (fun k_ => (P1_ k_ ∨ w.heap.size ≤ k_) ∧ some k_ ≠ (.slice Ao38 t386.length co38 : Value).ownBlock ∧ some k_ ≠ (.slice Ao23 x1_10.length co23 : Value).ownBlock) (.slice Ao34 t382.length co34) t382) := ⟨by rw [← hq_]; exact (by (with_reducible repeat (first | apply Kd.R_alloc | apply Kd.R_drewN | apply Kd.R_drew)); exact Kd.R_mono HO384.out (fun _ hk => ⟨hk.1.1.1, ⟨hk.2, hk.1.2⟩⟩))⟩; have n1_ : Aside0 (Kd.R (Kd.int .i64) 3 w37 w0.heap.size (fun k_ => (P1_ k_ ∨ w.heap.size ≤ k_) ∧ some k_ ≠ (.slice Ao34 t382.length co34 : Value).ownBlock ∧ some k_ ≠ (.slice Ao23 x1_10.length co23 : Value).ownBlock) (.slice Ao38 t386.length co38) t386) := ⟨by rw [← hq_]; exact (by (with_reducible repeat (first | apply Kd.R_alloc | apply Kd.R_drewN | apply Kd.R_drew)); exact Kd.R_mono HO388.out (fun _ hk => ⟨hk.1.1.1, ⟨hk.2, hk.1.2⟩⟩))⟩; have n2_ : Aside0 (Kd.R (Kd.int .i64) 3 w37 w0.heap.size (fun k_ => (P1_ k_ ∨ w.heap.size ≤ k_) ∧ some k_ ≠ (.slice Ao34 t382.length co34 : Value).ownBlock ∧ some k_ ≠ (.slice Ao38 t386.length co38 : Value).ownBlock) (.slice Ao23 x1_10.length co23) x1_10) := ⟨by rw [← hq_]; exact (by (with_reducible repeat (first | apply Kd.R_alloc | apply Kd.R_drewN | apply Kd.R_drew)); exact Kd.R_mono HO_1.out (fun _ hk => ⟨hk.1.1, ⟨hk.1.2, hk.2⟩⟩))⟩; have n3_ : Aside0 (w37.heap[gb374]? = some (.cells #[.int .i64 0, .bool false, .int .i64 0, .int .u64 0, .int .u64 0, .bool false] 27 (0, 0))) := ⟨by rw [← hq_]; exact (z1_ BK374.out)⟩; have n4_ : Aside0 (w37.heap[gb377]? = some (.cells #[.int .i64 1, .bool a0, .int .i64 t376, .int .u64 0, .int .u64 t385, .bool x378005_21] 27 (0, 0))) := ⟨by rw [← hq_]; exact (z1_ BK377.out)⟩; have n5_ : Aside0 (Kept w w37 (fun k_ => P1_ k_)) := ⟨by rw [← hq_]; exact (by repeat (first | (with_reducible first | exact HK.out | apply Kept.alloc | apply Kept.drewN | apply Kept.drew | refine Kept.setCell ?_ (.inr GW374.out) _ | refine Kept.setCell ?_ (.inr GW377.out) _) | exact HK.out))⟩; have n6_ : Aside0 (Below w0.heap.size w0 w37) := ⟨by rw [← hq_]; exact (z3_ HB.out)⟩; clear HO384 HO388 HO_1 BK374 BK377 HK HB hq_; have HO384 := n0_; have HO388 := n1_; have HO_1 := n2_; have BK374 := n3_; have BK377 := n4_; have HK := n5_; have HB := n6_; clear n0_ n1_ n2_ n3_ n4_ n5_ n6_)); have hcz39_0 := z4_ BK377.out 0 (.int .i64 1) rfl; have hcz39_1 := z4_ BK377.out 1 (.bool a0) rfl; have hcz39_2 := z4_ BK377.out 2 (.int .i64 t376) rfl; have hcz39_3 := z4_ BK377.out 3 (.int .u64 0) rfl; have hcz39_4 := z4_ BK377.out 4 (.int .u64 t385) rfl; have hcz39_5 := z4_ BK377.out 5 (.bool x378005_21) rfl; have hfz39_0 := blk_frozen BK377.out 0; have hfz39_1 := blk_frozen BK377.out 1; have hfz39_2 := blk_frozen BK377.out 2; have hfz39_3 := blk_frozen BK377.out 3; have hfz39_4 := blk_frozen BK377.out 4; have hfz39_5 := blk_frozen BK377.out 5; have hcz40_0 := z4_ BK374.out 0 (.int .i64 0) rfl; have hcz40_1 := z4_ BK374.out 1 (.bool false) rfl; have hcz40_2 := z4_ BK374.out 2 (.int .i64 0) rfl; have hcz40_3 := z4_ BK374.out 3 (.int .u64 0) rfl; have hcz40_4 := z4_ BK374.out 4 (.int .u64 0) rfl; have hcz40_5 := z4_ BK374.out 5 (.bool false) rfl; have hfz40_0 := blk_frozen BK374.out 0; have hfz40_1 := blk_frozen BK374.out 1; have hfz40_2 := blk_frozen BK374.out 2; have hfz40_3 := blk_frozen BK374.out 3; have hfz40_4 := blk_frozen BK374.out 4; have hfz40_5 := blk_frozen BK374.out 5))
       refine bodyPost_ret (results_cell_row rfl _ _ gb374 27 #[.int .i64 1, .bool a0, .int .i64 t376, .int .u64 t389, .int .u64 t385, .bool x378005_21] (0, 0) _ rfl (by refine z2_ ?_; refine blk_put (cs := #[.int .i64 1, .bool a0, .int .i64 t376, .int .u64 t389, .int .u64 t385, .bool false]) ?_ 5 _ rfl; refine z2_ ?_; refine blk_put (cs := #[.int .i64 1, .bool a0, .int .i64 t376, .int .u64 t389, .int .u64 0, .bool false]) ?_ 4 _ rfl; refine z2_ ?_; refine blk_put (cs := #[.int .i64 1, .bool a0, .int .i64 t376, .int .u64 0, .int .u64 0, .bool false]) ?_ 3 _ rfl; refine z2_ ?_; refine blk_put (cs := #[.int .i64 1, .bool a0, .int .i64 0, .int .u64 0, .int .u64 0, .bool false]) ?_ 2 _ rfl; refine z2_ ?_; refine blk_put (cs := #[.int .i64 1, .bool false, .int .i64 0, .int .u64 0, .int .u64 0, .bool false]) ?_ 1 _ rfl; refine z2_ ?_; refine blk_put (cs := #[.int .i64 0, .bool false, .int .i64 0, .int .u64 0, .int .u64 0, .bool false]) ?_ 0 _ rfl; refine z2_ ?_; refine blk_far ?_ NB374_377.out _; refine z2_ ?_; exact BK374.out) Try.underlying27 rfl (by kernel_rfl)) rfl ?_
       exact ⟨by first | rfl | (simp [errW_none, errW_some] <;> rfl) | (simp [*, errW_none, errW_some] <;> rfl), by repeat (first | (with_reducible first | exact HB.out | apply below_alloc | apply pw_below_drewN | apply below_drew1 | refine below_set ?_ GE374.out | refine below_set ?_ GE377.out) | exact HB.out), by repeat (first | (with_reducible first | exact HK.out | apply Kept.alloc | apply Kept.drewN | apply Kept.drew | refine Kept.setCell ?_ (.inr GW374.out) _ | refine Kept.setCell ?_ (.inr GW377.out) _) | exact HK.out)⟩
    ·rw [if_neg c20] at H
     have c20b0 : decide (128 < t375) = false := decide_eq_false c20
     clear c20
     replace H := Option.bind_eq_some_iff.mp H
     obtain ⟨t390, A410, H⟩ := H
     replace H : ((vernierref04_Shr.f kj10 x1_10 64).bind fun t391 => ((vernierref04_Word.f kj10 t391).bind fun t394 => (some (1, a0, t376, t394, t390, a3)))) = some (r1, r2, r3, r4, r5, r6) := H
     have A41 := Aside0.mk A410
     clear A410
     replace H := Option.bind_eq_some_iff.mp H
     obtain ⟨t391, A420, H⟩ := H
     replace H : ((vernierref04_Word.f kj10 t391).bind fun t394 => (some (1, a0, t376, t394, t390, a3))) = some (r1, r2, r3, r4, r5, r6) := H
     have A42 := Aside0.mk A420
     clear A420
     replace H := Option.bind_eq_some_iff.mp H
     obtain ⟨t394, A430, H⟩ := H
     replace H : (some (1, a0, t376, t394, t390, a3)) = some (r1, r2, r3, r4, r5, r6) := H
     have A43 := Aside0.mk A430
     clear A430
     simp only [Option.some.injEq, Prod.mk.injEq] at H
     obtain ⟨rfl, rfl, rfl, rfl, rfl, rfl⟩ := H
     obtain ⟨Ao44, co44, eo44⟩ := Kd.R_slice HO_1.out
     subst eo44
     go_wp2_with (first | ((with_reducible refine gate_callee (f := 46) rfl ?_); refine goesL_ (some 47) rfl rfl Try.func46 (by kernel_rfl) rfl #[.slice Ao44 x1_10.length co44] rfl z5_ ?_; (with_reducible refine (vernierref04_Word.calls kj10 _ _ x1_10 t390 _ ?side1 ?side2 A41.out).mono ?_); (case side1 => repeat (first | exact (Kd.R_reads' HO_1.out).2.2 | (with_reducible refine Kd.C_alloc ?_ _) | (with_reducible refine Kd.C_drewN ?_ _) | (with_reducible refine Kd.C_drew ?_))); (case side2 => exact (Kd.R_reads' HO_1.out).2.1); rintro e w' ⟨rfl, ⟨nd, rfl⟩⟩; refine ⟨_, rfl, ?_⟩; (try (rw [drewN_self wc]; generalize hq_ : World.drewN wc _ = wc; have n0_ : Aside0 (Kd.R (Kd.int .i64) 3 wc w0.heap.size (fun k_ => (P1_ k_ ∨ w.heap.size ≤ k_)) (.slice Ao44 x1_10.length co44) x1_10) := ⟨by rw [← hq_]; exact (by (with_reducible repeat (first | apply Kd.R_alloc | apply Kd.R_drewN | apply Kd.R_drew)); exact HO_1.out)⟩; have n1_ : Aside0 (wc.heap[gb374]? = some (.cells #[.int .i64 0, .bool false, .int .i64 0, .int .u64 0, .int .u64 0, .bool false] 27 (0, 0))) := ⟨by rw [← hq_]; exact (z1_ BK374.out)⟩; have n2_ : Aside0 (wc.heap[gb377]? = some (.cells #[.int .i64 1, .bool a0, .int .i64 t376, .int .u64 0, .int .u64 0, .bool a3] 27 (0, 0))) := ⟨by rw [← hq_]; exact (z1_ BK377.out)⟩; have n3_ : Aside0 (Kept w wc (fun k_ => P1_ k_)) := ⟨by rw [← hq_]; exact (by repeat (first | (with_reducible first | exact HK.out | apply Kept.alloc | apply Kept.drewN | apply Kept.drew | refine Kept.setCell ?_ (.inr GW374.out) _ | refine Kept.setCell ?_ (.inr GW377.out) _) | exact HK.out))⟩; have n4_ : Aside0 (Below w0.heap.size w0 wc) := ⟨by rw [← hq_]; exact (z3_ HB.out)⟩; clear HO_1 BK374 BK377 HK HB hq_; have HO_1 := n0_; have BK374 := n1_; have BK377 := n2_; have HK := n3_; have HB := n4_; clear n0_ n1_ n2_ n3_ n4_)); have hnb45 := NB377_374.out; have hnc45 := NB374_377.out; have hcz46_0 := z4_ BK377.out 0 (.int .i64 1) rfl; have hcz46_1 := z4_ BK377.out 1 (.bool a0) rfl; have hcz46_2 := z4_ BK377.out 2 (.int .i64 t376) rfl; have hcz46_3 := z4_ BK377.out 3 (.int .u64 0) rfl; have hcz46_4 := z4_ BK377.out 4 (.int .u64 0) rfl; have hcz46_5 := z4_ BK377.out 5 (.bool a3) rfl; have hfz46_0 := blk_frozen BK377.out 0; have hfz46_1 := blk_frozen BK377.out 1; have hfz46_2 := blk_frozen BK377.out 2; have hfz46_3 := blk_frozen BK377.out 3; have hfz46_4 := blk_frozen BK377.out 4; have hfz46_5 := blk_frozen BK377.out 5) | ((with_reducible refine gate_callee (f := 45) rfl ?_); refine goesL_ (some 50) rfl rfl Try.func45 (by kernel_rfl) rfl #[.slice Ao44 x1_10.length co44, .int .i64 64] rfl z5_ ?_; (with_reducible refine (vernierref04_Shr.calls kj10 _ _ x1_10 64 t391 _ ?side1 ?side2 A42.out).mono ?_); (case side1 => refine (Kd.R_reads' (e := 3) (base := w0.heap.size) (ok := fun k_ => (P1_ k_ ∨ w.heap.size ≤ k_)) (n := x1_10.length) (c := co44) ?_).2.2; exact (by (with_reducible repeat (first | apply Kd.R_alloc | apply Kd.R_drewN | apply Kd.R_drew)); exact (Kd.R_mono (Kd.R_far (p := ⟨gb377, 4, none⟩) (Kd.R_types HO_1.out BK377.out (by decide)) (fun _ hk => hk.2) (.int .u64 t390)) (fun _ h_ => h_.1)))); (case side2 => exact (Kd.R_reads' HO_1.out).2.1); rintro e w47 ⟨v392, rfl, ho0, hb⟩; refine ⟨_, rfl, ?_⟩; have n0_ := Aside0.mk (Kd.R_elder' (by (with_reducible repeat (first | apply Kd.R_alloc | apply Kd.R_drewN | apply Kd.R_drew)); exact (Kd.R_mono (Kd.R_far (p := ⟨gb377, 4, none⟩) (Kd.R_types HO_1.out BK377.out (by decide)) (fun _ hk => hk.2) (.int .u64 t390)) (fun _ h_ => h_.1))) (Kd.R_base ho0) hb); have n1_ := Aside0.mk (Kd.R_lower (Kd.R_new' (Kd.R_newM (M := fun k_ => (P1_ k_ ∨ w.heap.size ≤ k_)) ho0 (show Kept w _ (fun k_ => P1_ k_) from by repeat (first | (with_reducible first | exact HK.out | apply Kept.alloc | apply Kept.drewN | apply Kept.drew | refine Kept.setCell ?_ (.inr GW374.out) _ | refine Kept.setCell ?_ (.inr GW377.out) _) | exact HK.out)).1 (fun k_ h_ => .inr h_)) (Kd.R_lt (by (with_reducible repeat (first | apply Kd.R_alloc | apply Kd.R_drewN | apply Kd.R_drew)); exact (Kd.R_mono (Kd.R_far (p := ⟨gb377, 4, none⟩) (Kd.R_types HO_1.out BK377.out (by decide)) (fun _ hk => hk.2) (.int .u64 t390)) (fun _ h_ => h_.1))))) (below_size (z3_ HB.out))); have n2_ := Aside0.mk (blk_below (g := gb374) (o := .cells #[.int .i64 0, .bool false, .int .i64 0, .int .u64 0, .int .u64 0, .bool false] 27 (0, 0)) (by refine z2_ ?_; refine blk_far ?_ NB374_377.out _; refine z2_ ?_; exact BK374.out) hb); have n3_ := Aside0.mk (blk_below (g := gb377) (o := .cells #[.int .i64 1, .bool a0, .int .i64 t376, .int .u64 0, .int .u64 t390, .bool a3] 27 (0, 0)) (by refine z2_ ?_; refine blk_put (cs := #[.int .i64 1, .bool a0, .int .i64 t376, .int .u64 0, .int .u64 0, .bool a3]) ?_ 4 _ rfl; refine z2_ ?_; exact BK377.out) hb); have n4_ := Aside0.mk (Kept.below (S := (fun k_ => P1_ k_)) (by repeat (first | (with_reducible first | exact HK.out | apply Kept.alloc | apply Kept.drewN | apply Kept.drew | refine Kept.setCell ?_ (.inr GW374.out) _ | refine Kept.setCell ?_ (.inr GW377.out) _) | exact HK.out)) hb); have n5_ := Aside0.mk (below_step (z3_ HB.out) hb); clear HO_1; clear BK374; clear BK377; clear HK; clear HB; have HO_1 := n0_; have HO393 := n1_; have BK374 := n2_; have BK377 := n3_; have HK := n4_; have HB := n5_; clear n0_ n1_ n2_ n3_ n4_ n5_; (try clear hb); (try clear hb2); (try clear hk); (try clear hi); (try clear ho0); obtain ⟨Ao48, co48, eo48⟩ := Kd.R_slice HO393.out; subst eo48) | ((with_reducible refine gate_callee (f := 46) rfl ?_); refine goesL_ (some 51) rfl rfl Try.func46 (by kernel_rfl) rfl #[.slice Ao48 t391.length co48] rfl z5_ ?_; (with_reducible refine (vernierref04_Word.calls kj10 _ _ t391 t394 _ ?side1 ?side2 A43.out).mono ?_); (case side1 => repeat (first | exact (Kd.R_reads' HO393.out).2.2 | (with_reducible refine Kd.C_alloc ?_ _) | (with_reducible refine Kd.C_drewN ?_ _) | (with_reducible refine Kd.C_drew ?_))); (case side2 => exact (Kd.R_reads' HO393.out).2.1); rintro e w' ⟨rfl, ⟨nd, rfl⟩⟩; refine ⟨_, rfl, ?_⟩; (try (rw [drewN_self w47]; generalize hq_ : World.drewN w47 _ = w47; have n0_ : Aside0 (Kd.R (Kd.int .i64) 3 w47 w0.heap.size (fun k_ => (P1_ k_ ∨ w.heap.size ≤ k_) ∧ some k_ ≠ (.slice Ao44 x1_10.length co44 : Value).ownBlock) (.slice Ao48 t391.length co48) t391) := ⟨by rw [← hq_]; exact (by (with_reducible repeat (first | apply Kd.R_alloc | apply Kd.R_drewN | apply Kd.R_drew)); exact Kd.R_mono HO393.out (fun _ hk => ⟨hk.1.1, hk.2⟩))⟩; have n1_ : Aside0 (Kd.R (Kd.int .i64) 3 w47 w0.heap.size (fun k_ => (P1_ k_ ∨ w.heap.size ≤ k_) ∧ some k_ ≠ (.slice Ao48 t391.length co48 : Value).ownBlock) (.slice Ao44 x1_10.length co44) x1_10) := ⟨by rw [← hq_]; exact (by (with_reducible repeat (first | apply Kd.R_alloc | apply Kd.R_drewN | apply Kd.R_drew)); exact HO_1.out)⟩; have n2_ : Aside0 (w47.heap[gb374]? = some (.cells #[.int .i64 0, .bool false, .int .i64 0, .int .u64 0, .int .u64 0, .bool false] 27 (0, 0))) := ⟨by rw [← hq_]; exact (z1_ BK374.out)⟩; have n3_ : Aside0 (w47.heap[gb377]? = some (.cells #[.int .i64 1, .bool a0, .int .i64 t376, .int .u64 0, .int .u64 t390, .bool a3] 27 (0, 0))) := ⟨by rw [← hq_]; exact (z1_ BK377.out)⟩; have n4_ : Aside0 (Kept w w47 (fun k_ => P1_ k_)) := ⟨by rw [← hq_]; exact (by repeat (first | (with_reducible first | exact HK.out | apply Kept.alloc | apply Kept.drewN | apply Kept.drew | refine Kept.setCell ?_ (.inr GW374.out) _ | refine Kept.setCell ?_ (.inr GW377.out) _) | exact HK.out))⟩; have n5_ : Aside0 (Below w0.heap.size w0 w47) := ⟨by rw [← hq_]; exact (z3_ HB.out)⟩; clear HO393 HO_1 BK374 BK377 HK HB hq_; have HO393 := n0_; have HO_1 := n1_; have BK374 := n2_; have BK377 := n3_; have HK := n4_; have HB := n5_; clear n0_ n1_ n2_ n3_ n4_ n5_)); have hcz49_0 := z4_ BK377.out 0 (.int .i64 1) rfl; have hcz49_1 := z4_ BK377.out 1 (.bool a0) rfl; have hcz49_2 := z4_ BK377.out 2 (.int .i64 t376) rfl; have hcz49_3 := z4_ BK377.out 3 (.int .u64 0) rfl; have hcz49_4 := z4_ BK377.out 4 (.int .u64 t390) rfl; have hcz49_5 := z4_ BK377.out 5 (.bool a3) rfl; have hfz49_0 := blk_frozen BK377.out 0; have hfz49_1 := blk_frozen BK377.out 1; have hfz49_2 := blk_frozen BK377.out 2; have hfz49_3 := blk_frozen BK377.out 3; have hfz49_4 := blk_frozen BK377.out 4; have hfz49_5 := blk_frozen BK377.out 5; have hcz50_0 := z4_ BK374.out 0 (.int .i64 0) rfl; have hcz50_1 := z4_ BK374.out 1 (.bool false) rfl; have hcz50_2 := z4_ BK374.out 2 (.int .i64 0) rfl; have hcz50_3 := z4_ BK374.out 3 (.int .u64 0) rfl; have hcz50_4 := z4_ BK374.out 4 (.int .u64 0) rfl; have hcz50_5 := z4_ BK374.out 5 (.bool false) rfl; have hfz50_0 := blk_frozen BK374.out 0; have hfz50_1 := blk_frozen BK374.out 1; have hfz50_2 := blk_frozen BK374.out 2; have hfz50_3 := blk_frozen BK374.out 3; have hfz50_4 := blk_frozen BK374.out 4; have hfz50_5 := blk_frozen BK374.out 5))
     refine bodyPost_ret (results_cell_row rfl _ _ gb374 27 #[.int .i64 1, .bool a0, .int .i64 t376, .int .u64 t394, .int .u64 t390, .bool a3] (0, 0) _ rfl (by refine z2_ ?_; refine blk_put (cs := #[.int .i64 1, .bool a0, .int .i64 t376, .int .u64 t394, .int .u64 t390, .bool false]) ?_ 5 _ rfl; refine z2_ ?_; refine blk_put (cs := #[.int .i64 1, .bool a0, .int .i64 t376, .int .u64 t394, .int .u64 0, .bool false]) ?_ 4 _ rfl; refine z2_ ?_; refine blk_put (cs := #[.int .i64 1, .bool a0, .int .i64 t376, .int .u64 0, .int .u64 0, .bool false]) ?_ 3 _ rfl; refine z2_ ?_; refine blk_put (cs := #[.int .i64 1, .bool a0, .int .i64 0, .int .u64 0, .int .u64 0, .bool false]) ?_ 2 _ rfl; refine z2_ ?_; refine blk_put (cs := #[.int .i64 1, .bool false, .int .i64 0, .int .u64 0, .int .u64 0, .bool false]) ?_ 1 _ rfl; refine z2_ ?_; refine blk_put (cs := #[.int .i64 0, .bool false, .int .i64 0, .int .u64 0, .int .u64 0, .bool false]) ?_ 0 _ rfl; refine z2_ ?_; refine blk_far ?_ NB374_377.out _; refine z2_ ?_; exact BK374.out) Try.underlying27 rfl (by kernel_rfl)) rfl ?_
     exact ⟨by first | rfl | (simp [errW_none, errW_some] <;> rfl) | (simp [*, errW_none, errW_some] <;> rfl), by repeat (first | (with_reducible first | exact HB.out | apply below_alloc | apply pw_below_drewN | apply below_drew1 | refine below_set ?_ GE374.out | refine below_set ?_ GE377.out) | exact HB.out), by repeat (first | (with_reducible first | exact HK.out | apply Kept.alloc | apply Kept.drewN | apply Kept.drew | refine Kept.setCell ?_ (.inr GW374.out) _ | refine Kept.setCell ?_ (.inr GW377.out) _) | exact HK.out)⟩
end Go.Proofs.Ytebhpipfkomhjaa.PAll
namespace Go.Proofs.Ytebhpipfkomhjaa.PAll
open Go.RowKit Go.Proofs.YtebhpipfkomhjaaW.PrintWords Go.Proofs.YtebhpipfkomhjaaW.PrintLast Go.Proofs.YtebhpipfkomhjaaW.PrintMore
attribute [local go_sem] max2_int min2_int max_two min_two max_three min_three max_four min_four
set_option linter.unusedVariables false
set_option linter.unusedSimpArgs false
def vernierref07_Round.f (k : Nat) (a0 : Int) (a1_0 : Int) (a1_1 : Bool) (a1_2 : Int) (a1_3 : Int) (a1_4 : Int) (a1_5 : Bool) : Option (Int) := (vernierref07_Rounds.f k a0 a1_0 a1_1 a1_2 a1_3 a1_4 a1_5).bind fun bt521 => (some bt521.1)
theorem vernierref07_Round.mono : ∀ a0 a1 a2 a3 a4 a5 a6 k, LeO (vernierref07_Round.f k a0 a1 a2 a3 a4 a5 a6) (vernierref07_Round.f (k + 1) a0 a1 a2 a3 a4 a5 a6) := by
 intro a0 a1 a2 a3 a4 a5 a6 k
 unfold vernierref07_Round.f
 repeat' first
   | (with_reducible exact vernierref07_Rounds.mono _ _ _ _ _ _ _ _)
   | (with_reducible exact LeO.refl _)
   | (with_reducible exact LeO.none _)
   | (with_reducible refine LeO.ite ?_ ?_)
   | (with_reducible refine LeO.bind ?_ (fun _ => ?_))
   | exact vernierref07_Rounds.mono _ _ _ _ _ _ _ _
   | exact LeO.none _
   | refine LeO.ite ?_ ?_
   | refine LeO.bind ?_ (fun _ => ?_)
set_option maxHeartbeats 8000000 in
set_option maxRecDepth 100000 in
theorem vernierref07_Round.calls (k : Nat) (a0 : Int) (a1_0 : Int) (a1_1 : Bool) (a1_2 : Int) (a1_3 : Int) (a1_4 : Int) (a1_5 : Bool) (r : Int) (w : World) (h : vernierref07_Round.f k a0 a1_0 a1_1 a1_2 a1_3 a1_4 a1_5 = some r) :
  Calls Try.prog 52 #[.int .i64 a0, .agg #[.int .i64 a1_0, .bool a1_1, .int .i64 a1_2, .int .u64 a1_3, .int .u64 a1_4, .bool a1_5]] w fun e w' => e = .returned (.int .u64 r) ∧ Below w.heap.size w w' := by
 have hu27 := Try.underlying27
 have HB := Aside0.mk (Below.refl w.heap.size w)
 have H : ((vernierref07_Rounds.f k a0 a1_0 a1_1 a1_2 a1_3 a1_4 a1_5).bind fun bt521 => (some bt521.1)) = some r := h
 clear h
 replace H := Option.bind_eq_some_iff.mp H
 obtain ⟨⟨t521, t522⟩, A30, H⟩ := H
 replace H : (some t521) = some r := H
 have A3 := Aside0.mk A30
 clear A30
 obtain rfl := Option.some.inj H
 go_enter Try.func52, Try.ntmps52
 go_wp2_with (first | ((with_reducible refine gate_dst (N := 3) rfl ?_); refine box_event ?hg (N := 3) ?hd (cs := #[.int .i64 a1_0, .bool a1_1, .int .i64 a1_2, .int .u64 a1_3, .int .u64 a1_4, .bool a1_5]) (t := 27) ?hr ?_; (case hd => rfl); (case hg => rfl); (case hr => first | (go_simp; done) | (go_simp; rfl)); intro gb520 hg w4 hbox hb; have n0_ := Aside0.mk (below_step (z3_ HB.out) hb); have n1_ := Aside0.mk (hbox); have n2_ := Aside0.mk ((by rw [hg]; exact (below_size (z3_ HB.out)) : w.heap.size ≤ gb520)); have n3_ := Aside0.mk ((by rw [hg]; exact (below_size (z3_ HB.out)) : w.heap.size ≤ gb520)); clear HB; have HB := n0_; have BK520 := n1_; have GW520 := n2_; have GE520 := n3_; clear n0_ n1_ n2_ n3_; clear hb hbox hg; have hcz5_0 := z4_ BK520.out 0 (.int .i64 a1_0) rfl; have hcz5_1 := z4_ BK520.out 1 (.bool a1_1) rfl; have hcz5_2 := z4_ BK520.out 2 (.int .i64 a1_2) rfl; have hcz5_3 := z4_ BK520.out 3 (.int .u64 a1_3) rfl; have hcz5_4 := z4_ BK520.out 4 (.int .u64 a1_4) rfl; have hcz5_5 := z4_ BK520.out 5 (.bool a1_5) rfl; have hfz5_0 := blk_frozen BK520.out 0; have hfz5_1 := blk_frozen BK520.out 1; have hfz5_2 := blk_frozen BK520.out 2; have hfz5_3 := blk_frozen BK520.out 3; have hfz5_4 := blk_frozen BK520.out 4; have hfz5_5 := blk_frozen BK520.out 5) | ((with_reducible refine gate_callee (f := 73) rfl ?_); refine goesL_ (some 10) rfl rfl Try.func73 (by kernel_rfl) rfl #[.int .i64 a0, .agg #[.int .i64 a1_0, .bool a1_1, .int .i64 a1_2, .int .u64 a1_3, .int .u64 a1_4, .bool a1_5]] rfl z5_ ?_; (with_reducible refine (vernierref07_Rounds.calls k a0 a1_0 a1_1 a1_2 a1_3 a1_4 a1_5 t521 t522 _ A3.out).mono ?_); rintro e w6 ⟨rfl, hb⟩; refine ⟨_, rfl, ?_⟩; have n0_ := Aside0.mk (blk_below (g := gb520) (z1_ BK520.out) hb); have n1_ := Aside0.mk (below_step (z3_ HB.out) hb); clear BK520; clear HB; have BK520 := n0_; have HB := n1_; clear n0_ n1_; (try clear hb); (try clear hb2); (try clear hk); (try clear hi)))
 go_ret
 exact ⟨by first | rfl | (simp [errW_none, errW_some] <;> rfl) | (simp [*, errW_none, errW_some] <;> rfl), by repeat (first | (with_reducible first | exact HB.out | apply below_alloc | apply pw_below_drewN | apply below_drew1 | refine below_set ?_ GE520.out) | exact HB.out)⟩
end Go.Proofs.Ytebhpipfkomhjaa.PAll
namespace Go.Proofs.Ytebhpipfkomhjaa.PAll
open Go.RowKit Go.Proofs.YtebhpipfkomhjaaW.PrintWords Go.Proofs.YtebhpipfkomhjaaW.PrintLast Go.Proofs.YtebhpipfkomhjaaW.PrintMore
attribute [local go_sem] max2_int min2_int max_two min_two max_three min_three max_four min_four
set_option linter.unusedVariables false
set_option linter.unusedSimpArgs false
theorem eqA24 (d : Nat) (w : World) (x0 y0 : Int) (x1 y1 : Bool) (x2 y2 : Int) (x3 y3 : Int) :
  (Op.equalIn (d + 2) 24 (.agg #[.int .i64 x0, .bool x1, .int .i64 x2, .int .u64 x3]) (.agg #[.int .i64 y0, .bool y1, .int .i64 y2, .int .u64 y3])).run Try.prog w = .ok (x0 == y0 && (x1 == y1 && (x2 == y2 && (x3 == y3)))) w := by
 refine eqA_of Try.underlying24 (by kernel_rfl) ?_
 refine eqf_cons (by rfl) (by go_simp; rfl) (by go_simp; rfl) (by go_simp) ?_
 refine eqf_cons (by rfl) (by go_simp; rfl) (by go_simp; rfl) (by go_simp) ?_
 refine eqf_cons (by rfl) (by go_simp; rfl) (by go_simp; rfl) (by go_simp) ?_
 exact eqf_last (by rfl) (by go_simp; rfl) (by go_simp; rfl) (by go_simp)
end Go.Proofs.Ytebhpipfkomhjaa.PAll
namespace Go.Proofs.Ytebhpipfkomhjaa.PAll
open Go.RowKit Go.Proofs.YtebhpipfkomhjaaW.PrintWords Go.Proofs.YtebhpipfkomhjaaW.PrintLast Go.Proofs.YtebhpipfkomhjaaW.PrintMore
attribute [local go_sem] max2_int min2_int max_two min_two max_three min_three max_four min_four
set_option linter.unusedVariables false
set_option linter.unusedSimpArgs false
attribute [local go_sem high] eqA24
def vernierref06_Sound.f (a0_0 : Int) (a0_1 : Bool) (a0_2 : Int) (a0_3 : Int) : Option (Bool) := if a0_0 = 0 then (some (!a0_1 && (a0_2 == 0 && (a0_3 == 0)))) else (if a0_0 = 2 then (some (!a0_1 && (a0_2 == 0 && (a0_3 == 0)))) else (if a0_0 = 1 then (if a0_3 ≥ 9223372036854775808 then (if a0_2 ≥ (-1073741824) then (some (decide (a0_2 ≤ 1073741824))) else (some false)) else (some false)) else (some false)))
set_option maxHeartbeats 8000000 in
set_option maxRecDepth 100000 in
theorem vernierref06_Sound.calls (a0_0 : Int) (a0_1 : Bool) (a0_2 : Int) (a0_3 : Int) (r : Bool) (w : World) (h : vernierref06_Sound.f a0_0 a0_1 a0_2 a0_3 = some r) :
  Calls Try.prog 24 #[.agg #[.int .i64 a0_0, .bool a0_1, .int .i64 a0_2, .int .u64 a0_3]] w fun e w' => e = .returned (.bool r) ∧ Below w.heap.size w w' := by
 have hu24 := Try.underlying24
 have HB := Aside0.mk (Below.refl w.heap.size w)
 have H : (if a0_0 = 0 then (some (!a0_1 && (a0_2 == 0 && (a0_3 == 0)))) else (if a0_0 = 2 then (some (!a0_1 && (a0_2 == 0 && (a0_3 == 0)))) else (if a0_0 = 1 then (if a0_3 ≥ 9223372036854775808 then (if a0_2 ≥ (-1073741824) then (some (decide (a0_2 ≤ 1073741824))) else (some false)) else (some false)) else (some false)))) = some r := h
 clear h
 by_cases c2 : a0_0 = 0
 ·rw [if_pos c2] at H
  have c2b0 : (a0_0 == 0) = true := beq_iff_eq.mpr c2
  have c2b1 : (a0_0 != 0) = false := bne_eq_false_iff_eq.mpr c2
  clear c2
  obtain rfl := Option.some.inj H
  go_enter Try.func24, Try.ntmps24
  go_wp2_with (first | ((with_reducible refine gate_dst (N := 1) rfl ?_); refine box_event ?hg (N := 1) ?hd (cs := #[.int .i64 a0_0, .bool a0_1, .int .i64 a0_2, .int .u64 a0_3]) (t := 24) ?hr ?_; (case hd => rfl); (case hg => rfl); (case hr => first | (go_simp; done) | (go_simp; rfl)); intro gb310 hg w3 hbox hb; have n0_ := Aside0.mk (below_step (z3_ HB.out) hb); have n1_ := Aside0.mk (hbox); have n2_ := Aside0.mk ((by rw [hg]; exact (below_size (z3_ HB.out)) : w.heap.size ≤ gb310)); have n3_ := Aside0.mk ((by rw [hg]; exact (below_size (z3_ HB.out)) : w.heap.size ≤ gb310)); clear HB; have HB := n0_; have BK310 := n1_; have GW310 := n2_; have GE310 := n3_; clear n0_ n1_ n2_ n3_; clear hb hbox hg; have hcz4_0 := z4_ BK310.out 0 (.int .i64 a0_0) rfl; have hcz4_1 := z4_ BK310.out 1 (.bool a0_1) rfl; have hcz4_2 := z4_ BK310.out 2 (.int .i64 a0_2) rfl; have hcz4_3 := z4_ BK310.out 3 (.int .u64 a0_3) rfl; have hfz4_0 := blk_frozen BK310.out 0; have hfz4_1 := blk_frozen BK310.out 1; have hfz4_2 := blk_frozen BK310.out 2; have hfz4_3 := blk_frozen BK310.out 3))
  go_ret
  exact ⟨by first | rfl | (simp [errW_none, errW_some] <;> rfl) | (simp [*, errW_none, errW_some] <;> rfl), by repeat (first | (with_reducible first | exact HB.out | apply below_alloc | apply pw_below_drewN | apply below_drew1 | refine below_set ?_ GE310.out) | exact HB.out)⟩
 ·rw [if_neg c2] at H
  have c2b0 : (a0_0 == 0) = false := beq_eq_false_iff_ne.mpr c2
  have c2b1 : (a0_0 != 0) = true := bne_iff_ne.mpr c2
  by_cases c5 : a0_0 = 2
  ·rw [if_pos c5] at H
   have c5b0 : (a0_0 == 2) = true := beq_iff_eq.mpr c5
   have c5b1 : (a0_0 != 2) = false := bne_eq_false_iff_eq.mpr c5
   clear c5
   obtain rfl := Option.some.inj H
   go_enter Try.func24, Try.ntmps24
   go_wp2_with (first | ((with_reducible refine gate_dst (N := 1) rfl ?_); refine box_event ?hg (N := 1) ?hd (cs := #[.int .i64 a0_0, .bool a0_1, .int .i64 a0_2, .int .u64 a0_3]) (t := 24) ?hr ?_; (case hd => rfl); (case hg => rfl); (case hr => first | (go_simp; done) | (go_simp; rfl)); intro gb310 hg w6 hbox hb; have n0_ := Aside0.mk (below_step (z3_ HB.out) hb); have n1_ := Aside0.mk (hbox); have n2_ := Aside0.mk ((by rw [hg]; exact (below_size (z3_ HB.out)) : w.heap.size ≤ gb310)); have n3_ := Aside0.mk ((by rw [hg]; exact (below_size (z3_ HB.out)) : w.heap.size ≤ gb310)); clear HB; have HB := n0_; have BK310 := n1_; have GW310 := n2_; have GE310 := n3_; clear n0_ n1_ n2_ n3_; clear hb hbox hg; have hcz7_0 := z4_ BK310.out 0 (.int .i64 a0_0) rfl; have hcz7_1 := z4_ BK310.out 1 (.bool a0_1) rfl; have hcz7_2 := z4_ BK310.out 2 (.int .i64 a0_2) rfl; have hcz7_3 := z4_ BK310.out 3 (.int .u64 a0_3) rfl; have hfz7_0 := blk_frozen BK310.out 0; have hfz7_1 := blk_frozen BK310.out 1; have hfz7_2 := blk_frozen BK310.out 2; have hfz7_3 := blk_frozen BK310.out 3))
   go_ret
   exact ⟨by first | rfl | (simp [errW_none, errW_some] <;> rfl) | (simp [*, errW_none, errW_some] <;> rfl), by repeat (first | (with_reducible first | exact HB.out | apply below_alloc | apply pw_below_drewN | apply below_drew1 | refine below_set ?_ GE310.out) | exact HB.out)⟩
  ·rw [if_neg c5] at H
   have c5b0 : (a0_0 == 2) = false := beq_eq_false_iff_ne.mpr c5
   have c5b1 : (a0_0 != 2) = true := bne_iff_ne.mpr c5
   by_cases c8 : a0_0 = 1
   ·rw [if_pos c8] at H
    have c8b0 : (a0_0 == 1) = true := beq_iff_eq.mpr c8
    have c8b1 : (a0_0 != 1) = false := bne_eq_false_iff_eq.mpr c8
    clear c8
    by_cases c9 : a0_3 ≥ 9223372036854775808
    ·rw [if_pos c9] at H
     have c9b0 : decide (9223372036854775808 ≤ a0_3) = true := decide_eq_true c9
     clear c9
     by_cases c10 : a0_2 ≥ (-1073741824)
     ·rw [if_pos c10] at H
      have c10b0 : decide ((-1073741824) ≤ a0_2) = true := decide_eq_true c10
      clear c10
      obtain rfl := Option.some.inj H
      go_enter Try.func24, Try.ntmps24
      go_wp2_with (first | ((with_reducible refine gate_dst (N := 1) rfl ?_); refine box_event ?hg (N := 1) ?hd (cs := #[.int .i64 a0_0, .bool a0_1, .int .i64 a0_2, .int .u64 a0_3]) (t := 24) ?hr ?_; (case hd => rfl); (case hg => rfl); (case hr => first | (go_simp; done) | (go_simp; rfl)); intro gb310 hg w11 hbox hb; have n0_ := Aside0.mk (below_step (z3_ HB.out) hb); have n1_ := Aside0.mk (hbox); have n2_ := Aside0.mk ((by rw [hg]; exact (below_size (z3_ HB.out)) : w.heap.size ≤ gb310)); have n3_ := Aside0.mk ((by rw [hg]; exact (below_size (z3_ HB.out)) : w.heap.size ≤ gb310)); clear HB; have HB := n0_; have BK310 := n1_; have GW310 := n2_; have GE310 := n3_; clear n0_ n1_ n2_ n3_; clear hb hbox hg; have hcz12_0 := z4_ BK310.out 0 (.int .i64 a0_0) rfl; have hcz12_1 := z4_ BK310.out 1 (.bool a0_1) rfl; have hcz12_2 := z4_ BK310.out 2 (.int .i64 a0_2) rfl; have hcz12_3 := z4_ BK310.out 3 (.int .u64 a0_3) rfl; have hfz12_0 := blk_frozen BK310.out 0; have hfz12_1 := blk_frozen BK310.out 1; have hfz12_2 := blk_frozen BK310.out 2; have hfz12_3 := blk_frozen BK310.out 3))
      go_ret
      exact ⟨by first | rfl | (simp [errW_none, errW_some] <;> rfl) | (simp [*, errW_none, errW_some] <;> rfl), by repeat (first | (with_reducible first | exact HB.out | apply below_alloc | apply pw_below_drewN | apply below_drew1 | refine below_set ?_ GE310.out) | exact HB.out)⟩
     ·rw [if_neg c10] at H
      have c10b0 : decide ((-1073741824) ≤ a0_2) = false := decide_eq_false c10
      clear c10
      obtain rfl := Option.some.inj H
      go_enter Try.func24, Try.ntmps24
      go_wp2_with (first | ((with_reducible refine gate_dst (N := 1) rfl ?_); refine box_event ?hg (N := 1) ?hd (cs := #[.int .i64 a0_0, .bool a0_1, .int .i64 a0_2, .int .u64 a0_3]) (t := 24) ?hr ?_; (case hd => rfl); (case hg => rfl); (case hr => first | (go_simp; done) | (go_simp; rfl)); intro gb310 hg w13 hbox hb; have n0_ := Aside0.mk (below_step (z3_ HB.out) hb); have n1_ := Aside0.mk (hbox); have n2_ := Aside0.mk ((by rw [hg]; exact (below_size (z3_ HB.out)) : w.heap.size ≤ gb310)); have n3_ := Aside0.mk ((by rw [hg]; exact (below_size (z3_ HB.out)) : w.heap.size ≤ gb310)); clear HB; have HB := n0_; have BK310 := n1_; have GW310 := n2_; have GE310 := n3_; clear n0_ n1_ n2_ n3_; clear hb hbox hg; have hcz14_0 := z4_ BK310.out 0 (.int .i64 a0_0) rfl; have hcz14_1 := z4_ BK310.out 1 (.bool a0_1) rfl; have hcz14_2 := z4_ BK310.out 2 (.int .i64 a0_2) rfl; have hcz14_3 := z4_ BK310.out 3 (.int .u64 a0_3) rfl; have hfz14_0 := blk_frozen BK310.out 0; have hfz14_1 := blk_frozen BK310.out 1; have hfz14_2 := blk_frozen BK310.out 2; have hfz14_3 := blk_frozen BK310.out 3))
      go_ret
      exact ⟨by first | rfl | (simp [errW_none, errW_some] <;> rfl) | (simp [*, errW_none, errW_some] <;> rfl), by repeat (first | (with_reducible first | exact HB.out | apply below_alloc | apply pw_below_drewN | apply below_drew1 | refine below_set ?_ GE310.out) | exact HB.out)⟩
    ·rw [if_neg c9] at H
     have c9b0 : decide (9223372036854775808 ≤ a0_3) = false := decide_eq_false c9
     clear c9
     obtain rfl := Option.some.inj H
     go_enter Try.func24, Try.ntmps24
     go_wp2_with (first | ((with_reducible refine gate_dst (N := 1) rfl ?_); refine box_event ?hg (N := 1) ?hd (cs := #[.int .i64 a0_0, .bool a0_1, .int .i64 a0_2, .int .u64 a0_3]) (t := 24) ?hr ?_; (case hd => rfl); (case hg => rfl); (case hr => first | (go_simp; done) | (go_simp; rfl)); intro gb310 hg w15 hbox hb; have n0_ := Aside0.mk (below_step (z3_ HB.out) hb); have n1_ := Aside0.mk (hbox); have n2_ := Aside0.mk ((by rw [hg]; exact (below_size (z3_ HB.out)) : w.heap.size ≤ gb310)); have n3_ := Aside0.mk ((by rw [hg]; exact (below_size (z3_ HB.out)) : w.heap.size ≤ gb310)); clear HB; have HB := n0_; have BK310 := n1_; have GW310 := n2_; have GE310 := n3_; clear n0_ n1_ n2_ n3_; clear hb hbox hg; have hcz16_0 := z4_ BK310.out 0 (.int .i64 a0_0) rfl; have hcz16_1 := z4_ BK310.out 1 (.bool a0_1) rfl; have hcz16_2 := z4_ BK310.out 2 (.int .i64 a0_2) rfl; have hcz16_3 := z4_ BK310.out 3 (.int .u64 a0_3) rfl; have hfz16_0 := blk_frozen BK310.out 0; have hfz16_1 := blk_frozen BK310.out 1; have hfz16_2 := blk_frozen BK310.out 2; have hfz16_3 := blk_frozen BK310.out 3))
     go_ret
     exact ⟨by first | rfl | (simp [errW_none, errW_some] <;> rfl) | (simp [*, errW_none, errW_some] <;> rfl), by repeat (first | (with_reducible first | exact HB.out | apply below_alloc | apply pw_below_drewN | apply below_drew1 | refine below_set ?_ GE310.out) | exact HB.out)⟩
   ·rw [if_neg c8] at H
    have c8b0 : (a0_0 == 1) = false := beq_eq_false_iff_ne.mpr c8
    have c8b1 : (a0_0 != 1) = true := bne_iff_ne.mpr c8
    obtain rfl := Option.some.inj H
    go_enter Try.func24, Try.ntmps24
    go_wp2_with (first | ((with_reducible refine gate_dst (N := 1) rfl ?_); refine box_event ?hg (N := 1) ?hd (cs := #[.int .i64 a0_0, .bool a0_1, .int .i64 a0_2, .int .u64 a0_3]) (t := 24) ?hr ?_; (case hd => rfl); (case hg => rfl); (case hr => first | (go_simp; done) | (go_simp; rfl)); intro gb310 hg w17 hbox hb; have n0_ := Aside0.mk (below_step (z3_ HB.out) hb); have n1_ := Aside0.mk (hbox); have n2_ := Aside0.mk ((by rw [hg]; exact (below_size (z3_ HB.out)) : w.heap.size ≤ gb310)); have n3_ := Aside0.mk ((by rw [hg]; exact (below_size (z3_ HB.out)) : w.heap.size ≤ gb310)); clear HB; have HB := n0_; have BK310 := n1_; have GW310 := n2_; have GE310 := n3_; clear n0_ n1_ n2_ n3_; clear hb hbox hg; have hcz18_0 := z4_ BK310.out 0 (.int .i64 a0_0) rfl; have hcz18_1 := z4_ BK310.out 1 (.bool a0_1) rfl; have hcz18_2 := z4_ BK310.out 2 (.int .i64 a0_2) rfl; have hcz18_3 := z4_ BK310.out 3 (.int .u64 a0_3) rfl; have hfz18_0 := blk_frozen BK310.out 0; have hfz18_1 := blk_frozen BK310.out 1; have hfz18_2 := blk_frozen BK310.out 2; have hfz18_3 := blk_frozen BK310.out 3))
    go_ret
    exact ⟨by first | rfl | (simp [errW_none, errW_some] <;> rfl) | (simp [*, errW_none, errW_some] <;> rfl), by repeat (first | (with_reducible first | exact HB.out | apply below_alloc | apply pw_below_drewN | apply below_drew1 | refine below_set ?_ GE310.out) | exact HB.out)⟩
end Go.Proofs.Ytebhpipfkomhjaa.PAll
namespace Go.Proofs.Ytebhpipfkomhjaa.PAll
open Go.RowKit Go.Proofs.YtebhpipfkomhjaaW.PrintWords Go.Proofs.YtebhpipfkomhjaaW.PrintLast Go.Proofs.YtebhpipfkomhjaaW.PrintMore
attribute [local go_sem] max2_int min2_int max_two min_two max_three min_three max_four min_four
set_option linter.unusedVariables false
set_option linter.unusedSimpArgs false
mutual
def vernierref10_Exact.j0 : Nat → Bool → Int → Bool → Int → Int → Int → Bool → Int → Int → Option (Int × Bool × Int × Int × Int × Bool × Int)
 | 0, _, _, _, _, _, _, _, _, _ => none
 | k + 1, x13, x396000, x396001, x396002, x396003, x397000, x397001, x397002, x397003 => if x13 = true then (some (0, false, 0, 0, 0, false, 1)) else (if x396000 = 2 then (vernierref10_Exact.j1 k true x396000 x396001 x396002 x396003 x397000 x397001 x397002 x397003) else (vernierref10_Exact.j1 k (x397000 == 2) x396000 x396001 x396002 x396003 x397000 x397001 x397002 x397003))
def vernierref10_Exact.j1 : Nat → Bool → Int → Bool → Int → Int → Int → Bool → Int → Int → Option (Int × Bool × Int × Int × Int × Bool × Int)
 | 0, _, _, _, _, _, _, _, _, _ => none
 | k + 1, x21, x396000, x396001, x396002, x396003, x397000, x397001, x397002, x397003 => if x21 = true then (some (2, false, 0, 0, 0, false, 0)) else (if x396000 = 0 then (some (0, false, 0, 0, 0, false, 0)) else (if x397000 = 0 then (some (0, false, 0, 0, 0, false, 0)) else ((vernierref04_Of.f k x396003).bind fun t400 => ((vernierref04_Of.f k x397003).bind fun t403 => ((vernierref04_Mul.f k t400 t403).bind fun t406 => ((vernierref07_Exactly.f k (x396001 != x397001) t406 (wrap64 ((wrap64 (x396002 + x397002)) - 126)) false).bind fun bt409 => (some (bt409.1, bt409.2.1, bt409.2.2.1, bt409.2.2.2.1, bt409.2.2.2.2.1, bt409.2.2.2.2.2, 0))))))))
end
def vernierref10_Exact.f (k : Nat) (a0_0 : Int) (a0_1 : Bool) (a0_2 : Int) (a0_3 : Int) (a1_0 : Int) (a1_1 : Bool) (a1_2 : Int) (a1_3 : Int) : Option (Int × Bool × Int × Int × Int × Bool × Int) := (vernierref06_Sound.f a0_0 a0_1 a0_2 a0_3).bind fun t398 => ((vernierref06_Sound.f a1_0 a1_1 a1_2 a1_3).bind fun t399 => (if t398 = true then (vernierref10_Exact.j0 k (!t399) a0_0 a0_1 a0_2 a0_3 a1_0 a1_1 a1_2 a1_3) else (vernierref10_Exact.j0 k true a0_0 a0_1 a0_2 a0_3 a1_0 a1_1 a1_2 a1_3)))
theorem vernierref10_Exact.mono_l : ∀ k, (∀ y0 y1 y2 y3 y4 y5 y6 y7 y8, LeO (vernierref10_Exact.j0 k y0 y1 y2 y3 y4 y5 y6 y7 y8) (vernierref10_Exact.j0 (k + 1) y0 y1 y2 y3 y4 y5 y6 y7 y8)) ∧ (∀ y0 y1 y2 y3 y4 y5 y6 y7 y8, LeO (vernierref10_Exact.j1 k y0 y1 y2 y3 y4 y5 y6 y7 y8) (vernierref10_Exact.j1 (k + 1) y0 y1 y2 y3 y4 y5 y6 y7 y8))
 | 0 => ⟨fun _ _ _ _ _ _ _ _ _ r h => by simp [vernierref10_Exact.j0] at h, fun _ _ _ _ _ _ _ _ _ r h => by simp [vernierref10_Exact.j1] at h⟩
 | k + 1 => by
  obtain ⟨ih0, ih1⟩ := vernierref10_Exact.mono_l k
  refine ⟨?_, ?_⟩
  ·intro y0 y1 y2 y3 y4 y5 y6 y7 y8
   unfold vernierref10_Exact.j0
   repeat' first
   | (with_reducible exact ih0 _ _ _ _ _ _ _ _ _)
   | (with_reducible exact ih1 _ _ _ _ _ _ _ _ _)
   | (with_reducible exact vernierref04_Mul.mono _ _ _)
   | (with_reducible exact vernierref04_Of.mono _ _)
   | (with_reducible exact vernierref07_Exactly.mono _ _ _ _ _)
   | (with_reducible exact LeO.refl _)
   | (with_reducible exact LeO.none _)
   | (with_reducible refine LeO.ite ?_ ?_)
   | (with_reducible refine LeO.bind ?_ (fun _ => ?_))
   | exact ih0 _ _ _ _ _ _ _ _ _
   | exact ih1 _ _ _ _ _ _ _ _ _
   | exact vernierref04_Mul.mono _ _ _
   | exact vernierref04_Of.mono _ _
   | exact vernierref07_Exactly.mono _ _ _ _ _
   | exact LeO.none _
   | refine LeO.ite ?_ ?_
   | refine LeO.bind ?_ (fun _ => ?_)
  ·intro y0 y1 y2 y3 y4 y5 y6 y7 y8
   unfold vernierref10_Exact.j1
   repeat' first
   | (with_reducible exact ih0 _ _ _ _ _ _ _ _ _)
   | (with_reducible exact ih1 _ _ _ _ _ _ _ _ _)
   | (with_reducible exact vernierref04_Mul.mono _ _ _)
   | (with_reducible exact vernierref04_Of.mono _ _)
   | (with_reducible exact vernierref07_Exactly.mono _ _ _ _ _)
   | (with_reducible exact LeO.refl _)
   | (with_reducible exact LeO.none _)
   | (with_reducible refine LeO.ite ?_ ?_)
   | (with_reducible refine LeO.bind ?_ (fun _ => ?_))
   | exact ih0 _ _ _ _ _ _ _ _ _
   | exact ih1 _ _ _ _ _ _ _ _ _
   | exact vernierref04_Mul.mono _ _ _
   | exact vernierref04_Of.mono _ _
   | exact vernierref07_Exactly.mono _ _ _ _ _
   | exact LeO.none _
   | refine LeO.ite ?_ ?_
   | refine LeO.bind ?_ (fun _ => ?_)
theorem vernierref10_Exact.mono : ∀ a0 a1 a2 a3 a4 a5 a6 a7 k, LeO (vernierref10_Exact.f k a0 a1 a2 a3 a4 a5 a6 a7) (vernierref10_Exact.f (k + 1) a0 a1 a2 a3 a4 a5 a6 a7) := by
 intro a0 a1 a2 a3 a4 a5 a6 a7 k
 obtain ⟨ih0, ih1⟩ := vernierref10_Exact.mono_l k
 unfold vernierref10_Exact.f
 repeat' first
   | (with_reducible exact ih0 _ _ _ _ _ _ _ _ _)
   | (with_reducible exact ih1 _ _ _ _ _ _ _ _ _)
   | (with_reducible exact vernierref04_Mul.mono _ _ _)
   | (with_reducible exact vernierref04_Of.mono _ _)
   | (with_reducible exact vernierref07_Exactly.mono _ _ _ _ _)
   | (with_reducible exact LeO.refl _)
   | (with_reducible exact LeO.none _)
   | (with_reducible refine LeO.ite ?_ ?_)
   | (with_reducible refine LeO.bind ?_ (fun _ => ?_))
   | exact ih0 _ _ _ _ _ _ _ _ _
   | exact ih1 _ _ _ _ _ _ _ _ _
   | exact vernierref04_Mul.mono _ _ _
   | exact vernierref04_Of.mono _ _
   | exact vernierref07_Exactly.mono _ _ _ _ _
   | exact LeO.none _
   | refine LeO.ite ?_ ?_
   | refine LeO.bind ?_ (fun _ => ?_)
def vernierref10_Exact.T9 : Bool × List (List Nat × List Nat) := (true, [([], []), ([0], [0]), ([1], [1]), ([], []), ([3], [3]), ([4, 2], [4]), ([2, 5, 5], [2, 5]), ([6, 6, 0, 1, 2, 3, 4, 5, 6], [6])])
def vernierref10_Exact.B9 : List Nat := [0, 1, 3, 0, 8, 31, 63, 127]
theorem vernierref10_Exact.tab9 : rtab .any (opsOf Try.f10 9) = vernierref10_Exact.T9 := by kernel_rfl
theorem vernierref10_Exact.bits9 : waitsOk vernierref10_Exact.T9.2 vernierref10_Exact.B9 = true := by kernel_rfl
set_option maxHeartbeats 8000000 in
set_option maxRecDepth 100000 in
theorem vernierref10_Exact.calls (k : Nat) (a0_0 : Int) (a0_1 : Bool) (a0_2 : Int) (a0_3 : Int) (a1_0 : Int) (a1_1 : Bool) (a1_2 : Int) (a1_3 : Int) (r1 : Int) (r2 : Bool) (r3 : Int) (r4 : Int) (r5 : Int) (r6 : Bool) (r7 : Int) (w : World) (h : vernierref10_Exact.f k a0_0 a0_1 a0_2 a0_3 a1_0 a1_1 a1_2 a1_3 = some (r1, r2, r3, r4, r5, r6, r7)) :
  Calls Try.prog 10 #[.agg #[.int .i64 a0_0, .bool a0_1, .int .i64 a0_2, .int .u64 a0_3], .agg #[.int .i64 a1_0, .bool a1_1, .int .i64 a1_2, .int .u64 a1_3]] w fun e w' => e = .returned (.tuple #[.agg #[.int .i64 r1, .bool r2, .int .i64 r3, .int .u64 r4, .int .u64 r5, .bool r6], .int .i64 r7]) ∧ Below w.heap.size w w' := by
 have hu24 := Try.underlying24
 have hu27 := Try.underlying27
 have HB := Aside0.mk (Below.refl w.heap.size w)
 have H : ((vernierref06_Sound.f a0_0 a0_1 a0_2 a0_3).bind fun t398 => ((vernierref06_Sound.f a1_0 a1_1 a1_2 a1_3).bind fun t399 => (if t398 = true then (vernierref10_Exact.j0 k (!t399) a0_0 a0_1 a0_2 a0_3 a1_0 a1_1 a1_2 a1_3) else (vernierref10_Exact.j0 k true a0_0 a0_1 a0_2 a0_3 a1_0 a1_1 a1_2 a1_3)))) = some (r1, r2, r3, r4, r5, r6, r7) := h
 clear h
 replace H := Option.bind_eq_some_iff.mp H
 obtain ⟨t398, A30, H⟩ := H
 replace H : ((vernierref06_Sound.f a1_0 a1_1 a1_2 a1_3).bind fun t399 => (if t398 = true then (vernierref10_Exact.j0 k (!t399) a0_0 a0_1 a0_2 a0_3 a1_0 a1_1 a1_2 a1_3) else (vernierref10_Exact.j0 k true a0_0 a0_1 a0_2 a0_3 a1_0 a1_1 a1_2 a1_3))) = some (r1, r2, r3, r4, r5, r6, r7) := H
 have A3 := Aside0.mk A30
 clear A30
 replace H := Option.bind_eq_some_iff.mp H
 obtain ⟨t399, A40, H⟩ := H
 replace H : (if t398 = true then (vernierref10_Exact.j0 k (!t399) a0_0 a0_1 a0_2 a0_3 a1_0 a1_1 a1_2 a1_3) else (vernierref10_Exact.j0 k true a0_0 a0_1 a0_2 a0_3 a1_0 a1_1 a1_2 a1_3)) = some (r1, r2, r3, r4, r5, r6, r7) := H
 have A4 := Aside0.mk A40
 clear A40
 have HC5 := Aside0.mk H
 clear H
 go_enter Try.func10, Try.ntmps10
 go_upto_region 3 with (first | ((with_reducible refine gate_dst (N := 2) rfl ?_); refine box_event ?hg (N := 2) ?hd (cs := #[.int .i64 a0_0, .bool a0_1, .int .i64 a0_2, .int .u64 a0_3]) (t := 24) ?hr ?_; (case hd => rfl); (case hg => rfl); (case hr => first | (go_simp; done) | (go_simp; rfl)); intro gb395 hg w6 hbox hb; have n0_ := Aside0.mk (below_step (z3_ HB.out) hb); have n1_ := Aside0.mk (hbox); have n2_ := Aside0.mk ((by rw [hg]; exact (below_size (z3_ HB.out)) : w.heap.size ≤ gb395)); have n3_ := Aside0.mk ((by rw [hg]; exact (below_size (z3_ HB.out)) : w.heap.size ≤ gb395)); clear HB; have HB := n0_; have BK395 := n1_; have GW395 := n2_; have GE395 := n3_; clear n0_ n1_ n2_ n3_; clear hb hbox hg) | ((with_reducible refine gate_dst (N := 3) rfl ?_); refine box_event ?hg (N := 3) ?hd (cs := #[.int .i64 a1_0, .bool a1_1, .int .i64 a1_2, .int .u64 a1_3]) (t := 24) ?hr ?_; (case hd => rfl); (case hg => rfl); (case hr => first | (go_simp; done) | (go_simp; rfl)); intro gb396 hg w7 hbox hb; have n0_ := Aside0.mk (blk_below (g := gb395) (z1_ BK395.out) hb); have n1_ := Aside0.mk (below_step (z3_ HB.out) hb); have n2_ := Aside0.mk (hbox); have n3_ := Aside0.mk ((by rw [hg]; exact (below_size (z3_ HB.out)) : w.heap.size ≤ gb396)); have n4_ := Aside0.mk ((by rw [hg]; exact (below_size (z3_ HB.out)) : w.heap.size ≤ gb396)); have n5_ := Aside0.mk ((by rw [hg]; exact Nat.ne_of_lt (blk_lt (g := gb395) (o := .cells #[.int .i64 a0_0, .bool a0_1, .int .i64 a0_2, .int .u64 a0_3] 24 (0, 0)) (z1_ BK395.out)) : gb395 ≠ gb396)); have n6_ := Aside0.mk ((by rw [hg]; exact Nat.ne_of_gt (blk_lt (g := gb395) (o := .cells #[.int .i64 a0_0, .bool a0_1, .int .i64 a0_2, .int .u64 a0_3] 24 (0, 0)) (z1_ BK395.out)) : gb396 ≠ gb395)); clear BK395; clear HB; have BK395 := n0_; have HB := n1_; have BK396 := n2_; have GW396 := n3_; have GE396 := n4_; have NB395_396 := n5_; have NB396_395 := n6_; clear n0_ n1_ n2_ n3_ n4_ n5_ n6_; clear hb hbox hg) | ((with_reducible refine gate_dst (N := 4) rfl ?_); refine box_event ?hg (N := 4) ?hd (cs := #[.int .i64 0, .bool false, .int .i64 0, .int .u64 0, .int .u64 0, .bool false]) (t := 27) ?hr ?_; (case hd => rfl); (case hg => rfl); (case hr => first | (go_simp; done) | (go_simp; rfl)); intro gb397 hg w8 hbox hb; have n0_ := Aside0.mk (blk_below (g := gb395) (z1_ BK395.out) hb); have n1_ := Aside0.mk (blk_below (g := gb396) (z1_ BK396.out) hb); have n2_ := Aside0.mk (below_step (z3_ HB.out) hb); have n3_ := Aside0.mk (hbox); have n4_ := Aside0.mk ((by rw [hg]; exact (below_size (z3_ HB.out)) : w.heap.size ≤ gb397)); have n5_ := Aside0.mk ((by rw [hg]; exact (below_size (z3_ HB.out)) : w.heap.size ≤ gb397)); have n6_ := Aside0.mk ((by rw [hg]; exact Nat.ne_of_lt (blk_lt (g := gb395) (o := .cells #[.int .i64 a0_0, .bool a0_1, .int .i64 a0_2, .int .u64 a0_3] 24 (0, 0)) (z1_ BK395.out)) : gb395 ≠ gb397)); have n7_ := Aside0.mk ((by rw [hg]; exact Nat.ne_of_gt (blk_lt (g := gb395) (o := .cells #[.int .i64 a0_0, .bool a0_1, .int .i64 a0_2, .int .u64 a0_3] 24 (0, 0)) (z1_ BK395.out)) : gb397 ≠ gb395)); have n8_ := Aside0.mk ((by rw [hg]; exact Nat.ne_of_lt (blk_lt (g := gb396) (o := .cells #[.int .i64 a1_0, .bool a1_1, .int .i64 a1_2, .int .u64 a1_3] 24 (0, 0)) (z1_ BK396.out)) : gb396 ≠ gb397)); have n9_ := Aside0.mk ((by rw [hg]; exact Nat.ne_of_gt (blk_lt (g := gb396) (o := .cells #[.int .i64 a1_0, .bool a1_1, .int .i64 a1_2, .int .u64 a1_3] 24 (0, 0)) (z1_ BK396.out)) : gb397 ≠ gb396)); clear BK395; clear BK396; clear HB; have BK395 := n0_; have BK396 := n1_; have HB := n2_; have BK397 := n3_; have GW397 := n4_; have GE397 := n5_; have NB395_397 := n6_; have NB397_395 := n7_; have NB396_397 := n8_; have NB397_396 := n9_; clear n0_ n1_ n2_ n3_ n4_ n5_ n6_ n7_ n8_ n9_; clear hb hbox hg; have hnb9 := NB395_396.out; have hnc9 := NB396_395.out; have hnb10 := NB395_397.out; have hnc10 := NB397_395.out; have hcz11_0 := z4_ BK395.out 0 (.int .i64 a0_0) rfl; have hcz11_1 := z4_ BK395.out 1 (.bool a0_1) rfl; have hcz11_2 := z4_ BK395.out 2 (.int .i64 a0_2) rfl; have hcz11_3 := z4_ BK395.out 3 (.int .u64 a0_3) rfl; have hfz11_0 := blk_frozen BK395.out 0; have hfz11_1 := blk_frozen BK395.out 1; have hfz11_2 := blk_frozen BK395.out 2; have hfz11_3 := blk_frozen BK395.out 3) | ((with_reducible refine gate_callee (f := 24) rfl ?_); refine goesL_ (some 10) rfl rfl Try.func24 (by kernel_rfl) rfl #[.agg #[.int .i64 a0_0, .bool a0_1, .int .i64 a0_2, .int .u64 a0_3]] rfl z5_ ?_; (with_reducible refine (vernierref06_Sound.calls a0_0 a0_1 a0_2 a0_3 t398 _ A3.out).mono ?_); rintro e w12 ⟨rfl, hb⟩; refine ⟨_, rfl, ?_⟩; have n0_ := Aside0.mk (blk_below (g := gb395) (z1_ BK395.out) hb); have n1_ := Aside0.mk (blk_below (g := gb396) (z1_ BK396.out) hb); have n2_ := Aside0.mk (blk_below (g := gb397) (z1_ BK397.out) hb); have n3_ := Aside0.mk (below_step (z3_ HB.out) hb); clear BK395; clear BK396; clear BK397; clear HB; have BK395 := n0_; have BK396 := n1_; have BK397 := n2_; have HB := n3_; clear n0_ n1_ n2_ n3_; (try clear hb); (try clear hb2); (try clear hk); (try clear hi); have hnb13 := NB396_397.out; have hnc13 := NB397_396.out; have hcz14_0 := z4_ BK396.out 0 (.int .i64 a1_0) rfl; have hcz14_1 := z4_ BK396.out 1 (.bool a1_1) rfl; have hcz14_2 := z4_ BK396.out 2 (.int .i64 a1_2) rfl; have hcz14_3 := z4_ BK396.out 3 (.int .u64 a1_3) rfl; have hfz14_0 := blk_frozen BK396.out 0; have hfz14_1 := blk_frozen BK396.out 1; have hfz14_2 := blk_frozen BK396.out 2; have hfz14_3 := blk_frozen BK396.out 3) | ((with_reducible refine gate_callee (f := 24) rfl ?_); refine goesL_ (some 12) rfl rfl Try.func24 (by kernel_rfl) rfl #[.agg #[.int .i64 a1_0, .bool a1_1, .int .i64 a1_2, .int .u64 a1_3]] rfl z5_ ?_; (with_reducible refine (vernierref06_Sound.calls a1_0 a1_1 a1_2 a1_3 t399 _ A4.out).mono ?_); rintro e w15 ⟨rfl, hb⟩; refine ⟨_, rfl, ?_⟩; have n0_ := Aside0.mk (blk_below (g := gb395) (z1_ BK395.out) hb); have n1_ := Aside0.mk (blk_below (g := gb396) (z1_ BK396.out) hb); have n2_ := Aside0.mk (blk_below (g := gb397) (z1_ BK397.out) hb); have n3_ := Aside0.mk (below_step (z3_ HB.out) hb); clear BK395; clear BK396; clear BK397; clear HB; have BK395 := n0_; have BK396 := n1_; have BK397 := n2_; have HB := n3_; clear n0_ n1_ n2_ n3_; (try clear hb); (try clear hb2); (try clear hk); (try clear hi)))
 (try simp only [Act.put, List.setIfInBounds_toArray, List.set_cons_zero, List.set_cons_succ])
 go_cut [13] (fun v13 wc => ∃ (kq : Nat) (x13_4 : Bool), v13 = .bool x13_4 ∧ Aside0 (vernierref10_Exact.j0 kq x13_4 a0_0 a0_1 a0_2 a0_3 a1_0 a1_1 a1_2 a1_3 = some (r1, r2, r3, r4, r5, r6, r7)) ∧ Aside0 (kq ≤ k) ∧ Aside0 (wc.heap[gb395]? = some (.cells #[.int .i64 a0_0, .bool a0_1, .int .i64 a0_2, .int .u64 a0_3] 24 (0, 0))) ∧ Aside0 (wc.heap[gb396]? = some (.cells #[.int .i64 a1_0, .bool a1_1, .int .i64 a1_2, .int .u64 a1_3] 24 (0, 0))) ∧ Aside0 (wc.heap[gb397]? = some (.cells #[.int .i64 0, .bool false, .int .i64 0, .int .u64 0, .int .u64 0, .bool false] 27 (0, 0))) ∧ Aside0 (Below w.heap.size w wc))
 case first =>
  have H := HC5.out
  clear HC5
  by_cases c16 : t398 = true
  ·subst c16
   have H1 : (vernierref10_Exact.j0 k (!t399) a0_0 a0_1 a0_2 a0_3 a1_0 a1_1 a1_2 a1_3) = some (r1, r2, r3, r4, r5, r6, r7) := by rw [if_pos rfl] at H; exact H
   clear H
   have H := H1
   clear H1
   have H' := Aside0.mk H
   clear H
   go_wp2
   go_meet
   case rel => exact ⟨_, (!t399), (by first | rfl | (simp; done) | (simp [*]; done)), H', ⟨by first | omega | exact Nat.le_refl _⟩, ⟨by refine z2_ ?_; exact BK395.out⟩, ⟨by refine z2_ ?_; exact BK396.out⟩, ⟨by refine z2_ ?_; exact BK397.out⟩, ⟨by repeat (first | (with_reducible first | exact HB.out | apply below_alloc | apply pw_below_drewN | apply below_drew1 | refine below_set ?_ GE395.out | refine below_set ?_ GE396.out | refine below_set ?_ GE397.out) | exact HB.out)⟩⟩
  ·replace c16 := Bool.eq_false_iff.mpr c16
   subst c16
   have H1 : (vernierref10_Exact.j0 k true a0_0 a0_1 a0_2 a0_3 a1_0 a1_1 a1_2 a1_3) = some (r1, r2, r3, r4, r5, r6, r7) := by rw [if_neg (show ¬ (false = true) by decide)] at H; exact H
   clear H
   have H := H1
   clear H1
   have H' := Aside0.mk H
   clear H
   go_wp2
   go_meet
   case rel => exact ⟨_, (true), (by first | rfl | (simp; done) | (simp [*]; done)), H', ⟨by first | omega | exact Nat.le_refl _⟩, ⟨by refine z2_ ?_; exact BK395.out⟩, ⟨by refine z2_ ?_; exact BK396.out⟩, ⟨by refine z2_ ?_; exact BK397.out⟩, ⟨by repeat (first | (with_reducible first | exact HB.out | apply below_alloc | apply pw_below_drewN | apply below_drew1 | refine below_set ?_ GE395.out | refine below_set ?_ GE396.out | refine below_set ?_ GE397.out) | exact HB.out)⟩⟩
 case rest =>
  clear HC5
  try clear c1
  try clear c2
  try clear p2
  try clear c9
  try clear c10
  try clear c13
  try clear c16
  try clear hcz11_0
  try clear hcz11_1
  try clear hcz11_2
  try clear hcz11_3
  try clear hcz14_0
  try clear hcz14_1
  try clear hcz14_2
  try clear hcz14_3
  try clear hfz11_0
  try clear hfz11_1
  try clear hfz11_2
  try clear hfz11_3
  try clear hfz14_0
  try clear hfz14_1
  try clear hfz14_2
  try clear hfz14_3
  obtain ⟨kq, x13_4, rfl, HA, HJ4, BK395, BK396, BK397, HB⟩ := hcut
  cases kq with
  | zero => exact absurd HA.out (by simp [vernierref10_Exact.j0])
  | succ kj4 =>
   have H := HA.out
   clear HA
   simp only [vernierref10_Exact.j0] at H
   by_cases c17 : x13_4 = true
   ·subst c17
    have H1 : (some (0, false, 0, 0, 0, false, 1)) = some (r1, r2, r3, r4, r5, r6, r7) := by rw [if_pos rfl] at H; exact H
    clear H
    have H := H1
    clear H1
    simp only [Option.some.injEq, Prod.mk.injEq] at H
    obtain ⟨rfl, rfl, rfl, rfl, rfl, rfl, rfl⟩ := H
    have hnb18 := NB397_395.out
    have hnc18 := NB395_397.out
    have hnb19 := NB397_396.out
    have hnc19 := NB396_397.out
    have hcz20_0 := z4_ BK397.out 0 (.int .i64 0) rfl
    have hcz20_1 := z4_ BK397.out 1 (.bool false) rfl
    have hcz20_2 := z4_ BK397.out 2 (.int .i64 0) rfl
    have hcz20_3 := z4_ BK397.out 3 (.int .u64 0) rfl
    have hcz20_4 := z4_ BK397.out 4 (.int .u64 0) rfl
    have hcz20_5 := z4_ BK397.out 5 (.bool false) rfl
    have hfz20_0 := blk_frozen BK397.out 0
    have hfz20_1 := blk_frozen BK397.out 1
    have hfz20_2 := blk_frozen BK397.out 2
    have hfz20_3 := blk_frozen BK397.out 3
    have hfz20_4 := blk_frozen BK397.out 4
    have hfz20_5 := blk_frozen BK397.out 5
    go_wp2
    refine bodyPost_ret (results_ct rfl _ _ gb397 27 #[.int .i64 0, .bool false, .int .i64 0, .int .u64 0, .int .u64 0, .bool false] (0, 0) _ rfl (by refine z2_ ?_; refine blk_put (cs := #[.int .i64 0, .bool false, .int .i64 0, .int .u64 0, .int .u64 0, .bool false]) ?_ 5 _ rfl; refine z2_ ?_; refine blk_put (cs := #[.int .i64 0, .bool false, .int .i64 0, .int .u64 0, .int .u64 0, .bool false]) ?_ 4 _ rfl; refine z2_ ?_; refine blk_put (cs := #[.int .i64 0, .bool false, .int .i64 0, .int .u64 0, .int .u64 0, .bool false]) ?_ 3 _ rfl; refine z2_ ?_; refine blk_put (cs := #[.int .i64 0, .bool false, .int .i64 0, .int .u64 0, .int .u64 0, .bool false]) ?_ 2 _ rfl; refine z2_ ?_; refine blk_put (cs := #[.int .i64 0, .bool false, .int .i64 0, .int .u64 0, .int .u64 0, .bool false]) ?_ 1 _ rfl; refine z2_ ?_; refine blk_put (cs := #[.int .i64 0, .bool false, .int .i64 0, .int .u64 0, .int .u64 0, .bool false]) ?_ 0 _ rfl; refine z2_ ?_; exact BK397.out) Try.underlying27 rfl (by kernel_rfl)) rfl ?_
    exact ⟨by first | rfl | (simp [errW_none, errW_some] <;> rfl) | (simp [*, errW_none, errW_some] <;> rfl), by repeat (first | (with_reducible first | exact HB.out | apply below_alloc | apply pw_below_drewN | apply below_drew1 | refine below_set ?_ GE395.out | refine below_set ?_ GE396.out | refine below_set ?_ GE397.out) | exact HB.out)⟩
   ·replace c17 := Bool.eq_false_iff.mpr c17
    subst c17
    have H1 : (if a0_0 = 2 then (vernierref10_Exact.j1 kj4 true a0_0 a0_1 a0_2 a0_3 a1_0 a1_1 a1_2 a1_3) else (vernierref10_Exact.j1 kj4 (a1_0 == 2) a0_0 a0_1 a0_2 a0_3 a1_0 a1_1 a1_2 a1_3)) = some (r1, r2, r3, r4, r5, r6, r7) := by rw [if_neg (show ¬ (false = true) by decide)] at H; exact H
    clear H
    have H := H1
    clear H1
    have HC21 := Aside0.mk H
    clear H
    go_upto_region 5 with (fail)
    go_cut [21] (fun v21 wc => ∃ (kq : Nat) (x21_20 : Bool), v21 = .bool x21_20 ∧ Aside0 (vernierref10_Exact.j1 kq x21_20 a0_0 a0_1 a0_2 a0_3 a1_0 a1_1 a1_2 a1_3 = some (r1, r2, r3, r4, r5, r6, r7)) ∧ Aside0 (kq ≤ kj4) ∧ Aside0 (wc.heap[gb395]? = some (.cells #[.int .i64 a0_0, .bool a0_1, .int .i64 a0_2, .int .u64 a0_3] 24 (0, 0))) ∧ Aside0 (wc.heap[gb396]? = some (.cells #[.int .i64 a1_0, .bool a1_1, .int .i64 a1_2, .int .u64 a1_3] 24 (0, 0))) ∧ Aside0 (wc.heap[gb397]? = some (.cells #[.int .i64 0, .bool false, .int .i64 0, .int .u64 0, .int .u64 0, .bool false] 27 (0, 0))) ∧ Aside0 (Below w.heap.size w wc))
    case first =>
     have H := HC21.out
     clear HC21
     by_cases c22 : a0_0 = 2
     ·rw [if_pos c22] at H
      have c22b0 : (a0_0 == 2) = true := beq_iff_eq.mpr c22
      have c22b1 : (a0_0 != 2) = false := bne_eq_false_iff_eq.mpr c22
      clear c22
      (first | rw [c22b0] | (simp only [i64_w, i32_w]; rw [c22b0]) | skip)
      have H' := Aside0.mk H
      clear H
      have hnb23 := NB395_396.out
      have hnc23 := NB396_395.out
      have hnb24 := NB395_397.out
      have hnc24 := NB397_395.out
      have hcz25_0 := z4_ BK395.out 0 (.int .i64 a0_0) rfl
      have hcz25_1 := z4_ BK395.out 1 (.bool a0_1) rfl
      have hcz25_2 := z4_ BK395.out 2 (.int .i64 a0_2) rfl
      have hcz25_3 := z4_ BK395.out 3 (.int .u64 a0_3) rfl
      have hfz25_0 := blk_frozen BK395.out 0
      have hfz25_1 := blk_frozen BK395.out 1
      have hfz25_2 := blk_frozen BK395.out 2
      have hfz25_3 := blk_frozen BK395.out 3
      go_wp2
      go_meet
      case rel => exact ⟨_, (true), (by first | rfl | (simp; done) | (simp [*]; done)), H', ⟨by have := HJ4.out; first | omega | exact Nat.le_refl _⟩, ⟨by refine z2_ ?_; exact BK395.out⟩, ⟨by refine z2_ ?_; exact BK396.out⟩, ⟨by refine z2_ ?_; exact BK397.out⟩, ⟨by repeat (first | (with_reducible first | exact HB.out | apply below_alloc | apply pw_below_drewN | apply below_drew1 | refine below_set ?_ GE395.out | refine below_set ?_ GE396.out | refine below_set ?_ GE397.out) | exact HB.out)⟩⟩
     ·rw [if_neg c22] at H
      have c22b0 : (a0_0 == 2) = false := beq_eq_false_iff_ne.mpr c22
      have c22b1 : (a0_0 != 2) = true := bne_iff_ne.mpr c22
      (first | rw [c22b0] | (simp only [i64_w, i32_w]; rw [c22b0]) | skip)
      have H' := Aside0.mk H
      clear H
      have hnb26 := NB395_396.out
      have hnc26 := NB396_395.out
      have hnb27 := NB395_397.out
      have hnc27 := NB397_395.out
      have hcz28_0 := z4_ BK395.out 0 (.int .i64 a0_0) rfl
      have hcz28_1 := z4_ BK395.out 1 (.bool a0_1) rfl
      have hcz28_2 := z4_ BK395.out 2 (.int .i64 a0_2) rfl
      have hcz28_3 := z4_ BK395.out 3 (.int .u64 a0_3) rfl
      have hfz28_0 := blk_frozen BK395.out 0
      have hfz28_1 := blk_frozen BK395.out 1
      have hfz28_2 := blk_frozen BK395.out 2
      have hfz28_3 := blk_frozen BK395.out 3
      have hnb29 := NB396_397.out
      have hnc29 := NB397_396.out
      have hcz30_0 := z4_ BK396.out 0 (.int .i64 a1_0) rfl
      have hcz30_1 := z4_ BK396.out 1 (.bool a1_1) rfl
      have hcz30_2 := z4_ BK396.out 2 (.int .i64 a1_2) rfl
      have hcz30_3 := z4_ BK396.out 3 (.int .u64 a1_3) rfl
      have hfz30_0 := blk_frozen BK396.out 0
      have hfz30_1 := blk_frozen BK396.out 1
      have hfz30_2 := blk_frozen BK396.out 2
      have hfz30_3 := blk_frozen BK396.out 3
      go_wp2
      go_meet
      case rel => exact ⟨_, ((a1_0 == 2)), (by first | rfl | (simp; done) | (simp [*]; done)), H', ⟨by have := HJ4.out; first | omega | exact Nat.le_refl _⟩, ⟨by refine z2_ ?_; exact BK395.out⟩, ⟨by refine z2_ ?_; exact BK396.out⟩, ⟨by refine z2_ ?_; exact BK397.out⟩, ⟨by repeat (first | (with_reducible first | exact HB.out | apply below_alloc | apply pw_below_drewN | apply below_drew1 | refine below_set ?_ GE395.out | refine below_set ?_ GE396.out | refine below_set ?_ GE397.out) | exact HB.out)⟩⟩
    case rest =>
     clear HC21
     try clear c1
     try clear c2
     try clear p2
     try clear c9
     try clear c10
     try clear c13
     try clear c16
     try clear c17
     try clear c18
     try clear c19
     try clear c22
     try clear c22b0
     try clear c22b1
     try clear c23
     try clear c24
     try clear c26
     try clear c27
     try clear c29
     try clear hcz11_0
     try clear hcz11_1
     try clear hcz11_2
     try clear hcz11_3
     try clear hcz14_0
     try clear hcz14_1
     try clear hcz14_2
     try clear hcz14_3
     try clear hcz20_0
     try clear hcz20_1
     try clear hcz20_2
     try clear hcz20_3
     try clear hcz20_4
     try clear hcz20_5
     try clear hcz25_0
     try clear hcz25_1
     try clear hcz25_2
     try clear hcz25_3
     try clear hcz28_0
     try clear hcz28_1
     try clear hcz28_2
     try clear hcz28_3
     try clear hcz30_0
     try clear hcz30_1
     try clear hcz30_2
     try clear hcz30_3
     try clear hfz11_0
     try clear hfz11_1
     try clear hfz11_2
     try clear hfz11_3
     try clear hfz14_0
     try clear hfz14_1
     try clear hfz14_2
     try clear hfz14_3
     try clear hfz20_0
     try clear hfz20_1
     try clear hfz20_2
     try clear hfz20_3
     try clear hfz20_4
     try clear hfz20_5
     try clear hfz25_0
     try clear hfz25_1
     try clear hfz25_2
     try clear hfz25_3
     try clear hfz28_0
     try clear hfz28_1
     try clear hfz28_2
     try clear hfz28_3
     try clear hfz30_0
     try clear hfz30_1
     try clear hfz30_2
     try clear hfz30_3
     try clear p2
     obtain ⟨kq, x21_20, rfl, HA, HJ20, BK395, BK396, BK397, HB⟩ := hcut
     cases kq with
     | zero => exact absurd HA.out (by simp [vernierref10_Exact.j1])
     | succ kj20 =>
      have H := HA.out
      clear HA
      simp only [vernierref10_Exact.j1] at H
      by_cases c31 : x21_20 = true
      ·subst c31
       have H1 : (some (2, false, 0, 0, 0, false, 0)) = some (r1, r2, r3, r4, r5, r6, r7) := by rw [if_pos rfl] at H; exact H
       clear H
       have H := H1
       clear H1
       simp only [Option.some.injEq, Prod.mk.injEq] at H
       obtain ⟨rfl, rfl, rfl, rfl, rfl, rfl, rfl⟩ := H
       have hnb32 := NB397_395.out
       have hnc32 := NB395_397.out
       have hnb33 := NB397_396.out
       have hnc33 := NB396_397.out
       have hcz34_0 := z4_ BK397.out 0 (.int .i64 0) rfl
       have hcz34_1 := z4_ BK397.out 1 (.bool false) rfl
       have hcz34_2 := z4_ BK397.out 2 (.int .i64 0) rfl
       have hcz34_3 := z4_ BK397.out 3 (.int .u64 0) rfl
       have hcz34_4 := z4_ BK397.out 4 (.int .u64 0) rfl
       have hcz34_5 := z4_ BK397.out 5 (.bool false) rfl
       have hfz34_0 := blk_frozen BK397.out 0
       have hfz34_1 := blk_frozen BK397.out 1
       have hfz34_2 := blk_frozen BK397.out 2
       have hfz34_3 := blk_frozen BK397.out 3
       have hfz34_4 := blk_frozen BK397.out 4
       have hfz34_5 := blk_frozen BK397.out 5
       go_wp2
       refine bodyPost_ret (results_ct rfl _ _ gb397 27 #[.int .i64 2, .bool false, .int .i64 0, .int .u64 0, .int .u64 0, .bool false] (0, 0) _ rfl (by refine z2_ ?_; refine blk_put (cs := #[.int .i64 2, .bool false, .int .i64 0, .int .u64 0, .int .u64 0, .bool false]) ?_ 5 _ rfl; refine z2_ ?_; refine blk_put (cs := #[.int .i64 2, .bool false, .int .i64 0, .int .u64 0, .int .u64 0, .bool false]) ?_ 4 _ rfl; refine z2_ ?_; refine blk_put (cs := #[.int .i64 2, .bool false, .int .i64 0, .int .u64 0, .int .u64 0, .bool false]) ?_ 3 _ rfl; refine z2_ ?_; refine blk_put (cs := #[.int .i64 2, .bool false, .int .i64 0, .int .u64 0, .int .u64 0, .bool false]) ?_ 2 _ rfl; refine z2_ ?_; refine blk_put (cs := #[.int .i64 2, .bool false, .int .i64 0, .int .u64 0, .int .u64 0, .bool false]) ?_ 1 _ rfl; refine z2_ ?_; refine blk_put (cs := #[.int .i64 0, .bool false, .int .i64 0, .int .u64 0, .int .u64 0, .bool false]) ?_ 0 _ rfl; refine z2_ ?_; exact BK397.out) Try.underlying27 rfl (by kernel_rfl)) rfl ?_
       exact ⟨by first | rfl | (simp [errW_none, errW_some] <;> rfl) | (simp [*, errW_none, errW_some] <;> rfl), by repeat (first | (with_reducible first | exact HB.out | apply below_alloc | apply pw_below_drewN | apply below_drew1 | refine below_set ?_ GE395.out | refine below_set ?_ GE396.out | refine below_set ?_ GE397.out) | exact HB.out)⟩
      ·replace c31 := Bool.eq_false_iff.mpr c31
       subst c31
       have H1 : (if a0_0 = 0 then (some (0, false, 0, 0, 0, false, 0)) else (if a1_0 = 0 then (some (0, false, 0, 0, 0, false, 0)) else ((vernierref04_Of.f kj20 a0_3).bind fun t400 => ((vernierref04_Of.f kj20 a1_3).bind fun t403 => ((vernierref04_Mul.f kj20 t400 t403).bind fun t406 => ((vernierref07_Exactly.f kj20 (a0_1 != a1_1) t406 (wrap64 ((wrap64 (a0_2 + a1_2)) - 126)) false).bind fun bt409 => (some (bt409.1, bt409.2.1, bt409.2.2.1, bt409.2.2.2.1, bt409.2.2.2.2.1, bt409.2.2.2.2.2, 0)))))))) = some (r1, r2, r3, r4, r5, r6, r7) := by rw [if_neg (show ¬ (false = true) by decide)] at H; exact H
       clear H
       have H := H1
       clear H1
       by_cases c35 : a0_0 = 0
       ·rw [if_pos c35] at H
        have c35b0 : (a0_0 == 0) = true := beq_iff_eq.mpr c35
        have c35b1 : (a0_0 != 0) = false := bne_eq_false_iff_eq.mpr c35
        clear c35
        simp only [Option.some.injEq, Prod.mk.injEq] at H
        obtain ⟨rfl, rfl, rfl, rfl, rfl, rfl, rfl⟩ := H
        have hnb36 := NB395_396.out
        have hnc36 := NB396_395.out
        have hnb37 := NB395_397.out
        have hnc37 := NB397_395.out
        have hcz38_0 := z4_ BK395.out 0 (.int .i64 a0_0) rfl
        have hcz38_1 := z4_ BK395.out 1 (.bool a0_1) rfl
        have hcz38_2 := z4_ BK395.out 2 (.int .i64 a0_2) rfl
        have hcz38_3 := z4_ BK395.out 3 (.int .u64 a0_3) rfl
        have hfz38_0 := blk_frozen BK395.out 0
        have hfz38_1 := blk_frozen BK395.out 1
        have hfz38_2 := blk_frozen BK395.out 2
        have hfz38_3 := blk_frozen BK395.out 3
        have hnb39 := NB397_396.out
        have hnc39 := NB396_397.out
        have hcz40_0 := z4_ BK397.out 0 (.int .i64 0) rfl
        have hcz40_1 := z4_ BK397.out 1 (.bool false) rfl
        have hcz40_2 := z4_ BK397.out 2 (.int .i64 0) rfl
        have hcz40_3 := z4_ BK397.out 3 (.int .u64 0) rfl
        have hcz40_4 := z4_ BK397.out 4 (.int .u64 0) rfl
        have hcz40_5 := z4_ BK397.out 5 (.bool false) rfl
        have hfz40_0 := blk_frozen BK397.out 0
        have hfz40_1 := blk_frozen BK397.out 1
        have hfz40_2 := blk_frozen BK397.out 2
        have hfz40_3 := blk_frozen BK397.out 3
        have hfz40_4 := blk_frozen BK397.out 4
        have hfz40_5 := blk_frozen BK397.out 5
        go_wp2
        refine bodyPost_ret (results_ct rfl _ _ gb397 27 #[.int .i64 0, .bool false, .int .i64 0, .int .u64 0, .int .u64 0, .bool false] (0, 0) _ rfl (by refine z2_ ?_; refine blk_put (cs := #[.int .i64 0, .bool false, .int .i64 0, .int .u64 0, .int .u64 0, .bool false]) ?_ 5 _ rfl; refine z2_ ?_; refine blk_put (cs := #[.int .i64 0, .bool false, .int .i64 0, .int .u64 0, .int .u64 0, .bool false]) ?_ 4 _ rfl; refine z2_ ?_; refine blk_put (cs := #[.int .i64 0, .bool false, .int .i64 0, .int .u64 0, .int .u64 0, .bool false]) ?_ 3 _ rfl; refine z2_ ?_; refine blk_put (cs := #[.int .i64 0, .bool false, .int .i64 0, .int .u64 0, .int .u64 0, .bool false]) ?_ 2 _ rfl; refine z2_ ?_; refine blk_put (cs := #[.int .i64 0, .bool false, .int .i64 0, .int .u64 0, .int .u64 0, .bool false]) ?_ 1 _ rfl; refine z2_ ?_; refine blk_put (cs := #[.int .i64 0, .bool false, .int .i64 0, .int .u64 0, .int .u64 0, .bool false]) ?_ 0 _ rfl; refine z2_ ?_; exact BK397.out) Try.underlying27 rfl (by kernel_rfl)) rfl ?_
        exact ⟨by first | rfl | (simp [errW_none, errW_some] <;> rfl) | (simp [*, errW_none, errW_some] <;> rfl), by repeat (first | (with_reducible first | exact HB.out | apply below_alloc | apply pw_below_drewN | apply below_drew1 | refine below_set ?_ GE395.out | refine below_set ?_ GE396.out | refine below_set ?_ GE397.out) | exact HB.out)⟩
       ·rw [if_neg c35] at H
        have c35b0 : (a0_0 == 0) = false := beq_eq_false_iff_ne.mpr c35
        have c35b1 : (a0_0 != 0) = true := bne_iff_ne.mpr c35
        by_cases c41 : a1_0 = 0
        ·rw [if_pos c41] at H
         have c41b0 : (a1_0 == 0) = true := beq_iff_eq.mpr c41
         have c41b1 : (a1_0 != 0) = false := bne_eq_false_iff_eq.mpr c41
         clear c41
         simp only [Option.some.injEq, Prod.mk.injEq] at H
         obtain ⟨rfl, rfl, rfl, rfl, rfl, rfl, rfl⟩ := H
         have hnb42 := NB395_396.out
         have hnc42 := NB396_395.out
         have hnb43 := NB395_397.out
         have hnc43 := NB397_395.out
         have hcz44_0 := z4_ BK395.out 0 (.int .i64 a0_0) rfl
         have hcz44_1 := z4_ BK395.out 1 (.bool a0_1) rfl
         have hcz44_2 := z4_ BK395.out 2 (.int .i64 a0_2) rfl
         have hcz44_3 := z4_ BK395.out 3 (.int .u64 a0_3) rfl
         have hfz44_0 := blk_frozen BK395.out 0
         have hfz44_1 := blk_frozen BK395.out 1
         have hfz44_2 := blk_frozen BK395.out 2
         have hfz44_3 := blk_frozen BK395.out 3
         have hnb45 := NB396_397.out
         have hnc45 := NB397_396.out
         have hcz46_0 := z4_ BK396.out 0 (.int .i64 a1_0) rfl
         have hcz46_1 := z4_ BK396.out 1 (.bool a1_1) rfl
         have hcz46_2 := z4_ BK396.out 2 (.int .i64 a1_2) rfl
         have hcz46_3 := z4_ BK396.out 3 (.int .u64 a1_3) rfl
         have hfz46_0 := blk_frozen BK396.out 0
         have hfz46_1 := blk_frozen BK396.out 1
         have hfz46_2 := blk_frozen BK396.out 2
         have hfz46_3 := blk_frozen BK396.out 3
         have hcz47_0 := z4_ BK397.out 0 (.int .i64 0) rfl
         have hcz47_1 := z4_ BK397.out 1 (.bool false) rfl
         have hcz47_2 := z4_ BK397.out 2 (.int .i64 0) rfl
         have hcz47_3 := z4_ BK397.out 3 (.int .u64 0) rfl
         have hcz47_4 := z4_ BK397.out 4 (.int .u64 0) rfl
         have hcz47_5 := z4_ BK397.out 5 (.bool false) rfl
         have hfz47_0 := blk_frozen BK397.out 0
         have hfz47_1 := blk_frozen BK397.out 1
         have hfz47_2 := blk_frozen BK397.out 2
         have hfz47_3 := blk_frozen BK397.out 3
         have hfz47_4 := blk_frozen BK397.out 4
         have hfz47_5 := blk_frozen BK397.out 5
         go_wp2
         refine bodyPost_ret (results_ct rfl _ _ gb397 27 #[.int .i64 0, .bool false, .int .i64 0, .int .u64 0, .int .u64 0, .bool false] (0, 0) _ rfl (by refine z2_ ?_; refine blk_put (cs := #[.int .i64 0, .bool false, .int .i64 0, .int .u64 0, .int .u64 0, .bool false]) ?_ 5 _ rfl; refine z2_ ?_; refine blk_put (cs := #[.int .i64 0, .bool false, .int .i64 0, .int .u64 0, .int .u64 0, .bool false]) ?_ 4 _ rfl; refine z2_ ?_; refine blk_put (cs := #[.int .i64 0, .bool false, .int .i64 0, .int .u64 0, .int .u64 0, .bool false]) ?_ 3 _ rfl; refine z2_ ?_; refine blk_put (cs := #[.int .i64 0, .bool false, .int .i64 0, .int .u64 0, .int .u64 0, .bool false]) ?_ 2 _ rfl; refine z2_ ?_; refine blk_put (cs := #[.int .i64 0, .bool false, .int .i64 0, .int .u64 0, .int .u64 0, .bool false]) ?_ 1 _ rfl; refine z2_ ?_; refine blk_put (cs := #[.int .i64 0, .bool false, .int .i64 0, .int .u64 0, .int .u64 0, .bool false]) ?_ 0 _ rfl; refine z2_ ?_; exact BK397.out) Try.underlying27 rfl (by kernel_rfl)) rfl ?_
         exact ⟨by first | rfl | (simp [errW_none, errW_some] <;> rfl) | (simp [*, errW_none, errW_some] <;> rfl), by repeat (first | (with_reducible first | exact HB.out | apply below_alloc | apply pw_below_drewN | apply below_drew1 | refine below_set ?_ GE395.out | refine below_set ?_ GE396.out | refine below_set ?_ GE397.out) | exact HB.out)⟩
        ·rw [if_neg c41] at H
         have c41b0 : (a1_0 == 0) = false := beq_eq_false_iff_ne.mpr c41
         have c41b1 : (a1_0 != 0) = true := bne_iff_ne.mpr c41
         replace H := Option.bind_eq_some_iff.mp H
         obtain ⟨t400, A480, H⟩ := H
         replace H : ((vernierref04_Of.f kj20 a1_3).bind fun t403 => ((vernierref04_Mul.f kj20 t400 t403).bind fun t406 => ((vernierref07_Exactly.f kj20 (a0_1 != a1_1) t406 (wrap64 ((wrap64 (a0_2 + a1_2)) - 126)) false).bind fun bt409 => (some (bt409.1, bt409.2.1, bt409.2.2.1, bt409.2.2.2.1, bt409.2.2.2.2.1, bt409.2.2.2.2.2, 0))))) = some (r1, r2, r3, r4, r5, r6, r7) := H
         have A48 := Aside0.mk A480
         clear A480
         replace H := Option.bind_eq_some_iff.mp H
         obtain ⟨t403, A490, H⟩ := H
         replace H : ((vernierref04_Mul.f kj20 t400 t403).bind fun t406 => ((vernierref07_Exactly.f kj20 (a0_1 != a1_1) t406 (wrap64 ((wrap64 (a0_2 + a1_2)) - 126)) false).bind fun bt409 => (some (bt409.1, bt409.2.1, bt409.2.2.1, bt409.2.2.2.1, bt409.2.2.2.2.1, bt409.2.2.2.2.2, 0)))) = some (r1, r2, r3, r4, r5, r6, r7) := H
         have A49 := Aside0.mk A490
         clear A490
         replace H := Option.bind_eq_some_iff.mp H
         obtain ⟨t406, A500, H⟩ := H
         replace H : ((vernierref07_Exactly.f kj20 (a0_1 != a1_1) t406 (wrap64 ((wrap64 (a0_2 + a1_2)) - 126)) false).bind fun bt409 => (some (bt409.1, bt409.2.1, bt409.2.2.1, bt409.2.2.2.1, bt409.2.2.2.2.1, bt409.2.2.2.2.2, 0))) = some (r1, r2, r3, r4, r5, r6, r7) := H
         have A50 := Aside0.mk A500
         clear A500
         replace H := Option.bind_eq_some_iff.mp H
         obtain ⟨⟨t409, t410, t411, t412, t413, t414⟩, A510, H⟩ := H
         replace H : (some (t409, t410, t411, t412, t413, t414, 0)) = some (r1, r2, r3, r4, r5, r6, r7) := H
         have A51 := Aside0.mk A510
         clear A510
         simp only [Option.some.injEq, Prod.mk.injEq] at H
         obtain ⟨rfl, rfl, rfl, rfl, rfl, rfl, rfl⟩ := H
         have hnb52 := NB395_396.out
         have hnc52 := NB396_395.out
         have hnb53 := NB395_397.out
         have hnc53 := NB397_395.out
         have hcz54_0 := z4_ BK395.out 0 (.int .i64 a0_0) rfl
         have hcz54_1 := z4_ BK395.out 1 (.bool a0_1) rfl
         have hcz54_2 := z4_ BK395.out 2 (.int .i64 a0_2) rfl
         have hcz54_3 := z4_ BK395.out 3 (.int .u64 a0_3) rfl
         have hfz54_0 := blk_frozen BK395.out 0
         have hfz54_1 := blk_frozen BK395.out 1
         have hfz54_2 := blk_frozen BK395.out 2
         have hfz54_3 := blk_frozen BK395.out 3
         have hnb55 := NB396_397.out
         have hnc55 := NB397_396.out
         have hcz56_0 := z4_ BK396.out 0 (.int .i64 a1_0) rfl
         have hcz56_1 := z4_ BK396.out 1 (.bool a1_1) rfl
         have hcz56_2 := z4_ BK396.out 2 (.int .i64 a1_2) rfl
         have hcz56_3 := z4_ BK396.out 3 (.int .u64 a1_3) rfl
         have hfz56_0 := blk_frozen BK396.out 0
         have hfz56_1 := blk_frozen BK396.out 1
         have hfz56_2 := blk_frozen BK396.out 2
         have hfz56_3 := blk_frozen BK396.out 3
         try go_wp2
         have n0_ := Aside0.mk (blk_drew BK395.out)
         have n1_ := Aside0.mk (blk_drew BK396.out)
         have n2_ := Aside0.mk (blk_drew BK397.out)
         have n3_ := Aside0.mk (below_drew1 HB.out)
         clear BK395
         clear BK396
         clear BK397
         clear HB
         have BK395 := n0_
         have BK396 := n1_
         have BK397 := n2_
         have HB := n3_
         clear n0_ n1_ n2_ n3_
         refine start_ (n := 8) (S := fun w' => w'.cell? ⟨gb395, 0, none⟩ = some (.int .i64 a0_0) ∧ w'.cell? ⟨gb395, 1, none⟩ = some (.bool a0_1) ∧ w'.cell? ⟨gb395, 2, none⟩ = some (.int .i64 a0_2) ∧ w'.cell? ⟨gb395, 3, none⟩ = some (.int .u64 a0_3) ∧ w'.cell? ⟨gb396, 0, none⟩ = some (.int .i64 a1_0) ∧ w'.cell? ⟨gb396, 1, none⟩ = some (.bool a1_1) ∧ w'.cell? ⟨gb396, 2, none⟩ = some (.int .i64 a1_2) ∧ w'.cell? ⟨gb396, 3, none⟩ = some (.int .u64 a1_3)) (ds := []) #[false, false, false, false, false, false, false, false] (by kernel_rfl) rfl rfl ⟨(blk_cell BK395.out 0).trans rfl, (blk_cell BK395.out 1).trans rfl, (blk_cell BK395.out 2).trans rfl, (blk_cell BK395.out 3).trans rfl, (blk_cell BK396.out 0).trans rfl, (blk_cell BK396.out 1).trans rfl, (blk_cell BK396.out 2).trans rfl, (blk_cell BK396.out 3).trans rfl⟩ (fun hHeld => ?_); refine with_tabW vernierref10_Exact.tab9 vernierref10_Exact.bits9 (fun HT_ HW_ => ?_)
         generalize wc.drew = w57 at BK395 BK396 BK397 HB hHeld ⊢
         refine pure_ (i := 0) (N := some 41) (v := ?_) (a' := ?_) #[true, false, false, false, false, false, false, false] rfl rfl (any_of HT_.out (by kernel_rfl)) (fun _ _ _ h => h) (Or.inl ⟨by rfl, ?_⟩) ?_ ?_
         rotate_left
         ·intro w'
          go_simp
          with_reducible rfl
         rotate_left
         ·simp only [Act.put, List.setIfInBounds_toArray, List.set_cons_zero, List.set_cons_succ, i64_w, i32_w]
          rfl
         refine pure_ (i := 3) (N := some 44) (v := ?_) (a' := ?_) #[true, false, false, true, false, false, false, false] rfl rfl (any_of HT_.out (by kernel_rfl)) (fun _ _ _ h => h) (Or.inl ⟨by rfl, ?_⟩) ?_ ?_
         rotate_left
         ·intro w'
          go_simp
          with_reducible rfl
         rotate_left
         ·simp only [Act.put, List.setIfInBounds_toArray, List.set_cons_zero, List.set_cons_succ, i64_w, i32_w]
          rfl
         refine take_ (i := 1) (N := some 42) (v := ?_) (a' := ?_) #[true, true, false, true, false, false, false, false] rfl rfl (take_ofW HT_.out HW_.out (by kernel_rfl)) (fun _ _ _ h => h) (Or.inl ⟨by rfl, ?_⟩) hHeld ?_ ?_
         rotate_left
         ·rintro w' ⟨s0, s1, s2, s3, s4, s5, s6, s7⟩
          go_simp
          with_reducible rfl
         rotate_left
         ·simp only [Act.put, List.setIfInBounds_toArray, List.set_cons_zero, List.set_cons_succ, i64_w, i32_w]
          rfl
         refine take_ (i := 4) (N := some 45) (v := ?_) (a' := ?_) #[true, true, false, true, true, false, false, false] rfl rfl (take_ofW HT_.out HW_.out (by kernel_rfl)) (fun _ _ _ h => h) (Or.inl ⟨by rfl, ?_⟩) hHeld ?_ ?_
         rotate_left
         ·rintro w' ⟨s0, s1, s2, s3, s4, s5, s6, s7⟩
          go_simp
          with_reducible rfl
         rotate_left
         ·simp only [Act.put, List.setIfInBounds_toArray, List.set_cons_zero, List.set_cons_succ, i64_w, i32_w]
          rfl
         refine one_ (i := 2) (N := some 43) #[true, true, true, true, true, false, false, false] rfl rfl (one_of HT_.out (by kernel_rfl)) (by decide) (fun K hK => ?_)
         refine goes_ Try.func26 (by kernel_rfl) rfl #[.int .u64 a0_3] (by rfl) rfl rfl z5_ ?_
         with_reducible refine (vernierref04_Of.calls kj20 a0_3 t400 _ A48.out).mono ?_
         rintro e w58 ⟨v401, rfl, ho0, hb⟩
         refine ⟨_, rfl, ?_⟩
         have n0_ := Aside0.mk (Kd.R_lower ho0 (below_size (z3_ HB.out)))
         have n1_ := Aside0.mk (blk_below (g := gb395) (z1_ BK395.out) hb)
         have n2_ := Aside0.mk (blk_below (g := gb396) (z1_ BK396.out) hb)
         have n3_ := Aside0.mk (blk_below (g := gb397) (z1_ BK397.out) hb)
         have n4_ := Aside0.mk (below_step (z3_ HB.out) hb)
         clear BK395
         clear BK396
         clear BK397
         clear HB
         have HO402 := n0_
         have BK395 := n1_
         have BK396 := n2_
         have BK397 := n3_
         have HB := n4_
         clear n0_ n1_ n2_ n3_ n4_
         (try clear hb)
         (try clear hb2)
         (try clear hk)
         (try clear hi)
         (try clear ho0)
         refine hK.out _ _ ⟨(blk_cell BK395.out 0).trans rfl, (blk_cell BK395.out 1).trans rfl, (blk_cell BK395.out 2).trans rfl, (blk_cell BK395.out 3).trans rfl, (blk_cell BK396.out 0).trans rfl, (blk_cell BK396.out 1).trans rfl, (blk_cell BK396.out 2).trans rfl, (blk_cell BK396.out 3).trans rfl⟩ (fun hHeld => ?_)
         clear hK K
         refine norm_ (a' := ?_) ?_ ?_
         rotate_left
         ·show Act.put _ (some 43) _ = _
          simp only [Act.put, List.setIfInBounds_toArray, List.set_cons_zero, List.set_cons_succ, i64_w, i32_w]
          rfl
         refine one_ (i := 5) (N := some 46) #[true, true, true, true, true, true, false, false] rfl rfl (one_of HT_.out (by kernel_rfl)) (by decide) (fun K hK => ?_)
         refine goes_ Try.func26 (by kernel_rfl) rfl #[.int .u64 a1_3] (by rfl) rfl rfl z5_ ?_
         with_reducible refine (vernierref04_Of.calls kj20 a1_3 t403 _ A49.out).mono ?_
         rintro e w59 ⟨v404, rfl, ho0, hb⟩
         refine ⟨_, rfl, ?_⟩
         have n0_ := Aside0.mk (Kd.R_elder' (by (with_reducible repeat (first | apply Kd.R_alloc | apply Kd.R_drewN | apply Kd.R_drew)); exact HO402.out) (Kd.R_base ho0) hb)
         have n1_ := Aside0.mk (Kd.R_lower (Kd.R_new' ho0 (Kd.R_lt (by (with_reducible repeat (first | apply Kd.R_alloc | apply Kd.R_drewN | apply Kd.R_drew)); exact HO402.out))) (below_size (z3_ HB.out)))
         have n2_ := Aside0.mk (blk_below (g := gb395) (z1_ BK395.out) hb)
         have n3_ := Aside0.mk (blk_below (g := gb396) (z1_ BK396.out) hb)
         have n4_ := Aside0.mk (blk_below (g := gb397) (z1_ BK397.out) hb)
         have n5_ := Aside0.mk (below_step (z3_ HB.out) hb)
         clear HO402
         clear BK395
         clear BK396
         clear BK397
         clear HB
         have HO402 := n0_
         have HO405 := n1_
         have BK395 := n2_
         have BK396 := n3_
         have BK397 := n4_
         have HB := n5_
         clear n0_ n1_ n2_ n3_ n4_ n5_
         (try clear hb)
         (try clear hb2)
         (try clear hk)
         (try clear hi)
         (try clear ho0)
         obtain ⟨Ao60, co60, eo60⟩ := Kd.R_slice HO402.out
         (first | subst eo60 | (injection eo60 with f1_ f2_ f3_; have f4_ := f1_.symm; have f5_ := f3_.symm; clear f1_ f2_ f3_; subst f4_; subst f5_))
         obtain ⟨Ao61, co61, eo61⟩ := Kd.R_slice HO405.out
         (first | subst eo61 | (injection eo61 with f1_ f2_ f3_; have f4_ := f1_.symm; have f5_ := f3_.symm; clear f1_ f2_ f3_; subst f4_; subst f5_))
         refine hK.out _ _ ⟨(blk_cell BK395.out 0).trans rfl, (blk_cell BK395.out 1).trans rfl, (blk_cell BK395.out 2).trans rfl, (blk_cell BK395.out 3).trans rfl, (blk_cell BK396.out 0).trans rfl, (blk_cell BK396.out 1).trans rfl, (blk_cell BK396.out 2).trans rfl, (blk_cell BK396.out 3).trans rfl⟩ (fun hHeld => ?_)
         clear hK K
         refine norm_ (a' := ?_) ?_ ?_
         rotate_left
         ·show Act.put _ (some 46) _ = _
          simp only [Act.put, List.setIfInBounds_toArray, List.set_cons_zero, List.set_cons_succ, i64_w, i32_w]
          rfl
         refine one_ (i := 6) (N := some 47) #[true, true, true, true, true, true, true, false] rfl rfl (one_of HT_.out (by kernel_rfl)) (by decide) (fun K hK => ?_)
         refine goes_ Try.func25 (by kernel_rfl) rfl #[.slice Ao60 t400.length co60, .slice Ao61 t403.length co61] (by rfl) rfl rfl z5_ ?_
         with_reducible refine (vernierref04_Mul.calls kj20 _ _ t400 _ _ t403 t406 _ ?side1 ?side2 ?side3 ?side4 A50.out).mono ?_
         (case side1 => repeat (first | exact (Kd.R_reads' HO402.out).2.2 | (with_reducible refine Kd.C_alloc ?_ _) | (with_reducible refine Kd.C_drewN ?_ _) | (with_reducible refine Kd.C_drew ?_)))
         (case side2 => exact (Kd.R_reads' HO402.out).2.1)
         (case side3 => repeat (first | exact (Kd.R_reads' HO405.out).2.2 | (with_reducible refine Kd.C_alloc ?_ _) | (with_reducible refine Kd.C_drewN ?_ _) | (with_reducible refine Kd.C_drew ?_)))
         (case side4 => exact (Kd.R_reads' HO405.out).2.1)
         rintro e w62 ⟨v407, rfl, ho0, hb⟩
         refine ⟨_, rfl, ?_⟩
         have n0_ := Aside0.mk (Kd.R_elder' (by (with_reducible repeat (first | apply Kd.R_alloc | apply Kd.R_drewN | apply Kd.R_drew)); exact HO402.out) (Kd.R_base ho0) hb)
         have n1_ := Aside0.mk (Kd.R_elder' (by (with_reducible repeat (first | apply Kd.R_alloc | apply Kd.R_drewN | apply Kd.R_drew)); exact HO405.out) (Kd.R_base ho0) hb)
         have n2_ := Aside0.mk (Kd.R_lower (Kd.R_new' (Kd.R_new' ho0 (Kd.R_lt (by (with_reducible repeat (first | apply Kd.R_alloc | apply Kd.R_drewN | apply Kd.R_drew)); exact HO402.out))) (Kd.R_lt (by (with_reducible repeat (first | apply Kd.R_alloc | apply Kd.R_drewN | apply Kd.R_drew)); exact HO405.out))) (below_size (z3_ HB.out)))
         have n3_ := Aside0.mk (blk_below (g := gb395) (z1_ BK395.out) hb)
         have n4_ := Aside0.mk (blk_below (g := gb396) (z1_ BK396.out) hb)
         have n5_ := Aside0.mk (blk_below (g := gb397) (z1_ BK397.out) hb)
         have n6_ := Aside0.mk (below_step (z3_ HB.out) hb)
         clear HO402
         clear HO405
         clear BK395
         clear BK396
         clear BK397
         clear HB
         have HO402 := n0_
         have HO405 := n1_
         have HO408 := n2_
         have BK395 := n3_
         have BK396 := n4_
         have BK397 := n5_
         have HB := n6_
         clear n0_ n1_ n2_ n3_ n4_ n5_ n6_
         (try clear hb)
         (try clear hb2)
         (try clear hk)
         (try clear hi)
         (try clear ho0)
         refine hK.out _ _ ⟨(blk_cell BK395.out 0).trans rfl, (blk_cell BK395.out 1).trans rfl, (blk_cell BK395.out 2).trans rfl, (blk_cell BK395.out 3).trans rfl, (blk_cell BK396.out 0).trans rfl, (blk_cell BK396.out 1).trans rfl, (blk_cell BK396.out 2).trans rfl, (blk_cell BK396.out 3).trans rfl⟩ (fun hHeld => ?_)
         clear hK K
         refine norm_ (a' := ?_) ?_ ?_
         rotate_left
         ·show Act.put _ (some 47) _ = _
          simp only [Act.put, List.setIfInBounds_toArray, List.set_cons_zero, List.set_cons_succ, i64_w, i32_w]
          rfl
         refine pure_ (i := 7) (N := some 8) (v := ?_) (a' := ?_) #[true, true, true, true, true, true, true, true] rfl rfl (any_of HT_.out (by kernel_rfl)) (fun _ _ _ h => h) (Or.inl ⟨by rfl, ?_⟩) ?_ ?_
         rotate_left
         ·intro w'
          go_simp
          with_reducible rfl
         rotate_left
         ·simp only [Act.put, List.setIfInBounds_toArray, List.set_cons_zero, List.set_cons_succ, i64_w, i32_w]
          rfl
         refine done_ (done_of HT_.out (by kernel_rfl)) ?_
         have hcz63_0 := z4_ BK395.out 0 (.int .i64 a0_0) rfl
         have hcz63_1 := z4_ BK395.out 1 (.bool a0_1) rfl
         have hcz63_2 := z4_ BK395.out 2 (.int .i64 a0_2) rfl
         have hcz63_3 := z4_ BK395.out 3 (.int .u64 a0_3) rfl
         have hfz63_0 := blk_frozen BK395.out 0
         have hfz63_1 := blk_frozen BK395.out 1
         have hfz63_2 := blk_frozen BK395.out 2
         have hfz63_3 := blk_frozen BK395.out 3
         have hcz64_0 := z4_ BK396.out 0 (.int .i64 a1_0) rfl
         have hcz64_1 := z4_ BK396.out 1 (.bool a1_1) rfl
         have hcz64_2 := z4_ BK396.out 2 (.int .i64 a1_2) rfl
         have hcz64_3 := z4_ BK396.out 3 (.int .u64 a1_3) rfl
         have hfz64_0 := blk_frozen BK396.out 0
         have hfz64_1 := blk_frozen BK396.out 1
         have hfz64_2 := blk_frozen BK396.out 2
         have hfz64_3 := blk_frozen BK396.out 3
         obtain ⟨Ao65, co65, eo65⟩ := Kd.R_slice HO408.out
         subst eo65
         try go_wp2_with (first | ((with_reducible refine gate_callee (f := 27) rfl ?_); refine goesL_ (some 60) rfl rfl Try.func27 (by kernel_rfl) rfl #[.bool (a0_1 != a1_1), .slice Ao65 t406.length co65, .int .i64 (wrap64 ((wrap64 (a0_2 + a1_2)) - 126)), .bool false] rfl z5_ ?_; (with_reducible refine (vernierref07_Exactly.calls kj20 (a0_1 != a1_1) (fun k_ => some k_ = (.slice Ao65 t406.length co65 : Value).ownBlock) (.slice Ao65 t406.length co65) t406 (wrap64 ((wrap64 (a0_2 + a1_2)) - 126)) false t409 t410 t411 t412 t413 t414 w _ ?side1 ?side2 A51.out).mono ?_); (case side1 => repeat (first | (with_reducible first | exact HB.out | apply below_alloc | apply pw_below_drewN | apply below_drew1 | refine below_set ?_ GE395.out | refine below_set ?_ GE396.out | refine below_set ?_ GE397.out) | exact HB.out)); (case side2 => exact Kd.R_tight rfl HO408.out); rintro e w66 ⟨rfl, hb, hkp⟩; refine ⟨_, rfl, ?_⟩; have n0_ := Aside0.mk (blk_kept (z1_ BK395.out) hkp (fun hs_ => (fun e_ => (Kd.R_ne HO408.out BK395.out (by decide)) e_) hs_)); have n1_ := Aside0.mk (blk_kept (z1_ BK396.out) hkp (fun hs_ => (fun e_ => (Kd.R_ne HO408.out BK396.out (by decide)) e_) hs_)); have n2_ := Aside0.mk (blk_kept (z1_ BK397.out) hkp (fun hs_ => (fun e_ => (Kd.R_ne HO408.out BK397.out (by decide)) e_) hs_)); have n3_ := Aside0.mk (Kd.R_mono (ok' := fun k_ => some k_ ≠ (.slice Ao61 t403.length co61 : Value).ownBlock) (Kd.R_keptB (HO402.out) hkp (fun k_ hk_ hs_ => (hk_.2) hs_)) (fun k_ hk_ => hk_.1.1.2)); have n4_ := Aside0.mk (Kd.R_mono (ok' := fun k_ => some k_ ≠ (.slice Ao60 t400.length co60 : Value).ownBlock) (Kd.R_keptB (HO405.out) hkp (fun k_ hk_ hs_ => (hk_.2) hs_)) (fun k_ hk_ => hk_.1.1.2)); have n5_ := Aside0.mk (hb); clear BK395; clear BK396; clear BK397; clear HO402; clear HO405; clear HB; clear HO408; have BK395 := n0_; have BK396 := n1_; have BK397 := n2_; have HO402 := n3_; have HO405 := n4_; have HB := n5_; clear n0_ n1_ n2_ n3_ n4_ n5_; (try clear hb); (try clear hkp); have hcz67_0 := z4_ BK397.out 0 (.int .i64 0) rfl; have hcz67_1 := z4_ BK397.out 1 (.bool false) rfl; have hcz67_2 := z4_ BK397.out 2 (.int .i64 0) rfl; have hcz67_3 := z4_ BK397.out 3 (.int .u64 0) rfl; have hcz67_4 := z4_ BK397.out 4 (.int .u64 0) rfl; have hcz67_5 := z4_ BK397.out 5 (.bool false) rfl; have hfz67_0 := blk_frozen BK397.out 0; have hfz67_1 := blk_frozen BK397.out 1; have hfz67_2 := blk_frozen BK397.out 2; have hfz67_3 := blk_frozen BK397.out 3; have hfz67_4 := blk_frozen BK397.out 4; have hfz67_5 := blk_frozen BK397.out 5))
         refine bodyPost_ret (results_ct rfl _ _ gb397 27 #[.int .i64 t409, .bool t410, .int .i64 t411, .int .u64 t412, .int .u64 t413, .bool t414] (0, 0) _ rfl (by refine z2_ ?_; refine blk_put (cs := #[.int .i64 t409, .bool t410, .int .i64 t411, .int .u64 t412, .int .u64 t413, .bool false]) ?_ 5 _ rfl; refine z2_ ?_; refine blk_put (cs := #[.int .i64 t409, .bool t410, .int .i64 t411, .int .u64 t412, .int .u64 0, .bool false]) ?_ 4 _ rfl; refine z2_ ?_; refine blk_put (cs := #[.int .i64 t409, .bool t410, .int .i64 t411, .int .u64 0, .int .u64 0, .bool false]) ?_ 3 _ rfl; refine z2_ ?_; refine blk_put (cs := #[.int .i64 t409, .bool t410, .int .i64 0, .int .u64 0, .int .u64 0, .bool false]) ?_ 2 _ rfl; refine z2_ ?_; refine blk_put (cs := #[.int .i64 t409, .bool false, .int .i64 0, .int .u64 0, .int .u64 0, .bool false]) ?_ 1 _ rfl; refine z2_ ?_; refine blk_put (cs := #[.int .i64 0, .bool false, .int .i64 0, .int .u64 0, .int .u64 0, .bool false]) ?_ 0 _ rfl; refine z2_ ?_; exact BK397.out) Try.underlying27 rfl (by kernel_rfl)) rfl ?_
         exact ⟨by first | rfl | (simp [errW_none, errW_some] <;> rfl) | (simp [*, errW_none, errW_some] <;> rfl), by repeat (first | (with_reducible first | exact HB.out | apply below_alloc | apply pw_below_drewN | apply below_drew1 | refine below_set ?_ GE395.out | refine below_set ?_ GE396.out | refine below_set ?_ GE397.out) | exact HB.out)⟩
end Go.Proofs.Ytebhpipfkomhjaa.PAll
namespace Go.Proofs.Ytebhpipfkomhjaa.PAll
open Go.RowKit Go.Proofs.YtebhpipfkomhjaaW.PrintWords Go.Proofs.YtebhpipfkomhjaaW.PrintLast Go.Proofs.YtebhpipfkomhjaaW.PrintMore
attribute [local go_sem] max2_int min2_int max_two min_two max_three min_three max_four min_four
set_option linter.unusedVariables false
set_option linter.unusedSimpArgs false
attribute [local go_sem high] eqEE29 neEE29 eqNE29 neNE29
def vernierlaw00_further.f (a0 : Option Int) : Option (Int) := if a0.isNone = true then (some (-1)) else (if (a0.getD 0) = 13 then (some 13) else (if (a0.getD 0) = 14 then (some 14) else (if (a0.getD 0) = 15 then (some 15) else (if (a0.getD 0) = 16 then (some 16) else (if (a0.getD 0) = 17 then (some 17) else (if (a0.getD 0) = 18 then (some 18) else (if (a0.getD 0) = 19 then (some 19) else (if (a0.getD 0) = 20 then (some 20) else (if (a0.getD 0) = 21 then (some 21) else (if (a0.getD 0) = 22 then (some 22) else (if (a0.getD 0) = 23 then (some 23) else (if (a0.getD 0) = 24 then (some 24) else (some (-1))))))))))))))
set_option maxHeartbeats 8000000 in
set_option maxRecDepth 100000 in
theorem vernierlaw00_further.calls (a0 : Option Int) (r : Int) (w : World) (h : vernierlaw00_further.f a0 = some r) :
  Calls Try.prog 28 #[errW a0] w fun e w' => e = .returned (.int .i64 r) ∧ Drawn0 w w' := by
 have hu29 := Try.underlying29
 have hu42 := Try.underlying42
 have H : (if a0.isNone = true then (some (-1)) else (if (a0.getD 0) = 13 then (some 13) else (if (a0.getD 0) = 14 then (some 14) else (if (a0.getD 0) = 15 then (some 15) else (if (a0.getD 0) = 16 then (some 16) else (if (a0.getD 0) = 17 then (some 17) else (if (a0.getD 0) = 18 then (some 18) else (if (a0.getD 0) = 19 then (some 19) else (if (a0.getD 0) = 20 then (some 20) else (if (a0.getD 0) = 21 then (some 21) else (if (a0.getD 0) = 22 then (some 22) else (if (a0.getD 0) = 23 then (some 23) else (if (a0.getD 0) = 24 then (some 24) else (some (-1))))))))))))))) = some r := h
 clear h
 rcases a0 with _ | q415
 ·have H1 : (some (-1)) = some r := by rw [if_pos (show (none : Option Int).isNone = true by rfl)] at H; exact H
  clear H
  have H := H1
  clear H1
  simp only [errW_none, errW_some]
  obtain rfl := Option.some.inj H
  go_enter Try.func28, Try.ntmps28
  go_wp2
  go_ret
  exact ⟨by first | rfl | (simp; done) | (simp [*]; done), by repeat (first | exact Drawn0.refl _ | apply Drawn0.step)⟩
 ·have H1 : (if q415 = 13 then (some 13) else (if q415 = 14 then (some 14) else (if q415 = 15 then (some 15) else (if q415 = 16 then (some 16) else (if q415 = 17 then (some 17) else (if q415 = 18 then (some 18) else (if q415 = 19 then (some 19) else (if q415 = 20 then (some 20) else (if q415 = 21 then (some 21) else (if q415 = 22 then (some 22) else (if q415 = 23 then (some 23) else (if q415 = 24 then (some 24) else (some (-1)))))))))))))) = some r := by rw [if_neg (show ¬ (some q415).isNone = true by simp)] at H; exact H
  clear H
  have H := H1
  clear H1
  simp only [errW_none, errW_some]
  by_cases c2 : q415 = 13
  ·rw [if_pos c2] at H
   have c2b0 : (q415 == 13) = true := beq_iff_eq.mpr c2
   have c2b1 : (q415 != 13) = false := bne_eq_false_iff_eq.mpr c2
   clear c2
   obtain rfl := Option.some.inj H
   go_enter Try.func28, Try.ntmps28
   go_wp2
   go_ret
   exact ⟨by first | rfl | (simp; done) | (simp [*]; done), by repeat (first | exact Drawn0.refl _ | apply Drawn0.step)⟩
  ·rw [if_neg c2] at H
   have c2b0 : (q415 == 13) = false := beq_eq_false_iff_ne.mpr c2
   have c2b1 : (q415 != 13) = true := bne_iff_ne.mpr c2
   by_cases c3 : q415 = 14
   ·rw [if_pos c3] at H
    have c3b0 : (q415 == 14) = true := beq_iff_eq.mpr c3
    have c3b1 : (q415 != 14) = false := bne_eq_false_iff_eq.mpr c3
    clear c3
    obtain rfl := Option.some.inj H
    go_enter Try.func28, Try.ntmps28
    go_wp2
    go_ret
    exact ⟨by first | rfl | (simp; done) | (simp [*]; done), by repeat (first | exact Drawn0.refl _ | apply Drawn0.step)⟩
   ·rw [if_neg c3] at H
    have c3b0 : (q415 == 14) = false := beq_eq_false_iff_ne.mpr c3
    have c3b1 : (q415 != 14) = true := bne_iff_ne.mpr c3
    by_cases c4 : q415 = 15
    ·rw [if_pos c4] at H
     have c4b0 : (q415 == 15) = true := beq_iff_eq.mpr c4
     have c4b1 : (q415 != 15) = false := bne_eq_false_iff_eq.mpr c4
     clear c4
     obtain rfl := Option.some.inj H
     go_enter Try.func28, Try.ntmps28
     go_wp2
     go_ret
     exact ⟨by first | rfl | (simp; done) | (simp [*]; done), by repeat (first | exact Drawn0.refl _ | apply Drawn0.step)⟩
    ·rw [if_neg c4] at H
     have c4b0 : (q415 == 15) = false := beq_eq_false_iff_ne.mpr c4
     have c4b1 : (q415 != 15) = true := bne_iff_ne.mpr c4
     by_cases c5 : q415 = 16
     ·rw [if_pos c5] at H
      have c5b0 : (q415 == 16) = true := beq_iff_eq.mpr c5
      have c5b1 : (q415 != 16) = false := bne_eq_false_iff_eq.mpr c5
      clear c5
      obtain rfl := Option.some.inj H
      go_enter Try.func28, Try.ntmps28
      go_wp2
      go_ret
      exact ⟨by first | rfl | (simp; done) | (simp [*]; done), by repeat (first | exact Drawn0.refl _ | apply Drawn0.step)⟩
     ·rw [if_neg c5] at H
      have c5b0 : (q415 == 16) = false := beq_eq_false_iff_ne.mpr c5
      have c5b1 : (q415 != 16) = true := bne_iff_ne.mpr c5
      by_cases c6 : q415 = 17
      ·rw [if_pos c6] at H
       have c6b0 : (q415 == 17) = true := beq_iff_eq.mpr c6
       have c6b1 : (q415 != 17) = false := bne_eq_false_iff_eq.mpr c6
       clear c6
       obtain rfl := Option.some.inj H
       go_enter Try.func28, Try.ntmps28
       go_wp2
       go_ret
       exact ⟨by first | rfl | (simp; done) | (simp [*]; done), by repeat (first | exact Drawn0.refl _ | apply Drawn0.step)⟩
      ·rw [if_neg c6] at H
       have c6b0 : (q415 == 17) = false := beq_eq_false_iff_ne.mpr c6
       have c6b1 : (q415 != 17) = true := bne_iff_ne.mpr c6
       by_cases c7 : q415 = 18
       ·rw [if_pos c7] at H
        have c7b0 : (q415 == 18) = true := beq_iff_eq.mpr c7
        have c7b1 : (q415 != 18) = false := bne_eq_false_iff_eq.mpr c7
        clear c7
        obtain rfl := Option.some.inj H
        go_enter Try.func28, Try.ntmps28
        go_wp2
        go_ret
        exact ⟨by first | rfl | (simp; done) | (simp [*]; done), by repeat (first | exact Drawn0.refl _ | apply Drawn0.step)⟩
       ·rw [if_neg c7] at H
        have c7b0 : (q415 == 18) = false := beq_eq_false_iff_ne.mpr c7
        have c7b1 : (q415 != 18) = true := bne_iff_ne.mpr c7
        by_cases c8 : q415 = 19
        ·rw [if_pos c8] at H
         have c8b0 : (q415 == 19) = true := beq_iff_eq.mpr c8
         have c8b1 : (q415 != 19) = false := bne_eq_false_iff_eq.mpr c8
         clear c8
         obtain rfl := Option.some.inj H
         go_enter Try.func28, Try.ntmps28
         go_wp2
         go_ret
         exact ⟨by first | rfl | (simp; done) | (simp [*]; done), by repeat (first | exact Drawn0.refl _ | apply Drawn0.step)⟩
        ·rw [if_neg c8] at H
         have c8b0 : (q415 == 19) = false := beq_eq_false_iff_ne.mpr c8
         have c8b1 : (q415 != 19) = true := bne_iff_ne.mpr c8
         by_cases c9 : q415 = 20
         ·rw [if_pos c9] at H
          have c9b0 : (q415 == 20) = true := beq_iff_eq.mpr c9
          have c9b1 : (q415 != 20) = false := bne_eq_false_iff_eq.mpr c9
          clear c9
          obtain rfl := Option.some.inj H
          go_enter Try.func28, Try.ntmps28
          go_wp2
          go_ret
          exact ⟨by first | rfl | (simp; done) | (simp [*]; done), by repeat (first | exact Drawn0.refl _ | apply Drawn0.step)⟩
         ·rw [if_neg c9] at H
          have c9b0 : (q415 == 20) = false := beq_eq_false_iff_ne.mpr c9
          have c9b1 : (q415 != 20) = true := bne_iff_ne.mpr c9
          by_cases c10 : q415 = 21
          ·rw [if_pos c10] at H
           have c10b0 : (q415 == 21) = true := beq_iff_eq.mpr c10
           have c10b1 : (q415 != 21) = false := bne_eq_false_iff_eq.mpr c10
           clear c10
           obtain rfl := Option.some.inj H
           go_enter Try.func28, Try.ntmps28
           go_wp2
           go_ret
           exact ⟨by first | rfl | (simp; done) | (simp [*]; done), by repeat (first | exact Drawn0.refl _ | apply Drawn0.step)⟩
          ·rw [if_neg c10] at H
           have c10b0 : (q415 == 21) = false := beq_eq_false_iff_ne.mpr c10
           have c10b1 : (q415 != 21) = true := bne_iff_ne.mpr c10
           by_cases c11 : q415 = 22
           ·rw [if_pos c11] at H
            have c11b0 : (q415 == 22) = true := beq_iff_eq.mpr c11
            have c11b1 : (q415 != 22) = false := bne_eq_false_iff_eq.mpr c11
            clear c11
            obtain rfl := Option.some.inj H
            go_enter Try.func28, Try.ntmps28
            go_wp2
            go_ret
            exact ⟨by first | rfl | (simp; done) | (simp [*]; done), by repeat (first | exact Drawn0.refl _ | apply Drawn0.step)⟩
           ·rw [if_neg c11] at H
            have c11b0 : (q415 == 22) = false := beq_eq_false_iff_ne.mpr c11
            have c11b1 : (q415 != 22) = true := bne_iff_ne.mpr c11
            by_cases c12 : q415 = 23
            ·rw [if_pos c12] at H
             have c12b0 : (q415 == 23) = true := beq_iff_eq.mpr c12
             have c12b1 : (q415 != 23) = false := bne_eq_false_iff_eq.mpr c12
             clear c12
             obtain rfl := Option.some.inj H
             go_enter Try.func28, Try.ntmps28
             go_wp2
             go_ret
             exact ⟨by first | rfl | (simp; done) | (simp [*]; done), by repeat (first | exact Drawn0.refl _ | apply Drawn0.step)⟩
            ·rw [if_neg c12] at H
             have c12b0 : (q415 == 23) = false := beq_eq_false_iff_ne.mpr c12
             have c12b1 : (q415 != 23) = true := bne_iff_ne.mpr c12
             by_cases c13 : q415 = 24
             ·rw [if_pos c13] at H
              have c13b0 : (q415 == 24) = true := beq_iff_eq.mpr c13
              have c13b1 : (q415 != 24) = false := bne_eq_false_iff_eq.mpr c13
              clear c13
              obtain rfl := Option.some.inj H
              go_enter Try.func28, Try.ntmps28
              go_wp2
              go_ret
              exact ⟨by first | rfl | (simp; done) | (simp [*]; done), by repeat (first | exact Drawn0.refl _ | apply Drawn0.step)⟩
             ·rw [if_neg c13] at H
              have c13b0 : (q415 == 24) = false := beq_eq_false_iff_ne.mpr c13
              have c13b1 : (q415 != 24) = true := bne_iff_ne.mpr c13
              obtain rfl := Option.some.inj H
              go_enter Try.func28, Try.ntmps28
              go_wp2
              go_ret
              exact ⟨by first | rfl | (simp; done) | (simp [*]; done), by repeat (first | exact Drawn0.refl _ | apply Drawn0.step)⟩
-- ERRCMP
end Go.Proofs.Ytebhpipfkomhjaa.PAll
namespace Go.Proofs.Ytebhpipfkomhjaa.PAll
open Go.RowKit Go.Proofs.YtebhpipfkomhjaaW.PrintWords Go.Proofs.YtebhpipfkomhjaaW.PrintLast Go.Proofs.YtebhpipfkomhjaaW.PrintMore
attribute [local go_sem] max2_int min2_int max_two min_two max_three min_three max_four min_four
set_option linter.unusedVariables false
set_option linter.unusedSimpArgs false
attribute [local go_sem high] eqEE29 neEE29 eqNE29 neNE29
def vernierlaw00_Code.f (a0 : Option Int) : Option (Int) := if a0.isNone = true then (some 0) else (if (a0.getD 0) = 1 then (some 1) else (if (a0.getD 0) = 2 then (some 2) else (if (a0.getD 0) = 3 then (some 3) else (if (a0.getD 0) = 4 then (some 4) else (if (a0.getD 0) = 5 then (some 5) else (if (a0.getD 0) = 6 then (some 6) else (if (a0.getD 0) = 7 then (some 7) else (if (a0.getD 0) = 8 then (some 8) else (if (a0.getD 0) = 9 then (some 9) else (if (a0.getD 0) = 10 then (some 10) else (if (a0.getD 0) = 11 then (some 11) else (if (a0.getD 0) = 12 then (some 12) else ((vernierlaw00_further.f (some (a0.getD 0))).bind fun t417 => (some t417))))))))))))))
set_option maxHeartbeats 8000000 in
set_option maxRecDepth 100000 in
theorem vernierlaw00_Code.calls (a0 : Option Int) (r : Int) (w : World) (h : vernierlaw00_Code.f a0 = some r) :
  Calls Try.prog 11 #[errW a0] w fun e w' => e = .returned (.int .i64 r) ∧ Drawn0 w w' := by
 have hu29 := Try.underlying29
 have hu42 := Try.underlying42
 have H : (if a0.isNone = true then (some 0) else (if (a0.getD 0) = 1 then (some 1) else (if (a0.getD 0) = 2 then (some 2) else (if (a0.getD 0) = 3 then (some 3) else (if (a0.getD 0) = 4 then (some 4) else (if (a0.getD 0) = 5 then (some 5) else (if (a0.getD 0) = 6 then (some 6) else (if (a0.getD 0) = 7 then (some 7) else (if (a0.getD 0) = 8 then (some 8) else (if (a0.getD 0) = 9 then (some 9) else (if (a0.getD 0) = 10 then (some 10) else (if (a0.getD 0) = 11 then (some 11) else (if (a0.getD 0) = 12 then (some 12) else ((vernierlaw00_further.f (some (a0.getD 0))).bind fun t417 => (some t417))))))))))))))) = some r := h
 clear h
 rcases a0 with _ | q416
 ·have H1 : (some 0) = some r := by rw [if_pos (show (none : Option Int).isNone = true by rfl)] at H; exact H
  clear H
  have H := H1
  clear H1
  simp only [errW_none, errW_some]
  obtain rfl := Option.some.inj H
  go_enter Try.func11, Try.ntmps11
  go_wp2
  go_ret
  exact ⟨by first | rfl | (simp; done) | (simp [*]; done), by repeat (first | exact Drawn0.refl _ | apply Drawn0.step)⟩
 ·have H1 : (if q416 = 1 then (some 1) else (if q416 = 2 then (some 2) else (if q416 = 3 then (some 3) else (if q416 = 4 then (some 4) else (if q416 = 5 then (some 5) else (if q416 = 6 then (some 6) else (if q416 = 7 then (some 7) else (if q416 = 8 then (some 8) else (if q416 = 9 then (some 9) else (if q416 = 10 then (some 10) else (if q416 = 11 then (some 11) else (if q416 = 12 then (some 12) else ((vernierlaw00_further.f (some q416)).bind fun t417 => (some t417)))))))))))))) = some r := by rw [if_neg (show ¬ (some q416).isNone = true by simp)] at H; exact H
  clear H
  have H := H1
  clear H1
  simp only [errW_none, errW_some]
  by_cases c2 : q416 = 1
  ·rw [if_pos c2] at H
   have c2b0 : (q416 == 1) = true := beq_iff_eq.mpr c2
   have c2b1 : (q416 != 1) = false := bne_eq_false_iff_eq.mpr c2
   clear c2
   obtain rfl := Option.some.inj H
   go_enter Try.func11, Try.ntmps11
   go_wp2
   go_ret
   exact ⟨by first | rfl | (simp; done) | (simp [*]; done), by repeat (first | exact Drawn0.refl _ | apply Drawn0.step)⟩
  ·rw [if_neg c2] at H
   have c2b0 : (q416 == 1) = false := beq_eq_false_iff_ne.mpr c2
   have c2b1 : (q416 != 1) = true := bne_iff_ne.mpr c2
   by_cases c3 : q416 = 2
   ·rw [if_pos c3] at H
    have c3b0 : (q416 == 2) = true := beq_iff_eq.mpr c3
    have c3b1 : (q416 != 2) = false := bne_eq_false_iff_eq.mpr c3
    clear c3
    obtain rfl := Option.some.inj H
    go_enter Try.func11, Try.ntmps11
    go_wp2
    go_ret
    exact ⟨by first | rfl | (simp; done) | (simp [*]; done), by repeat (first | exact Drawn0.refl _ | apply Drawn0.step)⟩
   ·rw [if_neg c3] at H
    have c3b0 : (q416 == 2) = false := beq_eq_false_iff_ne.mpr c3
    have c3b1 : (q416 != 2) = true := bne_iff_ne.mpr c3
    by_cases c4 : q416 = 3
    ·rw [if_pos c4] at H
     have c4b0 : (q416 == 3) = true := beq_iff_eq.mpr c4
     have c4b1 : (q416 != 3) = false := bne_eq_false_iff_eq.mpr c4
     clear c4
     obtain rfl := Option.some.inj H
     go_enter Try.func11, Try.ntmps11
     go_wp2
     go_ret
     exact ⟨by first | rfl | (simp; done) | (simp [*]; done), by repeat (first | exact Drawn0.refl _ | apply Drawn0.step)⟩
    ·rw [if_neg c4] at H
     have c4b0 : (q416 == 3) = false := beq_eq_false_iff_ne.mpr c4
     have c4b1 : (q416 != 3) = true := bne_iff_ne.mpr c4
     by_cases c5 : q416 = 4
     ·rw [if_pos c5] at H
      have c5b0 : (q416 == 4) = true := beq_iff_eq.mpr c5
      have c5b1 : (q416 != 4) = false := bne_eq_false_iff_eq.mpr c5
      clear c5
      obtain rfl := Option.some.inj H
      go_enter Try.func11, Try.ntmps11
      go_wp2
      go_ret
      exact ⟨by first | rfl | (simp; done) | (simp [*]; done), by repeat (first | exact Drawn0.refl _ | apply Drawn0.step)⟩
     ·rw [if_neg c5] at H
      have c5b0 : (q416 == 4) = false := beq_eq_false_iff_ne.mpr c5
      have c5b1 : (q416 != 4) = true := bne_iff_ne.mpr c5
      by_cases c6 : q416 = 5
      ·rw [if_pos c6] at H
       have c6b0 : (q416 == 5) = true := beq_iff_eq.mpr c6
       have c6b1 : (q416 != 5) = false := bne_eq_false_iff_eq.mpr c6
       clear c6
       obtain rfl := Option.some.inj H
       go_enter Try.func11, Try.ntmps11
       go_wp2
       go_ret
       exact ⟨by first | rfl | (simp; done) | (simp [*]; done), by repeat (first | exact Drawn0.refl _ | apply Drawn0.step)⟩
      ·rw [if_neg c6] at H
       have c6b0 : (q416 == 5) = false := beq_eq_false_iff_ne.mpr c6
       have c6b1 : (q416 != 5) = true := bne_iff_ne.mpr c6
       by_cases c7 : q416 = 6
       ·rw [if_pos c7] at H
        have c7b0 : (q416 == 6) = true := beq_iff_eq.mpr c7
        have c7b1 : (q416 != 6) = false := bne_eq_false_iff_eq.mpr c7
        clear c7
        obtain rfl := Option.some.inj H
        go_enter Try.func11, Try.ntmps11
        go_wp2
        go_ret
        exact ⟨by first | rfl | (simp; done) | (simp [*]; done), by repeat (first | exact Drawn0.refl _ | apply Drawn0.step)⟩
       ·rw [if_neg c7] at H
        have c7b0 : (q416 == 6) = false := beq_eq_false_iff_ne.mpr c7
        have c7b1 : (q416 != 6) = true := bne_iff_ne.mpr c7
        by_cases c8 : q416 = 7
        ·rw [if_pos c8] at H
         have c8b0 : (q416 == 7) = true := beq_iff_eq.mpr c8
         have c8b1 : (q416 != 7) = false := bne_eq_false_iff_eq.mpr c8
         clear c8
         obtain rfl := Option.some.inj H
         go_enter Try.func11, Try.ntmps11
         go_wp2
         go_ret
         exact ⟨by first | rfl | (simp; done) | (simp [*]; done), by repeat (first | exact Drawn0.refl _ | apply Drawn0.step)⟩
        ·rw [if_neg c8] at H
         have c8b0 : (q416 == 7) = false := beq_eq_false_iff_ne.mpr c8
         have c8b1 : (q416 != 7) = true := bne_iff_ne.mpr c8
         by_cases c9 : q416 = 8
         ·rw [if_pos c9] at H
          have c9b0 : (q416 == 8) = true := beq_iff_eq.mpr c9
          have c9b1 : (q416 != 8) = false := bne_eq_false_iff_eq.mpr c9
          clear c9
          obtain rfl := Option.some.inj H
          go_enter Try.func11, Try.ntmps11
          go_wp2
          go_ret
          exact ⟨by first | rfl | (simp; done) | (simp [*]; done), by repeat (first | exact Drawn0.refl _ | apply Drawn0.step)⟩
         ·rw [if_neg c9] at H
          have c9b0 : (q416 == 8) = false := beq_eq_false_iff_ne.mpr c9
          have c9b1 : (q416 != 8) = true := bne_iff_ne.mpr c9
          by_cases c10 : q416 = 9
          ·rw [if_pos c10] at H
           have c10b0 : (q416 == 9) = true := beq_iff_eq.mpr c10
           have c10b1 : (q416 != 9) = false := bne_eq_false_iff_eq.mpr c10
           clear c10
           obtain rfl := Option.some.inj H
           go_enter Try.func11, Try.ntmps11
           go_wp2
           go_ret
           exact ⟨by first | rfl | (simp; done) | (simp [*]; done), by repeat (first | exact Drawn0.refl _ | apply Drawn0.step)⟩
          ·rw [if_neg c10] at H
           have c10b0 : (q416 == 9) = false := beq_eq_false_iff_ne.mpr c10
           have c10b1 : (q416 != 9) = true := bne_iff_ne.mpr c10
           by_cases c11 : q416 = 10
           ·rw [if_pos c11] at H
            have c11b0 : (q416 == 10) = true := beq_iff_eq.mpr c11
            have c11b1 : (q416 != 10) = false := bne_eq_false_iff_eq.mpr c11
            clear c11
            obtain rfl := Option.some.inj H
            go_enter Try.func11, Try.ntmps11
            go_wp2
            go_ret
            exact ⟨by first | rfl | (simp; done) | (simp [*]; done), by repeat (first | exact Drawn0.refl _ | apply Drawn0.step)⟩
           ·rw [if_neg c11] at H
            have c11b0 : (q416 == 10) = false := beq_eq_false_iff_ne.mpr c11
            have c11b1 : (q416 != 10) = true := bne_iff_ne.mpr c11
            by_cases c12 : q416 = 11
            ·rw [if_pos c12] at H
             have c12b0 : (q416 == 11) = true := beq_iff_eq.mpr c12
             have c12b1 : (q416 != 11) = false := bne_eq_false_iff_eq.mpr c12
             clear c12
             obtain rfl := Option.some.inj H
             go_enter Try.func11, Try.ntmps11
             go_wp2
             go_ret
             exact ⟨by first | rfl | (simp; done) | (simp [*]; done), by repeat (first | exact Drawn0.refl _ | apply Drawn0.step)⟩
            ·rw [if_neg c12] at H
             have c12b0 : (q416 == 11) = false := beq_eq_false_iff_ne.mpr c12
             have c12b1 : (q416 != 11) = true := bne_iff_ne.mpr c12
             by_cases c13 : q416 = 12
             ·rw [if_pos c13] at H
              have c13b0 : (q416 == 12) = true := beq_iff_eq.mpr c13
              have c13b1 : (q416 != 12) = false := bne_eq_false_iff_eq.mpr c13
              clear c13
              obtain rfl := Option.some.inj H
              go_enter Try.func11, Try.ntmps11
              go_wp2
              go_ret
              exact ⟨by first | rfl | (simp; done) | (simp [*]; done), by repeat (first | exact Drawn0.refl _ | apply Drawn0.step)⟩
             ·rw [if_neg c13] at H
              have c13b0 : (q416 == 12) = false := beq_eq_false_iff_ne.mpr c13
              have c13b1 : (q416 != 12) = true := bne_iff_ne.mpr c13
              replace H := Option.bind_eq_some_iff.mp H
              obtain ⟨t417, A140, H⟩ := H
              replace H : (some t417) = some r := H
              have A14 := Aside0.mk A140
              clear A140
              obtain rfl := Option.some.inj H
              have CA14 := fun W => vernierlaw00_further.calls (some q416) t417 W A14.out
              try simp only [errW_none, errW_some] at CA14
              go_enter Try.func11, Try.ntmps11
              go_wp2_with (first | (go_at_call 28; (with_reducible refine (CA14 _).mono ?_); rintro e w' ⟨rfl, ⟨nd, rfl⟩⟩))
              go_ret
              exact ⟨by first | rfl | (simp; done) | (simp [*]; done), by repeat (first | exact Drawn0.refl _ | apply Drawn0.step)⟩
-- ERRCMP
end Go.Proofs.Ytebhpipfkomhjaa.PAll
