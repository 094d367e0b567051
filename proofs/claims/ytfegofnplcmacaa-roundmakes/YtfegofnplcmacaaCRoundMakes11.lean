-- Written by a program of this session out of its own texts (wip/tools/link.py).
import Derived.ArgAppend
import Derived.Below
import Derived.BigQuiet
import Derived.Deep.AppendLies
import Derived.Deep.CutBlock
import Derived.Deep.DeepCutAuto
import Derived.Deep.Draws
import Derived.Deep.LoopGhost
import Derived.Deep.OwnRows
import Derived.Deep.QuietTactic
import Derived.Deep.RegionHeld3
import Derived.KernelRfl
import Derived.LaidEql
import Derived.Laws.BitsLemmas
import Derived.Laws.BytesArg
import Derived.Laws.IdiomCopy
import Derived.Laws.MakeOwn
import Derived.Laws.OwnMore
import Derived.Laws.Rows
import Derived.Laws.Slices
import Derived.Laws.StructEq
import Derived.Lib.AppendStr
import Derived.Lib.BitFns
import Derived.Lib.ConvBytes
import Derived.Lib.Slices
import Derived.Lib.Small
import Derived.Lib.Strings
import Derived.Lib.Walk
import Derived.Maps.AppendAt
import Derived.OrdersHeld
import Derived.OwnWalk
import Derived.RowKit
import Derived.RowKit3
import Derived.Tactics
import Derived.Test.YtfegofnplcmacaaProg
import Derived.WalkKit
import Derived.WideLaws
import Derived.Test.YtfegofnplcmacaaCRoundMakes7
import Derived.Test.YtfegofnplcmacaaCRoundMakes8
import Derived.Test.YtfegofnplcmacaaCRoundMakes9
import Derived.Test.YtfegofnplcmacaaCRoundMakes10
namespace Go.Proofs.Ytfegofnplcmacaa.PAll
open Go.RowKit Go.Proofs.YtfegofnplcmacaaW.PrintWords Go.Proofs.YtfegofnplcmacaaW.PrintLast Go.Proofs.YtfegofnplcmacaaW.PrintMore
attribute [local go_sem] max2_int min2_int max_two min_two max_three min_three max_four min_four
set_option linter.unusedVariables false
set_option linter.unusedSimpArgs false
mutual
def vernierref07_Exactly.j0 : Nat → List Int → Bool → Int → Int → Bool → Int → Int → Int → Bool → Option (Int × Bool × Int × Int × Int × Bool)
  | 0, _, _, _, _, _, _, _, _, _ => none
  | k + 1, x1, x3, x9, x386000, x386001, x386002, x386003, x386004, x386005 => if x9 > 128 then ((vernierref04_Low.f k x1 (wrap64 (x9 - 128))).bind fun t389 => (if x3 = true then (vernierref07_Exactly.j1 k x1 x9 x386000 x386001 x386002 x386003 x386004 true) else (vernierref07_Exactly.j1 k x1 x9 x386000 x386001 x386002 x386003 x386004 t389))) else ((vernierref04_Word.f k x1).bind fun t398 => ((vernierref04_Shr.f k x1 64).bind fun t399 => ((vernierref04_Word.f k t399).bind fun t402 => (some (x386000, x386001, x386002, t402, t398, x386005)))))
def vernierref07_Exactly.j1 : Nat → List Int → Int → Int → Bool → Int → Int → Int → Bool → Option (Int × Bool × Int × Int × Int × Bool)
  | 0, _, _, _, _, _, _, _, _ => none
  | k + 1, x1, x9, x386000, x386001, x386002, x386003, x386004, x386005 => (vernierref04_Shr.f k x1 (wrap64 (x9 - 128))).bind fun t390 => ((vernierref04_Word.f k t390).bind fun t393 => ((vernierref04_Shr.f k t390 64).bind fun t394 => ((vernierref04_Word.f k t394).bind fun t397 => (some (x386000, x386001, x386002, t397, t393, x386005)))))
end
def vernierref07_Exactly.f (k : Nat) (a0 : Bool) (l1 : List Int) (a2 : Int) (a3 : Bool) : Option (Int × Bool × Int × Int × Int × Bool) := (vernierref04_Bits.f k l1).bind fun t383 => (if t383 = 0 then (some (0, false, 0, 0, 0, false)) else ((vernierref07_Held.f (wrap64 ((wrap64 (a2 + t383)) - 1))).bind fun t384 => (if t383 < 128 then ((vernierref04_Shl.f k l1 (wrap64 (128 - t383))).bind fun t386 => (vernierref07_Exactly.j0 k t386 a3 t383 1 a0 t384 0 0 a3)) else (vernierref07_Exactly.j0 k l1 a3 t383 1 a0 t384 0 0 a3))))
theorem vernierref07_Exactly.mono_l : ∀ k, (∀ y0 y1 y2 y3 y4 y5 y6 y7 y8, LeO (vernierref07_Exactly.j0 k y0 y1 y2 y3 y4 y5 y6 y7 y8) (vernierref07_Exactly.j0 (k + 1) y0 y1 y2 y3 y4 y5 y6 y7 y8)) ∧ (∀ y0 y1 y2 y3 y4 y5 y6 y7, LeO (vernierref07_Exactly.j1 k y0 y1 y2 y3 y4 y5 y6 y7) (vernierref07_Exactly.j1 (k + 1) y0 y1 y2 y3 y4 y5 y6 y7))
  | 0 => ⟨fun _ _ _ _ _ _ _ _ _ r h => by simp [vernierref07_Exactly.j0] at h, fun _ _ _ _ _ _ _ _ r h => by simp [vernierref07_Exactly.j1] at h⟩
  | k + 1 => by
    obtain ⟨ih0, ih1⟩ := vernierref07_Exactly.mono_l k
    refine ⟨?_, ?_⟩
    · intro y0 y1 y2 y3 y4 y5 y6 y7 y8
      unfold vernierref07_Exactly.j0
      repeat' first
      | (with_reducible exact ih0 _ _ _ _ _ _ _ _ _)
      | (with_reducible exact ih1 _ _ _ _ _ _ _ _)
      | (with_reducible exact vernierref04_Bits.mono _ _)
      | (with_reducible exact vernierref04_Low.mono _ _ _)
      | (with_reducible exact vernierref04_Shl.mono _ _ _)
      | (with_reducible exact vernierref04_Shr.mono _ _ _)
      | (with_reducible exact vernierref04_Word.mono _ _)
      | (with_reducible exact LeO.refl _)
      | (with_reducible exact LeO.none _)
      | (with_reducible refine LeO.ite ?_ ?_)
      | (with_reducible refine LeO.bind ?_ (fun _ => ?_))
      | exact ih0 _ _ _ _ _ _ _ _ _
      | exact ih1 _ _ _ _ _ _ _ _
      | exact vernierref04_Bits.mono _ _
      | exact vernierref04_Low.mono _ _ _
      | exact vernierref04_Shl.mono _ _ _
      | exact vernierref04_Shr.mono _ _ _
      | exact vernierref04_Word.mono _ _
      | exact LeO.none _
      | refine LeO.ite ?_ ?_
      | refine LeO.bind ?_ (fun _ => ?_)
    · intro y0 y1 y2 y3 y4 y5 y6 y7
      unfold vernierref07_Exactly.j1
      repeat' first
      | (with_reducible exact ih0 _ _ _ _ _ _ _ _ _)
      | (with_reducible exact ih1 _ _ _ _ _ _ _ _)
      | (with_reducible exact vernierref04_Bits.mono _ _)
      | (with_reducible exact vernierref04_Low.mono _ _ _)
      | (with_reducible exact vernierref04_Shl.mono _ _ _)
      | (with_reducible exact vernierref04_Shr.mono _ _ _)
      | (with_reducible exact vernierref04_Word.mono _ _)
      | (with_reducible exact LeO.refl _)
      | (with_reducible exact LeO.none _)
      | (with_reducible refine LeO.ite ?_ ?_)
      | (with_reducible refine LeO.bind ?_ (fun _ => ?_))
      | exact ih0 _ _ _ _ _ _ _ _ _
      | exact ih1 _ _ _ _ _ _ _ _
      | exact vernierref04_Bits.mono _ _
      | exact vernierref04_Low.mono _ _ _
      | exact vernierref04_Shl.mono _ _ _
      | exact vernierref04_Shr.mono _ _ _
      | exact vernierref04_Word.mono _ _
      | exact LeO.none _
      | refine LeO.ite ?_ ?_
      | refine LeO.bind ?_ (fun _ => ?_)
theorem vernierref07_Exactly.mono : ∀ a0 a1 a2 a3 k, LeO (vernierref07_Exactly.f k a0 a1 a2 a3) (vernierref07_Exactly.f (k + 1) a0 a1 a2 a3) := by
  intro a0 a1 a2 a3 k
  obtain ⟨ih0, ih1⟩ := vernierref07_Exactly.mono_l k
  unfold vernierref07_Exactly.f
  repeat' first
      | (with_reducible exact ih0 _ _ _ _ _ _ _ _ _)
      | (with_reducible exact ih1 _ _ _ _ _ _ _ _)
      | (with_reducible exact vernierref04_Bits.mono _ _)
      | (with_reducible exact vernierref04_Low.mono _ _ _)
      | (with_reducible exact vernierref04_Shl.mono _ _ _)
      | (with_reducible exact vernierref04_Shr.mono _ _ _)
      | (with_reducible exact vernierref04_Word.mono _ _)
      | (with_reducible exact LeO.refl _)
      | (with_reducible exact LeO.none _)
      | (with_reducible refine LeO.ite ?_ ?_)
      | (with_reducible refine LeO.bind ?_ (fun _ => ?_))
      | exact ih0 _ _ _ _ _ _ _ _ _
      | exact ih1 _ _ _ _ _ _ _ _
      | exact vernierref04_Bits.mono _ _
      | exact vernierref04_Low.mono _ _ _
      | exact vernierref04_Shl.mono _ _ _
      | exact vernierref04_Shr.mono _ _ _
      | exact vernierref04_Word.mono _ _
      | exact LeO.none _
      | refine LeO.ite ?_ ?_
      | refine LeO.bind ?_ (fun _ => ?_)
set_option maxHeartbeats 8000000 in
set_option maxRecDepth 100000 in
theorem vernierref07_Exactly.calls (k : Nat) (a0 : Bool) (P1_ : Nat → Prop) (u9000_ : Value) (l1 : List Int) (a2 : Int) (a3 : Bool) (r1 : Int) (r2 : Bool) (r3 : Int) (r4 : Int) (r5 : Int) (r6 : Bool) (w0 w : World) (hB : Below w0.heap.size w0 w) (ho1 : Kd.R (Kd.int .i64) 3 w w0.heap.size P1_ u9000_ l1) (h : vernierref07_Exactly.f k a0 l1 a2 a3 = some (r1, r2, r3, r4, r5, r6)) :
    Calls Try.prog 48 #[.bool a0, u9000_, .int .i64 a2, .bool a3] w fun e w' => e = .returned (.agg #[.int .i64 r1, .bool r2, .int .i64 r3, .int .u64 r4, .int .u64 r5, .bool r6]) ∧ Below w0.heap.size w0 w' ∧ Kept w w' (fun k_ => P1_ k_) := by
  have hu24 := Try.underlying24
  have HO1 := Aside0.mk (show Kd.R (Kd.int .i64) 3 w w0.heap.size (fun k_ => (P1_ k_ ∨ w.heap.size ≤ k_)) u9000_ l1 from Kd.R_mono ho1 (fun k_ hk => (.inl hk)))
  have HK := Aside0.mk (Kept.refl w (fun k_ => P1_ k_))
  have HW0 := Aside0.mk hB.size
  have HB := Aside0.mk hB
  clear hB
  have H : ((vernierref04_Bits.f k l1).bind fun t383 => (if t383 = 0 then (some (0, false, 0, 0, 0, false)) else ((vernierref07_Held.f (wrap64 ((wrap64 (a2 + t383)) - 1))).bind fun t384 => (if t383 < 128 then ((vernierref04_Shl.f k l1 (wrap64 (128 - t383))).bind fun t386 => (vernierref07_Exactly.j0 k t386 a3 t383 1 a0 t384 0 0 a3)) else (vernierref07_Exactly.j0 k l1 a3 t383 1 a0 t384 0 0 a3))))) = some (r1, r2, r3, r4, r5, r6) := h
  clear h
  replace H := Option.bind_eq_some_iff.mp H
  obtain ⟨t383, A50, H⟩ := H
  replace H : (if t383 = 0 then (some (0, false, 0, 0, 0, false)) else ((vernierref07_Held.f (wrap64 ((wrap64 (a2 + t383)) - 1))).bind fun t384 => (if t383 < 128 then ((vernierref04_Shl.f k l1 (wrap64 (128 - t383))).bind fun t386 => (vernierref07_Exactly.j0 k t386 a3 t383 1 a0 t384 0 0 a3)) else (vernierref07_Exactly.j0 k l1 a3 t383 1 a0 t384 0 0 a3)))) = some (r1, r2, r3, r4, r5, r6) := H
  have A5 := Aside0.mk A50
  clear A50
  by_cases c6 : t383 = 0
  · rw [if_pos c6] at H
    have c6b0 : (t383 == 0) = true := beq_iff_eq.mpr c6
    have c6b1 : (t383 != 0) = false := bne_eq_false_iff_eq.mpr c6
    clear c6
    simp only [Option.some.injEq, Prod.mk.injEq] at H
    obtain ⟨rfl, rfl, rfl, rfl, rfl, rfl⟩ := H
    go_enter Try.func48, Try.ntmps48
    go_wp2_with (first | ((with_reducible refine gate_dst (N := 8) rfl ?_); refine box_event ?hg (N := 8) ?hd (cs := #[.int .i64 0, .bool false, .int .i64 0, .int .u64 0, .int .u64 0, .bool false]) (t := 24) ?hr ?_; (case hd => rfl); (case hg => rfl); (case hr => first | (go_simp; done) | (go_simp; rfl)); intro gb382 hg w7 hbox hb; have n0_ := Aside0.mk (Kd.R_below (by (with_reducible repeat (first | apply Kd.R_alloc | apply Kd.R_drewN | apply Kd.R_drew)); exact HO1.out) hb); have n1_ := Aside0.mk (Kept.below (S := (fun k_ => P1_ k_)) (by repeat (first | (with_reducible first | exact HK.out | apply Kept.alloc | apply Kept.drewN | apply Kept.drew) | exact HK.out)) hb); have n2_ := Aside0.mk (below_step (by repeat (first | (with_reducible first | exact HB.out | apply below_alloc | apply pw_below_drewN | apply below_drew1) | exact HB.out)) hb); have n3_ := Aside0.mk (hbox); have n4_ := Aside0.mk ((by rw [hg]; exact (by first | exact HK.out.1 | exact (show Kept w _ (fun k_ => P1_ k_) from by repeat (first | (with_reducible first | exact HK.out | apply Kept.alloc | apply Kept.drewN | apply Kept.drew) | exact HK.out)).1) : w.heap.size ≤ gb382)); have n5_ := Aside0.mk ((by rw [hg]; exact (below_size (by repeat (first | (with_reducible first | exact HB.out | apply below_alloc | apply pw_below_drewN | apply below_drew1) | exact HB.out))) : w0.heap.size ≤ gb382)); clear HO1; clear HK; clear HB; have HO1 := n0_; have HK := n1_; have HB := n2_; have BK382 := n3_; have GW382 := n4_; have GE382 := n5_; clear n0_ n1_ n2_ n3_ n4_ n5_; clear hb hbox hg; obtain ⟨Ao8, co8, eo8⟩ := Kd.R_slice HO1.out; subst eo8) | ((with_reducible refine gate_callee (f := 62) rfl ?_); refine goesL_ (some 13) rfl rfl Try.func62 (by kernel_rfl) rfl #[.slice Ao8 l1.length co8] rfl (by (try simp only [List.map_toArray, List.map_cons, List.map_nil]); first | done | rfl | (simp only [List.length_drop, List.length_take]; rfl)) ?_; (with_reducible refine (vernierref04_Bits.calls k _ _ l1 t383 _ ?side1 ?side2 A5.out).mono ?_); (case side1 => repeat (first | exact (Kd.R_reads' HO1.out).2.2 | (with_reducible refine Kd.C_alloc ?_ _) | (with_reducible refine Kd.C_drewN ?_ _) | (with_reducible refine Kd.C_drew ?_))); (case side2 => exact (Kd.R_reads' HO1.out).2.1); rintro e w' ⟨rfl, ⟨nd, rfl⟩⟩; refine ⟨_, rfl, ?_⟩; (try (rw [drewN_self w7]; generalize hq_ : World.drewN w7 _ = w7; have n0_ : Aside0 (Kd.R (Kd.int .i64) 3 w7 w0.heap.size (fun k_ => (P1_ k_ ∨ w.heap.size ≤ k_)) (.slice Ao8 l1.length co8) l1) := ⟨by rw [← hq_]; exact (by (with_reducible repeat (first | apply Kd.R_alloc | apply Kd.R_drewN | apply Kd.R_drew)); exact HO1.out)⟩; have n1_ : Aside0 (w7.heap[gb382]? = some (.cells #[.int .i64 0, .bool false, .int .i64 0, .int .u64 0, .int .u64 0, .bool false] 24 (0, 0))) := ⟨by rw [← hq_]; exact (by (with_reducible repeat (first | refine blk_drewN ?_ _ | refine blk_drew ?_ | refine blk_alloc ?_ _)); exact BK382.out)⟩; have n2_ : Aside0 (Kept w w7 (fun k_ => P1_ k_)) := ⟨by rw [← hq_]; exact (by repeat (first | (with_reducible first | exact HK.out | apply Kept.alloc | apply Kept.drewN | apply Kept.drew | refine Kept.setCell ?_ (.inr GW382.out) _) | exact HK.out))⟩; have n3_ : Aside0 (Below w0.heap.size w0 w7) := ⟨by rw [← hq_]; exact (by repeat (first | (with_reducible first | exact HB.out | apply below_alloc | apply pw_below_drewN | apply below_drew1 | refine below_set ?_ GE382.out) | exact HB.out))⟩; clear HO1 BK382 HK HB hq_; have HO1 := n0_; have BK382 := n1_; have HK := n2_; have HB := n3_; clear n0_ n1_ n2_ n3_)); have hcz9_0 : w7.cell? ⟨gb382, 0, none⟩ = some (.int .i64 0) := (blk_cell BK382.out 0).trans rfl; have hcz9_1 : w7.cell? ⟨gb382, 1, none⟩ = some (.bool false) := (blk_cell BK382.out 1).trans rfl; have hcz9_2 : w7.cell? ⟨gb382, 2, none⟩ = some (.int .i64 0) := (blk_cell BK382.out 2).trans rfl; have hcz9_3 : w7.cell? ⟨gb382, 3, none⟩ = some (.int .u64 0) := (blk_cell BK382.out 3).trans rfl; have hcz9_4 : w7.cell? ⟨gb382, 4, none⟩ = some (.int .u64 0) := (blk_cell BK382.out 4).trans rfl; have hcz9_5 : w7.cell? ⟨gb382, 5, none⟩ = some (.bool false) := (blk_cell BK382.out 5).trans rfl; have hfz9_0 := blk_frozen BK382.out 0; have hfz9_1 := blk_frozen BK382.out 1; have hfz9_2 := blk_frozen BK382.out 2; have hfz9_3 := blk_frozen BK382.out 3; have hfz9_4 := blk_frozen BK382.out 4; have hfz9_5 := blk_frozen BK382.out 5))
    refine bodyPost_ret (results_cell_row rfl _ _ gb382 24 #[.int .i64 0, .bool false, .int .i64 0, .int .u64 0, .int .u64 0, .bool false] (0, 0) _ rfl (by (with_reducible repeat (first | refine blk_drewN ?_ _ | refine blk_drew ?_ | refine blk_alloc ?_ _)); refine blk_put (cs := #[.int .i64 0, .bool false, .int .i64 0, .int .u64 0, .int .u64 0, .bool false]) ?_ 5 _ rfl; (with_reducible repeat (first | refine blk_drewN ?_ _ | refine blk_drew ?_ | refine blk_alloc ?_ _)); refine blk_put (cs := #[.int .i64 0, .bool false, .int .i64 0, .int .u64 0, .int .u64 0, .bool false]) ?_ 4 _ rfl; (with_reducible repeat (first | refine blk_drewN ?_ _ | refine blk_drew ?_ | refine blk_alloc ?_ _)); refine blk_put (cs := #[.int .i64 0, .bool false, .int .i64 0, .int .u64 0, .int .u64 0, .bool false]) ?_ 3 _ rfl; (with_reducible repeat (first | refine blk_drewN ?_ _ | refine blk_drew ?_ | refine blk_alloc ?_ _)); refine blk_put (cs := #[.int .i64 0, .bool false, .int .i64 0, .int .u64 0, .int .u64 0, .bool false]) ?_ 2 _ rfl; (with_reducible repeat (first | refine blk_drewN ?_ _ | refine blk_drew ?_ | refine blk_alloc ?_ _)); refine blk_put (cs := #[.int .i64 0, .bool false, .int .i64 0, .int .u64 0, .int .u64 0, .bool false]) ?_ 1 _ rfl; (with_reducible repeat (first | refine blk_drewN ?_ _ | refine blk_drew ?_ | refine blk_alloc ?_ _)); refine blk_put (cs := #[.int .i64 0, .bool false, .int .i64 0, .int .u64 0, .int .u64 0, .bool false]) ?_ 0 _ rfl; (with_reducible repeat (first | refine blk_drewN ?_ _ | refine blk_drew ?_ | refine blk_alloc ?_ _)); exact BK382.out) Try.underlying24 rfl (by kernel_rfl)) rfl ?_
    exact ⟨by first | rfl | (simp [errW_none, errW_some] <;> rfl) | (simp [*, errW_none, errW_some] <;> rfl), by repeat (first | (with_reducible first | exact HB.out | apply below_alloc | apply pw_below_drewN | apply below_drew1 | refine below_set ?_ GE382.out) | exact HB.out), by repeat (first | (with_reducible first | exact HK.out | apply Kept.alloc | apply Kept.drewN | apply Kept.drew | refine Kept.setCell ?_ (.inr GW382.out) _) | exact HK.out)⟩
  · rw [if_neg c6] at H
    have c6b0 : (t383 == 0) = false := beq_eq_false_iff_ne.mpr c6
    have c6b1 : (t383 != 0) = true := bne_iff_ne.mpr c6
    replace H := Option.bind_eq_some_iff.mp H
    obtain ⟨t384, A100, H⟩ := H
    replace H : (if t383 < 128 then ((vernierref04_Shl.f k l1 (wrap64 (128 - t383))).bind fun t386 => (vernierref07_Exactly.j0 k t386 a3 t383 1 a0 t384 0 0 a3)) else (vernierref07_Exactly.j0 k l1 a3 t383 1 a0 t384 0 0 a3)) = some (r1, r2, r3, r4, r5, r6) := H
    have A10 := Aside0.mk A100
    clear A100
    have HC11 := Aside0.mk H
    clear H
    go_enter Try.func48, Try.ntmps48
    go_upto_if 26 with (first | ((with_reducible refine gate_dst (N := 8) rfl ?_); refine box_event ?hg (N := 8) ?hd (cs := #[.int .i64 0, .bool false, .int .i64 0, .int .u64 0, .int .u64 0, .bool false]) (t := 24) ?hr ?_; (case hd => rfl); (case hg => rfl); (case hr => first | (go_simp; done) | (go_simp; rfl)); intro gb382 hg w12 hbox hb; have n0_ := Aside0.mk (Kd.R_below (by (with_reducible repeat (first | apply Kd.R_alloc | apply Kd.R_drewN | apply Kd.R_drew)); exact HO1.out) hb); have n1_ := Aside0.mk (Kept.below (S := (fun k_ => P1_ k_)) (by repeat (first | (with_reducible first | exact HK.out | apply Kept.alloc | apply Kept.drewN | apply Kept.drew) | exact HK.out)) hb); have n2_ := Aside0.mk (below_step (by repeat (first | (with_reducible first | exact HB.out | apply below_alloc | apply pw_below_drewN | apply below_drew1) | exact HB.out)) hb); have n3_ := Aside0.mk (hbox); have n4_ := Aside0.mk ((by rw [hg]; exact (by first | exact HK.out.1 | exact (show Kept w _ (fun k_ => P1_ k_) from by repeat (first | (with_reducible first | exact HK.out | apply Kept.alloc | apply Kept.drewN | apply Kept.drew) | exact HK.out)).1) : w.heap.size ≤ gb382)); have n5_ := Aside0.mk ((by rw [hg]; exact (below_size (by repeat (first | (with_reducible first | exact HB.out | apply below_alloc | apply pw_below_drewN | apply below_drew1) | exact HB.out))) : w0.heap.size ≤ gb382)); clear HO1; clear HK; clear HB; have HO1 := n0_; have HK := n1_; have HB := n2_; have BK382 := n3_; have GW382 := n4_; have GE382 := n5_; clear n0_ n1_ n2_ n3_ n4_ n5_; clear hb hbox hg; obtain ⟨Ao13, co13, eo13⟩ := Kd.R_slice HO1.out; subst eo13) | ((with_reducible refine gate_callee (f := 62) rfl ?_); refine goesL_ (some 13) rfl rfl Try.func62 (by kernel_rfl) rfl #[.slice Ao13 l1.length co13] rfl (by (try simp only [List.map_toArray, List.map_cons, List.map_nil]); first | done | rfl | (simp only [List.length_drop, List.length_take]; rfl)) ?_; (with_reducible refine (vernierref04_Bits.calls k _ _ l1 t383 _ ?side1 ?side2 A5.out).mono ?_); (case side1 => repeat (first | exact (Kd.R_reads' HO1.out).2.2 | (with_reducible refine Kd.C_alloc ?_ _) | (with_reducible refine Kd.C_drewN ?_ _) | (with_reducible refine Kd.C_drew ?_))); (case side2 => exact (Kd.R_reads' HO1.out).2.1); rintro e w' ⟨rfl, ⟨nd, rfl⟩⟩; refine ⟨_, rfl, ?_⟩; (try (rw [drewN_self w12]; generalize hq_ : World.drewN w12 _ = w12; have n0_ : Aside0 (Kd.R (Kd.int .i64) 3 w12 w0.heap.size (fun k_ => (P1_ k_ ∨ w.heap.size ≤ k_)) (.slice Ao13 l1.length co13) l1) := ⟨by rw [← hq_]; exact (by (with_reducible repeat (first | apply Kd.R_alloc | apply Kd.R_drewN | apply Kd.R_drew)); exact HO1.out)⟩; have n1_ : Aside0 (w12.heap[gb382]? = some (.cells #[.int .i64 0, .bool false, .int .i64 0, .int .u64 0, .int .u64 0, .bool false] 24 (0, 0))) := ⟨by rw [← hq_]; exact (by (with_reducible repeat (first | refine blk_drewN ?_ _ | refine blk_drew ?_ | refine blk_alloc ?_ _)); exact BK382.out)⟩; have n2_ : Aside0 (Kept w w12 (fun k_ => P1_ k_)) := ⟨by rw [← hq_]; exact (by repeat (first | (with_reducible first | exact HK.out | apply Kept.alloc | apply Kept.drewN | apply Kept.drew | refine Kept.setCell ?_ (.inr GW382.out) _) | exact HK.out))⟩; have n3_ : Aside0 (Below w0.heap.size w0 w12) := ⟨by rw [← hq_]; exact (by repeat (first | (with_reducible first | exact HB.out | apply below_alloc | apply pw_below_drewN | apply below_drew1 | refine below_set ?_ GE382.out) | exact HB.out))⟩; clear HO1 BK382 HK HB hq_; have HO1 := n0_; have BK382 := n1_; have HK := n2_; have HB := n3_; clear n0_ n1_ n2_ n3_))) | ((with_reducible refine gate_callee (f := 63) rfl ?_); refine goesL_ (some 22) rfl rfl Try.func63 (by kernel_rfl) rfl #[.int .i64 (wrap64 ((wrap64 (a2 + t383)) - 1))] rfl (by (try simp only [List.map_toArray, List.map_cons, List.map_nil]); first | done | rfl | (simp only [List.length_drop, List.length_take]; rfl)) ?_; (with_reducible refine (vernierref07_Held.calls (wrap64 ((wrap64 (a2 + t383)) - 1)) t384 _ A10.out).mono ?_); rintro e w' ⟨rfl, ⟨nd, rfl⟩⟩; refine ⟨_, rfl, ?_⟩; (try (rw [drewN_self w12]; generalize hq_ : World.drewN w12 _ = w12; have n0_ : Aside0 (Kd.R (Kd.int .i64) 3 w12 w0.heap.size (fun k_ => (P1_ k_ ∨ w.heap.size ≤ k_)) (.slice Ao13 l1.length co13) l1) := ⟨by rw [← hq_]; exact (by (with_reducible repeat (first | apply Kd.R_alloc | apply Kd.R_drewN | apply Kd.R_drew)); exact HO1.out)⟩; have n1_ : Aside0 (w12.heap[gb382]? = some (.cells #[.int .i64 0, .bool false, .int .i64 0, .int .u64 0, .int .u64 0, .bool false] 24 (0, 0))) := ⟨by rw [← hq_]; exact (by (with_reducible repeat (first | refine blk_drewN ?_ _ | refine blk_drew ?_ | refine blk_alloc ?_ _)); exact BK382.out)⟩; have n2_ : Aside0 (Kept w w12 (fun k_ => P1_ k_)) := ⟨by rw [← hq_]; exact (by repeat (first | (with_reducible first | exact HK.out | apply Kept.alloc | apply Kept.drewN | apply Kept.drew | refine Kept.setCell ?_ (.inr GW382.out) _) | exact HK.out))⟩; have n3_ : Aside0 (Below w0.heap.size w0 w12) := ⟨by rw [← hq_]; exact (by repeat (first | (with_reducible first | exact HB.out | apply below_alloc | apply pw_below_drewN | apply below_drew1 | refine below_set ?_ GE382.out) | exact HB.out))⟩; clear HO1 BK382 HK HB hq_; have HO1 := n0_; have BK382 := n1_; have HK := n2_; have HB := n3_; clear n0_ n1_ n2_ n3_))) | ((with_reducible refine gate_dst (N := 10) rfl ?_); refine box_event ?hg (N := 10) ?hd (cs := #[.int .i64 0, .bool false, .int .i64 0, .int .u64 0, .int .u64 0, .bool false]) (t := 24) ?hr ?_; (case hd => rfl); (case hg => rfl); (case hr => first | (go_simp; done) | (go_simp; rfl)); intro gb385 hg w14 hbox hb; have n0_ := Aside0.mk (Kd.R_below (by (with_reducible repeat (first | apply Kd.R_alloc | apply Kd.R_drewN | apply Kd.R_drew)); exact HO1.out) hb); have n1_ := Aside0.mk (blk_below (g := gb382) (o := .cells #[.int .i64 0, .bool false, .int .i64 0, .int .u64 0, .int .u64 0, .bool false] 24 (0, 0)) (by (with_reducible repeat (first | refine blk_drewN ?_ _ | refine blk_drew ?_ | refine blk_alloc ?_ _)); exact BK382.out) hb); have n2_ := Aside0.mk (Kept.below (S := (fun k_ => P1_ k_)) (by repeat (first | (with_reducible first | exact HK.out | apply Kept.alloc | apply Kept.drewN | apply Kept.drew | refine Kept.setCell ?_ (.inr GW382.out) _) | exact HK.out)) hb); have n3_ := Aside0.mk (below_step (by repeat (first | (with_reducible first | exact HB.out | apply below_alloc | apply pw_below_drewN | apply below_drew1 | refine below_set ?_ GE382.out) | exact HB.out)) hb); have n4_ := Aside0.mk (hbox); have n5_ := Aside0.mk ((by rw [hg]; exact (by first | exact HK.out.1 | exact (show Kept w _ (fun k_ => P1_ k_) from by repeat (first | (with_reducible first | exact HK.out | apply Kept.alloc | apply Kept.drewN | apply Kept.drew | refine Kept.setCell ?_ (.inr GW382.out) _) | exact HK.out)).1) : w.heap.size ≤ gb385)); have n6_ := Aside0.mk ((by rw [hg]; exact (below_size (by repeat (first | (with_reducible first | exact HB.out | apply below_alloc | apply pw_below_drewN | apply below_drew1 | refine below_set ?_ GE382.out) | exact HB.out))) : w0.heap.size ≤ gb385)); have n7_ := Aside0.mk ((by rw [hg]; exact Nat.ne_of_lt (blk_lt (g := gb382) (o := .cells #[.int .i64 0, .bool false, .int .i64 0, .int .u64 0, .int .u64 0, .bool false] 24 (0, 0)) (by (with_reducible repeat (first | refine blk_drewN ?_ _ | refine blk_drew ?_ | refine blk_alloc ?_ _)); exact BK382.out)) : gb382 ≠ gb385)); have n8_ := Aside0.mk ((by rw [hg]; exact Nat.ne_of_gt (blk_lt (g := gb382) (o := .cells #[.int .i64 0, .bool false, .int .i64 0, .int .u64 0, .int .u64 0, .bool false] 24 (0, 0)) (by (with_reducible repeat (first | refine blk_drewN ?_ _ | refine blk_drew ?_ | refine blk_alloc ?_ _)); exact BK382.out)) : gb385 ≠ gb382)); clear HO1; clear BK382; clear HK; clear HB; have HO1 := n0_; have BK382 := n1_; have HK := n2_; have HB := n3_; have BK385 := n4_; have GW385 := n5_; have GE385 := n6_; have NB382_385 := n7_; have NB385_382 := n8_; clear n0_ n1_ n2_ n3_ n4_ n5_ n6_ n7_ n8_; clear hb hbox hg; have hnb15 := NB385_382.out; have hnc15 := NB382_385.out; have hcz16_0 : w14.cell? ⟨gb385, 0, none⟩ = some (.int .i64 0) := (blk_cell BK385.out 0).trans rfl; have hcz16_1 : w14.cell? ⟨gb385, 1, none⟩ = some (.bool false) := (blk_cell BK385.out 1).trans rfl; have hcz16_2 : w14.cell? ⟨gb385, 2, none⟩ = some (.int .i64 0) := (blk_cell BK385.out 2).trans rfl; have hcz16_3 : w14.cell? ⟨gb385, 3, none⟩ = some (.int .u64 0) := (blk_cell BK385.out 3).trans rfl; have hcz16_4 : w14.cell? ⟨gb385, 4, none⟩ = some (.int .u64 0) := (blk_cell BK385.out 4).trans rfl; have hcz16_5 : w14.cell? ⟨gb385, 5, none⟩ = some (.bool false) := (blk_cell BK385.out 5).trans rfl; have hfz16_0 := blk_frozen BK385.out 0; have hfz16_1 := blk_frozen BK385.out 1; have hfz16_2 := blk_frozen BK385.out 2; have hfz16_3 := blk_frozen BK385.out 3; have hfz16_4 := blk_frozen BK385.out 4; have hfz16_5 := blk_frozen BK385.out 5))
    (try simp only [Act.put, List.setIfInBounds_toArray, List.set_cons_zero, List.set_cons_succ])
    go_cut [1] (fun v1 wc => ∃ (kq : Nat) (x1_10 : List Int), Aside0 (vernierref07_Exactly.j0 kq x1_10 a3 t383 1 a0 t384 0 0 a3 = some (r1, r2, r3, r4, r5, r6)) ∧ Aside0 (kq ≤ k) ∧ Aside0 (Kd.R (Kd.int .i64) 3 wc w0.heap.size (fun k_ => (P1_ k_ ∨ w.heap.size ≤ k_)) v1 x1_10) ∧ Aside0 (wc.heap[gb382]? = some (.cells #[.int .i64 0, .bool false, .int .i64 0, .int .u64 0, .int .u64 0, .bool false] 24 (0, 0))) ∧ Aside0 (wc.heap[gb385]? = some (.cells #[.int .i64 1, .bool a0, .int .i64 t384, .int .u64 0, .int .u64 0, .bool a3] 24 (0, 0))) ∧ Aside0 (Kept w wc (fun k_ => P1_ k_)) ∧ Aside0 (Below w0.heap.size w0 wc))
    case first =>
      have H := HC11.out
      clear HC11
      by_cases c17 : t383 < 128
      · rw [if_pos c17] at H
        have c17b0 : decide (t383 < 128) = true := decide_eq_true c17
        clear c17
        (first | rw [c17b0] | (simp only [i64_w, i32_w]; rw [c17b0]) | skip)
        replace H := Option.bind_eq_some_iff.mp H
        obtain ⟨t386, A180, H⟩ := H
        replace H : (vernierref07_Exactly.j0 k t386 a3 t383 1 a0 t384 0 0 a3) = some (r1, r2, r3, r4, r5, r6) := H
        have A18 := Aside0.mk A180
        clear A180
        have H' := Aside0.mk H
        clear H
        go_wp2_with (first | ((with_reducible refine gate_callee (f := 46) rfl ?_); refine goesL_ (some 30) rfl rfl Try.func46 (by kernel_rfl) rfl #[.slice Ao13 l1.length co13, .int .i64 (wrap64 (128 - t383))] rfl (by (try simp only [List.map_toArray, List.map_cons, List.map_nil]); first | done | rfl | (simp only [List.length_drop, List.length_take]; rfl)) ?_; (with_reducible refine (vernierref04_Shl.calls k _ _ l1 (wrap64 (128 - t383)) t386 _ ?side1 ?side2 A18.out).mono ?_); (case side1 => refine (Kd.R_reads' (e := 3) (base := w0.heap.size) (ok := fun k_ => (P1_ k_ ∨ w.heap.size ≤ k_)) (n := l1.length) (c := co13) ?_).2.2; exact (by (with_reducible repeat (first | apply Kd.R_alloc | apply Kd.R_drewN | apply Kd.R_drew)); exact (Kd.R_mono (Kd.R_far (p := ⟨gb385, 5, none⟩) (Kd.R_far (p := ⟨gb385, 4, none⟩) (Kd.R_far (p := ⟨gb385, 3, none⟩) (Kd.R_far (p := ⟨gb385, 2, none⟩) (Kd.R_far (p := ⟨gb385, 1, none⟩) (Kd.R_far (p := ⟨gb385, 0, none⟩) (Kd.R_types HO1.out BK385.out (by decide)) (fun _ hk => hk.2) (.int .i64 1)) (fun _ hk => hk.2) (.bool a0)) (fun _ hk => hk.2) (.int .i64 t384)) (fun _ hk => hk.2) (.int .u64 0)) (fun _ hk => hk.2) (.int .u64 0)) (fun _ hk => hk.2) (.bool a3)) (fun _ h_ => h_.1)))); (case side2 => exact (Kd.R_reads' HO1.out).2.1); rintro e w19 ⟨v387, rfl, ho0, hb⟩; refine ⟨_, rfl, ?_⟩; have n0_ := Aside0.mk (Kd.R_elder' (by (with_reducible repeat (first | apply Kd.R_alloc | apply Kd.R_drewN | apply Kd.R_drew)); exact (Kd.R_mono (Kd.R_far (p := ⟨gb385, 5, none⟩) (Kd.R_far (p := ⟨gb385, 4, none⟩) (Kd.R_far (p := ⟨gb385, 3, none⟩) (Kd.R_far (p := ⟨gb385, 2, none⟩) (Kd.R_far (p := ⟨gb385, 1, none⟩) (Kd.R_far (p := ⟨gb385, 0, none⟩) (Kd.R_types HO1.out BK385.out (by decide)) (fun _ hk => hk.2) (.int .i64 1)) (fun _ hk => hk.2) (.bool a0)) (fun _ hk => hk.2) (.int .i64 t384)) (fun _ hk => hk.2) (.int .u64 0)) (fun _ hk => hk.2) (.int .u64 0)) (fun _ hk => hk.2) (.bool a3)) (fun _ h_ => h_.1))) (Kd.R_base ho0) hb); have n1_ := Aside0.mk (Kd.R_lower (Kd.R_new' (Kd.R_newM (M := fun k_ => (P1_ k_ ∨ w.heap.size ≤ k_)) ho0 (show Kept w _ (fun k_ => P1_ k_) from by repeat (first | (with_reducible first | exact HK.out | apply Kept.alloc | apply Kept.drewN | apply Kept.drew | refine Kept.setCell ?_ (.inr GW382.out) _ | refine Kept.setCell ?_ (.inr GW385.out) _) | exact HK.out)).1 (fun k_ h_ => .inr h_)) (Kd.R_lt (by (with_reducible repeat (first | apply Kd.R_alloc | apply Kd.R_drewN | apply Kd.R_drew)); exact (Kd.R_mono (Kd.R_far (p := ⟨gb385, 5, none⟩) (Kd.R_far (p := ⟨gb385, 4, none⟩) (Kd.R_far (p := ⟨gb385, 3, none⟩) (Kd.R_far (p := ⟨gb385, 2, none⟩) (Kd.R_far (p := ⟨gb385, 1, none⟩) (Kd.R_far (p := ⟨gb385, 0, none⟩) (Kd.R_types HO1.out BK385.out (by decide)) (fun _ hk => hk.2) (.int .i64 1)) (fun _ hk => hk.2) (.bool a0)) (fun _ hk => hk.2) (.int .i64 t384)) (fun _ hk => hk.2) (.int .u64 0)) (fun _ hk => hk.2) (.int .u64 0)) (fun _ hk => hk.2) (.bool a3)) (fun _ h_ => h_.1))))) (below_size (by repeat (first | (with_reducible first | exact HB.out | apply below_alloc | apply pw_below_drewN | apply below_drew1 | refine below_set ?_ GE382.out | refine below_set ?_ GE385.out) | exact HB.out)))); have n2_ := Aside0.mk (blk_below (g := gb382) (o := .cells #[.int .i64 0, .bool false, .int .i64 0, .int .u64 0, .int .u64 0, .bool false] 24 (0, 0)) (by (with_reducible repeat (first | refine blk_drewN ?_ _ | refine blk_drew ?_ | refine blk_alloc ?_ _)); refine blk_far ?_ NB382_385.out _; (with_reducible repeat (first | refine blk_drewN ?_ _ | refine blk_drew ?_ | refine blk_alloc ?_ _)); refine blk_far ?_ NB382_385.out _; (with_reducible repeat (first | refine blk_drewN ?_ _ | refine blk_drew ?_ | refine blk_alloc ?_ _)); refine blk_far ?_ NB382_385.out _; (with_reducible repeat (first | refine blk_drewN ?_ _ | refine blk_drew ?_ | refine blk_alloc ?_ _)); refine blk_far ?_ NB382_385.out _; (with_reducible repeat (first | refine blk_drewN ?_ _ | refine blk_drew ?_ | refine blk_alloc ?_ _)); refine blk_far ?_ NB382_385.out _; (with_reducible repeat (first | refine blk_drewN ?_ _ | refine blk_drew ?_ | refine blk_alloc ?_ _)); refine blk_far ?_ NB382_385.out _; (with_reducible repeat (first | refine blk_drewN ?_ _ | refine blk_drew ?_ | refine blk_alloc ?_ _)); exact BK382.out) hb); have n3_ := Aside0.mk (blk_below (g := gb385) (o := .cells #[.int .i64 1, .bool a0, .int .i64 t384, .int .u64 0, .int .u64 0, .bool a3] 24 (0, 0)) (by (with_reducible repeat (first | refine blk_drewN ?_ _ | refine blk_drew ?_ | refine blk_alloc ?_ _)); refine blk_put (cs := #[.int .i64 1, .bool a0, .int .i64 t384, .int .u64 0, .int .u64 0, .bool false]) ?_ 5 _ rfl; (with_reducible repeat (first | refine blk_drewN ?_ _ | refine blk_drew ?_ | refine blk_alloc ?_ _)); refine blk_put (cs := #[.int .i64 1, .bool a0, .int .i64 t384, .int .u64 0, .int .u64 0, .bool false]) ?_ 4 _ rfl; (with_reducible repeat (first | refine blk_drewN ?_ _ | refine blk_drew ?_ | refine blk_alloc ?_ _)); refine blk_put (cs := #[.int .i64 1, .bool a0, .int .i64 t384, .int .u64 0, .int .u64 0, .bool false]) ?_ 3 _ rfl; (with_reducible repeat (first | refine blk_drewN ?_ _ | refine blk_drew ?_ | refine blk_alloc ?_ _)); refine blk_put (cs := #[.int .i64 1, .bool a0, .int .i64 0, .int .u64 0, .int .u64 0, .bool false]) ?_ 2 _ rfl; (with_reducible repeat (first | refine blk_drewN ?_ _ | refine blk_drew ?_ | refine blk_alloc ?_ _)); refine blk_put (cs := #[.int .i64 1, .bool false, .int .i64 0, .int .u64 0, .int .u64 0, .bool false]) ?_ 1 _ rfl; (with_reducible repeat (first | refine blk_drewN ?_ _ | refine blk_drew ?_ | refine blk_alloc ?_ _)); refine blk_put (cs := #[.int .i64 0, .bool false, .int .i64 0, .int .u64 0, .int .u64 0, .bool false]) ?_ 0 _ rfl; (with_reducible repeat (first | refine blk_drewN ?_ _ | refine blk_drew ?_ | refine blk_alloc ?_ _)); exact BK385.out) hb); have n4_ := Aside0.mk (Kept.below (S := (fun k_ => P1_ k_)) (by repeat (first | (with_reducible first | exact HK.out | apply Kept.alloc | apply Kept.drewN | apply Kept.drew | refine Kept.setCell ?_ (.inr GW382.out) _ | refine Kept.setCell ?_ (.inr GW385.out) _) | exact HK.out)) hb); have n5_ := Aside0.mk (below_step (by repeat (first | (with_reducible first | exact HB.out | apply below_alloc | apply pw_below_drewN | apply below_drew1 | refine below_set ?_ GE382.out | refine below_set ?_ GE385.out) | exact HB.out)) hb); clear HO1; clear BK382; clear BK385; clear HK; clear HB; have HO1 := n0_; have HO388 := n1_; have BK382 := n2_; have BK385 := n3_; have HK := n4_; have HB := n5_; clear n0_ n1_ n2_ n3_ n4_ n5_; (try clear hb); (try clear hb2); (try clear hk); (try clear hi); (try clear ho0)))
        go_meet
        case rel => exact ⟨_, (t386), H', ⟨by first | omega | exact Nat.le_refl _⟩, ⟨by (with_reducible repeat (first | apply Kd.R_alloc | apply Kd.R_drewN | apply Kd.R_drew)); exact Kd.R_mono HO388.out (fun _ hk => hk.1.1)⟩, ⟨by (with_reducible repeat (first | refine blk_drewN ?_ _ | refine blk_drew ?_ | refine blk_alloc ?_ _)); exact BK382.out⟩, ⟨by (with_reducible repeat (first | refine blk_drewN ?_ _ | refine blk_drew ?_ | refine blk_alloc ?_ _)); exact BK385.out⟩, ⟨by repeat (first | (with_reducible first | exact HK.out | apply Kept.alloc | apply Kept.drewN | apply Kept.drew | refine Kept.setCell ?_ (.inr GW382.out) _ | refine Kept.setCell ?_ (.inr GW385.out) _) | exact HK.out)⟩, ⟨by repeat (first | (with_reducible first | exact HB.out | apply below_alloc | apply pw_below_drewN | apply below_drew1 | refine below_set ?_ GE382.out | refine below_set ?_ GE385.out) | exact HB.out)⟩⟩
      · rw [if_neg c17] at H
        have c17b0 : decide (t383 < 128) = false := decide_eq_false c17
        clear c17
        (first | rw [c17b0] | (simp only [i64_w, i32_w]; rw [c17b0]) | skip)
        have H' := Aside0.mk H
        clear H
        go_wp2
        go_meet
        case rel => exact ⟨_, (l1), H', ⟨by first | omega | exact Nat.le_refl _⟩, ⟨by (with_reducible repeat (first | apply Kd.R_alloc | apply Kd.R_drewN | apply Kd.R_drew)); exact Kd.R_mono (Kd.R_far (p := ⟨gb385, 5, none⟩) (Kd.R_far (p := ⟨gb385, 4, none⟩) (Kd.R_far (p := ⟨gb385, 3, none⟩) (Kd.R_far (p := ⟨gb385, 2, none⟩) (Kd.R_far (p := ⟨gb385, 1, none⟩) (Kd.R_far (p := ⟨gb385, 0, none⟩) (Kd.R_types HO1.out BK385.out (by decide)) (fun _ hk => hk.2) (.int .i64 1)) (fun _ hk => hk.2) (.bool a0)) (fun _ hk => hk.2) (.int .i64 t384)) (fun _ hk => hk.2) (.int .u64 0)) (fun _ hk => hk.2) (.int .u64 0)) (fun _ hk => hk.2) (.bool a3)) (fun _ hk => hk.1)⟩, ⟨by (with_reducible repeat (first | refine blk_drewN ?_ _ | refine blk_drew ?_ | refine blk_alloc ?_ _)); refine blk_far ?_ NB382_385.out _; (with_reducible repeat (first | refine blk_drewN ?_ _ | refine blk_drew ?_ | refine blk_alloc ?_ _)); refine blk_far ?_ NB382_385.out _; (with_reducible repeat (first | refine blk_drewN ?_ _ | refine blk_drew ?_ | refine blk_alloc ?_ _)); refine blk_far ?_ NB382_385.out _; (with_reducible repeat (first | refine blk_drewN ?_ _ | refine blk_drew ?_ | refine blk_alloc ?_ _)); refine blk_far ?_ NB382_385.out _; (with_reducible repeat (first | refine blk_drewN ?_ _ | refine blk_drew ?_ | refine blk_alloc ?_ _)); refine blk_far ?_ NB382_385.out _; (with_reducible repeat (first | refine blk_drewN ?_ _ | refine blk_drew ?_ | refine blk_alloc ?_ _)); refine blk_far ?_ NB382_385.out _; (with_reducible repeat (first | refine blk_drewN ?_ _ | refine blk_drew ?_ | refine blk_alloc ?_ _)); exact BK382.out⟩, ⟨by (with_reducible repeat (first | refine blk_drewN ?_ _ | refine blk_drew ?_ | refine blk_alloc ?_ _)); refine blk_put (cs := #[.int .i64 1, .bool a0, .int .i64 t384, .int .u64 0, .int .u64 0, .bool false]) ?_ 5 _ rfl; (with_reducible repeat (first | refine blk_drewN ?_ _ | refine blk_drew ?_ | refine blk_alloc ?_ _)); refine blk_put (cs := #[.int .i64 1, .bool a0, .int .i64 t384, .int .u64 0, .int .u64 0, .bool false]) ?_ 4 _ rfl; (with_reducible repeat (first | refine blk_drewN ?_ _ | refine blk_drew ?_ | refine blk_alloc ?_ _)); refine blk_put (cs := #[.int .i64 1, .bool a0, .int .i64 t384, .int .u64 0, .int .u64 0, .bool false]) ?_ 3 _ rfl; (with_reducible repeat (first | refine blk_drewN ?_ _ | refine blk_drew ?_ | refine blk_alloc ?_ _)); refine blk_put (cs := #[.int .i64 1, .bool a0, .int .i64 0, .int .u64 0, .int .u64 0, .bool false]) ?_ 2 _ rfl; (with_reducible repeat (first | refine blk_drewN ?_ _ | refine blk_drew ?_ | refine blk_alloc ?_ _)); refine blk_put (cs := #[.int .i64 1, .bool false, .int .i64 0, .int .u64 0, .int .u64 0, .bool false]) ?_ 1 _ rfl; (with_reducible repeat (first | refine blk_drewN ?_ _ | refine blk_drew ?_ | refine blk_alloc ?_ _)); refine blk_put (cs := #[.int .i64 0, .bool false, .int .i64 0, .int .u64 0, .int .u64 0, .bool false]) ?_ 0 _ rfl; (with_reducible repeat (first | refine blk_drewN ?_ _ | refine blk_drew ?_ | refine blk_alloc ?_ _)); exact BK385.out⟩, ⟨by repeat (first | (with_reducible first | exact HK.out | apply Kept.alloc | apply Kept.drewN | apply Kept.drew | refine Kept.setCell ?_ (.inr GW382.out) _ | refine Kept.setCell ?_ (.inr GW385.out) _) | exact HK.out)⟩, ⟨by repeat (first | (with_reducible first | exact HB.out | apply below_alloc | apply pw_below_drewN | apply below_drew1 | refine below_set ?_ GE382.out | refine below_set ?_ GE385.out) | exact HB.out)⟩⟩
    case rest =>
      clear HC11
      try clear c1
      try clear p2
      try clear c4
      try clear c6
      try clear c6b0
      try clear c6b1
      try clear p6
      try clear c15
      try clear c17
      try clear c17b0
      try clear hcz16_0
      try clear hcz16_1
      try clear hcz16_2
      try clear hcz16_3
      try clear hcz16_4
      try clear hcz16_5
      try clear hcz9_0
      try clear hcz9_1
      try clear hcz9_2
      try clear hcz9_3
      try clear hcz9_4
      try clear hcz9_5
      try clear hfz16_0
      try clear hfz16_1
      try clear hfz16_2
      try clear hfz16_3
      try clear hfz16_4
      try clear hfz16_5
      try clear hfz9_0
      try clear hfz9_1
      try clear hfz9_2
      try clear hfz9_3
      try clear hfz9_4
      try clear hfz9_5
      obtain ⟨kq, x1_10, HA, HJ10, HO_1, BK382, BK385, HK, HB⟩ := hcut
      cases kq with
      | zero => exact absurd HA.out (by simp [vernierref07_Exactly.j0])
      | succ kj10 =>
        have H := HA.out
        clear HA
        simp only [vernierref07_Exactly.j0] at H
        by_cases c20 : t383 > 128
        · rw [if_pos c20] at H
          have c20b0 : decide (128 < t383) = true := decide_eq_true c20
          clear c20
          replace H := Option.bind_eq_some_iff.mp H
          obtain ⟨t389, A210, H⟩ := H
          replace H : (if a3 = true then (vernierref07_Exactly.j1 kj10 x1_10 t383 1 a0 t384 0 0 true) else (vernierref07_Exactly.j1 kj10 x1_10 t383 1 a0 t384 0 0 t389)) = some (r1, r2, r3, r4, r5, r6) := H
          have A21 := Aside0.mk A210
          clear A210
          have HC22 := Aside0.mk H
          clear H
          obtain ⟨Ao23, co23, eo23⟩ := Kd.R_slice HO_1.out
          subst eo23
          go_upto_region 9 with (first | ((with_reducible refine gate_callee (f := 64) rfl ?_); refine goesL_ (some 36) rfl rfl Try.func64 (by kernel_rfl) rfl #[.slice Ao23 x1_10.length co23, .int .i64 (wrap64 (t383 - 128))] rfl (by (try simp only [List.map_toArray, List.map_cons, List.map_nil]); first | done | rfl | (simp only [List.length_drop, List.length_take]; rfl)) ?_; (with_reducible refine (vernierref04_Low.calls kj10 _ _ x1_10 (wrap64 (t383 - 128)) t389 _ ?side1 ?side2 A21.out).mono ?_); (case side1 => repeat (first | exact (Kd.R_reads' HO_1.out).2.2 | (with_reducible refine Kd.C_alloc ?_ _) | (with_reducible refine Kd.C_drewN ?_ _) | (with_reducible refine Kd.C_drew ?_))); (case side2 => exact (Kd.R_reads' HO_1.out).2.1); rintro e w' ⟨rfl, ⟨nd, rfl⟩⟩; refine ⟨_, rfl, ?_⟩))
          (try simp only [Act.put, List.setIfInBounds_toArray, List.set_cons_zero, List.set_cons_succ])
          go_cut [] (fun wc => ∃ (kq : Nat) (x386005_21 : Bool), Aside0 (vernierref07_Exactly.j1 kq x1_10 t383 1 a0 t384 0 0 x386005_21 = some (r1, r2, r3, r4, r5, r6)) ∧ Aside0 (kq ≤ kj10) ∧ Aside0 (Kd.R (Kd.int .i64) 3 wc w0.heap.size (fun k_ => (P1_ k_ ∨ w.heap.size ≤ k_)) (.slice Ao23 x1_10.length co23) x1_10) ∧ Aside0 (wc.heap[gb382]? = some (.cells #[.int .i64 0, .bool false, .int .i64 0, .int .u64 0, .int .u64 0, .bool false] 24 (0, 0))) ∧ Aside0 (wc.heap[gb385]? = some (.cells #[.int .i64 1, .bool a0, .int .i64 t384, .int .u64 0, .int .u64 0, .bool x386005_21] 24 (0, 0))) ∧ Aside0 (Kept w wc (fun k_ => P1_ k_)) ∧ Aside0 (Below w0.heap.size w0 wc))
          case first =>
            have H := HC22.out
            clear HC22
            by_cases c24 : a3 = true
            · subst c24
              have H1 : (vernierref07_Exactly.j1 kj10 x1_10 t383 1 a0 t384 0 0 true) = some (r1, r2, r3, r4, r5, r6) := by rw [if_pos rfl] at H; exact H
              clear H
              have H := H1
              clear H1
              have H' := Aside0.mk H
              clear H
              have hnb25 := NB385_382.out
              have hnc25 := NB382_385.out
              have hcz26_0 : wc.cell? ⟨gb385, 0, none⟩ = some (.int .i64 1) := (blk_cell BK385.out 0).trans rfl
              have hcz26_1 : wc.cell? ⟨gb385, 1, none⟩ = some (.bool a0) := (blk_cell BK385.out 1).trans rfl
              have hcz26_2 : wc.cell? ⟨gb385, 2, none⟩ = some (.int .i64 t384) := (blk_cell BK385.out 2).trans rfl
              have hcz26_3 : wc.cell? ⟨gb385, 3, none⟩ = some (.int .u64 0) := (blk_cell BK385.out 3).trans rfl
              have hcz26_4 : wc.cell? ⟨gb385, 4, none⟩ = some (.int .u64 0) := (blk_cell BK385.out 4).trans rfl
              have hcz26_5 : wc.cell? ⟨gb385, 5, none⟩ = some (.bool true) := (blk_cell BK385.out 5).trans rfl
              have hfz26_0 := blk_frozen BK385.out 0
              have hfz26_1 := blk_frozen BK385.out 1
              have hfz26_2 := blk_frozen BK385.out 2
              have hfz26_3 := blk_frozen BK385.out 3
              have hfz26_4 := blk_frozen BK385.out 4
              have hfz26_5 := blk_frozen BK385.out 5
              go_wp2
              go_meet
              case rel => exact ⟨_, (true), H', ⟨by have := HJ10.out; first | omega | exact Nat.le_refl _⟩, ⟨by (with_reducible repeat (first | apply Kd.R_alloc | apply Kd.R_drewN | apply Kd.R_drew)); exact Kd.R_mono (Kd.R_far (p := ⟨gb385, 5, none⟩) (Kd.R_types HO_1.out BK385.out (by decide)) (fun _ hk => hk.2) (.bool true)) (fun _ hk => hk.1)⟩, ⟨by (with_reducible repeat (first | refine blk_drewN ?_ _ | refine blk_drew ?_ | refine blk_alloc ?_ _)); refine blk_far ?_ NB382_385.out _; (with_reducible repeat (first | refine blk_drewN ?_ _ | refine blk_drew ?_ | refine blk_alloc ?_ _)); exact BK382.out⟩, ⟨by (with_reducible repeat (first | refine blk_drewN ?_ _ | refine blk_drew ?_ | refine blk_alloc ?_ _)); refine blk_put (cs := #[.int .i64 1, .bool a0, .int .i64 t384, .int .u64 0, .int .u64 0, .bool true]) ?_ 5 _ rfl; (with_reducible repeat (first | refine blk_drewN ?_ _ | refine blk_drew ?_ | refine blk_alloc ?_ _)); exact BK385.out⟩, ⟨by repeat (first | (with_reducible first | exact HK.out | apply Kept.alloc | apply Kept.drewN | apply Kept.drew | refine Kept.setCell ?_ (.inr GW382.out) _ | refine Kept.setCell ?_ (.inr GW385.out) _) | exact HK.out)⟩, ⟨by repeat (first | (with_reducible first | exact HB.out | apply below_alloc | apply pw_below_drewN | apply below_drew1 | refine below_set ?_ GE382.out | refine below_set ?_ GE385.out) | exact HB.out)⟩⟩
            · replace c24 := Bool.eq_false_iff.mpr c24
              subst c24
              have H1 : (vernierref07_Exactly.j1 kj10 x1_10 t383 1 a0 t384 0 0 t389) = some (r1, r2, r3, r4, r5, r6) := by rw [if_neg (show ¬ (false = true) by decide)] at H; exact H
              clear H
              have H := H1
              clear H1
              have H' := Aside0.mk H
              clear H
              have hnb27 := NB385_382.out
              have hnc27 := NB382_385.out
              have hcz28_0 : wc.cell? ⟨gb385, 0, none⟩ = some (.int .i64 1) := (blk_cell BK385.out 0).trans rfl
              have hcz28_1 : wc.cell? ⟨gb385, 1, none⟩ = some (.bool a0) := (blk_cell BK385.out 1).trans rfl
              have hcz28_2 : wc.cell? ⟨gb385, 2, none⟩ = some (.int .i64 t384) := (blk_cell BK385.out 2).trans rfl
              have hcz28_3 : wc.cell? ⟨gb385, 3, none⟩ = some (.int .u64 0) := (blk_cell BK385.out 3).trans rfl
              have hcz28_4 : wc.cell? ⟨gb385, 4, none⟩ = some (.int .u64 0) := (blk_cell BK385.out 4).trans rfl
              have hcz28_5 : wc.cell? ⟨gb385, 5, none⟩ = some (.bool false) := (blk_cell BK385.out 5).trans rfl
              have hfz28_0 := blk_frozen BK385.out 0
              have hfz28_1 := blk_frozen BK385.out 1
              have hfz28_2 := blk_frozen BK385.out 2
              have hfz28_3 := blk_frozen BK385.out 3
              have hfz28_4 := blk_frozen BK385.out 4
              have hfz28_5 := blk_frozen BK385.out 5
              go_wp2
              go_meet
              case rel => exact ⟨_, (t389), H', ⟨by have := HJ10.out; first | omega | exact Nat.le_refl _⟩, ⟨by (with_reducible repeat (first | apply Kd.R_alloc | apply Kd.R_drewN | apply Kd.R_drew)); exact Kd.R_mono (Kd.R_far (p := ⟨gb385, 5, none⟩) (Kd.R_types HO_1.out BK385.out (by decide)) (fun _ hk => hk.2) (.bool t389)) (fun _ hk => hk.1)⟩, ⟨by (with_reducible repeat (first | refine blk_drewN ?_ _ | refine blk_drew ?_ | refine blk_alloc ?_ _)); refine blk_far ?_ NB382_385.out _; (with_reducible repeat (first | refine blk_drewN ?_ _ | refine blk_drew ?_ | refine blk_alloc ?_ _)); exact BK382.out⟩, ⟨by (with_reducible repeat (first | refine blk_drewN ?_ _ | refine blk_drew ?_ | refine blk_alloc ?_ _)); refine blk_put (cs := #[.int .i64 1, .bool a0, .int .i64 t384, .int .u64 0, .int .u64 0, .bool false]) ?_ 5 _ rfl; (with_reducible repeat (first | refine blk_drewN ?_ _ | refine blk_drew ?_ | refine blk_alloc ?_ _)); exact BK385.out⟩, ⟨by repeat (first | (with_reducible first | exact HK.out | apply Kept.alloc | apply Kept.drewN | apply Kept.drew | refine Kept.setCell ?_ (.inr GW382.out) _ | refine Kept.setCell ?_ (.inr GW385.out) _) | exact HK.out)⟩, ⟨by repeat (first | (with_reducible first | exact HB.out | apply below_alloc | apply pw_below_drewN | apply below_drew1 | refine below_set ?_ GE382.out | refine below_set ?_ GE385.out) | exact HB.out)⟩⟩
          case rest =>
            clear HC22
            try clear c1
            try clear c2
            try clear p2
            try clear c4
            try clear c6
            try clear c6b0
            try clear c6b1
            try clear p6
            try clear c15
            try clear c17
            try clear c17b0
            try clear c20
            try clear c20b0
            try clear c24
            try clear c25
            try clear c27
            try clear hcz16_0
            try clear hcz16_1
            try clear hcz16_2
            try clear hcz16_3
            try clear hcz16_4
            try clear hcz16_5
            try clear hcz26_0
            try clear hcz26_1
            try clear hcz26_2
            try clear hcz26_3
            try clear hcz26_4
            try clear hcz26_5
            try clear hcz28_0
            try clear hcz28_1
            try clear hcz28_2
            try clear hcz28_3
            try clear hcz28_4
            try clear hcz28_5
            try clear hcz9_0
            try clear hcz9_1
            try clear hcz9_2
            try clear hcz9_3
            try clear hcz9_4
            try clear hcz9_5
            try clear hfz16_0
            try clear hfz16_1
            try clear hfz16_2
            try clear hfz16_3
            try clear hfz16_4
            try clear hfz16_5
            try clear hfz26_0
            try clear hfz26_1
            try clear hfz26_2
            try clear hfz26_3
            try clear hfz26_4
            try clear hfz26_5
            try clear hfz28_0
            try clear hfz28_1
            try clear hfz28_2
            try clear hfz28_3
            try clear hfz28_4
            try clear hfz28_5
            try clear hfz9_0
            try clear hfz9_1
            try clear hfz9_2
            try clear hfz9_3
            try clear hfz9_4
            try clear hfz9_5
            try clear p2
            try clear p6
            obtain ⟨kq, x386005_21, HA, HJ21, HO_1, BK382, BK385, HK, HB⟩ := hcut
            cases kq with
            | zero => exact absurd HA.out (by simp [vernierref07_Exactly.j1])
            | succ kj21 =>
              have H := HA.out
              clear HA
              simp only [vernierref07_Exactly.j1] at H
              replace H := Option.bind_eq_some_iff.mp H
              obtain ⟨t390, A290, H⟩ := H
              replace H : ((vernierref04_Word.f kj21 t390).bind fun t393 => ((vernierref04_Shr.f kj21 t390 64).bind fun t394 => ((vernierref04_Word.f kj21 t394).bind fun t397 => (some (1, a0, t384, t397, t393, x386005_21))))) = some (r1, r2, r3, r4, r5, r6) := H
              have A29 := Aside0.mk A290
              clear A290
              replace H := Option.bind_eq_some_iff.mp H
              obtain ⟨t393, A300, H⟩ := H
              replace H : ((vernierref04_Shr.f kj21 t390 64).bind fun t394 => ((vernierref04_Word.f kj21 t394).bind fun t397 => (some (1, a0, t384, t397, t393, x386005_21)))) = some (r1, r2, r3, r4, r5, r6) := H
              have A30 := Aside0.mk A300
              clear A300
              replace H := Option.bind_eq_some_iff.mp H
              obtain ⟨t394, A310, H⟩ := H
              replace H : ((vernierref04_Word.f kj21 t394).bind fun t397 => (some (1, a0, t384, t397, t393, x386005_21))) = some (r1, r2, r3, r4, r5, r6) := H
              have A31 := Aside0.mk A310
              clear A310
              replace H := Option.bind_eq_some_iff.mp H
              obtain ⟨t397, A320, H⟩ := H
              replace H : (some (1, a0, t384, t397, t393, x386005_21)) = some (r1, r2, r3, r4, r5, r6) := H
              have A32 := Aside0.mk A320
              clear A320
              simp only [Option.some.injEq, Prod.mk.injEq] at H
              obtain ⟨rfl, rfl, rfl, rfl, rfl, rfl⟩ := H
              go_wp2_with (first | ((with_reducible refine gate_callee (f := 65) rfl ?_); refine goesL_ (some 45) rfl rfl Try.func65 (by kernel_rfl) rfl #[.slice Ao23 x1_10.length co23, .int .i64 (wrap64 (t383 - 128))] rfl (by (try simp only [List.map_toArray, List.map_cons, List.map_nil]); first | done | rfl | (simp only [List.length_drop, List.length_take]; rfl)) ?_; (with_reducible refine (vernierref04_Shr.calls kj21 _ _ x1_10 (wrap64 (t383 - 128)) t390 _ ?side1 ?side2 A29.out).mono ?_); (case side1 => repeat (first | exact (Kd.R_reads' HO_1.out).2.2 | (with_reducible refine Kd.C_alloc ?_ _) | (with_reducible refine Kd.C_drewN ?_ _) | (with_reducible refine Kd.C_drew ?_))); (case side2 => exact (Kd.R_reads' HO_1.out).2.1); rintro e w33 ⟨v391, rfl, ho0, hb⟩; refine ⟨_, rfl, ?_⟩; have n0_ := Aside0.mk (Kd.R_elder' (by (with_reducible repeat (first | apply Kd.R_alloc | apply Kd.R_drewN | apply Kd.R_drew)); exact HO_1.out) (Kd.R_base ho0) hb); have n1_ := Aside0.mk (Kd.R_lower (Kd.R_new' (Kd.R_newM (M := fun k_ => (P1_ k_ ∨ w.heap.size ≤ k_)) ho0 (by first | exact HK.out.1 | exact (show Kept w _ (fun k_ => P1_ k_) from by repeat (first | (with_reducible first | exact HK.out | apply Kept.alloc | apply Kept.drewN | apply Kept.drew | refine Kept.setCell ?_ (.inr GW382.out) _ | refine Kept.setCell ?_ (.inr GW385.out) _) | exact HK.out)).1) (fun k_ h_ => .inr h_)) (Kd.R_lt (by (with_reducible repeat (first | apply Kd.R_alloc | apply Kd.R_drewN | apply Kd.R_drew)); exact HO_1.out))) (below_size (by repeat (first | (with_reducible first | exact HB.out | apply below_alloc | apply pw_below_drewN | apply below_drew1 | refine below_set ?_ GE382.out | refine below_set ?_ GE385.out) | exact HB.out)))); have n2_ := Aside0.mk (blk_below (g := gb382) (o := .cells #[.int .i64 0, .bool false, .int .i64 0, .int .u64 0, .int .u64 0, .bool false] 24 (0, 0)) (by (with_reducible repeat (first | refine blk_drewN ?_ _ | refine blk_drew ?_ | refine blk_alloc ?_ _)); exact BK382.out) hb); have n3_ := Aside0.mk (blk_below (g := gb385) (o := .cells #[.int .i64 1, .bool a0, .int .i64 t384, .int .u64 0, .int .u64 0, .bool x386005_21] 24 (0, 0)) (by (with_reducible repeat (first | refine blk_drewN ?_ _ | refine blk_drew ?_ | refine blk_alloc ?_ _)); exact BK385.out) hb); have n4_ := Aside0.mk (Kept.below (S := (fun k_ => P1_ k_)) (by repeat (first | (with_reducible first | exact HK.out | apply Kept.alloc | apply Kept.drewN | apply Kept.drew | refine Kept.setCell ?_ (.inr GW382.out) _ | refine Kept.setCell ?_ (.inr GW385.out) _) | exact HK.out)) hb); have n5_ := Aside0.mk (below_step (by repeat (first | (with_reducible first | exact HB.out | apply below_alloc | apply pw_below_drewN | apply below_drew1 | refine below_set ?_ GE382.out | refine below_set ?_ GE385.out) | exact HB.out)) hb); clear HO_1; clear BK382; clear BK385; clear HK; clear HB; have HO_1 := n0_; have HO392 := n1_; have BK382 := n2_; have BK385 := n3_; have HK := n4_; have HB := n5_; clear n0_ n1_ n2_ n3_ n4_ n5_; (try clear hb); (try clear hb2); (try clear hk); (try clear hi); (try clear ho0); obtain ⟨Ao34, co34, eo34⟩ := Kd.R_slice HO392.out; subst eo34) | ((with_reducible refine gate_callee (f := 66) rfl ?_); refine goesL_ (some 47) rfl rfl Try.func66 (by kernel_rfl) rfl #[.slice Ao34 t390.length co34] rfl (by (try simp only [List.map_toArray, List.map_cons, List.map_nil]); first | done | rfl | (simp only [List.length_drop, List.length_take]; rfl)) ?_; (with_reducible refine (vernierref04_Word.calls kj21 _ _ t390 t393 _ ?side1 ?side2 A30.out).mono ?_); (case side1 => repeat (first | exact (Kd.R_reads' HO392.out).2.2 | (with_reducible refine Kd.C_alloc ?_ _) | (with_reducible refine Kd.C_drewN ?_ _) | (with_reducible refine Kd.C_drew ?_))); (case side2 => exact (Kd.R_reads' HO392.out).2.1); rintro e w' ⟨rfl, ⟨nd, rfl⟩⟩; refine ⟨_, rfl, ?_⟩; (try (rw [drewN_self w33]; generalize hq_ : World.drewN w33 _ = w33; have n0_ : Aside0 (Kd.R (Kd.int .i64) 3 w33 w0.heap.size (fun k_ => (P1_ k_ ∨ w.heap.size ≤ k_) ∧ some k_ ≠ (.slice Ao23 x1_10.length co23 : Value).ownBlock) (.slice Ao34 t390.length co34) t390) := ⟨by rw [← hq_]; exact (by (with_reducible repeat (first | apply Kd.R_alloc | apply Kd.R_drewN | apply Kd.R_drew)); exact Kd.R_mono HO392.out (fun _ hk => ⟨hk.1.1, hk.2⟩))⟩; have n1_ : Aside0 (Kd.R (Kd.int .i64) 3 w33 w0.heap.size (fun k_ => (P1_ k_ ∨ w.heap.size ≤ k_) ∧ some k_ ≠ (.slice Ao34 t390.length co34 : Value).ownBlock) (.slice Ao23 x1_10.length co23) x1_10) := ⟨by rw [← hq_]; exact (by (with_reducible repeat (first | apply Kd.R_alloc | apply Kd.R_drewN | apply Kd.R_drew)); exact HO_1.out)⟩; have n2_ : Aside0 (w33.heap[gb382]? = some (.cells #[.int .i64 0, .bool false, .int .i64 0, .int .u64 0, .int .u64 0, .bool false] 24 (0, 0))) := ⟨by rw [← hq_]; exact (by (with_reducible repeat (first | refine blk_drewN ?_ _ | refine blk_drew ?_ | refine blk_alloc ?_ _)); exact BK382.out)⟩; have n3_ : Aside0 (w33.heap[gb385]? = some (.cells #[.int .i64 1, .bool a0, .int .i64 t384, .int .u64 0, .int .u64 0, .bool x386005_21] 24 (0, 0))) := ⟨by rw [← hq_]; exact (by (with_reducible repeat (first | refine blk_drewN ?_ _ | refine blk_drew ?_ | refine blk_alloc ?_ _)); exact BK385.out)⟩; have n4_ : Aside0 (Kept w w33 (fun k_ => P1_ k_)) := ⟨by rw [← hq_]; exact (by repeat (first | (with_reducible first | exact HK.out | apply Kept.alloc | apply Kept.drewN | apply Kept.drew | refine Kept.setCell ?_ (.inr GW382.out) _ | refine Kept.setCell ?_ (.inr GW385.out) _) | exact HK.out))⟩; have n5_ : Aside0 (Below w0.heap.size w0 w33) := ⟨by rw [← hq_]; exact (by repeat (first | (with_reducible first | exact HB.out | apply below_alloc | apply pw_below_drewN | apply below_drew1 | refine below_set ?_ GE382.out | refine below_set ?_ GE385.out) | exact HB.out))⟩; clear HO392 HO_1 BK382 BK385 HK HB hq_; have HO392 := n0_; have HO_1 := n1_; have BK382 := n2_; have BK385 := n3_; have HK := n4_; have HB := n5_; clear n0_ n1_ n2_ n3_ n4_ n5_)); have hnb35 := NB385_382.out; have hnc35 := NB382_385.out; have hcz36_0 : w33.cell? ⟨gb385, 0, none⟩ = some (.int .i64 1) := (blk_cell BK385.out 0).trans rfl; have hcz36_1 : w33.cell? ⟨gb385, 1, none⟩ = some (.bool a0) := (blk_cell BK385.out 1).trans rfl; have hcz36_2 : w33.cell? ⟨gb385, 2, none⟩ = some (.int .i64 t384) := (blk_cell BK385.out 2).trans rfl; have hcz36_3 : w33.cell? ⟨gb385, 3, none⟩ = some (.int .u64 0) := (blk_cell BK385.out 3).trans rfl; have hcz36_4 : w33.cell? ⟨gb385, 4, none⟩ = some (.int .u64 0) := (blk_cell BK385.out 4).trans rfl; have hcz36_5 : w33.cell? ⟨gb385, 5, none⟩ = some (.bool x386005_21) := (blk_cell BK385.out 5).trans rfl; have hfz36_0 := blk_frozen BK385.out 0; have hfz36_1 := blk_frozen BK385.out 1; have hfz36_2 := blk_frozen BK385.out 2; have hfz36_3 := blk_frozen BK385.out 3; have hfz36_4 := blk_frozen BK385.out 4; have hfz36_5 := blk_frozen BK385.out 5) | ((with_reducible refine gate_callee (f := 65) rfl ?_); refine goesL_ (some 50) rfl rfl Try.func65 (by kernel_rfl) rfl #[.slice Ao34 t390.length co34, .int .i64 64] rfl (by (try simp only [List.map_toArray, List.map_cons, List.map_nil]); first | done | rfl | (simp only [List.length_drop, List.length_take]; rfl)) ?_; (with_reducible refine (vernierref04_Shr.calls kj21 _ _ t390 64 t394 _ ?side1 ?side2 A31.out).mono ?_); (case side1 => refine (Kd.R_reads' (e := 3) (base := w0.heap.size) (ok := fun k_ => ((P1_ k_ ∨ w.heap.size ≤ k_) ∧ some k_ ≠ (.slice Ao23 x1_10.length co23 : Value).ownBlock)) (n := t390.length) (c := co34) ?_).2.2; exact (by (with_reducible repeat (first | apply Kd.R_alloc | apply Kd.R_drewN | apply Kd.R_drew)); exact (Kd.R_mono (Kd.R_far (p := ⟨gb385, 4, none⟩) (Kd.R_types HO392.out BK385.out (by decide)) (fun _ hk => hk.2) (.int .u64 t393)) (fun _ h_ => h_.1)))); (case side2 => exact (Kd.R_reads' HO392.out).2.1); rintro e w37 ⟨v395, rfl, ho0, hb⟩; refine ⟨_, rfl, ?_⟩; have n0_ := Aside0.mk (Kd.R_elder' (by (with_reducible repeat (first | apply Kd.R_alloc | apply Kd.R_drewN | apply Kd.R_drew)); exact (Kd.R_mono (Kd.R_far (p := ⟨gb385, 4, none⟩) (Kd.R_types HO_1.out BK385.out (by decide)) (fun _ hk => hk.2) (.int .u64 t393)) (fun _ h_ => h_.1))) (Kd.R_base ho0) hb); have n1_ := Aside0.mk (Kd.R_elder' (by (with_reducible repeat (first | apply Kd.R_alloc | apply Kd.R_drewN | apply Kd.R_drew)); exact (Kd.R_mono (Kd.R_far (p := ⟨gb385, 4, none⟩) (Kd.R_types HO392.out BK385.out (by decide)) (fun _ hk => hk.2) (.int .u64 t393)) (fun _ h_ => h_.1))) (Kd.R_base ho0) hb); have n2_ := Aside0.mk (Kd.R_lower (Kd.R_new' (Kd.R_new' (Kd.R_newM (M := fun k_ => (P1_ k_ ∨ w.heap.size ≤ k_)) ho0 (show Kept w _ (fun k_ => P1_ k_) from by repeat (first | (with_reducible first | exact HK.out | apply Kept.alloc | apply Kept.drewN | apply Kept.drew | refine Kept.setCell ?_ (.inr GW382.out) _ | refine Kept.setCell ?_ (.inr GW385.out) _) | exact HK.out)).1 (fun k_ h_ => .inr h_)) (Kd.R_lt (by (with_reducible repeat (first | apply Kd.R_alloc | apply Kd.R_drewN | apply Kd.R_drew)); exact (Kd.R_mono (Kd.R_far (p := ⟨gb385, 4, none⟩) (Kd.R_types HO_1.out BK385.out (by decide)) (fun _ hk => hk.2) (.int .u64 t393)) (fun _ h_ => h_.1))))) (Kd.R_lt (by (with_reducible repeat (first | apply Kd.R_alloc | apply Kd.R_drewN | apply Kd.R_drew)); exact (Kd.R_mono (Kd.R_far (p := ⟨gb385, 4, none⟩) (Kd.R_types HO392.out BK385.out (by decide)) (fun _ hk => hk.2) (.int .u64 t393)) (fun _ h_ => h_.1))))) (below_size (by repeat (first | (with_reducible first | exact HB.out | apply below_alloc | apply pw_below_drewN | apply below_drew1 | refine below_set ?_ GE382.out | refine below_set ?_ GE385.out) | exact HB.out)))); have n3_ := Aside0.mk (blk_below (g := gb382) (o := .cells #[.int .i64 0, .bool false, .int .i64 0, .int .u64 0, .int .u64 0, .bool false] 24 (0, 0)) (by (with_reducible repeat (first | refine blk_drewN ?_ _ | refine blk_drew ?_ | refine blk_alloc ?_ _)); refine blk_far ?_ NB382_385.out _; (with_reducible repeat (first | refine blk_drewN ?_ _ | refine blk_drew ?_ | refine blk_alloc ?_ _)); exact BK382.out) hb); have n4_ := Aside0.mk (blk_below (g := gb385) (o := .cells #[.int .i64 1, .bool a0, .int .i64 t384, .int .u64 0, .int .u64 t393, .bool x386005_21] 24 (0, 0)) (by (with_reducible repeat (first | refine blk_drewN ?_ _ | refine blk_drew ?_ | refine blk_alloc ?_ _)); refine blk_put (cs := #[.int .i64 1, .bool a0, .int .i64 t384, .int .u64 0, .int .u64 0, .bool x386005_21]) ?_ 4 _ rfl; (with_reducible repeat (first | refine blk_drewN ?_ _ | refine blk_drew ?_ | refine blk_alloc ?_ _)); exact BK385.out) hb); have n5_ := Aside0.mk (Kept.below (S := (fun k_ => P1_ k_)) (by repeat (first | (with_reducible first | exact HK.out | apply Kept.alloc | apply Kept.drewN | apply Kept.drew | refine Kept.setCell ?_ (.inr GW382.out) _ | refine Kept.setCell ?_ (.inr GW385.out) _) | exact HK.out)) hb); have n6_ := Aside0.mk (below_step (by repeat (first | (with_reducible first | exact HB.out | apply below_alloc | apply pw_below_drewN | apply below_drew1 | refine below_set ?_ GE382.out | refine below_set ?_ GE385.out) | exact HB.out)) hb); clear HO_1; clear HO392; clear BK382; clear BK385; clear HK; clear HB; have HO_1 := n0_; have HO392 := n1_; have HO396 := n2_; have BK382 := n3_; have BK385 := n4_; have HK := n5_; have HB := n6_; clear n0_ n1_ n2_ n3_ n4_ n5_ n6_; (try clear hb); (try clear hb2); (try clear hk); (try clear hi); (try clear ho0); obtain ⟨Ao38, co38, eo38⟩ := Kd.R_slice HO396.out; subst eo38) | ((with_reducible refine gate_callee (f := 66) rfl ?_); refine goesL_ (some 51) rfl rfl Try.func66 (by kernel_rfl) rfl #[.slice Ao38 t394.length co38] rfl (by (try simp only [List.map_toArray, List.map_cons, List.map_nil]); first | done | rfl | (simp only [List.length_drop, List.length_take]; rfl)) ?_; (with_reducible refine (vernierref04_Word.calls kj21 _ _ t394 t397 _ ?side1 ?side2 A32.out).mono ?_); (case side1 => repeat (first | exact (Kd.R_reads' HO396.out).2.2 | (with_reducible refine Kd.C_alloc ?_ _) | (with_reducible refine Kd.C_drewN ?_ _) | (with_reducible refine Kd.C_drew ?_))); (case side2 => exact (Kd.R_reads' HO396.out).2.1); rintro e w' ⟨rfl, ⟨nd, rfl⟩⟩; refine ⟨_, rfl, ?_⟩; (try (rw [drewN_self w37]; generalize hq_ : World.drewN w37 _ = w37; have n0_ : Aside0 (Kd.R (Kd.int .i64) 3 w37 w0.heap.size (fun k_ => (P1_ k_ ∨ w.heap.size ≤ k_) ∧ some k_ ≠ (.slice Ao38 t394.length co38 : Value).ownBlock ∧ some k_ ≠ (.slice Ao23 x1_10.length co23 : Value).ownBlock) (.slice Ao34 t390.length co34) t390) := ⟨by rw [← hq_]; exact (by (with_reducible repeat (first | apply Kd.R_alloc | apply Kd.R_drewN | apply Kd.R_drew)); exact Kd.R_mono HO392.out (fun _ hk => ⟨hk.1.1.1, ⟨hk.2, hk.1.2⟩⟩))⟩; have n1_ : Aside0 (Kd.R (Kd.int .i64) 3 w37 w0.heap.size (fun k_ => (P1_ k_ ∨ w.heap.size ≤ k_) ∧ some k_ ≠ (.slice Ao34 t390.length co34 : Value).ownBlock ∧ some k_ ≠ (.slice Ao23 x1_10.length co23 : Value).ownBlock) (.slice Ao38 t394.length co38) t394) := ⟨by rw [← hq_]; exact (by (with_reducible repeat (first | apply Kd.R_alloc | apply Kd.R_drewN | apply Kd.R_drew)); exact Kd.R_mono HO396.out (fun _ hk => ⟨hk.1.1.1, ⟨hk.2, hk.1.2⟩⟩))⟩; have n2_ : Aside0 (Kd.R (Kd.int .i64) 3 w37 w0.heap.size (fun k_ => (P1_ k_ ∨ w.heap.size ≤ k_) ∧ some k_ ≠ (.slice Ao34 t390.length co34 : Value).ownBlock ∧ some k_ ≠ (.slice Ao38 t394.length co38 : Value).ownBlock) (.slice Ao23 x1_10.length co23) x1_10) := ⟨by rw [← hq_]; exact (by (with_reducible repeat (first | apply Kd.R_alloc | apply Kd.R_drewN | apply Kd.R_drew)); exact Kd.R_mono HO_1.out (fun _ hk => ⟨hk.1.1, ⟨hk.1.2, hk.2⟩⟩))⟩; have n3_ : Aside0 (w37.heap[gb382]? = some (.cells #[.int .i64 0, .bool false, .int .i64 0, .int .u64 0, .int .u64 0, .bool false] 24 (0, 0))) := ⟨by rw [← hq_]; exact (by (with_reducible repeat (first | refine blk_drewN ?_ _ | refine blk_drew ?_ | refine blk_alloc ?_ _)); exact BK382.out)⟩; have n4_ : Aside0 (w37.heap[gb385]? = some (.cells #[.int .i64 1, .bool a0, .int .i64 t384, .int .u64 0, .int .u64 t393, .bool x386005_21] 24 (0, 0))) := ⟨by rw [← hq_]; exact (by (with_reducible repeat (first | refine blk_drewN ?_ _ | refine blk_drew ?_ | refine blk_alloc ?_ _)); exact BK385.out)⟩; have n5_ : Aside0 (Kept w w37 (fun k_ => P1_ k_)) := ⟨by rw [← hq_]; exact (by repeat (first | (with_reducible first | exact HK.out | apply Kept.alloc | apply Kept.drewN | apply Kept.drew | refine Kept.setCell ?_ (.inr GW382.out) _ | refine Kept.setCell ?_ (.inr GW385.out) _) | exact HK.out))⟩; have n6_ : Aside0 (Below w0.heap.size w0 w37) := ⟨by rw [← hq_]; exact (by repeat (first | (with_reducible first | exact HB.out | apply below_alloc | apply pw_below_drewN | apply below_drew1 | refine below_set ?_ GE382.out | refine below_set ?_ GE385.out) | exact HB.out))⟩; clear HO392 HO396 HO_1 BK382 BK385 HK HB hq_; have HO392 := n0_; have HO396 := n1_; have HO_1 := n2_; have BK382 := n3_; have BK385 := n4_; have HK := n5_; have HB := n6_; clear n0_ n1_ n2_ n3_ n4_ n5_ n6_)); have hcz39_0 : w37.cell? ⟨gb385, 0, none⟩ = some (.int .i64 1) := (blk_cell BK385.out 0).trans rfl; have hcz39_1 : w37.cell? ⟨gb385, 1, none⟩ = some (.bool a0) := (blk_cell BK385.out 1).trans rfl; have hcz39_2 : w37.cell? ⟨gb385, 2, none⟩ = some (.int .i64 t384) := (blk_cell BK385.out 2).trans rfl; have hcz39_3 : w37.cell? ⟨gb385, 3, none⟩ = some (.int .u64 0) := (blk_cell BK385.out 3).trans rfl; have hcz39_4 : w37.cell? ⟨gb385, 4, none⟩ = some (.int .u64 t393) := (blk_cell BK385.out 4).trans rfl; have hcz39_5 : w37.cell? ⟨gb385, 5, none⟩ = some (.bool x386005_21) := (blk_cell BK385.out 5).trans rfl; have hfz39_0 := blk_frozen BK385.out 0; have hfz39_1 := blk_frozen BK385.out 1; have hfz39_2 := blk_frozen BK385.out 2; have hfz39_3 := blk_frozen BK385.out 3; have hfz39_4 := blk_frozen BK385.out 4; have hfz39_5 := blk_frozen BK385.out 5; have hcz40_0 : w37.cell? ⟨gb382, 0, none⟩ = some (.int .i64 0) := (blk_cell BK382.out 0).trans rfl; have hcz40_1 : w37.cell? ⟨gb382, 1, none⟩ = some (.bool false) := (blk_cell BK382.out 1).trans rfl; have hcz40_2 : w37.cell? ⟨gb382, 2, none⟩ = some (.int .i64 0) := (blk_cell BK382.out 2).trans rfl; have hcz40_3 : w37.cell? ⟨gb382, 3, none⟩ = some (.int .u64 0) := (blk_cell BK382.out 3).trans rfl; have hcz40_4 : w37.cell? ⟨gb382, 4, none⟩ = some (.int .u64 0) := (blk_cell BK382.out 4).trans rfl; have hcz40_5 : w37.cell? ⟨gb382, 5, none⟩ = some (.bool false) := (blk_cell BK382.out 5).trans rfl; have hfz40_0 := blk_frozen BK382.out 0; have hfz40_1 := blk_frozen BK382.out 1; have hfz40_2 := blk_frozen BK382.out 2; have hfz40_3 := blk_frozen BK382.out 3; have hfz40_4 := blk_frozen BK382.out 4; have hfz40_5 := blk_frozen BK382.out 5))
              refine bodyPost_ret (results_cell_row rfl _ _ gb382 24 #[.int .i64 1, .bool a0, .int .i64 t384, .int .u64 t397, .int .u64 t393, .bool x386005_21] (0, 0) _ rfl (by (with_reducible repeat (first | refine blk_drewN ?_ _ | refine blk_drew ?_ | refine blk_alloc ?_ _)); refine blk_put (cs := #[.int .i64 1, .bool a0, .int .i64 t384, .int .u64 t397, .int .u64 t393, .bool false]) ?_ 5 _ rfl; (with_reducible repeat (first | refine blk_drewN ?_ _ | refine blk_drew ?_ | refine blk_alloc ?_ _)); refine blk_put (cs := #[.int .i64 1, .bool a0, .int .i64 t384, .int .u64 t397, .int .u64 0, .bool false]) ?_ 4 _ rfl; (with_reducible repeat (first | refine blk_drewN ?_ _ | refine blk_drew ?_ | refine blk_alloc ?_ _)); refine blk_put (cs := #[.int .i64 1, .bool a0, .int .i64 t384, .int .u64 0, .int .u64 0, .bool false]) ?_ 3 _ rfl; (with_reducible repeat (first | refine blk_drewN ?_ _ | refine blk_drew ?_ | refine blk_alloc ?_ _)); refine blk_put (cs := #[.int .i64 1, .bool a0, .int .i64 0, .int .u64 0, .int .u64 0, .bool false]) ?_ 2 _ rfl; (with_reducible repeat (first | refine blk_drewN ?_ _ | refine blk_drew ?_ | refine blk_alloc ?_ _)); refine blk_put (cs := #[.int .i64 1, .bool false, .int .i64 0, .int .u64 0, .int .u64 0, .bool false]) ?_ 1 _ rfl; (with_reducible repeat (first | refine blk_drewN ?_ _ | refine blk_drew ?_ | refine blk_alloc ?_ _)); refine blk_put (cs := #[.int .i64 0, .bool false, .int .i64 0, .int .u64 0, .int .u64 0, .bool false]) ?_ 0 _ rfl; (with_reducible repeat (first | refine blk_drewN ?_ _ | refine blk_drew ?_ | refine blk_alloc ?_ _)); refine blk_far ?_ NB382_385.out _; (with_reducible repeat (first | refine blk_drewN ?_ _ | refine blk_drew ?_ | refine blk_alloc ?_ _)); exact BK382.out) Try.underlying24 rfl (by kernel_rfl)) rfl ?_
              exact ⟨by first | rfl | (simp [errW_none, errW_some] <;> rfl) | (simp [*, errW_none, errW_some] <;> rfl), by repeat (first | (with_reducible first | exact HB.out | apply below_alloc | apply pw_below_drewN | apply below_drew1 | refine below_set ?_ GE382.out | refine below_set ?_ GE385.out) | exact HB.out), by repeat (first | (with_reducible first | exact HK.out | apply Kept.alloc | apply Kept.drewN | apply Kept.drew | refine Kept.setCell ?_ (.inr GW382.out) _ | refine Kept.setCell ?_ (.inr GW385.out) _) | exact HK.out)⟩
        · rw [if_neg c20] at H
          have c20b0 : decide (128 < t383) = false := decide_eq_false c20
          clear c20
          replace H := Option.bind_eq_some_iff.mp H
          obtain ⟨t398, A410, H⟩ := H
          replace H : ((vernierref04_Shr.f kj10 x1_10 64).bind fun t399 => ((vernierref04_Word.f kj10 t399).bind fun t402 => (some (1, a0, t384, t402, t398, a3)))) = some (r1, r2, r3, r4, r5, r6) := H
          have A41 := Aside0.mk A410
          clear A410
          replace H := Option.bind_eq_some_iff.mp H
          obtain ⟨t399, A420, H⟩ := H
          replace H : ((vernierref04_Word.f kj10 t399).bind fun t402 => (some (1, a0, t384, t402, t398, a3))) = some (r1, r2, r3, r4, r5, r6) := H
          have A42 := Aside0.mk A420
          clear A420
          replace H := Option.bind_eq_some_iff.mp H
          obtain ⟨t402, A430, H⟩ := H
          replace H : (some (1, a0, t384, t402, t398, a3)) = some (r1, r2, r3, r4, r5, r6) := H
          have A43 := Aside0.mk A430
          clear A430
          simp only [Option.some.injEq, Prod.mk.injEq] at H
          obtain ⟨rfl, rfl, rfl, rfl, rfl, rfl⟩ := H
          obtain ⟨Ao44, co44, eo44⟩ := Kd.R_slice HO_1.out
          subst eo44
          go_wp2_with (first | ((with_reducible refine gate_callee (f := 66) rfl ?_); refine goesL_ (some 47) rfl rfl Try.func66 (by kernel_rfl) rfl #[.slice Ao44 x1_10.length co44] rfl (by (try simp only [List.map_toArray, List.map_cons, List.map_nil]); first | done | rfl | (simp only [List.length_drop, List.length_take]; rfl)) ?_; (with_reducible refine (vernierref04_Word.calls kj10 _ _ x1_10 t398 _ ?side1 ?side2 A41.out).mono ?_); (case side1 => repeat (first | exact (Kd.R_reads' HO_1.out).2.2 | (with_reducible refine Kd.C_alloc ?_ _) | (with_reducible refine Kd.C_drewN ?_ _) | (with_reducible refine Kd.C_drew ?_))); (case side2 => exact (Kd.R_reads' HO_1.out).2.1); rintro e w' ⟨rfl, ⟨nd, rfl⟩⟩; refine ⟨_, rfl, ?_⟩; (try (rw [drewN_self wc]; generalize hq_ : World.drewN wc _ = wc; have n0_ : Aside0 (Kd.R (Kd.int .i64) 3 wc w0.heap.size (fun k_ => (P1_ k_ ∨ w.heap.size ≤ k_)) (.slice Ao44 x1_10.length co44) x1_10) := ⟨by rw [← hq_]; exact (by (with_reducible repeat (first | apply Kd.R_alloc | apply Kd.R_drewN | apply Kd.R_drew)); exact HO_1.out)⟩; have n1_ : Aside0 (wc.heap[gb382]? = some (.cells #[.int .i64 0, .bool false, .int .i64 0, .int .u64 0, .int .u64 0, .bool false] 24 (0, 0))) := ⟨by rw [← hq_]; exact (by (with_reducible repeat (first | refine blk_drewN ?_ _ | refine blk_drew ?_ | refine blk_alloc ?_ _)); exact BK382.out)⟩; have n2_ : Aside0 (wc.heap[gb385]? = some (.cells #[.int .i64 1, .bool a0, .int .i64 t384, .int .u64 0, .int .u64 0, .bool a3] 24 (0, 0))) := ⟨by rw [← hq_]; exact (by (with_reducible repeat (first | refine blk_drewN ?_ _ | refine blk_drew ?_ | refine blk_alloc ?_ _)); exact BK385.out)⟩; have n3_ : Aside0 (Kept w wc (fun k_ => P1_ k_)) := ⟨by rw [← hq_]; exact (by repeat (first | (with_reducible first | exact HK.out | apply Kept.alloc | apply Kept.drewN | apply Kept.drew | refine Kept.setCell ?_ (.inr GW382.out) _ | refine Kept.setCell ?_ (.inr GW385.out) _) | exact HK.out))⟩; have n4_ : Aside0 (Below w0.heap.size w0 wc) := ⟨by rw [← hq_]; exact (by repeat (first | (with_reducible first | exact HB.out | apply below_alloc | apply pw_below_drewN | apply below_drew1 | refine below_set ?_ GE382.out | refine below_set ?_ GE385.out) | exact HB.out))⟩; clear HO_1 BK382 BK385 HK HB hq_; have HO_1 := n0_; have BK382 := n1_; have BK385 := n2_; have HK := n3_; have HB := n4_; clear n0_ n1_ n2_ n3_ n4_)); have hnb45 := NB385_382.out; have hnc45 := NB382_385.out; have hcz46_0 : wc.cell? ⟨gb385, 0, none⟩ = some (.int .i64 1) := (blk_cell BK385.out 0).trans rfl; have hcz46_1 : wc.cell? ⟨gb385, 1, none⟩ = some (.bool a0) := (blk_cell BK385.out 1).trans rfl; have hcz46_2 : wc.cell? ⟨gb385, 2, none⟩ = some (.int .i64 t384) := (blk_cell BK385.out 2).trans rfl; have hcz46_3 : wc.cell? ⟨gb385, 3, none⟩ = some (.int .u64 0) := (blk_cell BK385.out 3).trans rfl; have hcz46_4 : wc.cell? ⟨gb385, 4, none⟩ = some (.int .u64 0) := (blk_cell BK385.out 4).trans rfl; have hcz46_5 : wc.cell? ⟨gb385, 5, none⟩ = some (.bool a3) := (blk_cell BK385.out 5).trans rfl; have hfz46_0 := blk_frozen BK385.out 0; have hfz46_1 := blk_frozen BK385.out 1; have hfz46_2 := blk_frozen BK385.out 2; have hfz46_3 := blk_frozen BK385.out 3; have hfz46_4 := blk_frozen BK385.out 4; have hfz46_5 := blk_frozen BK385.out 5) | ((with_reducible refine gate_callee (f := 65) rfl ?_); refine goesL_ (some 50) rfl rfl Try.func65 (by kernel_rfl) rfl #[.slice Ao44 x1_10.length co44, .int .i64 64] rfl (by (try simp only [List.map_toArray, List.map_cons, List.map_nil]); first | done | rfl | (simp only [List.length_drop, List.length_take]; rfl)) ?_; (with_reducible refine (vernierref04_Shr.calls kj10 _ _ x1_10 64 t399 _ ?side1 ?side2 A42.out).mono ?_); (case side1 => refine (Kd.R_reads' (e := 3) (base := w0.heap.size) (ok := fun k_ => (P1_ k_ ∨ w.heap.size ≤ k_)) (n := x1_10.length) (c := co44) ?_).2.2; exact (by (with_reducible repeat (first | apply Kd.R_alloc | apply Kd.R_drewN | apply Kd.R_drew)); exact (Kd.R_mono (Kd.R_far (p := ⟨gb385, 4, none⟩) (Kd.R_types HO_1.out BK385.out (by decide)) (fun _ hk => hk.2) (.int .u64 t398)) (fun _ h_ => h_.1)))); (case side2 => exact (Kd.R_reads' HO_1.out).2.1); rintro e w47 ⟨v400, rfl, ho0, hb⟩; refine ⟨_, rfl, ?_⟩; have n0_ := Aside0.mk (Kd.R_elder' (by (with_reducible repeat (first | apply Kd.R_alloc | apply Kd.R_drewN | apply Kd.R_drew)); exact (Kd.R_mono (Kd.R_far (p := ⟨gb385, 4, none⟩) (Kd.R_types HO_1.out BK385.out (by decide)) (fun _ hk => hk.2) (.int .u64 t398)) (fun _ h_ => h_.1))) (Kd.R_base ho0) hb); have n1_ := Aside0.mk (Kd.R_lower (Kd.R_new' (Kd.R_newM (M := fun k_ => (P1_ k_ ∨ w.heap.size ≤ k_)) ho0 (show Kept w _ (fun k_ => P1_ k_) from by repeat (first | (with_reducible first | exact HK.out | apply Kept.alloc | apply Kept.drewN | apply Kept.drew | refine Kept.setCell ?_ (.inr GW382.out) _ | refine Kept.setCell ?_ (.inr GW385.out) _) | exact HK.out)).1 (fun k_ h_ => .inr h_)) (Kd.R_lt (by (with_reducible repeat (first | apply Kd.R_alloc | apply Kd.R_drewN | apply Kd.R_drew)); exact (Kd.R_mono (Kd.R_far (p := ⟨gb385, 4, none⟩) (Kd.R_types HO_1.out BK385.out (by decide)) (fun _ hk => hk.2) (.int .u64 t398)) (fun _ h_ => h_.1))))) (below_size (by repeat (first | (with_reducible first | exact HB.out | apply below_alloc | apply pw_below_drewN | apply below_drew1 | refine below_set ?_ GE382.out | refine below_set ?_ GE385.out) | exact HB.out)))); have n2_ := Aside0.mk (blk_below (g := gb382) (o := .cells #[.int .i64 0, .bool false, .int .i64 0, .int .u64 0, .int .u64 0, .bool false] 24 (0, 0)) (by (with_reducible repeat (first | refine blk_drewN ?_ _ | refine blk_drew ?_ | refine blk_alloc ?_ _)); refine blk_far ?_ NB382_385.out _; (with_reducible repeat (first | refine blk_drewN ?_ _ | refine blk_drew ?_ | refine blk_alloc ?_ _)); exact BK382.out) hb); have n3_ := Aside0.mk (blk_below (g := gb385) (o := .cells #[.int .i64 1, .bool a0, .int .i64 t384, .int .u64 0, .int .u64 t398, .bool a3] 24 (0, 0)) (by (with_reducible repeat (first | refine blk_drewN ?_ _ | refine blk_drew ?_ | refine blk_alloc ?_ _)); refine blk_put (cs := #[.int .i64 1, .bool a0, .int .i64 t384, .int .u64 0, .int .u64 0, .bool a3]) ?_ 4 _ rfl; (with_reducible repeat (first | refine blk_drewN ?_ _ | refine blk_drew ?_ | refine blk_alloc ?_ _)); exact BK385.out) hb); have n4_ := Aside0.mk (Kept.below (S := (fun k_ => P1_ k_)) (by repeat (first | (with_reducible first | exact HK.out | apply Kept.alloc | apply Kept.drewN | apply Kept.drew | refine Kept.setCell ?_ (.inr GW382.out) _ | refine Kept.setCell ?_ (.inr GW385.out) _) | exact HK.out)) hb); have n5_ := Aside0.mk (below_step (by repeat (first | (with_reducible first | exact HB.out | apply below_alloc | apply pw_below_drewN | apply below_drew1 | refine below_set ?_ GE382.out | refine below_set ?_ GE385.out) | exact HB.out)) hb); clear HO_1; clear BK382; clear BK385; clear HK; clear HB; have HO_1 := n0_; have HO401 := n1_; have BK382 := n2_; have BK385 := n3_; have HK := n4_; have HB := n5_; clear n0_ n1_ n2_ n3_ n4_ n5_; (try clear hb); (try clear hb2); (try clear hk); (try clear hi); (try clear ho0); obtain ⟨Ao48, co48, eo48⟩ := Kd.R_slice HO401.out; subst eo48) | ((with_reducible refine gate_callee (f := 66) rfl ?_); refine goesL_ (some 51) rfl rfl Try.func66 (by kernel_rfl) rfl #[.slice Ao48 t399.length co48] rfl (by (try simp only [List.map_toArray, List.map_cons, List.map_nil]); first | done | rfl | (simp only [List.length_drop, List.length_take]; rfl)) ?_; (with_reducible refine (vernierref04_Word.calls kj10 _ _ t399 t402 _ ?side1 ?side2 A43.out).mono ?_); (case side1 => repeat (first | exact (Kd.R_reads' HO401.out).2.2 | (with_reducible refine Kd.C_alloc ?_ _) | (with_reducible refine Kd.C_drewN ?_ _) | (with_reducible refine Kd.C_drew ?_))); (case side2 => exact (Kd.R_reads' HO401.out).2.1); rintro e w' ⟨rfl, ⟨nd, rfl⟩⟩; refine ⟨_, rfl, ?_⟩; (try (rw [drewN_self w47]; generalize hq_ : World.drewN w47 _ = w47; have n0_ : Aside0 (Kd.R (Kd.int .i64) 3 w47 w0.heap.size (fun k_ => (P1_ k_ ∨ w.heap.size ≤ k_) ∧ some k_ ≠ (.slice Ao44 x1_10.length co44 : Value).ownBlock) (.slice Ao48 t399.length co48) t399) := ⟨by rw [← hq_]; exact (by (with_reducible repeat (first | apply Kd.R_alloc | apply Kd.R_drewN | apply Kd.R_drew)); exact Kd.R_mono HO401.out (fun _ hk => ⟨hk.1.1, hk.2⟩))⟩; have n1_ : Aside0 (Kd.R (Kd.int .i64) 3 w47 w0.heap.size (fun k_ => (P1_ k_ ∨ w.heap.size ≤ k_) ∧ some k_ ≠ (.slice Ao48 t399.length co48 : Value).ownBlock) (.slice Ao44 x1_10.length co44) x1_10) := ⟨by rw [← hq_]; exact (by (with_reducible repeat (first | apply Kd.R_alloc | apply Kd.R_drewN | apply Kd.R_drew)); exact HO_1.out)⟩; have n2_ : Aside0 (w47.heap[gb382]? = some (.cells #[.int .i64 0, .bool false, .int .i64 0, .int .u64 0, .int .u64 0, .bool false] 24 (0, 0))) := ⟨by rw [← hq_]; exact (by (with_reducible repeat (first | refine blk_drewN ?_ _ | refine blk_drew ?_ | refine blk_alloc ?_ _)); exact BK382.out)⟩; have n3_ : Aside0 (w47.heap[gb385]? = some (.cells #[.int .i64 1, .bool a0, .int .i64 t384, .int .u64 0, .int .u64 t398, .bool a3] 24 (0, 0))) := ⟨by rw [← hq_]; exact (by (with_reducible repeat (first | refine blk_drewN ?_ _ | refine blk_drew ?_ | refine blk_alloc ?_ _)); exact BK385.out)⟩; have n4_ : Aside0 (Kept w w47 (fun k_ => P1_ k_)) := ⟨by rw [← hq_]; exact (by repeat (first | (with_reducible first | exact HK.out | apply Kept.alloc | apply Kept.drewN | apply Kept.drew | refine Kept.setCell ?_ (.inr GW382.out) _ | refine Kept.setCell ?_ (.inr GW385.out) _) | exact HK.out))⟩; have n5_ : Aside0 (Below w0.heap.size w0 w47) := ⟨by rw [← hq_]; exact (by repeat (first | (with_reducible first | exact HB.out | apply below_alloc | apply pw_below_drewN | apply below_drew1 | refine below_set ?_ GE382.out | refine below_set ?_ GE385.out) | exact HB.out))⟩; clear HO401 HO_1 BK382 BK385 HK HB hq_; have HO401 := n0_; have HO_1 := n1_; have BK382 := n2_; have BK385 := n3_; have HK := n4_; have HB := n5_; clear n0_ n1_ n2_ n3_ n4_ n5_)); have hcz49_0 : w47.cell? ⟨gb385, 0, none⟩ = some (.int .i64 1) := (blk_cell BK385.out 0).trans rfl; have hcz49_1 : w47.cell? ⟨gb385, 1, none⟩ = some (.bool a0) := (blk_cell BK385.out 1).trans rfl; have hcz49_2 : w47.cell? ⟨gb385, 2, none⟩ = some (.int .i64 t384) := (blk_cell BK385.out 2).trans rfl; have hcz49_3 : w47.cell? ⟨gb385, 3, none⟩ = some (.int .u64 0) := (blk_cell BK385.out 3).trans rfl; have hcz49_4 : w47.cell? ⟨gb385, 4, none⟩ = some (.int .u64 t398) := (blk_cell BK385.out 4).trans rfl; have hcz49_5 : w47.cell? ⟨gb385, 5, none⟩ = some (.bool a3) := (blk_cell BK385.out 5).trans rfl; have hfz49_0 := blk_frozen BK385.out 0; have hfz49_1 := blk_frozen BK385.out 1; have hfz49_2 := blk_frozen BK385.out 2; have hfz49_3 := blk_frozen BK385.out 3; have hfz49_4 := blk_frozen BK385.out 4; have hfz49_5 := blk_frozen BK385.out 5; have hcz50_0 : w47.cell? ⟨gb382, 0, none⟩ = some (.int .i64 0) := (blk_cell BK382.out 0).trans rfl; have hcz50_1 : w47.cell? ⟨gb382, 1, none⟩ = some (.bool false) := (blk_cell BK382.out 1).trans rfl; have hcz50_2 : w47.cell? ⟨gb382, 2, none⟩ = some (.int .i64 0) := (blk_cell BK382.out 2).trans rfl; have hcz50_3 : w47.cell? ⟨gb382, 3, none⟩ = some (.int .u64 0) := (blk_cell BK382.out 3).trans rfl; have hcz50_4 : w47.cell? ⟨gb382, 4, none⟩ = some (.int .u64 0) := (blk_cell BK382.out 4).trans rfl; have hcz50_5 : w47.cell? ⟨gb382, 5, none⟩ = some (.bool false) := (blk_cell BK382.out 5).trans rfl; have hfz50_0 := blk_frozen BK382.out 0; have hfz50_1 := blk_frozen BK382.out 1; have hfz50_2 := blk_frozen BK382.out 2; have hfz50_3 := blk_frozen BK382.out 3; have hfz50_4 := blk_frozen BK382.out 4; have hfz50_5 := blk_frozen BK382.out 5))
          refine bodyPost_ret (results_cell_row rfl _ _ gb382 24 #[.int .i64 1, .bool a0, .int .i64 t384, .int .u64 t402, .int .u64 t398, .bool a3] (0, 0) _ rfl (by (with_reducible repeat (first | refine blk_drewN ?_ _ | refine blk_drew ?_ | refine blk_alloc ?_ _)); refine blk_put (cs := #[.int .i64 1, .bool a0, .int .i64 t384, .int .u64 t402, .int .u64 t398, .bool false]) ?_ 5 _ rfl; (with_reducible repeat (first | refine blk_drewN ?_ _ | refine blk_drew ?_ | refine blk_alloc ?_ _)); refine blk_put (cs := #[.int .i64 1, .bool a0, .int .i64 t384, .int .u64 t402, .int .u64 0, .bool false]) ?_ 4 _ rfl; (with_reducible repeat (first | refine blk_drewN ?_ _ | refine blk_drew ?_ | refine blk_alloc ?_ _)); refine blk_put (cs := #[.int .i64 1, .bool a0, .int .i64 t384, .int .u64 0, .int .u64 0, .bool false]) ?_ 3 _ rfl; (with_reducible repeat (first | refine blk_drewN ?_ _ | refine blk_drew ?_ | refine blk_alloc ?_ _)); refine blk_put (cs := #[.int .i64 1, .bool a0, .int .i64 0, .int .u64 0, .int .u64 0, .bool false]) ?_ 2 _ rfl; (with_reducible repeat (first | refine blk_drewN ?_ _ | refine blk_drew ?_ | refine blk_alloc ?_ _)); refine blk_put (cs := #[.int .i64 1, .bool false, .int .i64 0, .int .u64 0, .int .u64 0, .bool false]) ?_ 1 _ rfl; (with_reducible repeat (first | refine blk_drewN ?_ _ | refine blk_drew ?_ | refine blk_alloc ?_ _)); refine blk_put (cs := #[.int .i64 0, .bool false, .int .i64 0, .int .u64 0, .int .u64 0, .bool false]) ?_ 0 _ rfl; (with_reducible repeat (first | refine blk_drewN ?_ _ | refine blk_drew ?_ | refine blk_alloc ?_ _)); refine blk_far ?_ NB382_385.out _; (with_reducible repeat (first | refine blk_drewN ?_ _ | refine blk_drew ?_ | refine blk_alloc ?_ _)); exact BK382.out) Try.underlying24 rfl (by kernel_rfl)) rfl ?_
          exact ⟨by first | rfl | (simp [errW_none, errW_some] <;> rfl) | (simp [*, errW_none, errW_some] <;> rfl), by repeat (first | (with_reducible first | exact HB.out | apply below_alloc | apply pw_below_drewN | apply below_drew1 | refine below_set ?_ GE382.out | refine below_set ?_ GE385.out) | exact HB.out), by repeat (first | (with_reducible first | exact HK.out | apply Kept.alloc | apply Kept.drewN | apply Kept.drew | refine Kept.setCell ?_ (.inr GW382.out) _ | refine Kept.setCell ?_ (.inr GW385.out) _) | exact HK.out)⟩
end Go.Proofs.Ytfegofnplcmacaa.PAll
namespace Go.Proofs.Ytfegofnplcmacaa.PAll
open Go.RowKit Go.Proofs.YtfegofnplcmacaaW.PrintWords Go.Proofs.YtfegofnplcmacaaW.PrintLast Go.Proofs.YtfegofnplcmacaaW.PrintMore
attribute [local go_sem] max2_int min2_int max_two min_two max_three min_three max_four min_four
set_option linter.unusedVariables false
set_option linter.unusedSimpArgs false
mutual
def vernierref07_Makes.j0 : Nat → Bool → Int → Int → Int → Bool → Bool → Option (Int × Bool × Int × Int × Int × Bool × Int)
  | 0, _, _, _, _, _, _ => none
  | k + 1, x0, x1, x2, x3, x4, x18 => if x18 = true then (some (0, false, 0, 0, 0, false, 1)) else (if x3 < (-1125899906842624) then (vernierref07_Makes.j1 k x0 x1 x2 x4 (-1125899906842624)) else (vernierref07_Makes.j1 k x0 x1 x2 x4 x3))
def vernierref07_Makes.j1 : Nat → Bool → Int → Int → Bool → Int → Option (Int × Bool × Int × Int × Int × Bool × Int)
  | 0, _, _, _, _, _ => none
  | k + 1, x0, x1, x2, x4, x12 => if x12 > 1125899906842624 then (vernierref07_Makes.j2 k x0 x1 x2 x4 1125899906842624) else (vernierref07_Makes.j2 k x0 x1 x2 x4 x12)
def vernierref07_Makes.j2 : Nat → Bool → Int → Int → Bool → Int → Option (Int × Bool × Int × Int × Int × Bool × Int)
  | 0, _, _, _, _, _ => none
  | k + 1, x0, x1, x2, x4, x12 => (vernierref04_Of.f k x1).bind fun t404 => ((vernierref04_Shl.f k t404 64).bind fun t407 => ((vernierref04_Of.f k x2).bind fun t410 => ((vernierref04_Add.f k t407 t410).bind fun t413 => ((vernierref07_Exactly.f k x0 t413 x12 x4).bind fun bt416 => (some (bt416.1, bt416.2.1, bt416.2.2.1, bt416.2.2.2.1, bt416.2.2.2.2.1, bt416.2.2.2.2.2, 0))))))
end
def vernierref07_Makes.f (k : Nat) (a0 : Bool) (a1 : Int) (a2 : Int) (a3 : Int) (a4 : Bool) : Option (Int × Bool × Int × Int × Int × Bool × Int) := if a4 = true then (vernierref07_Makes.j0 k a0 a1 a2 a3 a4 (decide (a1 < 9223372036854775808))) else (vernierref07_Makes.j0 k a0 a1 a2 a3 a4 false)
theorem vernierref07_Makes.mono_l : ∀ k, (∀ y0 y1 y2 y3 y4 y5, LeO (vernierref07_Makes.j0 k y0 y1 y2 y3 y4 y5) (vernierref07_Makes.j0 (k + 1) y0 y1 y2 y3 y4 y5)) ∧ (∀ y0 y1 y2 y3 y4, LeO (vernierref07_Makes.j1 k y0 y1 y2 y3 y4) (vernierref07_Makes.j1 (k + 1) y0 y1 y2 y3 y4)) ∧ (∀ y0 y1 y2 y3 y4, LeO (vernierref07_Makes.j2 k y0 y1 y2 y3 y4) (vernierref07_Makes.j2 (k + 1) y0 y1 y2 y3 y4))
  | 0 => ⟨fun _ _ _ _ _ _ r h => by simp [vernierref07_Makes.j0] at h, fun _ _ _ _ _ r h => by simp [vernierref07_Makes.j1] at h, fun _ _ _ _ _ r h => by simp [vernierref07_Makes.j2] at h⟩
  | k + 1 => by
    obtain ⟨ih0, ih1, ih2⟩ := vernierref07_Makes.mono_l k
    refine ⟨?_, ?_, ?_⟩
    · intro y0 y1 y2 y3 y4 y5
      unfold vernierref07_Makes.j0
      repeat' first
      | (with_reducible exact ih0 _ _ _ _ _ _)
      | (with_reducible exact ih1 _ _ _ _ _)
      | (with_reducible exact ih2 _ _ _ _ _)
      | (with_reducible exact vernierref04_Add.mono _ _ _)
      | (with_reducible exact vernierref04_Of.mono _ _)
      | (with_reducible exact vernierref04_Shl.mono _ _ _)
      | (with_reducible exact vernierref07_Exactly.mono _ _ _ _ _)
      | (with_reducible exact LeO.refl _)
      | (with_reducible exact LeO.none _)
      | (with_reducible refine LeO.ite ?_ ?_)
      | (with_reducible refine LeO.bind ?_ (fun _ => ?_))
      | exact ih0 _ _ _ _ _ _
      | exact ih1 _ _ _ _ _
      | exact ih2 _ _ _ _ _
      | exact vernierref04_Add.mono _ _ _
      | exact vernierref04_Of.mono _ _
      | exact vernierref04_Shl.mono _ _ _
      | exact vernierref07_Exactly.mono _ _ _ _ _
      | exact LeO.none _
      | refine LeO.ite ?_ ?_
      | refine LeO.bind ?_ (fun _ => ?_)
    · intro y0 y1 y2 y3 y4
      unfold vernierref07_Makes.j1
      repeat' first
      | (with_reducible exact ih0 _ _ _ _ _ _)
      | (with_reducible exact ih1 _ _ _ _ _)
      | (with_reducible exact ih2 _ _ _ _ _)
      | (with_reducible exact vernierref04_Add.mono _ _ _)
      | (with_reducible exact vernierref04_Of.mono _ _)
      | (with_reducible exact vernierref04_Shl.mono _ _ _)
      | (with_reducible exact vernierref07_Exactly.mono _ _ _ _ _)
      | (with_reducible exact LeO.refl _)
      | (with_reducible exact LeO.none _)
      | (with_reducible refine LeO.ite ?_ ?_)
      | (with_reducible refine LeO.bind ?_ (fun _ => ?_))
      | exact ih0 _ _ _ _ _ _
      | exact ih1 _ _ _ _ _
      | exact ih2 _ _ _ _ _
      | exact vernierref04_Add.mono _ _ _
      | exact vernierref04_Of.mono _ _
      | exact vernierref04_Shl.mono _ _ _
      | exact vernierref07_Exactly.mono _ _ _ _ _
      | exact LeO.none _
      | refine LeO.ite ?_ ?_
      | refine LeO.bind ?_ (fun _ => ?_)
    · intro y0 y1 y2 y3 y4
      unfold vernierref07_Makes.j2
      repeat' first
      | (with_reducible exact ih0 _ _ _ _ _ _)
      | (with_reducible exact ih1 _ _ _ _ _)
      | (with_reducible exact ih2 _ _ _ _ _)
      | (with_reducible exact vernierref04_Add.mono _ _ _)
      | (with_reducible exact vernierref04_Of.mono _ _)
      | (with_reducible exact vernierref04_Shl.mono _ _ _)
      | (with_reducible exact vernierref07_Exactly.mono _ _ _ _ _)
      | (with_reducible exact LeO.refl _)
      | (with_reducible exact LeO.none _)
      | (with_reducible refine LeO.ite ?_ ?_)
      | (with_reducible refine LeO.bind ?_ (fun _ => ?_))
      | exact ih0 _ _ _ _ _ _
      | exact ih1 _ _ _ _ _
      | exact ih2 _ _ _ _ _
      | exact vernierref04_Add.mono _ _ _
      | exact vernierref04_Of.mono _ _
      | exact vernierref04_Shl.mono _ _ _
      | exact vernierref07_Exactly.mono _ _ _ _ _
      | exact LeO.none _
      | refine LeO.ite ?_ ?_
      | refine LeO.bind ?_ (fun _ => ?_)
theorem vernierref07_Makes.mono : ∀ a0 a1 a2 a3 a4 k, LeO (vernierref07_Makes.f k a0 a1 a2 a3 a4) (vernierref07_Makes.f (k + 1) a0 a1 a2 a3 a4) := by
  intro a0 a1 a2 a3 a4 k
  obtain ⟨ih0, ih1, ih2⟩ := vernierref07_Makes.mono_l k
  unfold vernierref07_Makes.f
  repeat' first
      | (with_reducible exact ih0 _ _ _ _ _ _)
      | (with_reducible exact ih1 _ _ _ _ _)
      | (with_reducible exact ih2 _ _ _ _ _)
      | (with_reducible exact vernierref04_Add.mono _ _ _)
      | (with_reducible exact vernierref04_Of.mono _ _)
      | (with_reducible exact vernierref04_Shl.mono _ _ _)
      | (with_reducible exact vernierref07_Exactly.mono _ _ _ _ _)
      | (with_reducible exact LeO.refl _)
      | (with_reducible exact LeO.none _)
      | (with_reducible refine LeO.ite ?_ ?_)
      | (with_reducible refine LeO.bind ?_ (fun _ => ?_))
      | exact ih0 _ _ _ _ _ _
      | exact ih1 _ _ _ _ _
      | exact ih2 _ _ _ _ _
      | exact vernierref04_Add.mono _ _ _
      | exact vernierref04_Of.mono _ _
      | exact vernierref04_Shl.mono _ _ _
      | exact vernierref07_Exactly.mono _ _ _ _ _
      | exact LeO.none _
      | refine LeO.ite ?_ ?_
      | refine LeO.bind ?_ (fun _ => ?_)
set_option maxHeartbeats 8000000 in
set_option maxRecDepth 100000 in
theorem vernierref07_Makes.calls (k : Nat) (a0 : Bool) (a1 : Int) (a2 : Int) (a3 : Int) (a4 : Bool) (r1 : Int) (r2 : Bool) (r3 : Int) (r4 : Int) (r5 : Int) (r6 : Bool) (r7 : Int) (w : World) (h : vernierref07_Makes.f k a0 a1 a2 a3 a4 = some (r1, r2, r3, r4, r5, r6, r7)) :
    Calls Try.prog 23 #[.bool a0, .int .u64 a1, .int .u64 a2, .int .i64 a3, .bool a4] w fun e w' => e = .returned (.tuple #[.agg #[.int .i64 r1, .bool r2, .int .i64 r3, .int .u64 r4, .int .u64 r5, .bool r6], .int .i64 r7]) ∧ Below w.heap.size w w' := by
  have hu24 := Try.underlying24
  have HB := Aside0.mk (Below.refl w.heap.size w)
  have H : (if a4 = true then (vernierref07_Makes.j0 k a0 a1 a2 a3 a4 (decide (a1 < 9223372036854775808))) else (vernierref07_Makes.j0 k a0 a1 a2 a3 a4 false)) = some (r1, r2, r3, r4, r5, r6, r7) := h
  clear h
  have HC6 := Aside0.mk H
  clear H
  go_enter Try.func23, Try.ntmps23
  go_upto_region 1 with (first | ((with_reducible refine gate_dst (N := 10) rfl ?_); refine box_event ?hg (N := 10) ?hd (cs := #[.int .i64 0, .bool false, .int .i64 0, .int .u64 0, .int .u64 0, .bool false]) (t := 24) ?hr ?_; (case hd => rfl); (case hg => rfl); (case hr => first | (go_simp; done) | (go_simp; rfl)); intro gb403 hg w7 hbox hb; have n0_ := Aside0.mk (below_step (by repeat (first | (with_reducible first | exact HB.out | apply below_alloc | apply pw_below_drewN | apply below_drew1) | exact HB.out)) hb); have n1_ := Aside0.mk (hbox); have n2_ := Aside0.mk ((by rw [hg]; exact (below_size (by repeat (first | (with_reducible first | exact HB.out | apply below_alloc | apply pw_below_drewN | apply below_drew1) | exact HB.out))) : w.heap.size ≤ gb403)); have n3_ := Aside0.mk ((by rw [hg]; exact (below_size (by repeat (first | (with_reducible first | exact HB.out | apply below_alloc | apply pw_below_drewN | apply below_drew1) | exact HB.out))) : w.heap.size ≤ gb403)); clear HB; have HB := n0_; have BK403 := n1_; have GW403 := n2_; have GE403 := n3_; clear n0_ n1_ n2_ n3_; clear hb hbox hg))
  (try simp only [Act.put, List.setIfInBounds_toArray, List.set_cons_zero, List.set_cons_succ])
  go_cut [18] (fun v18 wc => ∃ (kq : Nat) (x18_5 : Bool), v18 = .bool x18_5 ∧ Aside0 (vernierref07_Makes.j0 kq a0 a1 a2 a3 a4 x18_5 = some (r1, r2, r3, r4, r5, r6, r7)) ∧ Aside0 (kq ≤ k) ∧ Aside0 (wc.heap[gb403]? = some (.cells #[.int .i64 0, .bool false, .int .i64 0, .int .u64 0, .int .u64 0, .bool false] 24 (0, 0))) ∧ Aside0 (Below w.heap.size w wc))
  case first =>
    have H := HC6.out
    clear HC6
    by_cases c8 : a4 = true
    · subst c8
      have H1 : (vernierref07_Makes.j0 k a0 a1 a2 a3 true (decide (a1 < 9223372036854775808))) = some (r1, r2, r3, r4, r5, r6, r7) := by rw [if_pos rfl] at H; exact H
      clear H
      have H := H1
      clear H1
      have H' := Aside0.mk H
      clear H
      go_wp2
      go_meet
      case rel => exact ⟨_, (decide (a1 < 9223372036854775808)), (by first | rfl | (simp; done) | (simp [*]; done)), H', ⟨by first | omega | exact Nat.le_refl _⟩, ⟨by (with_reducible repeat (first | refine blk_drewN ?_ _ | refine blk_drew ?_ | refine blk_alloc ?_ _)); exact BK403.out⟩, ⟨by repeat (first | (with_reducible first | exact HB.out | apply below_alloc | apply pw_below_drewN | apply below_drew1 | refine below_set ?_ GE403.out) | exact HB.out)⟩⟩
    · replace c8 := Bool.eq_false_iff.mpr c8
      subst c8
      have H1 : (vernierref07_Makes.j0 k a0 a1 a2 a3 false false) = some (r1, r2, r3, r4, r5, r6, r7) := by rw [if_neg (show ¬ (false = true) by decide)] at H; exact H
      clear H
      have H := H1
      clear H1
      have H' := Aside0.mk H
      clear H
      go_wp2
      go_meet
      case rel => exact ⟨_, (false), (by first | rfl | (simp; done) | (simp [*]; done)), H', ⟨by first | omega | exact Nat.le_refl _⟩, ⟨by (with_reducible repeat (first | refine blk_drewN ?_ _ | refine blk_drew ?_ | refine blk_alloc ?_ _)); exact BK403.out⟩, ⟨by repeat (first | (with_reducible first | exact HB.out | apply below_alloc | apply pw_below_drewN | apply below_drew1 | refine below_set ?_ GE403.out) | exact HB.out)⟩⟩
  case rest =>
    clear HC6
    try clear c2
    try clear p2
    try clear c8
    obtain ⟨kq, x18_5, rfl, HA, HJ5, BK403, HB⟩ := hcut
    cases kq with
    | zero => exact absurd HA.out (by simp [vernierref07_Makes.j0])
    | succ kj5 =>
      have H := HA.out
      clear HA
      simp only [vernierref07_Makes.j0] at H
      by_cases c9 : x18_5 = true
      · subst c9
        have H1 : (some (0, false, 0, 0, 0, false, 1)) = some (r1, r2, r3, r4, r5, r6, r7) := by rw [if_pos rfl] at H; exact H
        clear H
        have H := H1
        clear H1
        simp only [Option.some.injEq, Prod.mk.injEq] at H
        obtain ⟨rfl, rfl, rfl, rfl, rfl, rfl, rfl⟩ := H
        have hcz10_0 : wc.cell? ⟨gb403, 0, none⟩ = some (.int .i64 0) := (blk_cell BK403.out 0).trans rfl
        have hcz10_1 : wc.cell? ⟨gb403, 1, none⟩ = some (.bool false) := (blk_cell BK403.out 1).trans rfl
        have hcz10_2 : wc.cell? ⟨gb403, 2, none⟩ = some (.int .i64 0) := (blk_cell BK403.out 2).trans rfl
        have hcz10_3 : wc.cell? ⟨gb403, 3, none⟩ = some (.int .u64 0) := (blk_cell BK403.out 3).trans rfl
        have hcz10_4 : wc.cell? ⟨gb403, 4, none⟩ = some (.int .u64 0) := (blk_cell BK403.out 4).trans rfl
        have hcz10_5 : wc.cell? ⟨gb403, 5, none⟩ = some (.bool false) := (blk_cell BK403.out 5).trans rfl
        have hfz10_0 := blk_frozen BK403.out 0
        have hfz10_1 := blk_frozen BK403.out 1
        have hfz10_2 := blk_frozen BK403.out 2
        have hfz10_3 := blk_frozen BK403.out 3
        have hfz10_4 := blk_frozen BK403.out 4
        have hfz10_5 := blk_frozen BK403.out 5
        go_wp2
        refine bodyPost_ret (results_ct rfl _ _ gb403 24 #[.int .i64 0, .bool false, .int .i64 0, .int .u64 0, .int .u64 0, .bool false] (0, 0) _ rfl (by (with_reducible repeat (first | refine blk_drewN ?_ _ | refine blk_drew ?_ | refine blk_alloc ?_ _)); refine blk_put (cs := #[.int .i64 0, .bool false, .int .i64 0, .int .u64 0, .int .u64 0, .bool false]) ?_ 5 _ rfl; (with_reducible repeat (first | refine blk_drewN ?_ _ | refine blk_drew ?_ | refine blk_alloc ?_ _)); refine blk_put (cs := #[.int .i64 0, .bool false, .int .i64 0, .int .u64 0, .int .u64 0, .bool false]) ?_ 4 _ rfl; (with_reducible repeat (first | refine blk_drewN ?_ _ | refine blk_drew ?_ | refine blk_alloc ?_ _)); refine blk_put (cs := #[.int .i64 0, .bool false, .int .i64 0, .int .u64 0, .int .u64 0, .bool false]) ?_ 3 _ rfl; (with_reducible repeat (first | refine blk_drewN ?_ _ | refine blk_drew ?_ | refine blk_alloc ?_ _)); refine blk_put (cs := #[.int .i64 0, .bool false, .int .i64 0, .int .u64 0, .int .u64 0, .bool false]) ?_ 2 _ rfl; (with_reducible repeat (first | refine blk_drewN ?_ _ | refine blk_drew ?_ | refine blk_alloc ?_ _)); refine blk_put (cs := #[.int .i64 0, .bool false, .int .i64 0, .int .u64 0, .int .u64 0, .bool false]) ?_ 1 _ rfl; (with_reducible repeat (first | refine blk_drewN ?_ _ | refine blk_drew ?_ | refine blk_alloc ?_ _)); refine blk_put (cs := #[.int .i64 0, .bool false, .int .i64 0, .int .u64 0, .int .u64 0, .bool false]) ?_ 0 _ rfl; (with_reducible repeat (first | refine blk_drewN ?_ _ | refine blk_drew ?_ | refine blk_alloc ?_ _)); exact BK403.out) Try.underlying24 rfl (by kernel_rfl)) rfl ?_
        exact ⟨by first | rfl | (simp [errW_none, errW_some] <;> rfl) | (simp [*, errW_none, errW_some] <;> rfl), by repeat (first | (with_reducible first | exact HB.out | apply below_alloc | apply pw_below_drewN | apply below_drew1 | refine below_set ?_ GE403.out) | exact HB.out)⟩
      · replace c9 := Bool.eq_false_iff.mpr c9
        subst c9
        have H1 : (if a3 < (-1125899906842624) then (vernierref07_Makes.j1 kj5 a0 a1 a2 a4 (-1125899906842624)) else (vernierref07_Makes.j1 kj5 a0 a1 a2 a4 a3)) = some (r1, r2, r3, r4, r5, r6, r7) := by rw [if_neg (show ¬ (false = true) by decide)] at H; exact H
        clear H
        have H := H1
        clear H1
        have HC11 := Aside0.mk H
        clear H
        go_upto_if 22 with (fail)
        go_cut [12] (fun v12 wc => ∃ (kq : Nat) (x12_10 : Int), v12 = .int .i64 x12_10 ∧ Aside0 (vernierref07_Makes.j1 kq a0 a1 a2 a4 x12_10 = some (r1, r2, r3, r4, r5, r6, r7)) ∧ Aside0 (kq ≤ kj5) ∧ Aside0 (wc.heap[gb403]? = some (.cells #[.int .i64 0, .bool false, .int .i64 0, .int .u64 0, .int .u64 0, .bool false] 24 (0, 0))) ∧ Aside0 (Below w.heap.size w wc))
        case first =>
          have H := HC11.out
          clear HC11
          by_cases c12 : a3 < (-1125899906842624)
          · rw [if_pos c12] at H
            have c12b0 : decide (a3 < (-1125899906842624)) = true := decide_eq_true c12
            clear c12
            (first | rw [c12b0] | (simp only [i64_w, i32_w]; rw [c12b0]) | skip)
            have H' := Aside0.mk H
            clear H
            go_wp2
            go_meet
            case rel => exact ⟨_, ((-1125899906842624)), (by first | rfl | (simp; done) | (simp [*]; done)), H', ⟨by have := HJ5.out; first | omega | exact Nat.le_refl _⟩, ⟨by (with_reducible repeat (first | refine blk_drewN ?_ _ | refine blk_drew ?_ | refine blk_alloc ?_ _)); exact BK403.out⟩, ⟨by repeat (first | (with_reducible first | exact HB.out | apply below_alloc | apply pw_below_drewN | apply below_drew1 | refine below_set ?_ GE403.out) | exact HB.out)⟩⟩
          · rw [if_neg c12] at H
            have c12b0 : decide (a3 < (-1125899906842624)) = false := decide_eq_false c12
            clear c12
            (first | rw [c12b0] | (simp only [i64_w, i32_w]; rw [c12b0]) | skip)
            have H' := Aside0.mk H
            clear H
            go_wp2
            go_meet
            case rel => exact ⟨_, (a3), (by first | rfl | (simp; done) | (simp [*]; done)), H', ⟨by have := HJ5.out; first | omega | exact Nat.le_refl _⟩, ⟨by (with_reducible repeat (first | refine blk_drewN ?_ _ | refine blk_drew ?_ | refine blk_alloc ?_ _)); exact BK403.out⟩, ⟨by repeat (first | (with_reducible first | exact HB.out | apply below_alloc | apply pw_below_drewN | apply below_drew1 | refine below_set ?_ GE403.out) | exact HB.out)⟩⟩
        case rest =>
          clear HC11
          try clear c1
          try clear c2
          try clear p2
          try clear c8
          try clear c9
          try clear c12
          try clear c12b0
          try clear hcz10_0
          try clear hcz10_1
          try clear hcz10_2
          try clear hcz10_3
          try clear hcz10_4
          try clear hcz10_5
          try clear hfz10_0
          try clear hfz10_1
          try clear hfz10_2
          try clear hfz10_3
          try clear hfz10_4
          try clear hfz10_5
          try clear p2
          obtain ⟨kq, x12_10, rfl, HA, HJ10, BK403, HB⟩ := hcut
          cases kq with
          | zero => exact absurd HA.out (by simp [vernierref07_Makes.j1])
          | succ kj10 =>
            have H := HA.out
            clear HA
            simp only [vernierref07_Makes.j1] at H
            have HC13 := Aside0.mk H
            clear H
            go_upto_if 24 with (fail)
            go_cut [12] (fun v12 wc => ∃ (kq : Nat) (x12_12 : Int), v12 = .int .i64 x12_12 ∧ Aside0 (vernierref07_Makes.j2 kq a0 a1 a2 a4 x12_12 = some (r1, r2, r3, r4, r5, r6, r7)) ∧ Aside0 (kq ≤ kj10) ∧ Aside0 (wc.heap[gb403]? = some (.cells #[.int .i64 0, .bool false, .int .i64 0, .int .u64 0, .int .u64 0, .bool false] 24 (0, 0))) ∧ Aside0 (Below w.heap.size w wc))
            case first =>
              have H := HC13.out
              clear HC13
              by_cases c14 : x12_10 > 1125899906842624
              · rw [if_pos c14] at H
                have c14b0 : decide (1125899906842624 < x12_10) = true := decide_eq_true c14
                clear c14
                (first | rw [c14b0] | (simp only [i64_w, i32_w]; rw [c14b0]) | skip)
                have H' := Aside0.mk H
                clear H
                go_wp2
                go_meet
                case rel => exact ⟨_, (1125899906842624), (by first | rfl | (simp; done) | (simp [*]; done)), H', ⟨by have := HJ5.out; have := HJ10.out; first | omega | exact Nat.le_refl _⟩, ⟨by (with_reducible repeat (first | refine blk_drewN ?_ _ | refine blk_drew ?_ | refine blk_alloc ?_ _)); exact BK403.out⟩, ⟨by repeat (first | (with_reducible first | exact HB.out | apply below_alloc | apply pw_below_drewN | apply below_drew1 | refine below_set ?_ GE403.out) | exact HB.out)⟩⟩
              · rw [if_neg c14] at H
                have c14b0 : decide (1125899906842624 < x12_10) = false := decide_eq_false c14
                clear c14
                (first | rw [c14b0] | (simp only [i64_w, i32_w]; rw [c14b0]) | skip)
                have H' := Aside0.mk H
                clear H
                go_wp2
                go_meet
                case rel => exact ⟨_, (x12_10), (by first | rfl | (simp; done) | (simp [*]; done)), H', ⟨by have := HJ5.out; have := HJ10.out; first | omega | exact Nat.le_refl _⟩, ⟨by (with_reducible repeat (first | refine blk_drewN ?_ _ | refine blk_drew ?_ | refine blk_alloc ?_ _)); exact BK403.out⟩, ⟨by repeat (first | (with_reducible first | exact HB.out | apply below_alloc | apply pw_below_drewN | apply below_drew1 | refine below_set ?_ GE403.out) | exact HB.out)⟩⟩
            case rest =>
              clear HC13
              try clear c1
              try clear c2
              try clear p2
              try clear c8
              try clear c9
              try clear c12
              try clear c12b0
              try clear c14
              try clear c14b0
              try clear hcz10_0
              try clear hcz10_1
              try clear hcz10_2
              try clear hcz10_3
              try clear hcz10_4
              try clear hcz10_5
              try clear hfz10_0
              try clear hfz10_1
              try clear hfz10_2
              try clear hfz10_3
              try clear hfz10_4
              try clear hfz10_5
              try clear p2
              obtain ⟨kq, x12_12, rfl, HA, HJ12, BK403, HB⟩ := hcut
              cases kq with
              | zero => exact absurd HA.out (by simp [vernierref07_Makes.j2])
              | succ kj12 =>
                have H := HA.out
                clear HA
                simp only [vernierref07_Makes.j2] at H
                replace H := Option.bind_eq_some_iff.mp H
                obtain ⟨t404, A150, H⟩ := H
                replace H : ((vernierref04_Shl.f kj12 t404 64).bind fun t407 => ((vernierref04_Of.f kj12 a2).bind fun t410 => ((vernierref04_Add.f kj12 t407 t410).bind fun t413 => ((vernierref07_Exactly.f kj12 a0 t413 x12_12 a4).bind fun bt416 => (some (bt416.1, bt416.2.1, bt416.2.2.1, bt416.2.2.2.1, bt416.2.2.2.2.1, bt416.2.2.2.2.2, 0)))))) = some (r1, r2, r3, r4, r5, r6, r7) := H
                have A15 := Aside0.mk A150
                clear A150
                replace H := Option.bind_eq_some_iff.mp H
                obtain ⟨t407, A160, H⟩ := H
                replace H : ((vernierref04_Of.f kj12 a2).bind fun t410 => ((vernierref04_Add.f kj12 t407 t410).bind fun t413 => ((vernierref07_Exactly.f kj12 a0 t413 x12_12 a4).bind fun bt416 => (some (bt416.1, bt416.2.1, bt416.2.2.1, bt416.2.2.2.1, bt416.2.2.2.2.1, bt416.2.2.2.2.2, 0))))) = some (r1, r2, r3, r4, r5, r6, r7) := H
                have A16 := Aside0.mk A160
                clear A160
                replace H := Option.bind_eq_some_iff.mp H
                obtain ⟨t410, A170, H⟩ := H
                replace H : ((vernierref04_Add.f kj12 t407 t410).bind fun t413 => ((vernierref07_Exactly.f kj12 a0 t413 x12_12 a4).bind fun bt416 => (some (bt416.1, bt416.2.1, bt416.2.2.1, bt416.2.2.2.1, bt416.2.2.2.2.1, bt416.2.2.2.2.2, 0)))) = some (r1, r2, r3, r4, r5, r6, r7) := H
                have A17 := Aside0.mk A170
                clear A170
                replace H := Option.bind_eq_some_iff.mp H
                obtain ⟨t413, A180, H⟩ := H
                replace H : ((vernierref07_Exactly.f kj12 a0 t413 x12_12 a4).bind fun bt416 => (some (bt416.1, bt416.2.1, bt416.2.2.1, bt416.2.2.2.1, bt416.2.2.2.2.1, bt416.2.2.2.2.2, 0))) = some (r1, r2, r3, r4, r5, r6, r7) := H
                have A18 := Aside0.mk A180
                clear A180
                replace H := Option.bind_eq_some_iff.mp H
                obtain ⟨⟨t416, t417, t418, t419, t420, t421⟩, A190, H⟩ := H
                replace H : (some (t416, t417, t418, t419, t420, t421, 0)) = some (r1, r2, r3, r4, r5, r6, r7) := H
                have A19 := Aside0.mk A190
                clear A190
                simp only [Option.some.injEq, Prod.mk.injEq] at H
                obtain ⟨rfl, rfl, rfl, rfl, rfl, rfl, rfl⟩ := H
                go_wp2_with (first | ((with_reducible refine gate_callee (f := 47) rfl ?_); refine goesL_ (some 26) rfl rfl Try.func47 (by kernel_rfl) rfl #[.int .u64 a1] rfl (by (try simp only [List.map_toArray, List.map_cons, List.map_nil]); first | done | rfl | (simp only [List.length_drop, List.length_take]; rfl)) ?_; (with_reducible refine (vernierref04_Of.calls kj12 a1 t404 _ A15.out).mono ?_); rintro e w20 ⟨v405, rfl, ho0, hb⟩; refine ⟨_, rfl, ?_⟩; have n0_ := Aside0.mk (Kd.R_lower ho0 (below_size (by repeat (first | (with_reducible first | exact HB.out | apply below_alloc | apply pw_below_drewN | apply below_drew1 | refine below_set ?_ GE403.out) | exact HB.out)))); have n1_ := Aside0.mk (blk_below (g := gb403) (o := .cells #[.int .i64 0, .bool false, .int .i64 0, .int .u64 0, .int .u64 0, .bool false] 24 (0, 0)) (by (with_reducible repeat (first | refine blk_drewN ?_ _ | refine blk_drew ?_ | refine blk_alloc ?_ _)); exact BK403.out) hb); have n2_ := Aside0.mk (below_step (by repeat (first | (with_reducible first | exact HB.out | apply below_alloc | apply pw_below_drewN | apply below_drew1 | refine below_set ?_ GE403.out) | exact HB.out)) hb); clear BK403; clear HB; have HO406 := n0_; have BK403 := n1_; have HB := n2_; clear n0_ n1_ n2_; (try clear hb); (try clear hb2); (try clear hk); (try clear hi); (try clear ho0); obtain ⟨Ao21, co21, eo21⟩ := Kd.R_slice HO406.out; subst eo21) | ((with_reducible refine gate_callee (f := 46) rfl ?_); refine goesL_ (some 27) rfl rfl Try.func46 (by kernel_rfl) rfl #[.slice Ao21 t404.length co21, .int .i64 64] rfl (by (try simp only [List.map_toArray, List.map_cons, List.map_nil]); first | done | rfl | (simp only [List.length_drop, List.length_take]; rfl)) ?_; (with_reducible refine (vernierref04_Shl.calls kj12 _ _ t404 64 t407 _ ?side1 ?side2 A16.out).mono ?_); (case side1 => repeat (first | exact (Kd.R_reads' HO406.out).2.2 | (with_reducible refine Kd.C_alloc ?_ _) | (with_reducible refine Kd.C_drewN ?_ _) | (with_reducible refine Kd.C_drew ?_))); (case side2 => exact (Kd.R_reads' HO406.out).2.1); rintro e w22 ⟨v408, rfl, ho0, hb⟩; refine ⟨_, rfl, ?_⟩; have n0_ := Aside0.mk (Kd.R_elder' (by (with_reducible repeat (first | apply Kd.R_alloc | apply Kd.R_drewN | apply Kd.R_drew)); exact HO406.out) (Kd.R_base ho0) hb); have n1_ := Aside0.mk (Kd.R_lower (Kd.R_new' ho0 (Kd.R_lt (by (with_reducible repeat (first | apply Kd.R_alloc | apply Kd.R_drewN | apply Kd.R_drew)); exact HO406.out))) (below_size (by repeat (first | (with_reducible first | exact HB.out | apply below_alloc | apply pw_below_drewN | apply below_drew1 | refine below_set ?_ GE403.out) | exact HB.out)))); have n2_ := Aside0.mk (blk_below (g := gb403) (o := .cells #[.int .i64 0, .bool false, .int .i64 0, .int .u64 0, .int .u64 0, .bool false] 24 (0, 0)) (by (with_reducible repeat (first | refine blk_drewN ?_ _ | refine blk_drew ?_ | refine blk_alloc ?_ _)); exact BK403.out) hb); have n3_ := Aside0.mk (below_step (by repeat (first | (with_reducible first | exact HB.out | apply below_alloc | apply pw_below_drewN | apply below_drew1 | refine below_set ?_ GE403.out) | exact HB.out)) hb); clear HO406; clear BK403; clear HB; have HO406 := n0_; have HO409 := n1_; have BK403 := n2_; have HB := n3_; clear n0_ n1_ n2_ n3_; (try clear hb); (try clear hb2); (try clear hk); (try clear hi); (try clear ho0)) | ((with_reducible refine gate_callee (f := 47) rfl ?_); refine goesL_ (some 29) rfl rfl Try.func47 (by kernel_rfl) rfl #[.int .u64 a2] rfl (by (try simp only [List.map_toArray, List.map_cons, List.map_nil]); first | done | rfl | (simp only [List.length_drop, List.length_take]; rfl)) ?_; (with_reducible refine (vernierref04_Of.calls kj12 a2 t410 _ A17.out).mono ?_); rintro e w23 ⟨v411, rfl, ho0, hb⟩; refine ⟨_, rfl, ?_⟩; have n0_ := Aside0.mk (Kd.R_elder' (by (with_reducible repeat (first | apply Kd.R_alloc | apply Kd.R_drewN | apply Kd.R_drew)); exact HO406.out) (Kd.R_base ho0) hb); have n1_ := Aside0.mk (Kd.R_elder' (by (with_reducible repeat (first | apply Kd.R_alloc | apply Kd.R_drewN | apply Kd.R_drew)); exact HO409.out) (Kd.R_base ho0) hb); have n2_ := Aside0.mk (Kd.R_lower (Kd.R_new' (Kd.R_new' ho0 (Kd.R_lt (by (with_reducible repeat (first | apply Kd.R_alloc | apply Kd.R_drewN | apply Kd.R_drew)); exact HO406.out))) (Kd.R_lt (by (with_reducible repeat (first | apply Kd.R_alloc | apply Kd.R_drewN | apply Kd.R_drew)); exact HO409.out))) (below_size (by repeat (first | (with_reducible first | exact HB.out | apply below_alloc | apply pw_below_drewN | apply below_drew1 | refine below_set ?_ GE403.out) | exact HB.out)))); have n3_ := Aside0.mk (blk_below (g := gb403) (o := .cells #[.int .i64 0, .bool false, .int .i64 0, .int .u64 0, .int .u64 0, .bool false] 24 (0, 0)) (by (with_reducible repeat (first | refine blk_drewN ?_ _ | refine blk_drew ?_ | refine blk_alloc ?_ _)); exact BK403.out) hb); have n4_ := Aside0.mk (below_step (by repeat (first | (with_reducible first | exact HB.out | apply below_alloc | apply pw_below_drewN | apply below_drew1 | refine below_set ?_ GE403.out) | exact HB.out)) hb); clear HO406; clear HO409; clear BK403; clear HB; have HO406 := n0_; have HO409 := n1_; have HO412 := n2_; have BK403 := n3_; have HB := n4_; clear n0_ n1_ n2_ n3_ n4_; (try clear hb); (try clear hb2); (try clear hk); (try clear hi); (try clear ho0); obtain ⟨Ao24, co24, eo24⟩ := Kd.R_slice HO409.out; subst eo24; obtain ⟨Ao25, co25, eo25⟩ := Kd.R_slice HO412.out; subst eo25) | ((with_reducible refine gate_callee (f := 45) rfl ?_); refine goesL_ (some 30) rfl rfl Try.func45 (by kernel_rfl) rfl #[.slice Ao24 t407.length co24, .slice Ao25 t410.length co25] rfl (by (try simp only [List.map_toArray, List.map_cons, List.map_nil]); first | done | rfl | (simp only [List.length_drop, List.length_take]; rfl)) ?_; (with_reducible refine (vernierref04_Add.calls kj12 _ _ t407 _ _ t410 t413 _ ?side1 ?side2 ?side3 ?side4 A18.out).mono ?_); (case side1 => repeat (first | exact (Kd.R_reads' HO409.out).2.2 | (with_reducible refine Kd.C_alloc ?_ _) | (with_reducible refine Kd.C_drewN ?_ _) | (with_reducible refine Kd.C_drew ?_))); (case side2 => exact (Kd.R_reads' HO409.out).2.1); (case side3 => repeat (first | exact (Kd.R_reads' HO412.out).2.2 | (with_reducible refine Kd.C_alloc ?_ _) | (with_reducible refine Kd.C_drewN ?_ _) | (with_reducible refine Kd.C_drew ?_))); (case side4 => exact (Kd.R_reads' HO412.out).2.1); rintro e w26 ⟨v414, rfl, ho0, hb⟩; refine ⟨_, rfl, ?_⟩; have n0_ := Aside0.mk (Kd.R_elder' (by (with_reducible repeat (first | apply Kd.R_alloc | apply Kd.R_drewN | apply Kd.R_drew)); exact HO406.out) (Kd.R_base ho0) hb); have n1_ := Aside0.mk (Kd.R_elder' (by (with_reducible repeat (first | apply Kd.R_alloc | apply Kd.R_drewN | apply Kd.R_drew)); exact HO409.out) (Kd.R_base ho0) hb); have n2_ := Aside0.mk (Kd.R_elder' (by (with_reducible repeat (first | apply Kd.R_alloc | apply Kd.R_drewN | apply Kd.R_drew)); exact HO412.out) (Kd.R_base ho0) hb); have n3_ := Aside0.mk (Kd.R_lower (Kd.R_new' (Kd.R_new' (Kd.R_new' ho0 (Kd.R_lt (by (with_reducible repeat (first | apply Kd.R_alloc | apply Kd.R_drewN | apply Kd.R_drew)); exact HO406.out))) (Kd.R_lt (by (with_reducible repeat (first | apply Kd.R_alloc | apply Kd.R_drewN | apply Kd.R_drew)); exact HO409.out))) (Kd.R_lt (by (with_reducible repeat (first | apply Kd.R_alloc | apply Kd.R_drewN | apply Kd.R_drew)); exact HO412.out))) (below_size (by repeat (first | (with_reducible first | exact HB.out | apply below_alloc | apply pw_below_drewN | apply below_drew1 | refine below_set ?_ GE403.out) | exact HB.out)))); have n4_ := Aside0.mk (blk_below (g := gb403) (o := .cells #[.int .i64 0, .bool false, .int .i64 0, .int .u64 0, .int .u64 0, .bool false] 24 (0, 0)) (by (with_reducible repeat (first | refine blk_drewN ?_ _ | refine blk_drew ?_ | refine blk_alloc ?_ _)); exact BK403.out) hb); have n5_ := Aside0.mk (below_step (by repeat (first | (with_reducible first | exact HB.out | apply below_alloc | apply pw_below_drewN | apply below_drew1 | refine below_set ?_ GE403.out) | exact HB.out)) hb); clear HO406; clear HO409; clear HO412; clear BK403; clear HB; have HO406 := n0_; have HO409 := n1_; have HO412 := n2_; have HO415 := n3_; have BK403 := n4_; have HB := n5_; clear n0_ n1_ n2_ n3_ n4_ n5_; (try clear hb); (try clear hb2); (try clear hk); (try clear hi); (try clear ho0); obtain ⟨Ao27, co27, eo27⟩ := Kd.R_slice HO415.out; subst eo27) | ((with_reducible refine gate_callee (f := 48) rfl ?_); refine goesL_ (some 35) rfl rfl Try.func48 (by kernel_rfl) rfl #[.bool a0, .slice Ao27 t413.length co27, .int .i64 x12_12, .bool a4] rfl (by (try simp only [List.map_toArray, List.map_cons, List.map_nil]); first | done | rfl | (simp only [List.length_drop, List.length_take]; rfl)) ?_; (with_reducible refine (vernierref07_Exactly.calls kj12 a0 (fun k_ => some k_ = (.slice Ao27 t413.length co27 : Value).ownBlock) (.slice Ao27 t413.length co27) t413 x12_12 a4 t416 t417 t418 t419 t420 t421 w _ ?side1 ?side2 A19.out).mono ?_); (case side1 => repeat (first | (with_reducible first | exact HB.out | apply below_alloc | apply pw_below_drewN | apply below_drew1 | refine below_set ?_ GE403.out) | exact HB.out)); (case side2 => exact Kd.R_tight rfl HO415.out); rintro e w28 ⟨rfl, hb, hkp⟩; refine ⟨_, rfl, ?_⟩; have n0_ := Aside0.mk (blk_kept (by (with_reducible repeat (first | refine blk_drewN ?_ _ | refine blk_drew ?_ | refine blk_alloc ?_ _)); exact BK403.out) hkp (fun hs_ => (fun e_ => (Kd.R_ne HO415.out BK403.out (by decide)) e_) hs_)); have n1_ := Aside0.mk (Kd.R_mono (ok' := fun k_ => some k_ ≠ (.slice Ao24 t407.length co24 : Value).ownBlock ∧ some k_ ≠ (.slice Ao25 t410.length co25 : Value).ownBlock) (Kd.R_keptB (HO406.out) hkp (fun k_ hk_ hs_ => (hk_.2) hs_)) (fun k_ hk_ => ⟨hk_.1.1.1.2, hk_.1.1.2⟩)); have n2_ := Aside0.mk (Kd.R_mono (ok' := fun k_ => some k_ ≠ (.slice Ao21 t404.length co21 : Value).ownBlock ∧ some k_ ≠ (.slice Ao25 t410.length co25 : Value).ownBlock) (Kd.R_keptB (HO409.out) hkp (fun k_ hk_ hs_ => (hk_.2) hs_)) (fun k_ hk_ => ⟨hk_.1.1.1.2, hk_.1.1.2⟩)); have n3_ := Aside0.mk (Kd.R_mono (ok' := fun k_ => some k_ ≠ (.slice Ao21 t404.length co21 : Value).ownBlock ∧ some k_ ≠ (.slice Ao24 t407.length co24 : Value).ownBlock) (Kd.R_keptB (HO412.out) hkp (fun k_ hk_ hs_ => (hk_.2) hs_)) (fun k_ hk_ => ⟨hk_.1.1.1.2, hk_.1.1.2⟩)); have n4_ := Aside0.mk (hb); clear BK403; clear HO406; clear HO409; clear HO412; clear HB; clear HO415; have BK403 := n0_; have HO406 := n1_; have HO409 := n2_; have HO412 := n3_; have HB := n4_; clear n0_ n1_ n2_ n3_ n4_; (try clear hb); (try clear hkp); have hcz29_0 : w28.cell? ⟨gb403, 0, none⟩ = some (.int .i64 0) := (blk_cell BK403.out 0).trans rfl; have hcz29_1 : w28.cell? ⟨gb403, 1, none⟩ = some (.bool false) := (blk_cell BK403.out 1).trans rfl; have hcz29_2 : w28.cell? ⟨gb403, 2, none⟩ = some (.int .i64 0) := (blk_cell BK403.out 2).trans rfl; have hcz29_3 : w28.cell? ⟨gb403, 3, none⟩ = some (.int .u64 0) := (blk_cell BK403.out 3).trans rfl; have hcz29_4 : w28.cell? ⟨gb403, 4, none⟩ = some (.int .u64 0) := (blk_cell BK403.out 4).trans rfl; have hcz29_5 : w28.cell? ⟨gb403, 5, none⟩ = some (.bool false) := (blk_cell BK403.out 5).trans rfl; have hfz29_0 := blk_frozen BK403.out 0; have hfz29_1 := blk_frozen BK403.out 1; have hfz29_2 := blk_frozen BK403.out 2; have hfz29_3 := blk_frozen BK403.out 3; have hfz29_4 := blk_frozen BK403.out 4; have hfz29_5 := blk_frozen BK403.out 5))
                refine bodyPost_ret (results_ct rfl _ _ gb403 24 #[.int .i64 t416, .bool t417, .int .i64 t418, .int .u64 t419, .int .u64 t420, .bool t421] (0, 0) _ rfl (by (with_reducible repeat (first | refine blk_drewN ?_ _ | refine blk_drew ?_ | refine blk_alloc ?_ _)); refine blk_put (cs := #[.int .i64 t416, .bool t417, .int .i64 t418, .int .u64 t419, .int .u64 t420, .bool false]) ?_ 5 _ rfl; (with_reducible repeat (first | refine blk_drewN ?_ _ | refine blk_drew ?_ | refine blk_alloc ?_ _)); refine blk_put (cs := #[.int .i64 t416, .bool t417, .int .i64 t418, .int .u64 t419, .int .u64 0, .bool false]) ?_ 4 _ rfl; (with_reducible repeat (first | refine blk_drewN ?_ _ | refine blk_drew ?_ | refine blk_alloc ?_ _)); refine blk_put (cs := #[.int .i64 t416, .bool t417, .int .i64 t418, .int .u64 0, .int .u64 0, .bool false]) ?_ 3 _ rfl; (with_reducible repeat (first | refine blk_drewN ?_ _ | refine blk_drew ?_ | refine blk_alloc ?_ _)); refine blk_put (cs := #[.int .i64 t416, .bool t417, .int .i64 0, .int .u64 0, .int .u64 0, .bool false]) ?_ 2 _ rfl; (with_reducible repeat (first | refine blk_drewN ?_ _ | refine blk_drew ?_ | refine blk_alloc ?_ _)); refine blk_put (cs := #[.int .i64 t416, .bool false, .int .i64 0, .int .u64 0, .int .u64 0, .bool false]) ?_ 1 _ rfl; (with_reducible repeat (first | refine blk_drewN ?_ _ | refine blk_drew ?_ | refine blk_alloc ?_ _)); refine blk_put (cs := #[.int .i64 0, .bool false, .int .i64 0, .int .u64 0, .int .u64 0, .bool false]) ?_ 0 _ rfl; (with_reducible repeat (first | refine blk_drewN ?_ _ | refine blk_drew ?_ | refine blk_alloc ?_ _)); exact BK403.out) Try.underlying24 rfl (by kernel_rfl)) rfl ?_
                exact ⟨by first | rfl | (simp [errW_none, errW_some] <;> rfl) | (simp [*, errW_none, errW_some] <;> rfl), by repeat (first | (with_reducible first | exact HB.out | apply below_alloc | apply pw_below_drewN | apply below_drew1 | refine below_set ?_ GE403.out) | exact HB.out)⟩
end Go.Proofs.Ytfegofnplcmacaa.PAll
namespace Go.Proofs.Ytfegofnplcmacaa.PAll
open Go.RowKit Go.Proofs.YtfegofnplcmacaaW.PrintWords Go.Proofs.YtfegofnplcmacaaW.PrintLast Go.Proofs.YtfegofnplcmacaaW.PrintMore
attribute [local go_sem] max2_int min2_int max_two min_two max_three min_three max_four min_four
set_option linter.unusedVariables false
set_option linter.unusedSimpArgs false
attribute [local go_sem high] eqA24
def vernierlaw07_RoundMakes.f (k : Nat) (a0 : Bool) (a1 : Int) (a2 : Int) (a3 : Int) (a4 : Bool) : Option (Bool) := (vernierlaw07_up.f k).bind fun t422 => ((round_Make.f k a0 a1 a2 a3 a4).bind fun bt423 => ((vernierref07_Makes.f k a0 a1 a2 a3 a4).bind fun bt431 => (if t422 = true then (if (bt423.1 == bt431.1 && (bt423.2.1 == bt431.2.1 && (bt423.2.2.1 == bt431.2.2.1 && (bt423.2.2.2.1 == bt431.2.2.2.1 && (bt423.2.2.2.2.1 == bt431.2.2.2.2.1 && (bt423.2.2.2.2.2.1 == bt431.2.2.2.2.2.1)))))) = true then ((vernierlaw00_Code.f bt423.2.2.2.2.2.2).bind fun t439 => (some (t439 == bt431.2.2.2.2.2.2))) else (some false)) else (some false))))
theorem vernierlaw07_RoundMakes.mono : ∀ a0 a1 a2 a3 a4 k, LeO (vernierlaw07_RoundMakes.f k a0 a1 a2 a3 a4) (vernierlaw07_RoundMakes.f (k + 1) a0 a1 a2 a3 a4) := by
  intro a0 a1 a2 a3 a4 k
  unfold vernierlaw07_RoundMakes.f
  repeat' first
      | (with_reducible exact round_Make.mono _ _ _ _ _ _)
      | (with_reducible exact vernierlaw07_up.mono _)
      | (with_reducible exact vernierref07_Makes.mono _ _ _ _ _ _)
      | (with_reducible exact LeO.refl _)
      | (with_reducible exact LeO.none _)
      | (with_reducible refine LeO.ite ?_ ?_)
      | (with_reducible refine LeO.bind ?_ (fun _ => ?_))
      | exact round_Make.mono _ _ _ _ _ _
      | exact vernierlaw07_up.mono _
      | exact vernierref07_Makes.mono _ _ _ _ _ _
      | exact LeO.none _
      | refine LeO.ite ?_ ?_
      | refine LeO.bind ?_ (fun _ => ?_)
set_option maxHeartbeats 8000000 in
set_option maxRecDepth 100000 in
theorem vernierlaw07_RoundMakes.calls (k : Nat) (a0 : Bool) (a1 : Int) (a2 : Int) (a3 : Int) (a4 : Bool) (r : Bool) (w : World) (h : vernierlaw07_RoundMakes.f k a0 a1 a2 a3 a4 = some r) :
    Calls Try.prog 7 #[.bool a0, .int .u64 a1, .int .u64 a2, .int .i64 a3, .bool a4] w fun e w' => e = .returned (.bool r) ∧ Below w.heap.size w w' := by
  have hu24 := Try.underlying24
  have HB := Aside0.mk (Below.refl w.heap.size w)
  have H : ((vernierlaw07_up.f k).bind fun t422 => ((round_Make.f k a0 a1 a2 a3 a4).bind fun bt423 => ((vernierref07_Makes.f k a0 a1 a2 a3 a4).bind fun bt431 => (if t422 = true then (if (bt423.1 == bt431.1 && (bt423.2.1 == bt431.2.1 && (bt423.2.2.1 == bt431.2.2.1 && (bt423.2.2.2.1 == bt431.2.2.2.1 && (bt423.2.2.2.2.1 == bt431.2.2.2.2.1 && (bt423.2.2.2.2.2.1 == bt431.2.2.2.2.2.1)))))) = true then ((vernierlaw00_Code.f bt423.2.2.2.2.2.2).bind fun t439 => (some (t439 == bt431.2.2.2.2.2.2))) else (some false)) else (some false))))) = some r := h
  clear h
  replace H := Option.bind_eq_some_iff.mp H
  obtain ⟨t422, A60, H⟩ := H
  replace H : ((round_Make.f k a0 a1 a2 a3 a4).bind fun bt423 => ((vernierref07_Makes.f k a0 a1 a2 a3 a4).bind fun bt431 => (if t422 = true then (if (bt423.1 == bt431.1 && (bt423.2.1 == bt431.2.1 && (bt423.2.2.1 == bt431.2.2.1 && (bt423.2.2.2.1 == bt431.2.2.2.1 && (bt423.2.2.2.2.1 == bt431.2.2.2.2.1 && (bt423.2.2.2.2.2.1 == bt431.2.2.2.2.2.1)))))) = true then ((vernierlaw00_Code.f bt423.2.2.2.2.2.2).bind fun t439 => (some (t439 == bt431.2.2.2.2.2.2))) else (some false)) else (some false)))) = some r := H
  have A6 := Aside0.mk A60
  clear A60
  replace H := Option.bind_eq_some_iff.mp H
  obtain ⟨⟨t423, t424, t425, t426, t427, t428, t429⟩, A70, H⟩ := H
  replace H : ((vernierref07_Makes.f k a0 a1 a2 a3 a4).bind fun bt431 => (if t422 = true then (if (t423 == bt431.1 && (t424 == bt431.2.1 && (t425 == bt431.2.2.1 && (t426 == bt431.2.2.2.1 && (t427 == bt431.2.2.2.2.1 && (t428 == bt431.2.2.2.2.2.1)))))) = true then ((vernierlaw00_Code.f t429).bind fun t439 => (some (t439 == bt431.2.2.2.2.2.2))) else (some false)) else (some false))) = some r := H
  have A7 := Aside0.mk A70
  clear A70
  replace H := Option.bind_eq_some_iff.mp H
  obtain ⟨⟨t431, t432, t433, t434, t435, t436, t437⟩, A80, H⟩ := H
  replace H : (if t422 = true then (if (t423 == t431 && (t424 == t432 && (t425 == t433 && (t426 == t434 && (t427 == t435 && (t428 == t436)))))) = true then ((vernierlaw00_Code.f t429).bind fun t439 => (some (t439 == t437))) else (some false)) else (some false)) = some r := H
  have A8 := Aside0.mk A80
  clear A80
  by_cases c9 : t422 = true
  · subst c9
    have H1 : (if (t423 == t431 && (t424 == t432 && (t425 == t433 && (t426 == t434 && (t427 == t435 && (t428 == t436)))))) = true then ((vernierlaw00_Code.f t429).bind fun t439 => (some (t439 == t437))) else (some false)) = some r := by rw [if_pos rfl] at H; exact H
    clear H
    have H := H1
    clear H1
    by_cases c10 : (t423 == t431 && (t424 == t432 && (t425 == t433 && (t426 == t434 && (t427 == t435 && (t428 == t436)))))) = true
    · rw [if_pos c10] at H
      have c10b0 : (t423 == t431 && (t424 == t432 && (t425 == t433 && (t426 == t434 && (t427 == t435 && (t428 == t436)))))) = true := c10
      (try (have c10b1 : decide (t423 = t431 && (t424 == t432 && (t425 == t433 && (t426 == t434 && (t427 == t435 && (t428 == t436)))))) = true := by simpa using c10))
      (try (have c10b2 : (t423 == t431 && (t424 == t432 && (t425 == t433 && (t426 == t434 && (t427 == t435 && (t428 == t436)))))) = true := by simpa using c10))
      clear c10
      replace H := Option.bind_eq_some_iff.mp H
      obtain ⟨t439, A110, H⟩ := H
      replace H : (some (t439 == t437)) = some r := H
      have A11 := Aside0.mk A110
      clear A110
      obtain rfl := Option.some.inj H
      go_enter Try.func7, Try.ntmps7
      go_wp2_with (first | ((with_reducible refine gate_callee (f := 10) rfl ?_); refine goesL_ (some 16) rfl rfl Try.func10 (by kernel_rfl) rfl #[] rfl (by (try simp only [List.map_toArray, List.map_cons, List.map_nil]); first | done | rfl | (simp only [List.length_drop, List.length_take]; rfl)) ?_; (with_reducible refine (vernierlaw07_up.calls k  true _ A6.out).mono ?_); rintro e w12 ⟨rfl, hb⟩; refine ⟨_, rfl, ?_⟩; have n0_ := Aside0.mk (below_step (by repeat (first | (with_reducible first | exact HB.out | apply below_alloc | apply pw_below_drewN | apply below_drew1) | exact HB.out)) hb); clear HB; have HB := n0_; clear n0_; (try clear hb); (try clear hb2); (try clear hk); (try clear hi)) | ((with_reducible refine gate_callee (f := 22) rfl ?_); refine goesL_ (some 23) rfl rfl Try.func22 (by kernel_rfl) rfl #[.bool a0, .int .u64 a1, .int .u64 a2, .int .i64 a3, .bool a4] rfl (by (try simp only [List.map_toArray, List.map_cons, List.map_nil]); first | done | rfl | (simp only [List.length_drop, List.length_take]; rfl)) ?_; (with_reducible refine (round_Make.calls k a0 a1 a2 a3 a4 t423 t424 t425 t426 t427 t428 t429 _ A7.out).mono ?_); rintro e w13 ⟨rfl, hb⟩; refine ⟨_, rfl, ?_⟩; have n0_ := Aside0.mk (below_step (by repeat (first | (with_reducible first | exact HB.out | apply below_alloc | apply pw_below_drewN | apply below_drew1) | exact HB.out)) hb); clear HB; have HB := n0_; clear n0_; (try clear hb); (try clear hb2); (try clear hk); (try clear hi); (try simp only [errW_none, errW_some])) | ((with_reducible refine gate_dst (N := 12) rfl ?_); refine box_event ?hg (N := 12) ?hd (cs := #[.int .i64 0, .bool false, .int .i64 0, .int .u64 0, .int .u64 0, .bool false]) (t := 24) ?hr ?_; (case hd => rfl); (case hg => rfl); (case hr => first | (go_simp; done) | (go_simp; rfl)); intro gb430 hg w14 hbox hb; have n0_ := Aside0.mk (below_step (by repeat (first | (with_reducible first | exact HB.out | apply below_alloc | apply pw_below_drewN | apply below_drew1) | exact HB.out)) hb); have n1_ := Aside0.mk (hbox); have n2_ := Aside0.mk ((by rw [hg]; exact (below_size (by repeat (first | (with_reducible first | exact HB.out | apply below_alloc | apply pw_below_drewN | apply below_drew1) | exact HB.out))) : w.heap.size ≤ gb430)); have n3_ := Aside0.mk ((by rw [hg]; exact (below_size (by repeat (first | (with_reducible first | exact HB.out | apply below_alloc | apply pw_below_drewN | apply below_drew1) | exact HB.out))) : w.heap.size ≤ gb430)); clear HB; have HB := n0_; have BK430 := n1_; have GW430 := n2_; have GE430 := n3_; clear n0_ n1_ n2_ n3_; clear hb hbox hg; have hcz15_0 : w14.cell? ⟨gb430, 0, none⟩ = some (.int .i64 0) := (blk_cell BK430.out 0).trans rfl; have hcz15_1 : w14.cell? ⟨gb430, 1, none⟩ = some (.bool false) := (blk_cell BK430.out 1).trans rfl; have hcz15_2 : w14.cell? ⟨gb430, 2, none⟩ = some (.int .i64 0) := (blk_cell BK430.out 2).trans rfl; have hcz15_3 : w14.cell? ⟨gb430, 3, none⟩ = some (.int .u64 0) := (blk_cell BK430.out 3).trans rfl; have hcz15_4 : w14.cell? ⟨gb430, 4, none⟩ = some (.int .u64 0) := (blk_cell BK430.out 4).trans rfl; have hcz15_5 : w14.cell? ⟨gb430, 5, none⟩ = some (.bool false) := (blk_cell BK430.out 5).trans rfl; have hfz15_0 := blk_frozen BK430.out 0; have hfz15_1 := blk_frozen BK430.out 1; have hfz15_2 := blk_frozen BK430.out 2; have hfz15_3 := blk_frozen BK430.out 3; have hfz15_4 := blk_frozen BK430.out 4; have hfz15_5 := blk_frozen BK430.out 5) | ((with_reducible refine gate_callee (f := 23) rfl ?_); refine goesL_ (some 32) rfl rfl Try.func23 (by kernel_rfl) rfl #[.bool a0, .int .u64 a1, .int .u64 a2, .int .i64 a3, .bool a4] rfl (by (try simp only [List.map_toArray, List.map_cons, List.map_nil]); first | done | rfl | (simp only [List.length_drop, List.length_take]; rfl)) ?_; (with_reducible refine (vernierref07_Makes.calls k a0 a1 a2 a3 a4 t431 t432 t433 t434 t435 t436 t437 _ A8.out).mono ?_); rintro e w16 ⟨rfl, hb⟩; refine ⟨_, rfl, ?_⟩; have n0_ := Aside0.mk (blk_below (g := gb430) (o := .cells #[.int .i64 t423, .bool t424, .int .i64 t425, .int .u64 t426, .int .u64 t427, .bool t428] 24 (0, 0)) (by (with_reducible repeat (first | refine blk_drewN ?_ _ | refine blk_drew ?_ | refine blk_alloc ?_ _)); refine blk_put (cs := #[.int .i64 t423, .bool t424, .int .i64 t425, .int .u64 t426, .int .u64 t427, .bool false]) ?_ 5 _ rfl; (with_reducible repeat (first | refine blk_drewN ?_ _ | refine blk_drew ?_ | refine blk_alloc ?_ _)); refine blk_put (cs := #[.int .i64 t423, .bool t424, .int .i64 t425, .int .u64 t426, .int .u64 0, .bool false]) ?_ 4 _ rfl; (with_reducible repeat (first | refine blk_drewN ?_ _ | refine blk_drew ?_ | refine blk_alloc ?_ _)); refine blk_put (cs := #[.int .i64 t423, .bool t424, .int .i64 t425, .int .u64 0, .int .u64 0, .bool false]) ?_ 3 _ rfl; (with_reducible repeat (first | refine blk_drewN ?_ _ | refine blk_drew ?_ | refine blk_alloc ?_ _)); refine blk_put (cs := #[.int .i64 t423, .bool t424, .int .i64 0, .int .u64 0, .int .u64 0, .bool false]) ?_ 2 _ rfl; (with_reducible repeat (first | refine blk_drewN ?_ _ | refine blk_drew ?_ | refine blk_alloc ?_ _)); refine blk_put (cs := #[.int .i64 t423, .bool false, .int .i64 0, .int .u64 0, .int .u64 0, .bool false]) ?_ 1 _ rfl; (with_reducible repeat (first | refine blk_drewN ?_ _ | refine blk_drew ?_ | refine blk_alloc ?_ _)); refine blk_put (cs := #[.int .i64 0, .bool false, .int .i64 0, .int .u64 0, .int .u64 0, .bool false]) ?_ 0 _ rfl; (with_reducible repeat (first | refine blk_drewN ?_ _ | refine blk_drew ?_ | refine blk_alloc ?_ _)); exact BK430.out) hb); have n1_ := Aside0.mk (below_step (by repeat (first | (with_reducible first | exact HB.out | apply below_alloc | apply pw_below_drewN | apply below_drew1 | refine below_set ?_ GE430.out) | exact HB.out)) hb); clear BK430; clear HB; have BK430 := n0_; have HB := n1_; clear n0_ n1_; (try clear hb); (try clear hb2); (try clear hk); (try clear hi)) | ((with_reducible refine gate_dst (N := 14) rfl ?_); refine box_event ?hg (N := 14) ?hd (cs := #[.int .i64 0, .bool false, .int .i64 0, .int .u64 0, .int .u64 0, .bool false]) (t := 24) ?hr ?_; (case hd => rfl); (case hg => rfl); (case hr => first | (go_simp; done) | (go_simp; rfl)); intro gb438 hg w17 hbox hb; have n0_ := Aside0.mk (blk_below (g := gb430) (o := .cells #[.int .i64 t423, .bool t424, .int .i64 t425, .int .u64 t426, .int .u64 t427, .bool t428] 24 (0, 0)) (by (with_reducible repeat (first | refine blk_drewN ?_ _ | refine blk_drew ?_ | refine blk_alloc ?_ _)); exact BK430.out) hb); have n1_ := Aside0.mk (below_step (by repeat (first | (with_reducible first | exact HB.out | apply below_alloc | apply pw_below_drewN | apply below_drew1 | refine below_set ?_ GE430.out) | exact HB.out)) hb); have n2_ := Aside0.mk (hbox); have n3_ := Aside0.mk ((by rw [hg]; exact (below_size (by repeat (first | (with_reducible first | exact HB.out | apply below_alloc | apply pw_below_drewN | apply below_drew1 | refine below_set ?_ GE430.out) | exact HB.out))) : w.heap.size ≤ gb438)); have n4_ := Aside0.mk ((by rw [hg]; exact (below_size (by repeat (first | (with_reducible first | exact HB.out | apply below_alloc | apply pw_below_drewN | apply below_drew1 | refine below_set ?_ GE430.out) | exact HB.out))) : w.heap.size ≤ gb438)); have n5_ := Aside0.mk ((by rw [hg]; exact Nat.ne_of_lt (blk_lt (g := gb430) (o := .cells #[.int .i64 t423, .bool t424, .int .i64 t425, .int .u64 t426, .int .u64 t427, .bool t428] 24 (0, 0)) (by (with_reducible repeat (first | refine blk_drewN ?_ _ | refine blk_drew ?_ | refine blk_alloc ?_ _)); exact BK430.out)) : gb430 ≠ gb438)); have n6_ := Aside0.mk ((by rw [hg]; exact Nat.ne_of_gt (blk_lt (g := gb430) (o := .cells #[.int .i64 t423, .bool t424, .int .i64 t425, .int .u64 t426, .int .u64 t427, .bool t428] 24 (0, 0)) (by (with_reducible repeat (first | refine blk_drewN ?_ _ | refine blk_drew ?_ | refine blk_alloc ?_ _)); exact BK430.out)) : gb438 ≠ gb430)); clear BK430; clear HB; have BK430 := n0_; have HB := n1_; have BK438 := n2_; have GW438 := n3_; have GE438 := n4_; have NB430_438 := n5_; have NB438_430 := n6_; clear n0_ n1_ n2_ n3_ n4_ n5_ n6_; clear hb hbox hg; have hnb18 := NB438_430.out; have hnc18 := NB430_438.out; have hcz19_0 : w17.cell? ⟨gb438, 0, none⟩ = some (.int .i64 0) := (blk_cell BK438.out 0).trans rfl; have hcz19_1 : w17.cell? ⟨gb438, 1, none⟩ = some (.bool false) := (blk_cell BK438.out 1).trans rfl; have hcz19_2 : w17.cell? ⟨gb438, 2, none⟩ = some (.int .i64 0) := (blk_cell BK438.out 2).trans rfl; have hcz19_3 : w17.cell? ⟨gb438, 3, none⟩ = some (.int .u64 0) := (blk_cell BK438.out 3).trans rfl; have hcz19_4 : w17.cell? ⟨gb438, 4, none⟩ = some (.int .u64 0) := (blk_cell BK438.out 4).trans rfl; have hcz19_5 : w17.cell? ⟨gb438, 5, none⟩ = some (.bool false) := (blk_cell BK438.out 5).trans rfl; have hfz19_0 := blk_frozen BK438.out 0; have hfz19_1 := blk_frozen BK438.out 1; have hfz19_2 := blk_frozen BK438.out 2; have hfz19_3 := blk_frozen BK438.out 3; have hfz19_4 := blk_frozen BK438.out 4; have hfz19_5 := blk_frozen BK438.out 5; have hcz20_0 : w17.cell? ⟨gb430, 0, none⟩ = some (.int .i64 t423) := (blk_cell BK430.out 0).trans rfl; have hcz20_1 : w17.cell? ⟨gb430, 1, none⟩ = some (.bool t424) := (blk_cell BK430.out 1).trans rfl; have hcz20_2 : w17.cell? ⟨gb430, 2, none⟩ = some (.int .i64 t425) := (blk_cell BK430.out 2).trans rfl; have hcz20_3 : w17.cell? ⟨gb430, 3, none⟩ = some (.int .u64 t426) := (blk_cell BK430.out 3).trans rfl; have hcz20_4 : w17.cell? ⟨gb430, 4, none⟩ = some (.int .u64 t427) := (blk_cell BK430.out 4).trans rfl; have hcz20_5 : w17.cell? ⟨gb430, 5, none⟩ = some (.bool t428) := (blk_cell BK430.out 5).trans rfl; have hfz20_0 := blk_frozen BK430.out 0; have hfz20_1 := blk_frozen BK430.out 1; have hfz20_2 := blk_frozen BK430.out 2; have hfz20_3 := blk_frozen BK430.out 3; have hfz20_4 := blk_frozen BK430.out 4; have hfz20_5 := blk_frozen BK430.out 5; have CA11 := fun W => vernierlaw00_Code.calls t429 t439 W A11.out; try simp only [errW_none, errW_some] at CA11) | (go_at_call 13; (with_reducible refine (CA11 _).mono ?_); rintro e w' ⟨rfl, ⟨nd, rfl⟩⟩))
      go_ret
      exact ⟨by first | rfl | (simp [errW_none, errW_some] <;> rfl) | (simp [*, errW_none, errW_some] <;> rfl), by repeat (first | (with_reducible first | exact HB.out | apply below_alloc | apply pw_below_drewN | apply below_drew1 | refine below_set ?_ GE430.out | refine below_set ?_ GE438.out) | exact HB.out)⟩
    · rw [if_neg c10] at H
      have c10b0 : (t423 == t431 && (t424 == t432 && (t425 == t433 && (t426 == t434 && (t427 == t435 && (t428 == t436)))))) = false := by simpa using c10
      (try (have c10b1 : decide (t423 = t431 && (t424 == t432 && (t425 == t433 && (t426 == t434 && (t427 == t435 && (t428 == t436)))))) = false := by simpa using c10))
      (try (have c10b2 : (t423 == t431 && (t424 == t432 && (t425 == t433 && (t426 == t434 && (t427 == t435 && (t428 == t436)))))) = false := by simpa using c10))
      (try (have c10b3 : ¬ (t423 = t431 && (t424 == t432 && (t425 == t433 && (t426 == t434 && (t427 == t435 && (t428 == t436)))))) := by simpa using c10))
      clear c10
      obtain rfl := Option.some.inj H
      go_enter Try.func7, Try.ntmps7
      go_wp2_with (first | ((with_reducible refine gate_callee (f := 10) rfl ?_); refine goesL_ (some 16) rfl rfl Try.func10 (by kernel_rfl) rfl #[] rfl (by (try simp only [List.map_toArray, List.map_cons, List.map_nil]); first | done | rfl | (simp only [List.length_drop, List.length_take]; rfl)) ?_; (with_reducible refine (vernierlaw07_up.calls k  true _ A6.out).mono ?_); rintro e w21 ⟨rfl, hb⟩; refine ⟨_, rfl, ?_⟩; have n0_ := Aside0.mk (below_step (by repeat (first | (with_reducible first | exact HB.out | apply below_alloc | apply pw_below_drewN | apply below_drew1) | exact HB.out)) hb); clear HB; have HB := n0_; clear n0_; (try clear hb); (try clear hb2); (try clear hk); (try clear hi)) | ((with_reducible refine gate_callee (f := 22) rfl ?_); refine goesL_ (some 23) rfl rfl Try.func22 (by kernel_rfl) rfl #[.bool a0, .int .u64 a1, .int .u64 a2, .int .i64 a3, .bool a4] rfl (by (try simp only [List.map_toArray, List.map_cons, List.map_nil]); first | done | rfl | (simp only [List.length_drop, List.length_take]; rfl)) ?_; (with_reducible refine (round_Make.calls k a0 a1 a2 a3 a4 t423 t424 t425 t426 t427 t428 t429 _ A7.out).mono ?_); rintro e w22 ⟨rfl, hb⟩; refine ⟨_, rfl, ?_⟩; have n0_ := Aside0.mk (below_step (by repeat (first | (with_reducible first | exact HB.out | apply below_alloc | apply pw_below_drewN | apply below_drew1) | exact HB.out)) hb); clear HB; have HB := n0_; clear n0_; (try clear hb); (try clear hb2); (try clear hk); (try clear hi); (try simp only [errW_none, errW_some])) | ((with_reducible refine gate_dst (N := 12) rfl ?_); refine box_event ?hg (N := 12) ?hd (cs := #[.int .i64 0, .bool false, .int .i64 0, .int .u64 0, .int .u64 0, .bool false]) (t := 24) ?hr ?_; (case hd => rfl); (case hg => rfl); (case hr => first | (go_simp; done) | (go_simp; rfl)); intro gb430 hg w23 hbox hb; have n0_ := Aside0.mk (below_step (by repeat (first | (with_reducible first | exact HB.out | apply below_alloc | apply pw_below_drewN | apply below_drew1) | exact HB.out)) hb); have n1_ := Aside0.mk (hbox); have n2_ := Aside0.mk ((by rw [hg]; exact (below_size (by repeat (first | (with_reducible first | exact HB.out | apply below_alloc | apply pw_below_drewN | apply below_drew1) | exact HB.out))) : w.heap.size ≤ gb430)); have n3_ := Aside0.mk ((by rw [hg]; exact (below_size (by repeat (first | (with_reducible first | exact HB.out | apply below_alloc | apply pw_below_drewN | apply below_drew1) | exact HB.out))) : w.heap.size ≤ gb430)); clear HB; have HB := n0_; have BK430 := n1_; have GW430 := n2_; have GE430 := n3_; clear n0_ n1_ n2_ n3_; clear hb hbox hg; have hcz24_0 : w23.cell? ⟨gb430, 0, none⟩ = some (.int .i64 0) := (blk_cell BK430.out 0).trans rfl; have hcz24_1 : w23.cell? ⟨gb430, 1, none⟩ = some (.bool false) := (blk_cell BK430.out 1).trans rfl; have hcz24_2 : w23.cell? ⟨gb430, 2, none⟩ = some (.int .i64 0) := (blk_cell BK430.out 2).trans rfl; have hcz24_3 : w23.cell? ⟨gb430, 3, none⟩ = some (.int .u64 0) := (blk_cell BK430.out 3).trans rfl; have hcz24_4 : w23.cell? ⟨gb430, 4, none⟩ = some (.int .u64 0) := (blk_cell BK430.out 4).trans rfl; have hcz24_5 : w23.cell? ⟨gb430, 5, none⟩ = some (.bool false) := (blk_cell BK430.out 5).trans rfl; have hfz24_0 := blk_frozen BK430.out 0; have hfz24_1 := blk_frozen BK430.out 1; have hfz24_2 := blk_frozen BK430.out 2; have hfz24_3 := blk_frozen BK430.out 3; have hfz24_4 := blk_frozen BK430.out 4; have hfz24_5 := blk_frozen BK430.out 5) | ((with_reducible refine gate_callee (f := 23) rfl ?_); refine goesL_ (some 32) rfl rfl Try.func23 (by kernel_rfl) rfl #[.bool a0, .int .u64 a1, .int .u64 a2, .int .i64 a3, .bool a4] rfl (by (try simp only [List.map_toArray, List.map_cons, List.map_nil]); first | done | rfl | (simp only [List.length_drop, List.length_take]; rfl)) ?_; (with_reducible refine (vernierref07_Makes.calls k a0 a1 a2 a3 a4 t431 t432 t433 t434 t435 t436 t437 _ A8.out).mono ?_); rintro e w25 ⟨rfl, hb⟩; refine ⟨_, rfl, ?_⟩; have n0_ := Aside0.mk (blk_below (g := gb430) (o := .cells #[.int .i64 t423, .bool t424, .int .i64 t425, .int .u64 t426, .int .u64 t427, .bool t428] 24 (0, 0)) (by (with_reducible repeat (first | refine blk_drewN ?_ _ | refine blk_drew ?_ | refine blk_alloc ?_ _)); refine blk_put (cs := #[.int .i64 t423, .bool t424, .int .i64 t425, .int .u64 t426, .int .u64 t427, .bool false]) ?_ 5 _ rfl; (with_reducible repeat (first | refine blk_drewN ?_ _ | refine blk_drew ?_ | refine blk_alloc ?_ _)); refine blk_put (cs := #[.int .i64 t423, .bool t424, .int .i64 t425, .int .u64 t426, .int .u64 0, .bool false]) ?_ 4 _ rfl; (with_reducible repeat (first | refine blk_drewN ?_ _ | refine blk_drew ?_ | refine blk_alloc ?_ _)); refine blk_put (cs := #[.int .i64 t423, .bool t424, .int .i64 t425, .int .u64 0, .int .u64 0, .bool false]) ?_ 3 _ rfl; (with_reducible repeat (first | refine blk_drewN ?_ _ | refine blk_drew ?_ | refine blk_alloc ?_ _)); refine blk_put (cs := #[.int .i64 t423, .bool t424, .int .i64 0, .int .u64 0, .int .u64 0, .bool false]) ?_ 2 _ rfl; (with_reducible repeat (first | refine blk_drewN ?_ _ | refine blk_drew ?_ | refine blk_alloc ?_ _)); refine blk_put (cs := #[.int .i64 t423, .bool false, .int .i64 0, .int .u64 0, .int .u64 0, .bool false]) ?_ 1 _ rfl; (with_reducible repeat (first | refine blk_drewN ?_ _ | refine blk_drew ?_ | refine blk_alloc ?_ _)); refine blk_put (cs := #[.int .i64 0, .bool false, .int .i64 0, .int .u64 0, .int .u64 0, .bool false]) ?_ 0 _ rfl; (with_reducible repeat (first | refine blk_drewN ?_ _ | refine blk_drew ?_ | refine blk_alloc ?_ _)); exact BK430.out) hb); have n1_ := Aside0.mk (below_step (by repeat (first | (with_reducible first | exact HB.out | apply below_alloc | apply pw_below_drewN | apply below_drew1 | refine below_set ?_ GE430.out) | exact HB.out)) hb); clear BK430; clear HB; have BK430 := n0_; have HB := n1_; clear n0_ n1_; (try clear hb); (try clear hb2); (try clear hk); (try clear hi)) | ((with_reducible refine gate_dst (N := 14) rfl ?_); refine box_event ?hg (N := 14) ?hd (cs := #[.int .i64 0, .bool false, .int .i64 0, .int .u64 0, .int .u64 0, .bool false]) (t := 24) ?hr ?_; (case hd => rfl); (case hg => rfl); (case hr => first | (go_simp; done) | (go_simp; rfl)); intro gb438 hg w26 hbox hb; have n0_ := Aside0.mk (blk_below (g := gb430) (o := .cells #[.int .i64 t423, .bool t424, .int .i64 t425, .int .u64 t426, .int .u64 t427, .bool t428] 24 (0, 0)) (by (with_reducible repeat (first | refine blk_drewN ?_ _ | refine blk_drew ?_ | refine blk_alloc ?_ _)); exact BK430.out) hb); have n1_ := Aside0.mk (below_step (by repeat (first | (with_reducible first | exact HB.out | apply below_alloc | apply pw_below_drewN | apply below_drew1 | refine below_set ?_ GE430.out) | exact HB.out)) hb); have n2_ := Aside0.mk (hbox); have n3_ := Aside0.mk ((by rw [hg]; exact (below_size (by repeat (first | (with_reducible first | exact HB.out | apply below_alloc | apply pw_below_drewN | apply below_drew1 | refine below_set ?_ GE430.out) | exact HB.out))) : w.heap.size ≤ gb438)); have n4_ := Aside0.mk ((by rw [hg]; exact (below_size (by repeat (first | (with_reducible first | exact HB.out | apply below_alloc | apply pw_below_drewN | apply below_drew1 | refine below_set ?_ GE430.out) | exact HB.out))) : w.heap.size ≤ gb438)); have n5_ := Aside0.mk ((by rw [hg]; exact Nat.ne_of_lt (blk_lt (g := gb430) (o := .cells #[.int .i64 t423, .bool t424, .int .i64 t425, .int .u64 t426, .int .u64 t427, .bool t428] 24 (0, 0)) (by (with_reducible repeat (first | refine blk_drewN ?_ _ | refine blk_drew ?_ | refine blk_alloc ?_ _)); exact BK430.out)) : gb430 ≠ gb438)); have n6_ := Aside0.mk ((by rw [hg]; exact Nat.ne_of_gt (blk_lt (g := gb430) (o := .cells #[.int .i64 t423, .bool t424, .int .i64 t425, .int .u64 t426, .int .u64 t427, .bool t428] 24 (0, 0)) (by (with_reducible repeat (first | refine blk_drewN ?_ _ | refine blk_drew ?_ | refine blk_alloc ?_ _)); exact BK430.out)) : gb438 ≠ gb430)); clear BK430; clear HB; have BK430 := n0_; have HB := n1_; have BK438 := n2_; have GW438 := n3_; have GE438 := n4_; have NB430_438 := n5_; have NB438_430 := n6_; clear n0_ n1_ n2_ n3_ n4_ n5_ n6_; clear hb hbox hg; have hnb27 := NB438_430.out; have hnc27 := NB430_438.out; have hcz28_0 : w26.cell? ⟨gb438, 0, none⟩ = some (.int .i64 0) := (blk_cell BK438.out 0).trans rfl; have hcz28_1 : w26.cell? ⟨gb438, 1, none⟩ = some (.bool false) := (blk_cell BK438.out 1).trans rfl; have hcz28_2 : w26.cell? ⟨gb438, 2, none⟩ = some (.int .i64 0) := (blk_cell BK438.out 2).trans rfl; have hcz28_3 : w26.cell? ⟨gb438, 3, none⟩ = some (.int .u64 0) := (blk_cell BK438.out 3).trans rfl; have hcz28_4 : w26.cell? ⟨gb438, 4, none⟩ = some (.int .u64 0) := (blk_cell BK438.out 4).trans rfl; have hcz28_5 : w26.cell? ⟨gb438, 5, none⟩ = some (.bool false) := (blk_cell BK438.out 5).trans rfl; have hfz28_0 := blk_frozen BK438.out 0; have hfz28_1 := blk_frozen BK438.out 1; have hfz28_2 := blk_frozen BK438.out 2; have hfz28_3 := blk_frozen BK438.out 3; have hfz28_4 := blk_frozen BK438.out 4; have hfz28_5 := blk_frozen BK438.out 5; have hcz29_0 : w26.cell? ⟨gb430, 0, none⟩ = some (.int .i64 t423) := (blk_cell BK430.out 0).trans rfl; have hcz29_1 : w26.cell? ⟨gb430, 1, none⟩ = some (.bool t424) := (blk_cell BK430.out 1).trans rfl; have hcz29_2 : w26.cell? ⟨gb430, 2, none⟩ = some (.int .i64 t425) := (blk_cell BK430.out 2).trans rfl; have hcz29_3 : w26.cell? ⟨gb430, 3, none⟩ = some (.int .u64 t426) := (blk_cell BK430.out 3).trans rfl; have hcz29_4 : w26.cell? ⟨gb430, 4, none⟩ = some (.int .u64 t427) := (blk_cell BK430.out 4).trans rfl; have hcz29_5 : w26.cell? ⟨gb430, 5, none⟩ = some (.bool t428) := (blk_cell BK430.out 5).trans rfl; have hfz29_0 := blk_frozen BK430.out 0; have hfz29_1 := blk_frozen BK430.out 1; have hfz29_2 := blk_frozen BK430.out 2; have hfz29_3 := blk_frozen BK430.out 3; have hfz29_4 := blk_frozen BK430.out 4; have hfz29_5 := blk_frozen BK430.out 5))
      go_ret
      exact ⟨by first | rfl | (simp [errW_none, errW_some] <;> rfl) | (simp [*, errW_none, errW_some] <;> rfl), by repeat (first | (with_reducible first | exact HB.out | apply below_alloc | apply pw_below_drewN | apply below_drew1 | refine below_set ?_ GE430.out | refine below_set ?_ GE438.out) | exact HB.out)⟩
  · replace c9 := Bool.eq_false_iff.mpr c9
    subst c9
    have H1 : (some false) = some r := by rw [if_neg (show ¬ (false = true) by decide)] at H; exact H
    clear H
    have H := H1
    clear H1
    obtain rfl := Option.some.inj H
    go_enter Try.func7, Try.ntmps7
    go_wp2_with (first | ((with_reducible refine gate_callee (f := 10) rfl ?_); refine goesL_ (some 16) rfl rfl Try.func10 (by kernel_rfl) rfl #[] rfl (by (try simp only [List.map_toArray, List.map_cons, List.map_nil]); first | done | rfl | (simp only [List.length_drop, List.length_take]; rfl)) ?_; (with_reducible refine (vernierlaw07_up.calls k  false _ A6.out).mono ?_); rintro e w30 ⟨rfl, hb⟩; refine ⟨_, rfl, ?_⟩; have n0_ := Aside0.mk (below_step (by repeat (first | (with_reducible first | exact HB.out | apply below_alloc | apply pw_below_drewN | apply below_drew1) | exact HB.out)) hb); clear HB; have HB := n0_; clear n0_; (try clear hb); (try clear hb2); (try clear hk); (try clear hi)) | ((with_reducible refine gate_callee (f := 22) rfl ?_); refine goesL_ (some 23) rfl rfl Try.func22 (by kernel_rfl) rfl #[.bool a0, .int .u64 a1, .int .u64 a2, .int .i64 a3, .bool a4] rfl (by (try simp only [List.map_toArray, List.map_cons, List.map_nil]); first | done | rfl | (simp only [List.length_drop, List.length_take]; rfl)) ?_; (with_reducible refine (round_Make.calls k a0 a1 a2 a3 a4 t423 t424 t425 t426 t427 t428 t429 _ A7.out).mono ?_); rintro e w31 ⟨rfl, hb⟩; refine ⟨_, rfl, ?_⟩; have n0_ := Aside0.mk (below_step (by repeat (first | (with_reducible first | exact HB.out | apply below_alloc | apply pw_below_drewN | apply below_drew1) | exact HB.out)) hb); clear HB; have HB := n0_; clear n0_; (try clear hb); (try clear hb2); (try clear hk); (try clear hi); (try simp only [errW_none, errW_some])) | ((with_reducible refine gate_dst (N := 12) rfl ?_); refine box_event ?hg (N := 12) ?hd (cs := #[.int .i64 0, .bool false, .int .i64 0, .int .u64 0, .int .u64 0, .bool false]) (t := 24) ?hr ?_; (case hd => rfl); (case hg => rfl); (case hr => first | (go_simp; done) | (go_simp; rfl)); intro gb430 hg w32 hbox hb; have n0_ := Aside0.mk (below_step (by repeat (first | (with_reducible first | exact HB.out | apply below_alloc | apply pw_below_drewN | apply below_drew1) | exact HB.out)) hb); have n1_ := Aside0.mk (hbox); have n2_ := Aside0.mk ((by rw [hg]; exact (below_size (by repeat (first | (with_reducible first | exact HB.out | apply below_alloc | apply pw_below_drewN | apply below_drew1) | exact HB.out))) : w.heap.size ≤ gb430)); have n3_ := Aside0.mk ((by rw [hg]; exact (below_size (by repeat (first | (with_reducible first | exact HB.out | apply below_alloc | apply pw_below_drewN | apply below_drew1) | exact HB.out))) : w.heap.size ≤ gb430)); clear HB; have HB := n0_; have BK430 := n1_; have GW430 := n2_; have GE430 := n3_; clear n0_ n1_ n2_ n3_; clear hb hbox hg; have hcz33_0 : w32.cell? ⟨gb430, 0, none⟩ = some (.int .i64 0) := (blk_cell BK430.out 0).trans rfl; have hcz33_1 : w32.cell? ⟨gb430, 1, none⟩ = some (.bool false) := (blk_cell BK430.out 1).trans rfl; have hcz33_2 : w32.cell? ⟨gb430, 2, none⟩ = some (.int .i64 0) := (blk_cell BK430.out 2).trans rfl; have hcz33_3 : w32.cell? ⟨gb430, 3, none⟩ = some (.int .u64 0) := (blk_cell BK430.out 3).trans rfl; have hcz33_4 : w32.cell? ⟨gb430, 4, none⟩ = some (.int .u64 0) := (blk_cell BK430.out 4).trans rfl; have hcz33_5 : w32.cell? ⟨gb430, 5, none⟩ = some (.bool false) := (blk_cell BK430.out 5).trans rfl; have hfz33_0 := blk_frozen BK430.out 0; have hfz33_1 := blk_frozen BK430.out 1; have hfz33_2 := blk_frozen BK430.out 2; have hfz33_3 := blk_frozen BK430.out 3; have hfz33_4 := blk_frozen BK430.out 4; have hfz33_5 := blk_frozen BK430.out 5) | ((with_reducible refine gate_callee (f := 23) rfl ?_); refine goesL_ (some 32) rfl rfl Try.func23 (by kernel_rfl) rfl #[.bool a0, .int .u64 a1, .int .u64 a2, .int .i64 a3, .bool a4] rfl (by (try simp only [List.map_toArray, List.map_cons, List.map_nil]); first | done | rfl | (simp only [List.length_drop, List.length_take]; rfl)) ?_; (with_reducible refine (vernierref07_Makes.calls k a0 a1 a2 a3 a4 t431 t432 t433 t434 t435 t436 t437 _ A8.out).mono ?_); rintro e w34 ⟨rfl, hb⟩; refine ⟨_, rfl, ?_⟩; have n0_ := Aside0.mk (blk_below (g := gb430) (o := .cells #[.int .i64 t423, .bool t424, .int .i64 t425, .int .u64 t426, .int .u64 t427, .bool t428] 24 (0, 0)) (by (with_reducible repeat (first | refine blk_drewN ?_ _ | refine blk_drew ?_ | refine blk_alloc ?_ _)); refine blk_put (cs := #[.int .i64 t423, .bool t424, .int .i64 t425, .int .u64 t426, .int .u64 t427, .bool false]) ?_ 5 _ rfl; (with_reducible repeat (first | refine blk_drewN ?_ _ | refine blk_drew ?_ | refine blk_alloc ?_ _)); refine blk_put (cs := #[.int .i64 t423, .bool t424, .int .i64 t425, .int .u64 t426, .int .u64 0, .bool false]) ?_ 4 _ rfl; (with_reducible repeat (first | refine blk_drewN ?_ _ | refine blk_drew ?_ | refine blk_alloc ?_ _)); refine blk_put (cs := #[.int .i64 t423, .bool t424, .int .i64 t425, .int .u64 0, .int .u64 0, .bool false]) ?_ 3 _ rfl; (with_reducible repeat (first | refine blk_drewN ?_ _ | refine blk_drew ?_ | refine blk_alloc ?_ _)); refine blk_put (cs := #[.int .i64 t423, .bool t424, .int .i64 0, .int .u64 0, .int .u64 0, .bool false]) ?_ 2 _ rfl; (with_reducible repeat (first | refine blk_drewN ?_ _ | refine blk_drew ?_ | refine blk_alloc ?_ _)); refine blk_put (cs := #[.int .i64 t423, .bool false, .int .i64 0, .int .u64 0, .int .u64 0, .bool false]) ?_ 1 _ rfl; (with_reducible repeat (first | refine blk_drewN ?_ _ | refine blk_drew ?_ | refine blk_alloc ?_ _)); refine blk_put (cs := #[.int .i64 0, .bool false, .int .i64 0, .int .u64 0, .int .u64 0, .bool false]) ?_ 0 _ rfl; (with_reducible repeat (first | refine blk_drewN ?_ _ | refine blk_drew ?_ | refine blk_alloc ?_ _)); exact BK430.out) hb); have n1_ := Aside0.mk (below_step (by repeat (first | (with_reducible first | exact HB.out | apply below_alloc | apply pw_below_drewN | apply below_drew1 | refine below_set ?_ GE430.out) | exact HB.out)) hb); clear BK430; clear HB; have BK430 := n0_; have HB := n1_; clear n0_ n1_; (try clear hb); (try clear hb2); (try clear hk); (try clear hi)) | ((with_reducible refine gate_dst (N := 14) rfl ?_); refine box_event ?hg (N := 14) ?hd (cs := #[.int .i64 0, .bool false, .int .i64 0, .int .u64 0, .int .u64 0, .bool false]) (t := 24) ?hr ?_; (case hd => rfl); (case hg => rfl); (case hr => first | (go_simp; done) | (go_simp; rfl)); intro gb438 hg w35 hbox hb; have n0_ := Aside0.mk (blk_below (g := gb430) (o := .cells #[.int .i64 t423, .bool t424, .int .i64 t425, .int .u64 t426, .int .u64 t427, .bool t428] 24 (0, 0)) (by (with_reducible repeat (first | refine blk_drewN ?_ _ | refine blk_drew ?_ | refine blk_alloc ?_ _)); exact BK430.out) hb); have n1_ := Aside0.mk (below_step (by repeat (first | (with_reducible first | exact HB.out | apply below_alloc | apply pw_below_drewN | apply below_drew1 | refine below_set ?_ GE430.out) | exact HB.out)) hb); have n2_ := Aside0.mk (hbox); have n3_ := Aside0.mk ((by rw [hg]; exact (below_size (by repeat (first | (with_reducible first | exact HB.out | apply below_alloc | apply pw_below_drewN | apply below_drew1 | refine below_set ?_ GE430.out) | exact HB.out))) : w.heap.size ≤ gb438)); have n4_ := Aside0.mk ((by rw [hg]; exact (below_size (by repeat (first | (with_reducible first | exact HB.out | apply below_alloc | apply pw_below_drewN | apply below_drew1 | refine below_set ?_ GE430.out) | exact HB.out))) : w.heap.size ≤ gb438)); have n5_ := Aside0.mk ((by rw [hg]; exact Nat.ne_of_lt (blk_lt (g := gb430) (o := .cells #[.int .i64 t423, .bool t424, .int .i64 t425, .int .u64 t426, .int .u64 t427, .bool t428] 24 (0, 0)) (by (with_reducible repeat (first | refine blk_drewN ?_ _ | refine blk_drew ?_ | refine blk_alloc ?_ _)); exact BK430.out)) : gb430 ≠ gb438)); have n6_ := Aside0.mk ((by rw [hg]; exact Nat.ne_of_gt (blk_lt (g := gb430) (o := .cells #[.int .i64 t423, .bool t424, .int .i64 t425, .int .u64 t426, .int .u64 t427, .bool t428] 24 (0, 0)) (by (with_reducible repeat (first | refine blk_drewN ?_ _ | refine blk_drew ?_ | refine blk_alloc ?_ _)); exact BK430.out)) : gb438 ≠ gb430)); clear BK430; clear HB; have BK430 := n0_; have HB := n1_; have BK438 := n2_; have GW438 := n3_; have GE438 := n4_; have NB430_438 := n5_; have NB438_430 := n6_; clear n0_ n1_ n2_ n3_ n4_ n5_ n6_; clear hb hbox hg; have hnb36 := NB438_430.out; have hnc36 := NB430_438.out; have hcz37_0 : w35.cell? ⟨gb438, 0, none⟩ = some (.int .i64 0) := (blk_cell BK438.out 0).trans rfl; have hcz37_1 : w35.cell? ⟨gb438, 1, none⟩ = some (.bool false) := (blk_cell BK438.out 1).trans rfl; have hcz37_2 : w35.cell? ⟨gb438, 2, none⟩ = some (.int .i64 0) := (blk_cell BK438.out 2).trans rfl; have hcz37_3 : w35.cell? ⟨gb438, 3, none⟩ = some (.int .u64 0) := (blk_cell BK438.out 3).trans rfl; have hcz37_4 : w35.cell? ⟨gb438, 4, none⟩ = some (.int .u64 0) := (blk_cell BK438.out 4).trans rfl; have hcz37_5 : w35.cell? ⟨gb438, 5, none⟩ = some (.bool false) := (blk_cell BK438.out 5).trans rfl; have hfz37_0 := blk_frozen BK438.out 0; have hfz37_1 := blk_frozen BK438.out 1; have hfz37_2 := blk_frozen BK438.out 2; have hfz37_3 := blk_frozen BK438.out 3; have hfz37_4 := blk_frozen BK438.out 4; have hfz37_5 := blk_frozen BK438.out 5))
    go_ret
    exact ⟨by first | rfl | (simp [errW_none, errW_some] <;> rfl) | (simp [*, errW_none, errW_some] <;> rfl), by repeat (first | (with_reducible first | exact HB.out | apply below_alloc | apply pw_below_drewN | apply below_drew1 | refine below_set ?_ GE430.out | refine below_set ?_ GE438.out) | exact HB.out)⟩
def vernierlaw07_RoundMakes.Pure : Prop := ∀ (a0 : Bool) (a1 : Int) (a2 : Int) (a3 : Int) (a4 : Bool), (Lit.int .u64 a1).wf = true → (Lit.int .u64 a2).wf = true → (Lit.int .i64 a3).wf = true → ∃ k, vernierlaw07_RoundMakes.f k a0 a1 a2 a3 a4 = some true
theorem vernierlaw07_RoundMakes.walk (P : vernierlaw07_RoundMakes.Pure) (a0 : Bool) (a1 : Int) (a2 : Int) (a3 : Int) (a4 : Bool) (w : World) (w1 : (Lit.int .u64 a1).wf = true) (w2 : (Lit.int .u64 a2).wf = true) (w3 : (Lit.int .i64 a3).wf = true) :
    Calls Try.prog 7 #[.bool a0, .int .u64 a1, .int .u64 a2, .int .i64 a3, .bool a4] w fun e w' => e = .returned (.bool true) ∧ Below w.heap.size w w' := by
  obtain ⟨k, h⟩ := P a0 a1 a2 a3 a4 w1 w2 w3
  refine (vernierlaw07_RoundMakes.calls k a0 a1 a2 a3 a4 true w h).mono ?_
  rintro e w' ⟨rfl, hd⟩
  exact ⟨rfl, hd⟩
end Go.Proofs.Ytfegofnplcmacaa.PAll
namespace Go.Proofs.Ytfegofnplcmacaa.V
open Go Go.RowKit Go.Proofs.YtfegofnplcmacaaW.PrintWords Go.Proofs.YtfegofnplcmacaaW.PrintLast Go.Proofs.YtfegofnplcmacaaW.PrintMore Go.Proofs.Ytfegofnplcmacaa.PAll
set_option linter.unusedVariables false
set_option linter.unusedSimpArgs false
theorem shl_hi (V k : Nat) (h : V < 2 ^ 128) (hk : k ≤ 64) :
    V * 2 ^ k % 2 ^ 128 / 2 ^ 64 = V / 2 ^ 64 * 2 ^ k % 2 ^ 64 + V % 2 ^ 64 / 2 ^ (64 - k) := by
  have s := pow_split hk
  have p1 := two_pos k
  have p2 := two_pos (64 - k)
  rw [show (2:Nat)^128 = 2^64 * 2^64 by decide, Nat.mod_mul_right_div_self]
  generalize hq : V / 2 ^ 64 = q
  generalize hr : V % 2 ^ 64 = r
  have hV : V = q * 2 ^ 64 + r := by subst hq hr; have := Nat.div_add_mod V (2^64); omega
  have hr' : r < 2 ^ 64 := by subst hr; exact Nat.mod_lt _ (two_pos 64)
  generalize hb : r / 2 ^ (64 - k) = b
  generalize hc : r % 2 ^ (64 - k) = c
  have hr2 : r = 2 ^ (64 - k) * b + c := by subst hb hc; exact (Nat.div_add_mod _ _).symm
  have hc' : c < 2 ^ (64 - k) := by subst hc; exact Nat.mod_lt _ p2
  have hb' : b < 2 ^ k := by subst hb; rw [Nat.div_lt_iff_lt_mul p2]; rw [s]; exact hr'
  have e : V * 2 ^ k = (q * 2 ^ k + b) * 2 ^ 64 + c * 2 ^ k := by
    rw [hV, hr2, ← s]; grind
  have hc2 : c * 2 ^ k < 2 ^ 64 := by
    rw [← s, Nat.mul_comm]; exact Nat.mul_lt_mul_of_pos_left hc' p1
  have d : V * 2 ^ k / 2 ^ 64 = q * 2 ^ k + b := by
    rw [e, Nat.add_comm, Nat.add_mul_div_right _ _ (two_pos 64), Nat.div_eq_of_lt hc2]; omega
  rw [d]
  have m1 : q * 2 ^ k % 2 ^ 64 = q % 2 ^ (64 - k) * 2 ^ k := by
    rw [← s, Nat.mul_comm (2 ^ k), Nat.mul_mod_mul_right]
  have m2 : q % 2 ^ (64 - k) * 2 ^ k + b < 2 ^ 64 := by
    have : q % 2 ^ (64 - k) + 1 ≤ 2 ^ (64 - k) := Nat.mod_lt _ p2
    have := Nat.mul_le_mul_right (2 ^ k) this
    rw [Nat.mul_comm (2 ^ (64 - k)), s, Nat.add_mul] at this
    omega
  rw [Nat.add_mod, m1, Nat.mod_eq_of_lt (Nat.lt_of_lt_of_le hb' (pow_le hk)), Nat.mod_eq_of_lt m2]
theorem twin_shl_eq (V k : Nat) (h : V < 2 ^ 128) (hk : k ≤ 128) :
    twin_shl.f (TH V) (TL V) (k : Int) = some (TH (V * 2 ^ k % 2 ^ 128), TL (V * 2 ^ k % 2 ^ 128)) := by
  unfold twin_shl.f
  have hT : V / 18446744073709551616 < 18446744073709551616 := by rw [p128] at h; omega
  have hL : V % 18446744073709551616 < 18446744073709551616 := by omega
  by_cases h64 : 64 ≤ k
  · rw [if_pos (by omega), w64 (by omega) (by omega), if_pos (by omega)]
    have e : ((k : Int) - 64) = ((k - 64 : Nat) : Int) := by omega
    rw [e]
    unfold TL TH
    rw [shl_nat _ _ (by omega)]
    have s : (2 : Nat) ^ k = 2 ^ 64 * 2 ^ (k - 64) := by rw [← Nat.pow_add]; congr 1; omega
    have g : V * 2 ^ k = V * 2 ^ (k - 64) * 18446744073709551616 := by rw [s, p64]; grind
    have g1 : V % 18446744073709551616 * 2 ^ (k - 64) % 18446744073709551616 = V * 2 ^ k % 2 ^ 128 / 18446744073709551616 := by
      rw [p128, mod128_hi, g, Nat.mul_div_cancel _ (by decide), Nat.mod_mul_mod]
    have g2 : V * 2 ^ k % 2 ^ 128 % 18446744073709551616 = 0 := by rw [g, p128]; omega
    rw [g1, g2]
    rfl
  · rw [if_neg (by omega), if_pos (by omega), w64 (by omega) (by omega), if_pos (by omega)]
    have e : (64 - (k : Int)) = ((64 - k : Nat) : Int) := by omega
    rw [e]
    unfold TL TH
    rw [shl_nat _ _ (by omega), shl_nat _ _ (by omega), shr_nat _ _ (by omega)]
    have hh := shl_hi V k h (by omega)
    have p2 := two_pos (64 - k)
    have s := pow_split (show k ≤ 64 by omega)
    rw [or_add _ _ k (Nat.mod_lt _ (by decide)) ?_ ?_ ?_]
    · congr 3
      · rw [← p64, hh]
      · rw [Nat.mod_mul_mod, p128]; omega
    · rw [← p64, ← s, Nat.mod_mul_right_mod, Nat.mul_mod_left]
    · rw [Nat.div_lt_iff_lt_mul p2, s, p64]; exact hL
    · exact Nat.lt_of_le_of_lt (Nat.div_le_self _ _) hL
theorem shr_lo (V k : Nat) (hk : k ≤ 64) : V / 2 ^ k % 2 ^ 64 = V % 2 ^ 64 / 2 ^ k + V / 2 ^ 64 * 2 ^ (64 - k) % 2 ^ 64 := by
  have s := pow_split hk
  have p1 := two_pos k
  have p2 := two_pos (64 - k)
  generalize hq : V / 2 ^ 64 = q
  generalize hr : V % 2 ^ 64 = r
  have hV : V = q * 2 ^ 64 + r := by subst hq hr; have := Nat.div_add_mod V (2^64); omega
  have hr' : r < 2 ^ 64 := by subst hr; exact Nat.mod_lt _ (two_pos 64)
  have e : V / 2 ^ k = r / 2 ^ k + q * 2 ^ (64 - k) := by
    rw [hV, ← s, show q * (2 ^ k * 2 ^ (64 - k)) + r = r + q * 2 ^ (64 - k) * 2 ^ k by grind, Nat.add_mul_div_right _ _ p1]
  have hb : r / 2 ^ k < 2 ^ (64 - k) := by rw [Nat.div_lt_iff_lt_mul p1, Nat.mul_comm, s]; exact hr'
  have m1 : q * 2 ^ (64 - k) % 2 ^ 64 = q % 2 ^ k * 2 ^ (64 - k) := by
    rw [← s, Nat.mul_mod_mul_right]
  have m2 : r / 2 ^ k + q % 2 ^ k * 2 ^ (64 - k) < 2 ^ 64 := by
    have : q % 2 ^ k + 1 ≤ 2 ^ k := Nat.mod_lt _ p1
    have := Nat.mul_le_mul_right (2 ^ (64 - k)) this
    rw [s, Nat.add_mul] at this
    omega
  rw [e, Nat.add_mod, m1, Nat.mod_eq_of_lt (Nat.lt_of_lt_of_le hb (pow_le (by omega))), Nat.mod_eq_of_lt m2]
theorem twin_shr_eq (V k : Nat) (h : V < 2 ^ 128) (hk : k ≤ 128) :
    twin_shr.f (TH V) (TL V) (k : Int) = some (TH (V / 2 ^ k), TL (V / 2 ^ k)) := by
  unfold twin_shr.f
  have hT : V / 18446744073709551616 < 18446744073709551616 := by rw [p128] at h; omega
  have hL : V % 18446744073709551616 < 18446744073709551616 := by omega
  by_cases h64 : 64 ≤ k
  · rw [if_pos (by omega), w64 (by omega) (by omega), if_pos (by omega)]
    have e : ((k : Int) - 64) = ((k - 64 : Nat) : Int) := by omega
    rw [e]
    unfold TL TH
    rw [shr_nat _ _ (by omega)]
    have s : (2 : Nat) ^ k = 2 ^ 64 * 2 ^ (k - 64) := by rw [← Nat.pow_add]; congr 1; omega
    have lt : V / 2 ^ k < 2 ^ 64 := by
      rw [s, ← Nat.div_div_eq_div_mul, p64]
      exact Nat.lt_of_le_of_lt (Nat.div_le_self _ _) hT
    rw [Nat.div_eq_of_lt (show V / 2 ^ k < 18446744073709551616 by rw [← p64]; exact lt), Nat.mod_eq_of_lt (show V / 2 ^ k < 18446744073709551616 by rw [← p64]; exact lt), s, ← Nat.div_div_eq_div_mul, p64]
    rfl
  · rw [if_neg (by omega), if_pos (by omega), w64 (by omega) (by omega), if_pos (by omega)]
    have e : (64 - (k : Int)) = ((64 - k : Nat) : Int) := by omega
    rw [e]
    unfold TL TH
    rw [shr_nat _ _ (by omega), shr_nat _ _ (by omega), shl_nat _ _ (by omega)]
    have hh := shr_lo V k (by omega)
    have p1 := two_pos k
    have s := pow_split (show k ≤ 64 by omega)
    have hs : V % 18446744073709551616 / 2 ^ k < 2 ^ (64 - k) := by rw [Nat.div_lt_iff_lt_mul p1, Nat.mul_comm, s, p64]; exact hL
    have oc : Go.bits .or .u64 ((V % 18446744073709551616 / 2 ^ k : Nat) : Int) ((V / 18446744073709551616 * 2 ^ (64 - k) % 18446744073709551616 : Nat) : Int) = ((V % 18446744073709551616 / 2 ^ k + V / 18446744073709551616 * 2 ^ (64 - k) % 18446744073709551616 : Nat) : Int) := by
      rw [or_nat _ _ (Nat.lt_of_le_of_lt (Nat.div_le_self _ _) hL) (Nat.mod_lt _ (by decide)), Nat.or_comm]
      have e2 : V / 18446744073709551616 * 2 ^ (64 - k) % 18446744073709551616 = V / 18446744073709551616 % 2 ^ k * 2 ^ (64 - k) := by
        rw [← p64, ← s, Nat.mul_mod_mul_right]
      rw [e2, or_parts hs, Nat.add_comm]
    have g1 : V / 18446744073709551616 / 2 ^ k = V / 2 ^ k / 18446744073709551616 := by rw [Nat.div_div_eq_div_mul, Nat.div_div_eq_div_mul, Nat.mul_comm]
    rw [oc, g1, ← p64, hh]
theorem twin_Len_eq (V : Nat) (h : V < 2 ^ 128) : twin_Len.f (TH V) (TL V) = some ((bl V : Nat) : Int) := by
  unfold twin_Len.f bits_Len64.f TH TL
  have hT : V / 18446744073709551616 < 18446744073709551616 := by rw [p128] at h; omega
  have hL : V % 18446744073709551616 < 18446744073709551616 := by omega
  have c1 := bl_le_of_lt h
  by_cases h0 : 0 < V / 18446744073709551616
  · rw [if_pos (by omega), if_pos ⟨by omega, by omega⟩]
    simp only [Option.bind_some]
    have e : Lib.bitLen (V / 18446744073709551616) = bl (V / 18446744073709551616) := bitLen_bl (by rw [p64]; exact hT)
    have c2 := bl_le_of_lt (show V / 18446744073709551616 < 2 ^ 64 by rw [p64]; exact hT)
    have a := bl_lt (V / 18446744073709551616)
    have b := bl_le h0
    have c := bl_pos h0
    have l : bl V = 64 + bl (V / 18446744073709551616) := by
      refine bl_unique (by omega) ?_ ?_
      · rw [show 64 + bl (V / 18446744073709551616) - 1 = 64 + (bl (V / 18446744073709551616) - 1) by omega, Nat.pow_add, p64]
        have := Nat.div_mul_le_self V 18446744073709551616
        have := Nat.mul_le_mul_left 18446744073709551616 b
        omega
      · rw [Nat.pow_add, p64]
        have e := Nat.div_add_mod V 18446744073709551616
        have := Nat.mul_le_mul_left 18446744073709551616 a
        omega
    rw [Int.toNat_natCast, e, w64 (by omega) (by omega), l]
    congr 1
  · rw [if_neg (by omega), if_pos ⟨by omega, by omega⟩]
    simp only [Option.bind_some]
    rw [Int.toNat_natCast, bitLen_bl (by rw [p64]; exact hL)]
    have : V % 18446744073709551616 = V := by omega
    rw [this]
theorem twin_Shl_eq (V k : Nat) (h : V < 2 ^ 128) (hk : k ≤ 128) :
    twin_Shl.f (TH V) (TL V) (k : Int) = some (TH (V * 2 ^ k % 2 ^ 128), TL (V * 2 ^ k % 2 ^ 128), decide (128 < bl V + k), none) := by
  unfold twin_Shl.f
  rw [if_neg (by omega)]
  have e : mn (k : Int) 128 = k := by unfold mn; rw [if_neg (by omega)]
  rw [e, twin_shl_eq V k h hk]
  simp only [Option.bind_some]
  rw [twin_Len_eq V h]
  simp only [Option.bind_some]
  have c1 := bl_le_of_lt h
  rw [w64 (by omega) (by omega)]
  congr 4
  rw [decide_eq_decide]
  omega
theorem twin_Shr_eq (V k : Nat) (h : V < 2 ^ 128) (hk : k ≤ 128) :
    twin_Shr.f (TH V) (TL V) (k : Int) = some (TH (V / 2 ^ k), TL (V / 2 ^ k), decide (V % 2 ^ k ≠ 0), none) := by
  unfold twin_Shr.f
  rw [if_neg (by omega)]
  have e : mn (k : Int) 128 = k := by unfold mn; rw [if_neg (by omega)]
  rw [e, twin_shr_eq V k h hk]
  simp only [Option.bind_some]
  have h2 : V / 2 ^ k < 2 ^ 128 := Nat.lt_of_le_of_lt (Nat.div_le_self _ _) h
  rw [twin_shl_eq _ k h2 hk]
  simp only [Option.bind_some]
  have hm : V / 2 ^ k * 2 ^ k % 2 ^ 128 = V / 2 ^ k * 2 ^ k := Nat.mod_eq_of_lt (Nat.lt_of_le_of_lt (Nat.div_mul_le_self _ _) h)
  rw [hm]
  have hd := Nat.div_add_mod V (2 ^ k)
  rw [Nat.mul_comm] at hd
  have key : (!(TH (V / 2 ^ k * 2 ^ k) == TH V) || !(TL (V / 2 ^ k * 2 ^ k) == TL V)) = decide (V % 2 ^ k ≠ 0) := by
    by_cases hz : V % 2 ^ k = 0
    · have : V / 2 ^ k * 2 ^ k = V := by omega
      rw [this]; simp [hz]
    · have : V / 2 ^ k * 2 ^ k ≠ V := by omega
      have hne : ¬ (TH (V / 2 ^ k * 2 ^ k) = TH V ∧ TL (V / 2 ^ k * 2 ^ k) = TL V) := fun ⟨h1, h2⟩ => this (T_eq h1 h2)
      rw [decide_eq_true hz]
      by_cases h1 : TH (V / 2 ^ k * 2 ^ k) = TH V
      · have h2 : TL (V / 2 ^ k * 2 ^ k) ≠ TL V := fun h2 => hne ⟨h1, h2⟩
        simp [h1, h2]
      · simp [h1]
  rw [key]
theorem twin_Norm_zero : twin_Norm.f 0 0 = some (0, 0, 0) := by unfold twin_Norm.f; rfl
theorem twin_Norm_eq (V : Nat) (h : V < 2 ^ 128) (h0 : 0 < V) :
    twin_Norm.f (TH V) (TL V) = some (TH (V * 2 ^ (128 - bl V)), TL (V * 2 ^ (128 - bl V)), ((128 - bl V : Nat) : Int)) := by
  unfold twin_Norm.f
  have c1 := bl_le_of_lt h
  have hz : ¬ (TH V == 0 && TL V == 0) = true := by
    intro hc
    simp only [Bool.and_eq_true, beq_iff_eq] at hc
    unfold TH TL at hc; omega
  rw [if_neg hz, twin_Len_eq V h]
  simp only [Option.bind_some]
  rw [w64 (by omega) (by omega)]
  have e : (128 - (bl V : Int)) = ((128 - bl V : Nat) : Int) := by omega
  rw [e, twin_shl_eq V _ h (by omega)]
  simp only [Option.bind_some]
  have hm : V * 2 ^ (128 - bl V) % 2 ^ 128 = V * 2 ^ (128 - bl V) := by
    refine Nat.mod_eq_of_lt ?_
    rw [← pow_split c1]
    exact Nat.mul_lt_mul_of_pos_right (bl_lt V) (two_pos _)
  rw [hm]
end Go.Proofs.Ytfegofnplcmacaa.V
namespace Go.Proofs.Ytfegofnplcmacaa.PAll
open Go.RowKit Go.Proofs.YtfegofnplcmacaaW.PrintWords Go.Proofs.YtfegofnplcmacaaW.PrintLast Go.Proofs.YtfegofnplcmacaaW.PrintMore
attribute [local go_sem] max2_int min2_int max_two min_two max_three min_three max_four min_four
set_option linter.unusedVariables false
set_option linter.unusedSimpArgs false
def round_Of.f (k : Nat) (a0_0 : Int) (a0_1 : Bool) (a0_2 : Int) (a0_3 : Int) : Option (Int × Bool × Int × Int × Int × Bool × Option Int) := (round_sound.f k a0_0 a0_1 a0_2 a0_3 0 false).bind fun t290 => (if t290 = true then (if a0_2 < (-1073741824) then (some (0, false, 0, 0, 0, false, some 1)) else (if a0_2 > 1073741824 then (some (0, false, 0, 0, 0, false, some 1)) else (some (a0_0, a0_1, a0_2, a0_3, 0, false, none)))) else (some (0, false, 0, 0, 0, false, some 1)))
theorem round_Of.mono : ∀ a0 a1 a2 a3 k, LeO (round_Of.f k a0 a1 a2 a3) (round_Of.f (k + 1) a0 a1 a2 a3) := by
  intro a0 a1 a2 a3 k
  unfold round_Of.f
  repeat' first
      | (with_reducible exact round_sound.mono _ _ _ _ _ _ _)
      | (with_reducible exact LeO.refl _)
      | (with_reducible exact LeO.none _)
      | (with_reducible refine LeO.ite ?_ ?_)
      | (with_reducible refine LeO.bind ?_ (fun _ => ?_))
      | exact round_sound.mono _ _ _ _ _ _ _
      | exact LeO.none _
      | refine LeO.ite ?_ ?_
      | refine LeO.bind ?_ (fun _ => ?_)
set_option maxHeartbeats 8000000 in
set_option maxRecDepth 100000 in
theorem round_Of.calls (k : Nat) (a0_0 : Int) (a0_1 : Bool) (a0_2 : Int) (a0_3 : Int) (r1 : Int) (r2 : Bool) (r3 : Int) (r4 : Int) (r5 : Int) (r6 : Bool) (r7 : Option Int) (w : World) (h : round_Of.f k a0_0 a0_1 a0_2 a0_3 = some (r1, r2, r3, r4, r5, r6, r7)) :
    Calls Try.prog 20 #[.agg #[.int .i64 a0_0, .bool a0_1, .int .i64 a0_2, .int .u64 a0_3]] w fun e w' => e = .returned (.tuple #[.agg #[.int .i64 r1, .bool r2, .int .i64 r3, .int .u64 r4, .int .u64 r5, .bool r6], errW r7]) ∧ Below w.heap.size w w' := by
  have hu44 := Try.underlying44
  have hu24 := Try.underlying24
  have hu27 := Try.underlying27
  have hu55 := Try.underlying55
  have HB := Aside0.mk (Below.refl w.heap.size w)
  have H : ((round_sound.f k a0_0 a0_1 a0_2 a0_3 0 false).bind fun t290 => (if t290 = true then (if a0_2 < (-1073741824) then (some (0, false, 0, 0, 0, false, some 1)) else (if a0_2 > 1073741824 then (some (0, false, 0, 0, 0, false, some 1)) else (some (a0_0, a0_1, a0_2, a0_3, 0, false, none)))) else (some (0, false, 0, 0, 0, false, some 1)))) = some (r1, r2, r3, r4, r5, r6, r7) := h
  clear h
  replace H := Option.bind_eq_some_iff.mp H
  obtain ⟨t290, A20, H⟩ := H
  replace H : (if t290 = true then (if a0_2 < (-1073741824) then (some (0, false, 0, 0, 0, false, some 1)) else (if a0_2 > 1073741824 then (some (0, false, 0, 0, 0, false, some 1)) else (some (a0_0, a0_1, a0_2, a0_3, 0, false, none)))) else (some (0, false, 0, 0, 0, false, some 1))) = some (r1, r2, r3, r4, r5, r6, r7) := H
  have A2 := Aside0.mk A20
  clear A20
  by_cases c3 : t290 = true
  · subst c3
    have H1 : (if a0_2 < (-1073741824) then (some (0, false, 0, 0, 0, false, some 1)) else (if a0_2 > 1073741824 then (some (0, false, 0, 0, 0, false, some 1)) else (some (a0_0, a0_1, a0_2, a0_3, 0, false, none)))) = some (r1, r2, r3, r4, r5, r6, r7) := by rw [if_pos rfl] at H; exact H
    clear H
    have H := H1
    clear H1
    by_cases c4 : a0_2 < (-1073741824)
    · rw [if_pos c4] at H
      have c4b0 : decide (a0_2 < (-1073741824)) = true := decide_eq_true c4
      clear c4
      simp only [Option.some.injEq, Prod.mk.injEq] at H
      obtain ⟨rfl, rfl, rfl, rfl, rfl, rfl, rfl⟩ := H
      go_enter Try.func20, Try.ntmps20
      go_wp2_with (first | ((with_reducible refine gate_dst (N := 1) rfl ?_); refine box_event ?hg (N := 1) ?hd (cs := #[.int .i64 a0_0, .bool a0_1, .int .i64 a0_2, .int .u64 a0_3]) (t := 44) ?hr ?_; (case hd => rfl); (case hg => rfl); (case hr => first | (go_simp; done) | (go_simp; rfl)); intro gb287 hg w5 hbox hb; have n0_ := Aside0.mk (below_step (by repeat (first | (with_reducible first | exact HB.out | apply below_alloc | apply pw_below_drewN | apply below_drew1) | exact HB.out)) hb); have n1_ := Aside0.mk (hbox); have n2_ := Aside0.mk ((by rw [hg]; exact (below_size (by repeat (first | (with_reducible first | exact HB.out | apply below_alloc | apply pw_below_drewN | apply below_drew1) | exact HB.out))) : w.heap.size ≤ gb287)); have n3_ := Aside0.mk ((by rw [hg]; exact (below_size (by repeat (first | (with_reducible first | exact HB.out | apply below_alloc | apply pw_below_drewN | apply below_drew1) | exact HB.out))) : w.heap.size ≤ gb287)); clear HB; have HB := n0_; have BK287 := n1_; have GW287 := n2_; have GE287 := n3_; clear n0_ n1_ n2_ n3_; clear hb hbox hg) | ((with_reducible refine gate_dst (N := 2) rfl ?_); refine box_event ?hg (N := 2) ?hd (cs := #[.int .i64 0, .bool false, .int .i64 0, .int .u64 0, .int .u64 0, .bool false]) (t := 24) ?hr ?_; (case hd => rfl); (case hg => rfl); (case hr => first | (go_simp; done) | (go_simp; rfl)); intro gb288 hg w6 hbox hb; have n0_ := Aside0.mk (blk_below (g := gb287) (o := .cells #[.int .i64 a0_0, .bool a0_1, .int .i64 a0_2, .int .u64 a0_3] 44 (0, 0)) (by (with_reducible repeat (first | refine blk_drewN ?_ _ | refine blk_drew ?_ | refine blk_alloc ?_ _)); exact BK287.out) hb); have n1_ := Aside0.mk (below_step (by repeat (first | (with_reducible first | exact HB.out | apply below_alloc | apply pw_below_drewN | apply below_drew1 | refine below_set ?_ GE287.out) | exact HB.out)) hb); have n2_ := Aside0.mk (hbox); have n3_ := Aside0.mk ((by rw [hg]; exact (below_size (by repeat (first | (with_reducible first | exact HB.out | apply below_alloc | apply pw_below_drewN | apply below_drew1 | refine below_set ?_ GE287.out) | exact HB.out))) : w.heap.size ≤ gb288)); have n4_ := Aside0.mk ((by rw [hg]; exact (below_size (by repeat (first | (with_reducible first | exact HB.out | apply below_alloc | apply pw_below_drewN | apply below_drew1 | refine below_set ?_ GE287.out) | exact HB.out))) : w.heap.size ≤ gb288)); have n5_ := Aside0.mk ((by rw [hg]; exact Nat.ne_of_lt (blk_lt (g := gb287) (o := .cells #[.int .i64 a0_0, .bool a0_1, .int .i64 a0_2, .int .u64 a0_3] 44 (0, 0)) (by (with_reducible repeat (first | refine blk_drewN ?_ _ | refine blk_drew ?_ | refine blk_alloc ?_ _)); exact BK287.out)) : gb287 ≠ gb288)); have n6_ := Aside0.mk ((by rw [hg]; exact Nat.ne_of_gt (blk_lt (g := gb287) (o := .cells #[.int .i64 a0_0, .bool a0_1, .int .i64 a0_2, .int .u64 a0_3] 44 (0, 0)) (by (with_reducible repeat (first | refine blk_drewN ?_ _ | refine blk_drew ?_ | refine blk_alloc ?_ _)); exact BK287.out)) : gb288 ≠ gb287)); clear BK287; clear HB; have BK287 := n0_; have HB := n1_; have BK288 := n2_; have GW288 := n3_; have GE288 := n4_; have NB287_288 := n5_; have NB288_287 := n6_; clear n0_ n1_ n2_ n3_ n4_ n5_ n6_; clear hb hbox hg; have hnb7 := NB287_288.out; have hnc7 := NB288_287.out; have hcz8_0 : w6.cell? ⟨gb287, 0, none⟩ = some (.int .i64 a0_0) := (blk_cell BK287.out 0).trans rfl; have hcz8_1 : w6.cell? ⟨gb287, 1, none⟩ = some (.bool a0_1) := (blk_cell BK287.out 1).trans rfl; have hcz8_2 : w6.cell? ⟨gb287, 2, none⟩ = some (.int .i64 a0_2) := (blk_cell BK287.out 2).trans rfl; have hcz8_3 : w6.cell? ⟨gb287, 3, none⟩ = some (.int .u64 a0_3) := (blk_cell BK287.out 3).trans rfl; have hfz8_0 := blk_frozen BK287.out 0; have hfz8_1 := blk_frozen BK287.out 1; have hfz8_2 := blk_frozen BK287.out 2; have hfz8_3 := blk_frozen BK287.out 3) | ((with_reducible refine gate_dst (N := 4) rfl ?_); refine box_event ?hg (N := 4) ?hd (cs := #[.int .i64 0, .bool false, .int .i64 0, .int .u64 0, .int .u64 0, .bool false]) (t := 24) ?hr ?_; (case hd => rfl); (case hg => rfl); (case hr => first | (go_simp; done) | (go_simp; rfl)); intro gb289 hg w9 hbox hb; have n0_ := Aside0.mk (blk_below (g := gb287) (o := .cells #[.int .i64 a0_0, .bool a0_1, .int .i64 a0_2, .int .u64 a0_3] 44 (0, 0)) (by (with_reducible repeat (first | refine blk_drewN ?_ _ | refine blk_drew ?_ | refine blk_alloc ?_ _)); exact BK287.out) hb); have n1_ := Aside0.mk (blk_below (g := gb288) (o := .cells #[.int .i64 0, .bool false, .int .i64 0, .int .u64 0, .int .u64 0, .bool false] 24 (0, 0)) (by (with_reducible repeat (first | refine blk_drewN ?_ _ | refine blk_drew ?_ | refine blk_alloc ?_ _)); exact BK288.out) hb); have n2_ := Aside0.mk (below_step (by repeat (first | (with_reducible first | exact HB.out | apply below_alloc | apply pw_below_drewN | apply below_drew1 | refine below_set ?_ GE287.out | refine below_set ?_ GE288.out) | exact HB.out)) hb); have n3_ := Aside0.mk (hbox); have n4_ := Aside0.mk ((by rw [hg]; exact (below_size (by repeat (first | (with_reducible first | exact HB.out | apply below_alloc | apply pw_below_drewN | apply below_drew1 | refine below_set ?_ GE287.out | refine below_set ?_ GE288.out) | exact HB.out))) : w.heap.size ≤ gb289)); have n5_ := Aside0.mk ((by rw [hg]; exact (below_size (by repeat (first | (with_reducible first | exact HB.out | apply below_alloc | apply pw_below_drewN | apply below_drew1 | refine below_set ?_ GE287.out | refine below_set ?_ GE288.out) | exact HB.out))) : w.heap.size ≤ gb289)); have n6_ := Aside0.mk ((by rw [hg]; exact Nat.ne_of_lt (blk_lt (g := gb287) (o := .cells #[.int .i64 a0_0, .bool a0_1, .int .i64 a0_2, .int .u64 a0_3] 44 (0, 0)) (by (with_reducible repeat (first | refine blk_drewN ?_ _ | refine blk_drew ?_ | refine blk_alloc ?_ _)); exact BK287.out)) : gb287 ≠ gb289)); have n7_ := Aside0.mk ((by rw [hg]; exact Nat.ne_of_gt (blk_lt (g := gb287) (o := .cells #[.int .i64 a0_0, .bool a0_1, .int .i64 a0_2, .int .u64 a0_3] 44 (0, 0)) (by (with_reducible repeat (first | refine blk_drewN ?_ _ | refine blk_drew ?_ | refine blk_alloc ?_ _)); exact BK287.out)) : gb289 ≠ gb287)); have n8_ := Aside0.mk ((by rw [hg]; exact Nat.ne_of_lt (blk_lt (g := gb288) (o := .cells #[.int .i64 0, .bool false, .int .i64 0, .int .u64 0, .int .u64 0, .bool false] 24 (0, 0)) (by (with_reducible repeat (first | refine blk_drewN ?_ _ | refine blk_drew ?_ | refine blk_alloc ?_ _)); exact BK288.out)) : gb288 ≠ gb289)); have n9_ := Aside0.mk ((by rw [hg]; exact Nat.ne_of_gt (blk_lt (g := gb288) (o := .cells #[.int .i64 0, .bool false, .int .i64 0, .int .u64 0, .int .u64 0, .bool false] 24 (0, 0)) (by (with_reducible repeat (first | refine blk_drewN ?_ _ | refine blk_drew ?_ | refine blk_alloc ?_ _)); exact BK288.out)) : gb289 ≠ gb288)); clear BK287; clear BK288; clear HB; have BK287 := n0_; have BK288 := n1_; have HB := n2_; have BK289 := n3_; have GW289 := n4_; have GE289 := n5_; have NB287_289 := n6_; have NB289_287 := n7_; have NB288_289 := n8_; have NB289_288 := n9_; clear n0_ n1_ n2_ n3_ n4_ n5_ n6_ n7_ n8_ n9_; clear hb hbox hg; have hnb10 := NB289_287.out; have hnc10 := NB287_289.out; have hnb11 := NB289_288.out; have hnc11 := NB288_289.out; have hcz12_0 : w9.cell? ⟨gb289, 0, none⟩ = some (.int .i64 0) := (blk_cell BK289.out 0).trans rfl; have hcz12_1 : w9.cell? ⟨gb289, 1, none⟩ = some (.bool false) := (blk_cell BK289.out 1).trans rfl; have hcz12_2 : w9.cell? ⟨gb289, 2, none⟩ = some (.int .i64 0) := (blk_cell BK289.out 2).trans rfl; have hcz12_3 : w9.cell? ⟨gb289, 3, none⟩ = some (.int .u64 0) := (blk_cell BK289.out 3).trans rfl; have hcz12_4 : w9.cell? ⟨gb289, 4, none⟩ = some (.int .u64 0) := (blk_cell BK289.out 4).trans rfl; have hcz12_5 : w9.cell? ⟨gb289, 5, none⟩ = some (.bool false) := (blk_cell BK289.out 5).trans rfl; have hfz12_0 := blk_frozen BK289.out 0; have hfz12_1 := blk_frozen BK289.out 1; have hfz12_2 := blk_frozen BK289.out 2; have hfz12_3 := blk_frozen BK289.out 3; have hfz12_4 := blk_frozen BK289.out 4; have hfz12_5 := blk_frozen BK289.out 5) | ((with_reducible refine gate_callee (f := 28) rfl ?_); refine goesL_ (some 15) rfl rfl Try.func28 (by kernel_rfl) rfl #[.agg #[.int .i64 a0_0, .bool a0_1, .int .i64 a0_2, .int .u64 a0_3, .int .u64 0, .bool false]] rfl (by (try simp only [List.map_toArray, List.map_cons, List.map_nil]); first | done | rfl | (simp only [List.length_drop, List.length_take]; rfl)) ?_; (with_reducible refine (round_sound.calls k a0_0 a0_1 a0_2 a0_3 0 false true _ A2.out).mono ?_); rintro e w13 ⟨rfl, hb⟩; refine ⟨_, rfl, ?_⟩; have n0_ := Aside0.mk (blk_below (g := gb287) (o := .cells #[.int .i64 a0_0, .bool a0_1, .int .i64 a0_2, .int .u64 a0_3] 44 (0, 0)) (by (with_reducible repeat (first | refine blk_drewN ?_ _ | refine blk_drew ?_ | refine blk_alloc ?_ _)); refine blk_far ?_ NB287_289.out _; (with_reducible repeat (first | refine blk_drewN ?_ _ | refine blk_drew ?_ | refine blk_alloc ?_ _)); refine blk_far ?_ NB287_289.out _; (with_reducible repeat (first | refine blk_drewN ?_ _ | refine blk_drew ?_ | refine blk_alloc ?_ _)); refine blk_far ?_ NB287_289.out _; (with_reducible repeat (first | refine blk_drewN ?_ _ | refine blk_drew ?_ | refine blk_alloc ?_ _)); refine blk_far ?_ NB287_289.out _; (with_reducible repeat (first | refine blk_drewN ?_ _ | refine blk_drew ?_ | refine blk_alloc ?_ _)); refine blk_far ?_ NB287_289.out _; (with_reducible repeat (first | refine blk_drewN ?_ _ | refine blk_drew ?_ | refine blk_alloc ?_ _)); refine blk_far ?_ NB287_289.out _; (with_reducible repeat (first | refine blk_drewN ?_ _ | refine blk_drew ?_ | refine blk_alloc ?_ _)); exact BK287.out) hb); have n1_ := Aside0.mk (blk_below (g := gb288) (o := .cells #[.int .i64 0, .bool false, .int .i64 0, .int .u64 0, .int .u64 0, .bool false] 24 (0, 0)) (by (with_reducible repeat (first | refine blk_drewN ?_ _ | refine blk_drew ?_ | refine blk_alloc ?_ _)); refine blk_far ?_ NB288_289.out _; (with_reducible repeat (first | refine blk_drewN ?_ _ | refine blk_drew ?_ | refine blk_alloc ?_ _)); refine blk_far ?_ NB288_289.out _; (with_reducible repeat (first | refine blk_drewN ?_ _ | refine blk_drew ?_ | refine blk_alloc ?_ _)); refine blk_far ?_ NB288_289.out _; (with_reducible repeat (first | refine blk_drewN ?_ _ | refine blk_drew ?_ | refine blk_alloc ?_ _)); refine blk_far ?_ NB288_289.out _; (with_reducible repeat (first | refine blk_drewN ?_ _ | refine blk_drew ?_ | refine blk_alloc ?_ _)); refine blk_far ?_ NB288_289.out _; (with_reducible repeat (first | refine blk_drewN ?_ _ | refine blk_drew ?_ | refine blk_alloc ?_ _)); refine blk_far ?_ NB288_289.out _; (with_reducible repeat (first | refine blk_drewN ?_ _ | refine blk_drew ?_ | refine blk_alloc ?_ _)); exact BK288.out) hb); have n2_ := Aside0.mk (blk_below (g := gb289) (o := .cells #[.int .i64 a0_0, .bool a0_1, .int .i64 a0_2, .int .u64 a0_3, .int .u64 0, .bool false] 24 (0, 0)) (by (with_reducible repeat (first | refine blk_drewN ?_ _ | refine blk_drew ?_ | refine blk_alloc ?_ _)); refine blk_put (cs := #[.int .i64 a0_0, .bool a0_1, .int .i64 a0_2, .int .u64 a0_3, .int .u64 0, .bool false]) ?_ 5 _ rfl; (with_reducible repeat (first | refine blk_drewN ?_ _ | refine blk_drew ?_ | refine blk_alloc ?_ _)); refine blk_put (cs := #[.int .i64 a0_0, .bool a0_1, .int .i64 a0_2, .int .u64 a0_3, .int .u64 0, .bool false]) ?_ 4 _ rfl; (with_reducible repeat (first | refine blk_drewN ?_ _ | refine blk_drew ?_ | refine blk_alloc ?_ _)); refine blk_put (cs := #[.int .i64 a0_0, .bool a0_1, .int .i64 a0_2, .int .u64 0, .int .u64 0, .bool false]) ?_ 3 _ rfl; (with_reducible repeat (first | refine blk_drewN ?_ _ | refine blk_drew ?_ | refine blk_alloc ?_ _)); refine blk_put (cs := #[.int .i64 a0_0, .bool a0_1, .int .i64 0, .int .u64 0, .int .u64 0, .bool false]) ?_ 2 _ rfl; (with_reducible repeat (first | refine blk_drewN ?_ _ | refine blk_drew ?_ | refine blk_alloc ?_ _)); refine blk_put (cs := #[.int .i64 a0_0, .bool false, .int .i64 0, .int .u64 0, .int .u64 0, .bool false]) ?_ 1 _ rfl; (with_reducible repeat (first | refine blk_drewN ?_ _ | refine blk_drew ?_ | refine blk_alloc ?_ _)); refine blk_put (cs := #[.int .i64 0, .bool false, .int .i64 0, .int .u64 0, .int .u64 0, .bool false]) ?_ 0 _ rfl; (with_reducible repeat (first | refine blk_drewN ?_ _ | refine blk_drew ?_ | refine blk_alloc ?_ _)); exact BK289.out) hb); have n3_ := Aside0.mk (below_step (by repeat (first | (with_reducible first | exact HB.out | apply below_alloc | apply pw_below_drewN | apply below_drew1 | refine below_set ?_ GE287.out | refine below_set ?_ GE288.out | refine below_set ?_ GE289.out) | exact HB.out)) hb); clear BK287; clear BK288; clear BK289; clear HB; have BK287 := n0_; have BK288 := n1_; have BK289 := n2_; have HB := n3_; clear n0_ n1_ n2_ n3_; (try clear hb); (try clear hb2); (try clear hk); (try clear hi); have hcz14_0 : w13.cell? ⟨gb287, 0, none⟩ = some (.int .i64 a0_0) := (blk_cell BK287.out 0).trans rfl; have hcz14_1 : w13.cell? ⟨gb287, 1, none⟩ = some (.bool a0_1) := (blk_cell BK287.out 1).trans rfl; have hcz14_2 : w13.cell? ⟨gb287, 2, none⟩ = some (.int .i64 a0_2) := (blk_cell BK287.out 2).trans rfl; have hcz14_3 : w13.cell? ⟨gb287, 3, none⟩ = some (.int .u64 a0_3) := (blk_cell BK287.out 3).trans rfl; have hfz14_0 := blk_frozen BK287.out 0; have hfz14_1 := blk_frozen BK287.out 1; have hfz14_2 := blk_frozen BK287.out 2; have hfz14_3 := blk_frozen BK287.out 3; have hcz15_0 : w13.cell? ⟨gb288, 0, none⟩ = some (.int .i64 0) := (blk_cell BK288.out 0).trans rfl; have hcz15_1 : w13.cell? ⟨gb288, 1, none⟩ = some (.bool false) := (blk_cell BK288.out 1).trans rfl; have hcz15_2 : w13.cell? ⟨gb288, 2, none⟩ = some (.int .i64 0) := (blk_cell BK288.out 2).trans rfl; have hcz15_3 : w13.cell? ⟨gb288, 3, none⟩ = some (.int .u64 0) := (blk_cell BK288.out 3).trans rfl; have hcz15_4 : w13.cell? ⟨gb288, 4, none⟩ = some (.int .u64 0) := (blk_cell BK288.out 4).trans rfl; have hcz15_5 : w13.cell? ⟨gb288, 5, none⟩ = some (.bool false) := (blk_cell BK288.out 5).trans rfl; have hfz15_0 := blk_frozen BK288.out 0; have hfz15_1 := blk_frozen BK288.out 1; have hfz15_2 := blk_frozen BK288.out 2; have hfz15_3 := blk_frozen BK288.out 3; have hfz15_4 := blk_frozen BK288.out 4; have hfz15_5 := blk_frozen BK288.out 5))
      refine bodyPost_ret (results_ct rfl _ _ gb288 24 #[.int .i64 0, .bool false, .int .i64 0, .int .u64 0, .int .u64 0, .bool false] (0, 0) _ rfl (by (with_reducible repeat (first | refine blk_drewN ?_ _ | refine blk_drew ?_ | refine blk_alloc ?_ _)); refine blk_put (cs := #[.int .i64 0, .bool false, .int .i64 0, .int .u64 0, .int .u64 0, .bool false]) ?_ 5 _ rfl; (with_reducible repeat (first | refine blk_drewN ?_ _ | refine blk_drew ?_ | refine blk_alloc ?_ _)); refine blk_put (cs := #[.int .i64 0, .bool false, .int .i64 0, .int .u64 0, .int .u64 0, .bool false]) ?_ 4 _ rfl; (with_reducible repeat (first | refine blk_drewN ?_ _ | refine blk_drew ?_ | refine blk_alloc ?_ _)); refine blk_put (cs := #[.int .i64 0, .bool false, .int .i64 0, .int .u64 0, .int .u64 0, .bool false]) ?_ 3 _ rfl; (with_reducible repeat (first | refine blk_drewN ?_ _ | refine blk_drew ?_ | refine blk_alloc ?_ _)); refine blk_put (cs := #[.int .i64 0, .bool false, .int .i64 0, .int .u64 0, .int .u64 0, .bool false]) ?_ 2 _ rfl; (with_reducible repeat (first | refine blk_drewN ?_ _ | refine blk_drew ?_ | refine blk_alloc ?_ _)); refine blk_put (cs := #[.int .i64 0, .bool false, .int .i64 0, .int .u64 0, .int .u64 0, .bool false]) ?_ 1 _ rfl; (with_reducible repeat (first | refine blk_drewN ?_ _ | refine blk_drew ?_ | refine blk_alloc ?_ _)); refine blk_put (cs := #[.int .i64 0, .bool false, .int .i64 0, .int .u64 0, .int .u64 0, .bool false]) ?_ 0 _ rfl; (with_reducible repeat (first | refine blk_drewN ?_ _ | refine blk_drew ?_ | refine blk_alloc ?_ _)); exact BK288.out) Try.underlying24 rfl (by kernel_rfl)) rfl ?_
      exact ⟨by first | rfl | (simp [errW_none, errW_some] <;> rfl) | (simp [*, errW_none, errW_some] <;> rfl), by repeat (first | (with_reducible first | exact HB.out | apply below_alloc | apply pw_below_drewN | apply below_drew1 | refine below_set ?_ GE287.out | refine below_set ?_ GE288.out | refine below_set ?_ GE289.out) | exact HB.out)⟩
    · rw [if_neg c4] at H
      have c4b0 : decide (a0_2 < (-1073741824)) = false := decide_eq_false c4
      clear c4
      by_cases c16 : a0_2 > 1073741824
      · rw [if_pos c16] at H
        have c16b0 : decide (1073741824 < a0_2) = true := decide_eq_true c16
        clear c16
        simp only [Option.some.injEq, Prod.mk.injEq] at H
        obtain ⟨rfl, rfl, rfl, rfl, rfl, rfl, rfl⟩ := H
        go_enter Try.func20, Try.ntmps20
        go_wp2_with (first | ((with_reducible refine gate_dst (N := 1) rfl ?_); refine box_event ?hg (N := 1) ?hd (cs := #[.int .i64 a0_0, .bool a0_1, .int .i64 a0_2, .int .u64 a0_3]) (t := 44) ?hr ?_; (case hd => rfl); (case hg => rfl); (case hr => first | (go_simp; done) | (go_simp; rfl)); intro gb287 hg w17 hbox hb; have n0_ := Aside0.mk (below_step (by repeat (first | (with_reducible first | exact HB.out | apply below_alloc | apply pw_below_drewN | apply below_drew1) | exact HB.out)) hb); have n1_ := Aside0.mk (hbox); have n2_ := Aside0.mk ((by rw [hg]; exact (below_size (by repeat (first | (with_reducible first | exact HB.out | apply below_alloc | apply pw_below_drewN | apply below_drew1) | exact HB.out))) : w.heap.size ≤ gb287)); have n3_ := Aside0.mk ((by rw [hg]; exact (below_size (by repeat (first | (with_reducible first | exact HB.out | apply below_alloc | apply pw_below_drewN | apply below_drew1) | exact HB.out))) : w.heap.size ≤ gb287)); clear HB; have HB := n0_; have BK287 := n1_; have GW287 := n2_; have GE287 := n3_; clear n0_ n1_ n2_ n3_; clear hb hbox hg) | ((with_reducible refine gate_dst (N := 2) rfl ?_); refine box_event ?hg (N := 2) ?hd (cs := #[.int .i64 0, .bool false, .int .i64 0, .int .u64 0, .int .u64 0, .bool false]) (t := 24) ?hr ?_; (case hd => rfl); (case hg => rfl); (case hr => first | (go_simp; done) | (go_simp; rfl)); intro gb288 hg w18 hbox hb; have n0_ := Aside0.mk (blk_below (g := gb287) (o := .cells #[.int .i64 a0_0, .bool a0_1, .int .i64 a0_2, .int .u64 a0_3] 44 (0, 0)) (by (with_reducible repeat (first | refine blk_drewN ?_ _ | refine blk_drew ?_ | refine blk_alloc ?_ _)); exact BK287.out) hb); have n1_ := Aside0.mk (below_step (by repeat (first | (with_reducible first | exact HB.out | apply below_alloc | apply pw_below_drewN | apply below_drew1 | refine below_set ?_ GE287.out) | exact HB.out)) hb); have n2_ := Aside0.mk (hbox); have n3_ := Aside0.mk ((by rw [hg]; exact (below_size (by repeat (first | (with_reducible first | exact HB.out | apply below_alloc | apply pw_below_drewN | apply below_drew1 | refine below_set ?_ GE287.out) | exact HB.out))) : w.heap.size ≤ gb288)); have n4_ := Aside0.mk ((by rw [hg]; exact (below_size (by repeat (first | (with_reducible first | exact HB.out | apply below_alloc | apply pw_below_drewN | apply below_drew1 | refine below_set ?_ GE287.out) | exact HB.out))) : w.heap.size ≤ gb288)); have n5_ := Aside0.mk ((by rw [hg]; exact Nat.ne_of_lt (blk_lt (g := gb287) (o := .cells #[.int .i64 a0_0, .bool a0_1, .int .i64 a0_2, .int .u64 a0_3] 44 (0, 0)) (by (with_reducible repeat (first | refine blk_drewN ?_ _ | refine blk_drew ?_ | refine blk_alloc ?_ _)); exact BK287.out)) : gb287 ≠ gb288)); have n6_ := Aside0.mk ((by rw [hg]; exact Nat.ne_of_gt (blk_lt (g := gb287) (o := .cells #[.int .i64 a0_0, .bool a0_1, .int .i64 a0_2, .int .u64 a0_3] 44 (0, 0)) (by (with_reducible repeat (first | refine blk_drewN ?_ _ | refine blk_drew ?_ | refine blk_alloc ?_ _)); exact BK287.out)) : gb288 ≠ gb287)); clear BK287; clear HB; have BK287 := n0_; have HB := n1_; have BK288 := n2_; have GW288 := n3_; have GE288 := n4_; have NB287_288 := n5_; have NB288_287 := n6_; clear n0_ n1_ n2_ n3_ n4_ n5_ n6_; clear hb hbox hg; have hnb19 := NB287_288.out; have hnc19 := NB288_287.out; have hcz20_0 : w18.cell? ⟨gb287, 0, none⟩ = some (.int .i64 a0_0) := (blk_cell BK287.out 0).trans rfl; have hcz20_1 : w18.cell? ⟨gb287, 1, none⟩ = some (.bool a0_1) := (blk_cell BK287.out 1).trans rfl; have hcz20_2 : w18.cell? ⟨gb287, 2, none⟩ = some (.int .i64 a0_2) := (blk_cell BK287.out 2).trans rfl; have hcz20_3 : w18.cell? ⟨gb287, 3, none⟩ = some (.int .u64 a0_3) := (blk_cell BK287.out 3).trans rfl; have hfz20_0 := blk_frozen BK287.out 0; have hfz20_1 := blk_frozen BK287.out 1; have hfz20_2 := blk_frozen BK287.out 2; have hfz20_3 := blk_frozen BK287.out 3) | ((with_reducible refine gate_dst (N := 4) rfl ?_); refine box_event ?hg (N := 4) ?hd (cs := #[.int .i64 0, .bool false, .int .i64 0, .int .u64 0, .int .u64 0, .bool false]) (t := 24) ?hr ?_; (case hd => rfl); (case hg => rfl); (case hr => first | (go_simp; done) | (go_simp; rfl)); intro gb289 hg w21 hbox hb; have n0_ := Aside0.mk (blk_below (g := gb287) (o := .cells #[.int .i64 a0_0, .bool a0_1, .int .i64 a0_2, .int .u64 a0_3] 44 (0, 0)) (by (with_reducible repeat (first | refine blk_drewN ?_ _ | refine blk_drew ?_ | refine blk_alloc ?_ _)); exact BK287.out) hb); have n1_ := Aside0.mk (blk_below (g := gb288) (o := .cells #[.int .i64 0, .bool false, .int .i64 0, .int .u64 0, .int .u64 0, .bool false] 24 (0, 0)) (by (with_reducible repeat (first | refine blk_drewN ?_ _ | refine blk_drew ?_ | refine blk_alloc ?_ _)); exact BK288.out) hb); have n2_ := Aside0.mk (below_step (by repeat (first | (with_reducible first | exact HB.out | apply below_alloc | apply pw_below_drewN | apply below_drew1 | refine below_set ?_ GE287.out | refine below_set ?_ GE288.out) | exact HB.out)) hb); have n3_ := Aside0.mk (hbox); have n4_ := Aside0.mk ((by rw [hg]; exact (below_size (by repeat (first | (with_reducible first | exact HB.out | apply below_alloc | apply pw_below_drewN | apply below_drew1 | refine below_set ?_ GE287.out | refine below_set ?_ GE288.out) | exact HB.out))) : w.heap.size ≤ gb289)); have n5_ := Aside0.mk ((by rw [hg]; exact (below_size (by repeat (first | (with_reducible first | exact HB.out | apply below_alloc | apply pw_below_drewN | apply below_drew1 | refine below_set ?_ GE287.out | refine below_set ?_ GE288.out) | exact HB.out))) : w.heap.size ≤ gb289)); have n6_ := Aside0.mk ((by rw [hg]; exact Nat.ne_of_lt (blk_lt (g := gb287) (o := .cells #[.int .i64 a0_0, .bool a0_1, .int .i64 a0_2, .int .u64 a0_3] 44 (0, 0)) (by (with_reducible repeat (first | refine blk_drewN ?_ _ | refine blk_drew ?_ | refine blk_alloc ?_ _)); exact BK287.out)) : gb287 ≠ gb289)); have n7_ := Aside0.mk ((by rw [hg]; exact Nat.ne_of_gt (blk_lt (g := gb287) (o := .cells #[.int .i64 a0_0, .bool a0_1, .int .i64 a0_2, .int .u64 a0_3] 44 (0, 0)) (by (with_reducible repeat (first | refine blk_drewN ?_ _ | refine blk_drew ?_ | refine blk_alloc ?_ _)); exact BK287.out)) : gb289 ≠ gb287)); have n8_ := Aside0.mk ((by rw [hg]; exact Nat.ne_of_lt (blk_lt (g := gb288) (o := .cells #[.int .i64 0, .bool false, .int .i64 0, .int .u64 0, .int .u64 0, .bool false] 24 (0, 0)) (by (with_reducible repeat (first | refine blk_drewN ?_ _ | refine blk_drew ?_ | refine blk_alloc ?_ _)); exact BK288.out)) : gb288 ≠ gb289)); have n9_ := Aside0.mk ((by rw [hg]; exact Nat.ne_of_gt (blk_lt (g := gb288) (o := .cells #[.int .i64 0, .bool false, .int .i64 0, .int .u64 0, .int .u64 0, .bool false] 24 (0, 0)) (by (with_reducible repeat (first | refine blk_drewN ?_ _ | refine blk_drew ?_ | refine blk_alloc ?_ _)); exact BK288.out)) : gb289 ≠ gb288)); clear BK287; clear BK288; clear HB; have BK287 := n0_; have BK288 := n1_; have HB := n2_; have BK289 := n3_; have GW289 := n4_; have GE289 := n5_; have NB287_289 := n6_; have NB289_287 := n7_; have NB288_289 := n8_; have NB289_288 := n9_; clear n0_ n1_ n2_ n3_ n4_ n5_ n6_ n7_ n8_ n9_; clear hb hbox hg; have hnb22 := NB289_287.out; have hnc22 := NB287_289.out; have hnb23 := NB289_288.out; have hnc23 := NB288_289.out; have hcz24_0 : w21.cell? ⟨gb289, 0, none⟩ = some (.int .i64 0) := (blk_cell BK289.out 0).trans rfl; have hcz24_1 : w21.cell? ⟨gb289, 1, none⟩ = some (.bool false) := (blk_cell BK289.out 1).trans rfl; have hcz24_2 : w21.cell? ⟨gb289, 2, none⟩ = some (.int .i64 0) := (blk_cell BK289.out 2).trans rfl; have hcz24_3 : w21.cell? ⟨gb289, 3, none⟩ = some (.int .u64 0) := (blk_cell BK289.out 3).trans rfl; have hcz24_4 : w21.cell? ⟨gb289, 4, none⟩ = some (.int .u64 0) := (blk_cell BK289.out 4).trans rfl; have hcz24_5 : w21.cell? ⟨gb289, 5, none⟩ = some (.bool false) := (blk_cell BK289.out 5).trans rfl; have hfz24_0 := blk_frozen BK289.out 0; have hfz24_1 := blk_frozen BK289.out 1; have hfz24_2 := blk_frozen BK289.out 2; have hfz24_3 := blk_frozen BK289.out 3; have hfz24_4 := blk_frozen BK289.out 4; have hfz24_5 := blk_frozen BK289.out 5) | ((with_reducible refine gate_callee (f := 28) rfl ?_); refine goesL_ (some 15) rfl rfl Try.func28 (by kernel_rfl) rfl #[.agg #[.int .i64 a0_0, .bool a0_1, .int .i64 a0_2, .int .u64 a0_3, .int .u64 0, .bool false]] rfl (by (try simp only [List.map_toArray, List.map_cons, List.map_nil]); first | done | rfl | (simp only [List.length_drop, List.length_take]; rfl)) ?_; (with_reducible refine (round_sound.calls k a0_0 a0_1 a0_2 a0_3 0 false true _ A2.out).mono ?_); rintro e w25 ⟨rfl, hb⟩; refine ⟨_, rfl, ?_⟩; have n0_ := Aside0.mk (blk_below (g := gb287) (o := .cells #[.int .i64 a0_0, .bool a0_1, .int .i64 a0_2, .int .u64 a0_3] 44 (0, 0)) (by (with_reducible repeat (first | refine blk_drewN ?_ _ | refine blk_drew ?_ | refine blk_alloc ?_ _)); refine blk_far ?_ NB287_289.out _; (with_reducible repeat (first | refine blk_drewN ?_ _ | refine blk_drew ?_ | refine blk_alloc ?_ _)); refine blk_far ?_ NB287_289.out _; (with_reducible repeat (first | refine blk_drewN ?_ _ | refine blk_drew ?_ | refine blk_alloc ?_ _)); refine blk_far ?_ NB287_289.out _; (with_reducible repeat (first | refine blk_drewN ?_ _ | refine blk_drew ?_ | refine blk_alloc ?_ _)); refine blk_far ?_ NB287_289.out _; (with_reducible repeat (first | refine blk_drewN ?_ _ | refine blk_drew ?_ | refine blk_alloc ?_ _)); refine blk_far ?_ NB287_289.out _; (with_reducible repeat (first | refine blk_drewN ?_ _ | refine blk_drew ?_ | refine blk_alloc ?_ _)); refine blk_far ?_ NB287_289.out _; (with_reducible repeat (first | refine blk_drewN ?_ _ | refine blk_drew ?_ | refine blk_alloc ?_ _)); exact BK287.out) hb); have n1_ := Aside0.mk (blk_below (g := gb288) (o := .cells #[.int .i64 0, .bool false, .int .i64 0, .int .u64 0, .int .u64 0, .bool false] 24 (0, 0)) (by (with_reducible repeat (first | refine blk_drewN ?_ _ | refine blk_drew ?_ | refine blk_alloc ?_ _)); refine blk_far ?_ NB288_289.out _; (with_reducible repeat (first | refine blk_drewN ?_ _ | refine blk_drew ?_ | refine blk_alloc ?_ _)); refine blk_far ?_ NB288_289.out _; (with_reducible repeat (first | refine blk_drewN ?_ _ | refine blk_drew ?_ | refine blk_alloc ?_ _)); refine blk_far ?_ NB288_289.out _; (with_reducible repeat (first | refine blk_drewN ?_ _ | refine blk_drew ?_ | refine blk_alloc ?_ _)); refine blk_far ?_ NB288_289.out _; (with_reducible repeat (first | refine blk_drewN ?_ _ | refine blk_drew ?_ | refine blk_alloc ?_ _)); refine blk_far ?_ NB288_289.out _; (with_reducible repeat (first | refine blk_drewN ?_ _ | refine blk_drew ?_ | refine blk_alloc ?_ _)); refine blk_far ?_ NB288_289.out _; (with_reducible repeat (first | refine blk_drewN ?_ _ | refine blk_drew ?_ | refine blk_alloc ?_ _)); exact BK288.out) hb); have n2_ := Aside0.mk (blk_below (g := gb289) (o := .cells #[.int .i64 a0_0, .bool a0_1, .int .i64 a0_2, .int .u64 a0_3, .int .u64 0, .bool false] 24 (0, 0)) (by (with_reducible repeat (first | refine blk_drewN ?_ _ | refine blk_drew ?_ | refine blk_alloc ?_ _)); refine blk_put (cs := #[.int .i64 a0_0, .bool a0_1, .int .i64 a0_2, .int .u64 a0_3, .int .u64 0, .bool false]) ?_ 5 _ rfl; (with_reducible repeat (first | refine blk_drewN ?_ _ | refine blk_drew ?_ | refine blk_alloc ?_ _)); refine blk_put (cs := #[.int .i64 a0_0, .bool a0_1, .int .i64 a0_2, .int .u64 a0_3, .int .u64 0, .bool false]) ?_ 4 _ rfl; (with_reducible repeat (first | refine blk_drewN ?_ _ | refine blk_drew ?_ | refine blk_alloc ?_ _)); refine blk_put (cs := #[.int .i64 a0_0, .bool a0_1, .int .i64 a0_2, .int .u64 0, .int .u64 0, .bool false]) ?_ 3 _ rfl; (with_reducible repeat (first | refine blk_drewN ?_ _ | refine blk_drew ?_ | refine blk_alloc ?_ _)); refine blk_put (cs := #[.int .i64 a0_0, .bool a0_1, .int .i64 0, .int .u64 0, .int .u64 0, .bool false]) ?_ 2 _ rfl; (with_reducible repeat (first | refine blk_drewN ?_ _ | refine blk_drew ?_ | refine blk_alloc ?_ _)); refine blk_put (cs := #[.int .i64 a0_0, .bool false, .int .i64 0, .int .u64 0, .int .u64 0, .bool false]) ?_ 1 _ rfl; (with_reducible repeat (first | refine blk_drewN ?_ _ | refine blk_drew ?_ | refine blk_alloc ?_ _)); refine blk_put (cs := #[.int .i64 0, .bool false, .int .i64 0, .int .u64 0, .int .u64 0, .bool false]) ?_ 0 _ rfl; (with_reducible repeat (first | refine blk_drewN ?_ _ | refine blk_drew ?_ | refine blk_alloc ?_ _)); exact BK289.out) hb); have n3_ := Aside0.mk (below_step (by repeat (first | (with_reducible first | exact HB.out | apply below_alloc | apply pw_below_drewN | apply below_drew1 | refine below_set ?_ GE287.out | refine below_set ?_ GE288.out | refine below_set ?_ GE289.out) | exact HB.out)) hb); clear BK287; clear BK288; clear BK289; clear HB; have BK287 := n0_; have BK288 := n1_; have BK289 := n2_; have HB := n3_; clear n0_ n1_ n2_ n3_; (try clear hb); (try clear hb2); (try clear hk); (try clear hi); have hcz26_0 : w25.cell? ⟨gb287, 0, none⟩ = some (.int .i64 a0_0) := (blk_cell BK287.out 0).trans rfl; have hcz26_1 : w25.cell? ⟨gb287, 1, none⟩ = some (.bool a0_1) := (blk_cell BK287.out 1).trans rfl; have hcz26_2 : w25.cell? ⟨gb287, 2, none⟩ = some (.int .i64 a0_2) := (blk_cell BK287.out 2).trans rfl; have hcz26_3 : w25.cell? ⟨gb287, 3, none⟩ = some (.int .u64 a0_3) := (blk_cell BK287.out 3).trans rfl; have hfz26_0 := blk_frozen BK287.out 0; have hfz26_1 := blk_frozen BK287.out 1; have hfz26_2 := blk_frozen BK287.out 2; have hfz26_3 := blk_frozen BK287.out 3; have hcz27_0 : w25.cell? ⟨gb288, 0, none⟩ = some (.int .i64 0) := (blk_cell BK288.out 0).trans rfl; have hcz27_1 : w25.cell? ⟨gb288, 1, none⟩ = some (.bool false) := (blk_cell BK288.out 1).trans rfl; have hcz27_2 : w25.cell? ⟨gb288, 2, none⟩ = some (.int .i64 0) := (blk_cell BK288.out 2).trans rfl; have hcz27_3 : w25.cell? ⟨gb288, 3, none⟩ = some (.int .u64 0) := (blk_cell BK288.out 3).trans rfl; have hcz27_4 : w25.cell? ⟨gb288, 4, none⟩ = some (.int .u64 0) := (blk_cell BK288.out 4).trans rfl; have hcz27_5 : w25.cell? ⟨gb288, 5, none⟩ = some (.bool false) := (blk_cell BK288.out 5).trans rfl; have hfz27_0 := blk_frozen BK288.out 0; have hfz27_1 := blk_frozen BK288.out 1; have hfz27_2 := blk_frozen BK288.out 2; have hfz27_3 := blk_frozen BK288.out 3; have hfz27_4 := blk_frozen BK288.out 4; have hfz27_5 := blk_frozen BK288.out 5))
        refine bodyPost_ret (results_ct rfl _ _ gb288 24 #[.int .i64 0, .bool false, .int .i64 0, .int .u64 0, .int .u64 0, .bool false] (0, 0) _ rfl (by (with_reducible repeat (first | refine blk_drewN ?_ _ | refine blk_drew ?_ | refine blk_alloc ?_ _)); refine blk_put (cs := #[.int .i64 0, .bool false, .int .i64 0, .int .u64 0, .int .u64 0, .bool false]) ?_ 5 _ rfl; (with_reducible repeat (first | refine blk_drewN ?_ _ | refine blk_drew ?_ | refine blk_alloc ?_ _)); refine blk_put (cs := #[.int .i64 0, .bool false, .int .i64 0, .int .u64 0, .int .u64 0, .bool false]) ?_ 4 _ rfl; (with_reducible repeat (first | refine blk_drewN ?_ _ | refine blk_drew ?_ | refine blk_alloc ?_ _)); refine blk_put (cs := #[.int .i64 0, .bool false, .int .i64 0, .int .u64 0, .int .u64 0, .bool false]) ?_ 3 _ rfl; (with_reducible repeat (first | refine blk_drewN ?_ _ | refine blk_drew ?_ | refine blk_alloc ?_ _)); refine blk_put (cs := #[.int .i64 0, .bool false, .int .i64 0, .int .u64 0, .int .u64 0, .bool false]) ?_ 2 _ rfl; (with_reducible repeat (first | refine blk_drewN ?_ _ | refine blk_drew ?_ | refine blk_alloc ?_ _)); refine blk_put (cs := #[.int .i64 0, .bool false, .int .i64 0, .int .u64 0, .int .u64 0, .bool false]) ?_ 1 _ rfl; (with_reducible repeat (first | refine blk_drewN ?_ _ | refine blk_drew ?_ | refine blk_alloc ?_ _)); refine blk_put (cs := #[.int .i64 0, .bool false, .int .i64 0, .int .u64 0, .int .u64 0, .bool false]) ?_ 0 _ rfl; (with_reducible repeat (first | refine blk_drewN ?_ _ | refine blk_drew ?_ | refine blk_alloc ?_ _)); exact BK288.out) Try.underlying24 rfl (by kernel_rfl)) rfl ?_
        exact ⟨by first | rfl | (simp [errW_none, errW_some] <;> rfl) | (simp [*, errW_none, errW_some] <;> rfl), by repeat (first | (with_reducible first | exact HB.out | apply below_alloc | apply pw_below_drewN | apply below_drew1 | refine below_set ?_ GE287.out | refine below_set ?_ GE288.out | refine below_set ?_ GE289.out) | exact HB.out)⟩
      · rw [if_neg c16] at H
        have c16b0 : decide (1073741824 < a0_2) = false := decide_eq_false c16
        clear c16
        simp only [Option.some.injEq, Prod.mk.injEq] at H
        obtain ⟨rfl, rfl, rfl, rfl, rfl, rfl, rfl⟩ := H
        go_enter Try.func20, Try.ntmps20
        go_wp2_with (first | ((with_reducible refine gate_dst (N := 1) rfl ?_); refine box_event ?hg (N := 1) ?hd (cs := #[.int .i64 a0_0, .bool a0_1, .int .i64 a0_2, .int .u64 a0_3]) (t := 44) ?hr ?_; (case hd => rfl); (case hg => rfl); (case hr => first | (go_simp; done) | (go_simp; rfl)); intro gb287 hg w28 hbox hb; have n0_ := Aside0.mk (below_step (by repeat (first | (with_reducible first | exact HB.out | apply below_alloc | apply pw_below_drewN | apply below_drew1) | exact HB.out)) hb); have n1_ := Aside0.mk (hbox); have n2_ := Aside0.mk ((by rw [hg]; exact (below_size (by repeat (first | (with_reducible first | exact HB.out | apply below_alloc | apply pw_below_drewN | apply below_drew1) | exact HB.out))) : w.heap.size ≤ gb287)); have n3_ := Aside0.mk ((by rw [hg]; exact (below_size (by repeat (first | (with_reducible first | exact HB.out | apply below_alloc | apply pw_below_drewN | apply below_drew1) | exact HB.out))) : w.heap.size ≤ gb287)); clear HB; have HB := n0_; have BK287 := n1_; have GW287 := n2_; have GE287 := n3_; clear n0_ n1_ n2_ n3_; clear hb hbox hg) | ((with_reducible refine gate_dst (N := 2) rfl ?_); refine box_event ?hg (N := 2) ?hd (cs := #[.int .i64 0, .bool false, .int .i64 0, .int .u64 0, .int .u64 0, .bool false]) (t := 24) ?hr ?_; (case hd => rfl); (case hg => rfl); (case hr => first | (go_simp; done) | (go_simp; rfl)); intro gb288 hg w29 hbox hb; have n0_ := Aside0.mk (blk_below (g := gb287) (o := .cells #[.int .i64 a0_0, .bool a0_1, .int .i64 a0_2, .int .u64 a0_3] 44 (0, 0)) (by (with_reducible repeat (first | refine blk_drewN ?_ _ | refine blk_drew ?_ | refine blk_alloc ?_ _)); exact BK287.out) hb); have n1_ := Aside0.mk (below_step (by repeat (first | (with_reducible first | exact HB.out | apply below_alloc | apply pw_below_drewN | apply below_drew1 | refine below_set ?_ GE287.out) | exact HB.out)) hb); have n2_ := Aside0.mk (hbox); have n3_ := Aside0.mk ((by rw [hg]; exact (below_size (by repeat (first | (with_reducible first | exact HB.out | apply below_alloc | apply pw_below_drewN | apply below_drew1 | refine below_set ?_ GE287.out) | exact HB.out))) : w.heap.size ≤ gb288)); have n4_ := Aside0.mk ((by rw [hg]; exact (below_size (by repeat (first | (with_reducible first | exact HB.out | apply below_alloc | apply pw_below_drewN | apply below_drew1 | refine below_set ?_ GE287.out) | exact HB.out))) : w.heap.size ≤ gb288)); have n5_ := Aside0.mk ((by rw [hg]; exact Nat.ne_of_lt (blk_lt (g := gb287) (o := .cells #[.int .i64 a0_0, .bool a0_1, .int .i64 a0_2, .int .u64 a0_3] 44 (0, 0)) (by (with_reducible repeat (first | refine blk_drewN ?_ _ | refine blk_drew ?_ | refine blk_alloc ?_ _)); exact BK287.out)) : gb287 ≠ gb288)); have n6_ := Aside0.mk ((by rw [hg]; exact Nat.ne_of_gt (blk_lt (g := gb287) (o := .cells #[.int .i64 a0_0, .bool a0_1, .int .i64 a0_2, .int .u64 a0_3] 44 (0, 0)) (by (with_reducible repeat (first | refine blk_drewN ?_ _ | refine blk_drew ?_ | refine blk_alloc ?_ _)); exact BK287.out)) : gb288 ≠ gb287)); clear BK287; clear HB; have BK287 := n0_; have HB := n1_; have BK288 := n2_; have GW288 := n3_; have GE288 := n4_; have NB287_288 := n5_; have NB288_287 := n6_; clear n0_ n1_ n2_ n3_ n4_ n5_ n6_; clear hb hbox hg; have hnb30 := NB287_288.out; have hnc30 := NB288_287.out; have hcz31_0 : w29.cell? ⟨gb287, 0, none⟩ = some (.int .i64 a0_0) := (blk_cell BK287.out 0).trans rfl; have hcz31_1 : w29.cell? ⟨gb287, 1, none⟩ = some (.bool a0_1) := (blk_cell BK287.out 1).trans rfl; have hcz31_2 : w29.cell? ⟨gb287, 2, none⟩ = some (.int .i64 a0_2) := (blk_cell BK287.out 2).trans rfl; have hcz31_3 : w29.cell? ⟨gb287, 3, none⟩ = some (.int .u64 a0_3) := (blk_cell BK287.out 3).trans rfl; have hfz31_0 := blk_frozen BK287.out 0; have hfz31_1 := blk_frozen BK287.out 1; have hfz31_2 := blk_frozen BK287.out 2; have hfz31_3 := blk_frozen BK287.out 3) | ((with_reducible refine gate_dst (N := 4) rfl ?_); refine box_event ?hg (N := 4) ?hd (cs := #[.int .i64 0, .bool false, .int .i64 0, .int .u64 0, .int .u64 0, .bool false]) (t := 24) ?hr ?_; (case hd => rfl); (case hg => rfl); (case hr => first | (go_simp; done) | (go_simp; rfl)); intro gb289 hg w32 hbox hb; have n0_ := Aside0.mk (blk_below (g := gb287) (o := .cells #[.int .i64 a0_0, .bool a0_1, .int .i64 a0_2, .int .u64 a0_3] 44 (0, 0)) (by (with_reducible repeat (first | refine blk_drewN ?_ _ | refine blk_drew ?_ | refine blk_alloc ?_ _)); exact BK287.out) hb); have n1_ := Aside0.mk (blk_below (g := gb288) (o := .cells #[.int .i64 0, .bool false, .int .i64 0, .int .u64 0, .int .u64 0, .bool false] 24 (0, 0)) (by (with_reducible repeat (first | refine blk_drewN ?_ _ | refine blk_drew ?_ | refine blk_alloc ?_ _)); exact BK288.out) hb); have n2_ := Aside0.mk (below_step (by repeat (first | (with_reducible first | exact HB.out | apply below_alloc | apply pw_below_drewN | apply below_drew1 | refine below_set ?_ GE287.out | refine below_set ?_ GE288.out) | exact HB.out)) hb); have n3_ := Aside0.mk (hbox); have n4_ := Aside0.mk ((by rw [hg]; exact (below_size (by repeat (first | (with_reducible first | exact HB.out | apply below_alloc | apply pw_below_drewN | apply below_drew1 | refine below_set ?_ GE287.out | refine below_set ?_ GE288.out) | exact HB.out))) : w.heap.size ≤ gb289)); have n5_ := Aside0.mk ((by rw [hg]; exact (below_size (by repeat (first | (with_reducible first | exact HB.out | apply below_alloc | apply pw_below_drewN | apply below_drew1 | refine below_set ?_ GE287.out | refine below_set ?_ GE288.out) | exact HB.out))) : w.heap.size ≤ gb289)); have n6_ := Aside0.mk ((by rw [hg]; exact Nat.ne_of_lt (blk_lt (g := gb287) (o := .cells #[.int .i64 a0_0, .bool a0_1, .int .i64 a0_2, .int .u64 a0_3] 44 (0, 0)) (by (with_reducible repeat (first | refine blk_drewN ?_ _ | refine blk_drew ?_ | refine blk_alloc ?_ _)); exact BK287.out)) : gb287 ≠ gb289)); have n7_ := Aside0.mk ((by rw [hg]; exact Nat.ne_of_gt (blk_lt (g := gb287) (o := .cells #[.int .i64 a0_0, .bool a0_1, .int .i64 a0_2, .int .u64 a0_3] 44 (0, 0)) (by (with_reducible repeat (first | refine blk_drewN ?_ _ | refine blk_drew ?_ | refine blk_alloc ?_ _)); exact BK287.out)) : gb289 ≠ gb287)); have n8_ := Aside0.mk ((by rw [hg]; exact Nat.ne_of_lt (blk_lt (g := gb288) (o := .cells #[.int .i64 0, .bool false, .int .i64 0, .int .u64 0, .int .u64 0, .bool false] 24 (0, 0)) (by (with_reducible repeat (first | refine blk_drewN ?_ _ | refine blk_drew ?_ | refine blk_alloc ?_ _)); exact BK288.out)) : gb288 ≠ gb289)); have n9_ := Aside0.mk ((by rw [hg]; exact Nat.ne_of_gt (blk_lt (g := gb288) (o := .cells #[.int .i64 0, .bool false, .int .i64 0, .int .u64 0, .int .u64 0, .bool false] 24 (0, 0)) (by (with_reducible repeat (first | refine blk_drewN ?_ _ | refine blk_drew ?_ | refine blk_alloc ?_ _)); exact BK288.out)) : gb289 ≠ gb288)); clear BK287; clear BK288; clear HB; have BK287 := n0_; have BK288 := n1_; have HB := n2_; have BK289 := n3_; have GW289 := n4_; have GE289 := n5_; have NB287_289 := n6_; have NB289_287 := n7_; have NB288_289 := n8_; have NB289_288 := n9_; clear n0_ n1_ n2_ n3_ n4_ n5_ n6_ n7_ n8_ n9_; clear hb hbox hg; have hnb33 := NB289_287.out; have hnc33 := NB287_289.out; have hnb34 := NB289_288.out; have hnc34 := NB288_289.out; have hcz35_0 : w32.cell? ⟨gb289, 0, none⟩ = some (.int .i64 0) := (blk_cell BK289.out 0).trans rfl; have hcz35_1 : w32.cell? ⟨gb289, 1, none⟩ = some (.bool false) := (blk_cell BK289.out 1).trans rfl; have hcz35_2 : w32.cell? ⟨gb289, 2, none⟩ = some (.int .i64 0) := (blk_cell BK289.out 2).trans rfl; have hcz35_3 : w32.cell? ⟨gb289, 3, none⟩ = some (.int .u64 0) := (blk_cell BK289.out 3).trans rfl; have hcz35_4 : w32.cell? ⟨gb289, 4, none⟩ = some (.int .u64 0) := (blk_cell BK289.out 4).trans rfl; have hcz35_5 : w32.cell? ⟨gb289, 5, none⟩ = some (.bool false) := (blk_cell BK289.out 5).trans rfl; have hfz35_0 := blk_frozen BK289.out 0; have hfz35_1 := blk_frozen BK289.out 1; have hfz35_2 := blk_frozen BK289.out 2; have hfz35_3 := blk_frozen BK289.out 3; have hfz35_4 := blk_frozen BK289.out 4; have hfz35_5 := blk_frozen BK289.out 5) | ((with_reducible refine gate_callee (f := 28) rfl ?_); refine goesL_ (some 15) rfl rfl Try.func28 (by kernel_rfl) rfl #[.agg #[.int .i64 a0_0, .bool a0_1, .int .i64 a0_2, .int .u64 a0_3, .int .u64 0, .bool false]] rfl (by (try simp only [List.map_toArray, List.map_cons, List.map_nil]); first | done | rfl | (simp only [List.length_drop, List.length_take]; rfl)) ?_; (with_reducible refine (round_sound.calls k a0_0 a0_1 a0_2 a0_3 0 false true _ A2.out).mono ?_); rintro e w36 ⟨rfl, hb⟩; refine ⟨_, rfl, ?_⟩; have n0_ := Aside0.mk (blk_below (g := gb287) (o := .cells #[.int .i64 a0_0, .bool a0_1, .int .i64 a0_2, .int .u64 a0_3] 44 (0, 0)) (by (with_reducible repeat (first | refine blk_drewN ?_ _ | refine blk_drew ?_ | refine blk_alloc ?_ _)); refine blk_far ?_ NB287_289.out _; (with_reducible repeat (first | refine blk_drewN ?_ _ | refine blk_drew ?_ | refine blk_alloc ?_ _)); refine blk_far ?_ NB287_289.out _; (with_reducible repeat (first | refine blk_drewN ?_ _ | refine blk_drew ?_ | refine blk_alloc ?_ _)); refine blk_far ?_ NB287_289.out _; (with_reducible repeat (first | refine blk_drewN ?_ _ | refine blk_drew ?_ | refine blk_alloc ?_ _)); refine blk_far ?_ NB287_289.out _; (with_reducible repeat (first | refine blk_drewN ?_ _ | refine blk_drew ?_ | refine blk_alloc ?_ _)); refine blk_far ?_ NB287_289.out _; (with_reducible repeat (first | refine blk_drewN ?_ _ | refine blk_drew ?_ | refine blk_alloc ?_ _)); refine blk_far ?_ NB287_289.out _; (with_reducible repeat (first | refine blk_drewN ?_ _ | refine blk_drew ?_ | refine blk_alloc ?_ _)); exact BK287.out) hb); have n1_ := Aside0.mk (blk_below (g := gb288) (o := .cells #[.int .i64 0, .bool false, .int .i64 0, .int .u64 0, .int .u64 0, .bool false] 24 (0, 0)) (by (with_reducible repeat (first | refine blk_drewN ?_ _ | refine blk_drew ?_ | refine blk_alloc ?_ _)); refine blk_far ?_ NB288_289.out _; (with_reducible repeat (first | refine blk_drewN ?_ _ | refine blk_drew ?_ | refine blk_alloc ?_ _)); refine blk_far ?_ NB288_289.out _; (with_reducible repeat (first | refine blk_drewN ?_ _ | refine blk_drew ?_ | refine blk_alloc ?_ _)); refine blk_far ?_ NB288_289.out _; (with_reducible repeat (first | refine blk_drewN ?_ _ | refine blk_drew ?_ | refine blk_alloc ?_ _)); refine blk_far ?_ NB288_289.out _; (with_reducible repeat (first | refine blk_drewN ?_ _ | refine blk_drew ?_ | refine blk_alloc ?_ _)); refine blk_far ?_ NB288_289.out _; (with_reducible repeat (first | refine blk_drewN ?_ _ | refine blk_drew ?_ | refine blk_alloc ?_ _)); refine blk_far ?_ NB288_289.out _; (with_reducible repeat (first | refine blk_drewN ?_ _ | refine blk_drew ?_ | refine blk_alloc ?_ _)); exact BK288.out) hb); have n2_ := Aside0.mk (blk_below (g := gb289) (o := .cells #[.int .i64 a0_0, .bool a0_1, .int .i64 a0_2, .int .u64 a0_3, .int .u64 0, .bool false] 24 (0, 0)) (by (with_reducible repeat (first | refine blk_drewN ?_ _ | refine blk_drew ?_ | refine blk_alloc ?_ _)); refine blk_put (cs := #[.int .i64 a0_0, .bool a0_1, .int .i64 a0_2, .int .u64 a0_3, .int .u64 0, .bool false]) ?_ 5 _ rfl; (with_reducible repeat (first | refine blk_drewN ?_ _ | refine blk_drew ?_ | refine blk_alloc ?_ _)); refine blk_put (cs := #[.int .i64 a0_0, .bool a0_1, .int .i64 a0_2, .int .u64 a0_3, .int .u64 0, .bool false]) ?_ 4 _ rfl; (with_reducible repeat (first | refine blk_drewN ?_ _ | refine blk_drew ?_ | refine blk_alloc ?_ _)); refine blk_put (cs := #[.int .i64 a0_0, .bool a0_1, .int .i64 a0_2, .int .u64 0, .int .u64 0, .bool false]) ?_ 3 _ rfl; (with_reducible repeat (first | refine blk_drewN ?_ _ | refine blk_drew ?_ | refine blk_alloc ?_ _)); refine blk_put (cs := #[.int .i64 a0_0, .bool a0_1, .int .i64 0, .int .u64 0, .int .u64 0, .bool false]) ?_ 2 _ rfl; (with_reducible repeat (first | refine blk_drewN ?_ _ | refine blk_drew ?_ | refine blk_alloc ?_ _)); refine blk_put (cs := #[.int .i64 a0_0, .bool false, .int .i64 0, .int .u64 0, .int .u64 0, .bool false]) ?_ 1 _ rfl; (with_reducible repeat (first | refine blk_drewN ?_ _ | refine blk_drew ?_ | refine blk_alloc ?_ _)); refine blk_put (cs := #[.int .i64 0, .bool false, .int .i64 0, .int .u64 0, .int .u64 0, .bool false]) ?_ 0 _ rfl; (with_reducible repeat (first | refine blk_drewN ?_ _ | refine blk_drew ?_ | refine blk_alloc ?_ _)); exact BK289.out) hb); have n3_ := Aside0.mk (below_step (by repeat (first | (with_reducible first | exact HB.out | apply below_alloc | apply pw_below_drewN | apply below_drew1 | refine below_set ?_ GE287.out | refine below_set ?_ GE288.out | refine below_set ?_ GE289.out) | exact HB.out)) hb); clear BK287; clear BK288; clear BK289; clear HB; have BK287 := n0_; have BK288 := n1_; have BK289 := n2_; have HB := n3_; clear n0_ n1_ n2_ n3_; (try clear hb); (try clear hb2); (try clear hk); (try clear hi); have hcz37_0 : w36.cell? ⟨gb287, 0, none⟩ = some (.int .i64 a0_0) := (blk_cell BK287.out 0).trans rfl; have hcz37_1 : w36.cell? ⟨gb287, 1, none⟩ = some (.bool a0_1) := (blk_cell BK287.out 1).trans rfl; have hcz37_2 : w36.cell? ⟨gb287, 2, none⟩ = some (.int .i64 a0_2) := (blk_cell BK287.out 2).trans rfl; have hcz37_3 : w36.cell? ⟨gb287, 3, none⟩ = some (.int .u64 a0_3) := (blk_cell BK287.out 3).trans rfl; have hfz37_0 := blk_frozen BK287.out 0; have hfz37_1 := blk_frozen BK287.out 1; have hfz37_2 := blk_frozen BK287.out 2; have hfz37_3 := blk_frozen BK287.out 3; have hcz38_0 : w36.cell? ⟨gb289, 0, none⟩ = some (.int .i64 a0_0) := (blk_cell BK289.out 0).trans rfl; have hcz38_1 : w36.cell? ⟨gb289, 1, none⟩ = some (.bool a0_1) := (blk_cell BK289.out 1).trans rfl; have hcz38_2 : w36.cell? ⟨gb289, 2, none⟩ = some (.int .i64 a0_2) := (blk_cell BK289.out 2).trans rfl; have hcz38_3 : w36.cell? ⟨gb289, 3, none⟩ = some (.int .u64 a0_3) := (blk_cell BK289.out 3).trans rfl; have hcz38_4 : w36.cell? ⟨gb289, 4, none⟩ = some (.int .u64 0) := (blk_cell BK289.out 4).trans rfl; have hcz38_5 : w36.cell? ⟨gb289, 5, none⟩ = some (.bool false) := (blk_cell BK289.out 5).trans rfl; have hfz38_0 := blk_frozen BK289.out 0; have hfz38_1 := blk_frozen BK289.out 1; have hfz38_2 := blk_frozen BK289.out 2; have hfz38_3 := blk_frozen BK289.out 3; have hfz38_4 := blk_frozen BK289.out 4; have hfz38_5 := blk_frozen BK289.out 5; have hcz39_0 : w36.cell? ⟨gb288, 0, none⟩ = some (.int .i64 0) := (blk_cell BK288.out 0).trans rfl; have hcz39_1 : w36.cell? ⟨gb288, 1, none⟩ = some (.bool false) := (blk_cell BK288.out 1).trans rfl; have hcz39_2 : w36.cell? ⟨gb288, 2, none⟩ = some (.int .i64 0) := (blk_cell BK288.out 2).trans rfl; have hcz39_3 : w36.cell? ⟨gb288, 3, none⟩ = some (.int .u64 0) := (blk_cell BK288.out 3).trans rfl; have hcz39_4 : w36.cell? ⟨gb288, 4, none⟩ = some (.int .u64 0) := (blk_cell BK288.out 4).trans rfl; have hcz39_5 : w36.cell? ⟨gb288, 5, none⟩ = some (.bool false) := (blk_cell BK288.out 5).trans rfl; have hfz39_0 := blk_frozen BK288.out 0; have hfz39_1 := blk_frozen BK288.out 1; have hfz39_2 := blk_frozen BK288.out 2; have hfz39_3 := blk_frozen BK288.out 3; have hfz39_4 := blk_frozen BK288.out 4; have hfz39_5 := blk_frozen BK288.out 5))
        refine bodyPost_ret (results_ct rfl _ _ gb288 24 #[.int .i64 a0_0, .bool a0_1, .int .i64 a0_2, .int .u64 a0_3, .int .u64 0, .bool false] (0, 0) _ rfl (by (with_reducible repeat (first | refine blk_drewN ?_ _ | refine blk_drew ?_ | refine blk_alloc ?_ _)); refine blk_put (cs := #[.int .i64 a0_0, .bool a0_1, .int .i64 a0_2, .int .u64 a0_3, .int .u64 0, .bool false]) ?_ 5 _ rfl; (with_reducible repeat (first | refine blk_drewN ?_ _ | refine blk_drew ?_ | refine blk_alloc ?_ _)); refine blk_put (cs := #[.int .i64 a0_0, .bool a0_1, .int .i64 a0_2, .int .u64 a0_3, .int .u64 0, .bool false]) ?_ 4 _ rfl; (with_reducible repeat (first | refine blk_drewN ?_ _ | refine blk_drew ?_ | refine blk_alloc ?_ _)); refine blk_put (cs := #[.int .i64 a0_0, .bool a0_1, .int .i64 a0_2, .int .u64 0, .int .u64 0, .bool false]) ?_ 3 _ rfl; (with_reducible repeat (first | refine blk_drewN ?_ _ | refine blk_drew ?_ | refine blk_alloc ?_ _)); refine blk_put (cs := #[.int .i64 a0_0, .bool a0_1, .int .i64 0, .int .u64 0, .int .u64 0, .bool false]) ?_ 2 _ rfl; (with_reducible repeat (first | refine blk_drewN ?_ _ | refine blk_drew ?_ | refine blk_alloc ?_ _)); refine blk_put (cs := #[.int .i64 a0_0, .bool false, .int .i64 0, .int .u64 0, .int .u64 0, .bool false]) ?_ 1 _ rfl; (with_reducible repeat (first | refine blk_drewN ?_ _ | refine blk_drew ?_ | refine blk_alloc ?_ _)); refine blk_put (cs := #[.int .i64 0, .bool false, .int .i64 0, .int .u64 0, .int .u64 0, .bool false]) ?_ 0 _ rfl; (with_reducible repeat (first | refine blk_drewN ?_ _ | refine blk_drew ?_ | refine blk_alloc ?_ _)); exact BK288.out) Try.underlying24 rfl (by kernel_rfl)) rfl ?_
        exact ⟨by first | rfl | (simp [errW_none, errW_some] <;> rfl) | (simp [*, errW_none, errW_some] <;> rfl), by repeat (first | (with_reducible first | exact HB.out | apply below_alloc | apply pw_below_drewN | apply below_drew1 | refine below_set ?_ GE287.out | refine below_set ?_ GE288.out | refine below_set ?_ GE289.out) | exact HB.out)⟩
  · replace c3 := Bool.eq_false_iff.mpr c3
    subst c3
    have H1 : (some (0, false, 0, 0, 0, false, some 1)) = some (r1, r2, r3, r4, r5, r6, r7) := by rw [if_neg (show ¬ (false = true) by decide)] at H; exact H
    clear H
    have H := H1
    clear H1
    simp only [Option.some.injEq, Prod.mk.injEq] at H
    obtain ⟨rfl, rfl, rfl, rfl, rfl, rfl, rfl⟩ := H
    go_enter Try.func20, Try.ntmps20
    go_wp2_with (first | ((with_reducible refine gate_dst (N := 1) rfl ?_); refine box_event ?hg (N := 1) ?hd (cs := #[.int .i64 a0_0, .bool a0_1, .int .i64 a0_2, .int .u64 a0_3]) (t := 44) ?hr ?_; (case hd => rfl); (case hg => rfl); (case hr => first | (go_simp; done) | (go_simp; rfl)); intro gb287 hg w40 hbox hb; have n0_ := Aside0.mk (below_step (by repeat (first | (with_reducible first | exact HB.out | apply below_alloc | apply pw_below_drewN | apply below_drew1) | exact HB.out)) hb); have n1_ := Aside0.mk (hbox); have n2_ := Aside0.mk ((by rw [hg]; exact (below_size (by repeat (first | (with_reducible first | exact HB.out | apply below_alloc | apply pw_below_drewN | apply below_drew1) | exact HB.out))) : w.heap.size ≤ gb287)); have n3_ := Aside0.mk ((by rw [hg]; exact (below_size (by repeat (first | (with_reducible first | exact HB.out | apply below_alloc | apply pw_below_drewN | apply below_drew1) | exact HB.out))) : w.heap.size ≤ gb287)); clear HB; have HB := n0_; have BK287 := n1_; have GW287 := n2_; have GE287 := n3_; clear n0_ n1_ n2_ n3_; clear hb hbox hg) | ((with_reducible refine gate_dst (N := 2) rfl ?_); refine box_event ?hg (N := 2) ?hd (cs := #[.int .i64 0, .bool false, .int .i64 0, .int .u64 0, .int .u64 0, .bool false]) (t := 24) ?hr ?_; (case hd => rfl); (case hg => rfl); (case hr => first | (go_simp; done) | (go_simp; rfl)); intro gb288 hg w41 hbox hb; have n0_ := Aside0.mk (blk_below (g := gb287) (o := .cells #[.int .i64 a0_0, .bool a0_1, .int .i64 a0_2, .int .u64 a0_3] 44 (0, 0)) (by (with_reducible repeat (first | refine blk_drewN ?_ _ | refine blk_drew ?_ | refine blk_alloc ?_ _)); exact BK287.out) hb); have n1_ := Aside0.mk (below_step (by repeat (first | (with_reducible first | exact HB.out | apply below_alloc | apply pw_below_drewN | apply below_drew1 | refine below_set ?_ GE287.out) | exact HB.out)) hb); have n2_ := Aside0.mk (hbox); have n3_ := Aside0.mk ((by rw [hg]; exact (below_size (by repeat (first | (with_reducible first | exact HB.out | apply below_alloc | apply pw_below_drewN | apply below_drew1 | refine below_set ?_ GE287.out) | exact HB.out))) : w.heap.size ≤ gb288)); have n4_ := Aside0.mk ((by rw [hg]; exact (below_size (by repeat (first | (with_reducible first | exact HB.out | apply below_alloc | apply pw_below_drewN | apply below_drew1 | refine below_set ?_ GE287.out) | exact HB.out))) : w.heap.size ≤ gb288)); have n5_ := Aside0.mk ((by rw [hg]; exact Nat.ne_of_lt (blk_lt (g := gb287) (o := .cells #[.int .i64 a0_0, .bool a0_1, .int .i64 a0_2, .int .u64 a0_3] 44 (0, 0)) (by (with_reducible repeat (first | refine blk_drewN ?_ _ | refine blk_drew ?_ | refine blk_alloc ?_ _)); exact BK287.out)) : gb287 ≠ gb288)); have n6_ := Aside0.mk ((by rw [hg]; exact Nat.ne_of_gt (blk_lt (g := gb287) (o := .cells #[.int .i64 a0_0, .bool a0_1, .int .i64 a0_2, .int .u64 a0_3] 44 (0, 0)) (by (with_reducible repeat (first | refine blk_drewN ?_ _ | refine blk_drew ?_ | refine blk_alloc ?_ _)); exact BK287.out)) : gb288 ≠ gb287)); clear BK287; clear HB; have BK287 := n0_; have HB := n1_; have BK288 := n2_; have GW288 := n3_; have GE288 := n4_; have NB287_288 := n5_; have NB288_287 := n6_; clear n0_ n1_ n2_ n3_ n4_ n5_ n6_; clear hb hbox hg; have hnb42 := NB287_288.out; have hnc42 := NB288_287.out; have hcz43_0 : w41.cell? ⟨gb287, 0, none⟩ = some (.int .i64 a0_0) := (blk_cell BK287.out 0).trans rfl; have hcz43_1 : w41.cell? ⟨gb287, 1, none⟩ = some (.bool a0_1) := (blk_cell BK287.out 1).trans rfl; have hcz43_2 : w41.cell? ⟨gb287, 2, none⟩ = some (.int .i64 a0_2) := (blk_cell BK287.out 2).trans rfl; have hcz43_3 : w41.cell? ⟨gb287, 3, none⟩ = some (.int .u64 a0_3) := (blk_cell BK287.out 3).trans rfl; have hfz43_0 := blk_frozen BK287.out 0; have hfz43_1 := blk_frozen BK287.out 1; have hfz43_2 := blk_frozen BK287.out 2; have hfz43_3 := blk_frozen BK287.out 3) | ((with_reducible refine gate_dst (N := 4) rfl ?_); refine box_event ?hg (N := 4) ?hd (cs := #[.int .i64 0, .bool false, .int .i64 0, .int .u64 0, .int .u64 0, .bool false]) (t := 24) ?hr ?_; (case hd => rfl); (case hg => rfl); (case hr => first | (go_simp; done) | (go_simp; rfl)); intro gb289 hg w44 hbox hb; have n0_ := Aside0.mk (blk_below (g := gb287) (o := .cells #[.int .i64 a0_0, .bool a0_1, .int .i64 a0_2, .int .u64 a0_3] 44 (0, 0)) (by (with_reducible repeat (first | refine blk_drewN ?_ _ | refine blk_drew ?_ | refine blk_alloc ?_ _)); exact BK287.out) hb); have n1_ := Aside0.mk (blk_below (g := gb288) (o := .cells #[.int .i64 0, .bool false, .int .i64 0, .int .u64 0, .int .u64 0, .bool false] 24 (0, 0)) (by (with_reducible repeat (first | refine blk_drewN ?_ _ | refine blk_drew ?_ | refine blk_alloc ?_ _)); exact BK288.out) hb); have n2_ := Aside0.mk (below_step (by repeat (first | (with_reducible first | exact HB.out | apply below_alloc | apply pw_below_drewN | apply below_drew1 | refine below_set ?_ GE287.out | refine below_set ?_ GE288.out) | exact HB.out)) hb); have n3_ := Aside0.mk (hbox); have n4_ := Aside0.mk ((by rw [hg]; exact (below_size (by repeat (first | (with_reducible first | exact HB.out | apply below_alloc | apply pw_below_drewN | apply below_drew1 | refine below_set ?_ GE287.out | refine below_set ?_ GE288.out) | exact HB.out))) : w.heap.size ≤ gb289)); have n5_ := Aside0.mk ((by rw [hg]; exact (below_size (by repeat (first | (with_reducible first | exact HB.out | apply below_alloc | apply pw_below_drewN | apply below_drew1 | refine below_set ?_ GE287.out | refine below_set ?_ GE288.out) | exact HB.out))) : w.heap.size ≤ gb289)); have n6_ := Aside0.mk ((by rw [hg]; exact Nat.ne_of_lt (blk_lt (g := gb287) (o := .cells #[.int .i64 a0_0, .bool a0_1, .int .i64 a0_2, .int .u64 a0_3] 44 (0, 0)) (by (with_reducible repeat (first | refine blk_drewN ?_ _ | refine blk_drew ?_ | refine blk_alloc ?_ _)); exact BK287.out)) : gb287 ≠ gb289)); have n7_ := Aside0.mk ((by rw [hg]; exact Nat.ne_of_gt (blk_lt (g := gb287) (o := .cells #[.int .i64 a0_0, .bool a0_1, .int .i64 a0_2, .int .u64 a0_3] 44 (0, 0)) (by (with_reducible repeat (first | refine blk_drewN ?_ _ | refine blk_drew ?_ | refine blk_alloc ?_ _)); exact BK287.out)) : gb289 ≠ gb287)); have n8_ := Aside0.mk ((by rw [hg]; exact Nat.ne_of_lt (blk_lt (g := gb288) (o := .cells #[.int .i64 0, .bool false, .int .i64 0, .int .u64 0, .int .u64 0, .bool false] 24 (0, 0)) (by (with_reducible repeat (first | refine blk_drewN ?_ _ | refine blk_drew ?_ | refine blk_alloc ?_ _)); exact BK288.out)) : gb288 ≠ gb289)); have n9_ := Aside0.mk ((by rw [hg]; exact Nat.ne_of_gt (blk_lt (g := gb288) (o := .cells #[.int .i64 0, .bool false, .int .i64 0, .int .u64 0, .int .u64 0, .bool false] 24 (0, 0)) (by (with_reducible repeat (first | refine blk_drewN ?_ _ | refine blk_drew ?_ | refine blk_alloc ?_ _)); exact BK288.out)) : gb289 ≠ gb288)); clear BK287; clear BK288; clear HB; have BK287 := n0_; have BK288 := n1_; have HB := n2_; have BK289 := n3_; have GW289 := n4_; have GE289 := n5_; have NB287_289 := n6_; have NB289_287 := n7_; have NB288_289 := n8_; have NB289_288 := n9_; clear n0_ n1_ n2_ n3_ n4_ n5_ n6_ n7_ n8_ n9_; clear hb hbox hg; have hnb45 := NB289_287.out; have hnc45 := NB287_289.out; have hnb46 := NB289_288.out; have hnc46 := NB288_289.out; have hcz47_0 : w44.cell? ⟨gb289, 0, none⟩ = some (.int .i64 0) := (blk_cell BK289.out 0).trans rfl; have hcz47_1 : w44.cell? ⟨gb289, 1, none⟩ = some (.bool false) := (blk_cell BK289.out 1).trans rfl; have hcz47_2 : w44.cell? ⟨gb289, 2, none⟩ = some (.int .i64 0) := (blk_cell BK289.out 2).trans rfl; have hcz47_3 : w44.cell? ⟨gb289, 3, none⟩ = some (.int .u64 0) := (blk_cell BK289.out 3).trans rfl; have hcz47_4 : w44.cell? ⟨gb289, 4, none⟩ = some (.int .u64 0) := (blk_cell BK289.out 4).trans rfl; have hcz47_5 : w44.cell? ⟨gb289, 5, none⟩ = some (.bool false) := (blk_cell BK289.out 5).trans rfl; have hfz47_0 := blk_frozen BK289.out 0; have hfz47_1 := blk_frozen BK289.out 1; have hfz47_2 := blk_frozen BK289.out 2; have hfz47_3 := blk_frozen BK289.out 3; have hfz47_4 := blk_frozen BK289.out 4; have hfz47_5 := blk_frozen BK289.out 5) | ((with_reducible refine gate_callee (f := 28) rfl ?_); refine goesL_ (some 15) rfl rfl Try.func28 (by kernel_rfl) rfl #[.agg #[.int .i64 a0_0, .bool a0_1, .int .i64 a0_2, .int .u64 a0_3, .int .u64 0, .bool false]] rfl (by (try simp only [List.map_toArray, List.map_cons, List.map_nil]); first | done | rfl | (simp only [List.length_drop, List.length_take]; rfl)) ?_; (with_reducible refine (round_sound.calls k a0_0 a0_1 a0_2 a0_3 0 false false _ A2.out).mono ?_); rintro e w48 ⟨rfl, hb⟩; refine ⟨_, rfl, ?_⟩; have n0_ := Aside0.mk (blk_below (g := gb287) (o := .cells #[.int .i64 a0_0, .bool a0_1, .int .i64 a0_2, .int .u64 a0_3] 44 (0, 0)) (by (with_reducible repeat (first | refine blk_drewN ?_ _ | refine blk_drew ?_ | refine blk_alloc ?_ _)); refine blk_far ?_ NB287_289.out _; (with_reducible repeat (first | refine blk_drewN ?_ _ | refine blk_drew ?_ | refine blk_alloc ?_ _)); refine blk_far ?_ NB287_289.out _; (with_reducible repeat (first | refine blk_drewN ?_ _ | refine blk_drew ?_ | refine blk_alloc ?_ _)); refine blk_far ?_ NB287_289.out _; (with_reducible repeat (first | refine blk_drewN ?_ _ | refine blk_drew ?_ | refine blk_alloc ?_ _)); refine blk_far ?_ NB287_289.out _; (with_reducible repeat (first | refine blk_drewN ?_ _ | refine blk_drew ?_ | refine blk_alloc ?_ _)); refine blk_far ?_ NB287_289.out _; (with_reducible repeat (first | refine blk_drewN ?_ _ | refine blk_drew ?_ | refine blk_alloc ?_ _)); refine blk_far ?_ NB287_289.out _; (with_reducible repeat (first | refine blk_drewN ?_ _ | refine blk_drew ?_ | refine blk_alloc ?_ _)); exact BK287.out) hb); have n1_ := Aside0.mk (blk_below (g := gb288) (o := .cells #[.int .i64 0, .bool false, .int .i64 0, .int .u64 0, .int .u64 0, .bool false] 24 (0, 0)) (by (with_reducible repeat (first | refine blk_drewN ?_ _ | refine blk_drew ?_ | refine blk_alloc ?_ _)); refine blk_far ?_ NB288_289.out _; (with_reducible repeat (first | refine blk_drewN ?_ _ | refine blk_drew ?_ | refine blk_alloc ?_ _)); refine blk_far ?_ NB288_289.out _; (with_reducible repeat (first | refine blk_drewN ?_ _ | refine blk_drew ?_ | refine blk_alloc ?_ _)); refine blk_far ?_ NB288_289.out _; (with_reducible repeat (first | refine blk_drewN ?_ _ | refine blk_drew ?_ | refine blk_alloc ?_ _)); refine blk_far ?_ NB288_289.out _; (with_reducible repeat (first | refine blk_drewN ?_ _ | refine blk_drew ?_ | refine blk_alloc ?_ _)); refine blk_far ?_ NB288_289.out _; (with_reducible repeat (first | refine blk_drewN ?_ _ | refine blk_drew ?_ | refine blk_alloc ?_ _)); refine blk_far ?_ NB288_289.out _; (with_reducible repeat (first | refine blk_drewN ?_ _ | refine blk_drew ?_ | refine blk_alloc ?_ _)); exact BK288.out) hb); have n2_ := Aside0.mk (blk_below (g := gb289) (o := .cells #[.int .i64 a0_0, .bool a0_1, .int .i64 a0_2, .int .u64 a0_3, .int .u64 0, .bool false] 24 (0, 0)) (by (with_reducible repeat (first | refine blk_drewN ?_ _ | refine blk_drew ?_ | refine blk_alloc ?_ _)); refine blk_put (cs := #[.int .i64 a0_0, .bool a0_1, .int .i64 a0_2, .int .u64 a0_3, .int .u64 0, .bool false]) ?_ 5 _ rfl; (with_reducible repeat (first | refine blk_drewN ?_ _ | refine blk_drew ?_ | refine blk_alloc ?_ _)); refine blk_put (cs := #[.int .i64 a0_0, .bool a0_1, .int .i64 a0_2, .int .u64 a0_3, .int .u64 0, .bool false]) ?_ 4 _ rfl; (with_reducible repeat (first | refine blk_drewN ?_ _ | refine blk_drew ?_ | refine blk_alloc ?_ _)); refine blk_put (cs := #[.int .i64 a0_0, .bool a0_1, .int .i64 a0_2, .int .u64 0, .int .u64 0, .bool false]) ?_ 3 _ rfl; (with_reducible repeat (first | refine blk_drewN ?_ _ | refine blk_drew ?_ | refine blk_alloc ?_ _)); refine blk_put (cs := #[.int .i64 a0_0, .bool a0_1, .int .i64 0, .int .u64 0, .int .u64 0, .bool false]) ?_ 2 _ rfl; (with_reducible repeat (first | refine blk_drewN ?_ _ | refine blk_drew ?_ | refine blk_alloc ?_ _)); refine blk_put (cs := #[.int .i64 a0_0, .bool false, .int .i64 0, .int .u64 0, .int .u64 0, .bool false]) ?_ 1 _ rfl; (with_reducible repeat (first | refine blk_drewN ?_ _ | refine blk_drew ?_ | refine blk_alloc ?_ _)); refine blk_put (cs := #[.int .i64 0, .bool false, .int .i64 0, .int .u64 0, .int .u64 0, .bool false]) ?_ 0 _ rfl; (with_reducible repeat (first | refine blk_drewN ?_ _ | refine blk_drew ?_ | refine blk_alloc ?_ _)); exact BK289.out) hb); have n3_ := Aside0.mk (below_step (by repeat (first | (with_reducible first | exact HB.out | apply below_alloc | apply pw_below_drewN | apply below_drew1 | refine below_set ?_ GE287.out | refine below_set ?_ GE288.out | refine below_set ?_ GE289.out) | exact HB.out)) hb); clear BK287; clear BK288; clear BK289; clear HB; have BK287 := n0_; have BK288 := n1_; have BK289 := n2_; have HB := n3_; clear n0_ n1_ n2_ n3_; (try clear hb); (try clear hb2); (try clear hk); (try clear hi); have hcz49_0 : w48.cell? ⟨gb288, 0, none⟩ = some (.int .i64 0) := (blk_cell BK288.out 0).trans rfl; have hcz49_1 : w48.cell? ⟨gb288, 1, none⟩ = some (.bool false) := (blk_cell BK288.out 1).trans rfl; have hcz49_2 : w48.cell? ⟨gb288, 2, none⟩ = some (.int .i64 0) := (blk_cell BK288.out 2).trans rfl; have hcz49_3 : w48.cell? ⟨gb288, 3, none⟩ = some (.int .u64 0) := (blk_cell BK288.out 3).trans rfl; have hcz49_4 : w48.cell? ⟨gb288, 4, none⟩ = some (.int .u64 0) := (blk_cell BK288.out 4).trans rfl; have hcz49_5 : w48.cell? ⟨gb288, 5, none⟩ = some (.bool false) := (blk_cell BK288.out 5).trans rfl; have hfz49_0 := blk_frozen BK288.out 0; have hfz49_1 := blk_frozen BK288.out 1; have hfz49_2 := blk_frozen BK288.out 2; have hfz49_3 := blk_frozen BK288.out 3; have hfz49_4 := blk_frozen BK288.out 4; have hfz49_5 := blk_frozen BK288.out 5))
    refine bodyPost_ret (results_ct rfl _ _ gb288 24 #[.int .i64 0, .bool false, .int .i64 0, .int .u64 0, .int .u64 0, .bool false] (0, 0) _ rfl (by (with_reducible repeat (first | refine blk_drewN ?_ _ | refine blk_drew ?_ | refine blk_alloc ?_ _)); refine blk_put (cs := #[.int .i64 0, .bool false, .int .i64 0, .int .u64 0, .int .u64 0, .bool false]) ?_ 5 _ rfl; (with_reducible repeat (first | refine blk_drewN ?_ _ | refine blk_drew ?_ | refine blk_alloc ?_ _)); refine blk_put (cs := #[.int .i64 0, .bool false, .int .i64 0, .int .u64 0, .int .u64 0, .bool false]) ?_ 4 _ rfl; (with_reducible repeat (first | refine blk_drewN ?_ _ | refine blk_drew ?_ | refine blk_alloc ?_ _)); refine blk_put (cs := #[.int .i64 0, .bool false, .int .i64 0, .int .u64 0, .int .u64 0, .bool false]) ?_ 3 _ rfl; (with_reducible repeat (first | refine blk_drewN ?_ _ | refine blk_drew ?_ | refine blk_alloc ?_ _)); refine blk_put (cs := #[.int .i64 0, .bool false, .int .i64 0, .int .u64 0, .int .u64 0, .bool false]) ?_ 2 _ rfl; (with_reducible repeat (first | refine blk_drewN ?_ _ | refine blk_drew ?_ | refine blk_alloc ?_ _)); refine blk_put (cs := #[.int .i64 0, .bool false, .int .i64 0, .int .u64 0, .int .u64 0, .bool false]) ?_ 1 _ rfl; (with_reducible repeat (first | refine blk_drewN ?_ _ | refine blk_drew ?_ | refine blk_alloc ?_ _)); refine blk_put (cs := #[.int .i64 0, .bool false, .int .i64 0, .int .u64 0, .int .u64 0, .bool false]) ?_ 0 _ rfl; (with_reducible repeat (first | refine blk_drewN ?_ _ | refine blk_drew ?_ | refine blk_alloc ?_ _)); exact BK288.out) Try.underlying24 rfl (by kernel_rfl)) rfl ?_
    exact ⟨by first | rfl | (simp [errW_none, errW_some] <;> rfl) | (simp [*, errW_none, errW_some] <;> rfl), by repeat (first | (with_reducible first | exact HB.out | apply below_alloc | apply pw_below_drewN | apply below_drew1 | refine below_set ?_ GE287.out | refine below_set ?_ GE288.out | refine below_set ?_ GE289.out) | exact HB.out)⟩
end Go.Proofs.Ytfegofnplcmacaa.PAll
namespace Go.Proofs.Ytfegofnplcmacaa.V
open Go Go.RowKit Go.Proofs.YtfegofnplcmacaaW.PrintWords Go.Proofs.YtfegofnplcmacaaW.PrintLast Go.Proofs.YtfegofnplcmacaaW.PrintMore Go.Proofs.Ytfegofnplcmacaa.PAll
set_option linter.unusedVariables false
set_option linter.unusedSimpArgs false
def isW (n : Int) : Bool := n == 8 || n == 16 || n == 32 || n == 64
theorem isW_cases {n : Int} (h : isW n = true) : n = 8 ∨ n = 16 ∨ n = 32 ∨ n = 64 := by
  unfold isW at h; simp at h; omega
theorem shape_is_eq (n : Int) : shape_is.f n = some (isW n) := by
  unfold shape_is.f isW
  by_cases h1 : n = 8
  · simp [h1]
  · by_cases h2 : n = 16
    · simp [h2]
    · by_cases h3 : n = 32
      · simp [h3]
      · by_cases h4 : n = 64
        · simp [h4]
        · simp [h1, h2, h3, h4]
theorem shape_Of_eq {n : Nat} (h : isW n = true) : shape_Of.f n = some ((n : Int), ((2 ^ (n - 1) - 1 : Nat) : Int), 1, ((2 ^ (n - 1) : Nat) : Int), 4 * (n : Int) - 8, none) := by
  unfold shape_Of.f
  rw [shape_is_eq, h]
  have h' : n = 8 ∨ n = 16 ∨ n = 32 ∨ n = 64 := by have := isW_cases h; omega
  rcases h' with rfl | rfl | rfl | rfl <;> decide +kernel
def soundE (kd : Int) (ng : Bool) (sc hi lo : Int) (rs : Bool) : Bool :=
  if kd = 0 ∨ kd = 2 then (!ng && (sc == 0 && (hi == 0 && (lo == 0 && !rs))))
  else decide (kd = 1 ∧ 9223372036854775808 ≤ hi ∧ -1099511627776 ≤ sc ∧ sc ≤ 1099511627776)
def heldI (s : Int) : Int := if s < -1099511627776 then -1099511627776 else if 1099511627776 < s then 1099511627776 else s
theorem round_held_eq (s : Int) : round_held.f s = some (heldI s) := by
  unfold round_held.f heldI mx mn
  congr 1
  repeat' split
  all_goals omega
theorem round_sound_eq (kd : Int) (ng : Bool) (sc hi lo : Int) (rs : Bool) (h : hi < 18446744073709551616) (h0 : 0 ≤ hi) :
    Ev (fun k => round_sound.f k kd ng sc hi lo rs) (soundE kd ng sc hi lo rs) := by
  unfold round_sound.f soundE
  by_cases h0 : kd = 0
  · simp only [if_pos h0, if_pos (Or.inl h0 : kd = 0 ∨ kd = 2)]
    refine Ev.step (f := fun _ => _) (fun k => by simp only [round_sound.j0]; rw [if_pos (by simp [h0])]) (Ev.now _)
  · simp only [if_neg h0]
    by_cases h2 : kd = 2
    · simp only [if_pos (Or.inr h2 : kd = 0 ∨ kd = 2)]
      refine Ev.step (f := fun _ => _) (fun k => by simp only [round_sound.j0]; rw [if_pos (by simp [h2])]) (Ev.now _)
    · simp only [if_neg (show ¬ (kd = 0 ∨ kd = 2) by omega)]
      refine Ev.step (f := fun _ => _) (fun k => by simp only [round_sound.j0]; rw [if_neg (by simp [h2])]) ?_
      simp only [round_held_eq, Option.bind_some]
      refine Ev.congr (f := fun _ => some _) (fun _ => ?_) (Ev.now _)
      by_cases h1 : kd = 1
      · rw [if_pos h1]
        by_cases h3 : hi / 9223372036854775808 = 1
        · rw [if_pos h3]
          congr 1
          rw [Bool.eq_iff_iff]
          simp only [beq_iff_eq, decide_eq_true_eq, heldI]
          split
          · omega
          · split <;> omega
        · rw [if_neg h3]
          congr 1
          symm
          rw [decide_eq_false_iff_not]
          omega
      · rw [if_neg h1]
        congr 1
        symm
        rw [decide_eq_false_iff_not]
        omega
theorem round_under_eq (X a b m : Nat) (R : Bool) (hX : X < 2 ^ (128 + a)) (hb : b < 2 ^ m) (hm : m ≤ 64) :
    round_under.f (TH (X / 2 ^ a)) (TL (X / 2 ^ a)) (b : Int) (m : Int) (R || decide (X % 2 ^ a ≠ 0)) =
      some (TH ((b * 2 ^ (128 + a) + X) / 2 ^ (a + m)), TL ((b * 2 ^ (128 + a) + X) / 2 ^ (a + m)), R || decide ((b * 2 ^ (128 + a) + X) % 2 ^ (a + m) ≠ 0)) := by
  unfold round_under.f
  have pa := two_pos a
  have pm := two_pos m
  have hw : X / 2 ^ a < 2 ^ 128 := by rw [Nat.div_lt_iff_lt_mul pa, ← Nat.pow_add]; exact hX
  rw [twin_Shr_eq _ m hw (by omega)]
  simp only [Option.bind_some]
  rw [w64 (by omega) (by omega), if_pos (by omega)]
  have e64 : (64 - (m : Int)) = ((64 - m : Nat) : Int) := by omega
  rw [e64, shl_nat _ _ (by omega)]
  -- the new string's upper bits
  have s := pow_split hm
  have hbl : b * 2 ^ (64 - m) < 2 ^ 64 := by rw [← s]; exact Nat.mul_lt_mul_of_pos_right hb (two_pos _)
  rw [Nat.mod_eq_of_lt (show b * 2 ^ (64 - m) < 18446744073709551616 by rw [← p64]; exact hbl)]
  generalize hw2 : X / 2 ^ a = w at hw
  have e1 : (b * 2 ^ (128 + a) + X) / 2 ^ (a + m) = b * 2 ^ (128 - m) + w / 2 ^ m := by
    have s1 : b * 2 ^ (128 + a) = b * 2 ^ (128 - m) * 2 ^ (a + m) := by
      rw [Nat.mul_assoc, ← Nat.pow_add]; congr 2; omega
    rw [s1, Nat.add_comm, Nat.add_mul_div_right _ _ (two_pos _), Nat.pow_add, ← Nat.div_div_eq_div_mul, hw2, Nat.add_comm]
  have hwm : w / 2 ^ m < 2 ^ (128 - m) := by
    rw [Nat.div_lt_iff_lt_mul pm, Nat.mul_comm, pow_split (by omega)]; exact hw
  have e2 : b * 2 ^ (128 - m) = b * 2 ^ (64 - m) * 18446744073709551616 := by
    rw [← p64, Nat.mul_assoc, ← Nat.pow_add]; congr 2; omega
  have hq : w / 2 ^ m / 18446744073709551616 < 2 ^ (64 - m) := by
    rw [← p64, Nat.div_lt_iff_lt_mul (two_pos 64), ← Nat.pow_add]
    exact Nat.lt_of_lt_of_eq hwm (by congr 1; omega)
  have hor : Go.bits .or .u64 (TH (w / 2 ^ m)) ((b * 2 ^ (64 - m) : Nat) : Int) = TH (b * 2 ^ (128 - m) + w / 2 ^ m) := by
    unfold TH
    have hlt : w / 2 ^ m / 18446744073709551616 < 18446744073709551616 := Nat.lt_of_lt_of_le hq (by rw [← p64]; exact pow_le (by omega))
    rw [or_nat _ _ hlt (by rw [← p64]; exact hbl), Nat.or_comm, or_parts hq, e2]
    congr 1
    omega
  have hlo : TL (w / 2 ^ m) = TL (b * 2 ^ (128 - m) + w / 2 ^ m) := by unfold TL; rw [e2]; congr 1; omega
  have e3 : decide ((b * 2 ^ (128 + a) + X) % 2 ^ (a + m) ≠ 0) = (decide (X % 2 ^ a ≠ 0) || decide (w % 2 ^ m ≠ 0)) := by
    have s1 : b * 2 ^ (128 + a) = b * 2 ^ (128 - m) * 2 ^ (a + m) := by
      rw [Nat.mul_assoc, ← Nat.pow_add]; congr 2; omega
    have s2 : (b * 2 ^ (128 + a) + X) % 2 ^ (a + m) = X % 2 ^ (a + m) := by rw [s1, Nat.mul_add_mod_self_right]
    have s3 : X % 2 ^ (a + m) = 2 ^ a * (w % 2 ^ m) + X % 2 ^ a := by
      rw [Nat.pow_add, Nat.mod_mul, hw2, Nat.add_comm]
    rw [s2, s3, Bool.eq_iff_iff]
    simp only [Bool.or_eq_true, decide_eq_true_eq]
    have hz : 2 ^ a * (w % 2 ^ m) = 0 ↔ w % 2 ^ m = 0 := by
      rw [Nat.mul_eq_zero]; constructor
      · rintro (h | h)
        · omega
        · exact h
      · exact .inr
    omega
  rw [hor, hlo, e1, e3]
  cases R <;> by_cases hd : X % 2 ^ a = 0 <;> simp [hd]
theorem round_left_eq (b : Nat) (R : Bool) (hb : b < 18446744073709551616) : Ev (fun k => round_left.f k (b : Int) R) (lft b 64 R) := by
  unfold round_left.f lft
  rw [p64]
  by_cases h1 : (b : Int) > 9223372036854775808
  · simp only [if_pos h1, if_pos (show 18446744073709551616 < 2 * b by omega)]
    exact Ev.step (f := fun _ => some 3) (fun k => by simp only [round_left.j0]; rw [if_pos (by simpa using h1)]) (Ev.now _)
  · simp only [if_neg h1, if_neg (show ¬ 18446744073709551616 < 2 * b by omega)]
    by_cases h2 : (b : Int) = 9223372036854775808
    · simp only [if_pos h2, if_pos (show 2 * b = 18446744073709551616 by omega)]
      refine evs ?_
      simp only [round_left.j0]
      refine evn ?_
      cases R
      · simp [h2]
      · simp
    · simp only [if_neg h2, if_neg (show ¬ 2 * b = 18446744073709551616 by omega)]
      refine evs ?_
      simp only [round_left.j0]
      refine evn ?_
      by_cases h3 : 0 < b
      · rw [if_neg (by simp), if_neg h2, if_pos (by omega), if_pos h3]
      · rw [if_neg (by simp), if_neg h2, if_neg (by omega), if_neg h3]
        cases R <;> simp
theorem round_Cut_j3 (n X a : Nat) (R : Bool) (h8 : 8 ≤ n) (h64 : n ≤ 64) (hX : X < 2 ^ (128 + a)) :
    Ev (fun k => round_Cut.j3 k (n : Int) (R || decide (X % 2 ^ a ≠ 0)) (TH (X / 2 ^ a)) (TL (X / 2 ^ a)))
      (((X / 2 ^ (129 - n + a) : Nat) : Int), lft (X % 2 ^ (129 - n + a)) (129 - n + a) R, none) := by
  have pa := two_pos a
  have hw : X / 2 ^ a < 2 ^ 128 := by rw [Nat.div_lt_iff_lt_mul pa, ← Nat.pow_add]; exact hX
  generalize hw2 : X / 2 ^ a = w at hw
  refine evs ?_
  simp only [round_Cut.j3]
  have e1 : wrap64 (65 - (n : Int)) = ((65 - n : Nat) : Int) := by rw [w64 (by omega) (by omega)]; omega
  have e2 : wrap64 ((n : Int) - 1) = ((n - 1 : Nat) : Int) := by rw [w64 (by omega) (by omega)]; omega
  simp only [e1, e2, if_pos (show (0 : Int) ≤ ((65 - n : Nat) : Int) by omega)]
  simp only [twin_Shl_eq w (n - 1) hw (by omega), Option.bind_some]
  -- what is behind
  have hsplit : w * 2 ^ (n - 1) % 2 ^ 128 = w % 2 ^ (129 - n) * 2 ^ (n - 1) := by
    have e : (2 : Nat) ^ 128 = 2 ^ (129 - n) * 2 ^ (n - 1) := by rw [← Nat.pow_add]; congr 1; omega
    rw [e, Nat.mul_mod_mul_right]
  generalize hb : w * 2 ^ (n - 1) % 2 ^ 128 = bh at hsplit
  have hbh : bh < 340282366920938463463374607431768211456 := by rw [← hb, ← p128]; exact Nat.mod_lt _ (two_pos 128)
  have hP : shr .u64 (TH w) ((65 - n : Nat) : Int) = ((X / 2 ^ (129 - n + a) : Nat) : Int) := by
    unfold TH
    rw [shr_nat _ _ (by omega), ← p64, div_div_pow, ← hw2, div_div_pow]
    congr 3; omega
  have hL : ∀ R' : Bool, R' = (R || decide (X % 2 ^ a ≠ 0)) → lft (bh / 18446744073709551616) 64 (R' || decide (bh % 18446744073709551616 ≠ 0)) = lft (X % 2 ^ (129 - n + a)) (129 - n + a) R := by
    intro R' hR
    have a1 := lft_split (bh / 18446744073709551616) (bh % 18446744073709551616) 64 64 R' (by rw [p64]; omega) (by omega)
    rw [p64, show bh / 18446744073709551616 * 18446744073709551616 + bh % 18446744073709551616 = bh by omega] at a1
    rw [← a1, hsplit, show 64 + 64 = (129 - n) + (n - 1) by omega, lft_scale _ _ _ _ (by omega), hR]
    have a2 := lft_split (w % 2 ^ (129 - n)) (X % 2 ^ a) a (129 - n) R (Nat.mod_lt _ pa) (by omega)
    rw [← a2]
    congr 1
    rw [Nat.add_comm (129 - n) a, Nat.pow_add, Nat.mod_mul, hw2, Nat.mul_comm, Nat.add_comm]
  by_cases h0 : TL bh = 0
  · simp only [if_pos h0]
    have hz : bh % 18446744073709551616 = 0 := by unfold TL at h0; omega
    have hl := hL _ rfl
    rw [hz] at hl
    simp only [ne_eq, not_true_eq_false, decide_false, Bool.or_false] at hl
    refine Ev.bind (a := lft (bh / 18446744073709551616) 64 (R || decide (X % 2 ^ a ≠ 0))) ?_ ?_
    · exact round_left_eq (bh / 18446744073709551616) _ (by omega)
    · rw [hP]
      simp only [ne_eq] at hl ⊢
      rw [hl]
      exact Ev.now _
  · simp only [if_neg h0]
    have hz : bh % 18446744073709551616 ≠ 0 := by unfold TL at h0; omega
    have hl := hL _ rfl
    rw [decide_eq_true hz, Bool.or_true] at hl
    refine Ev.bind (a := lft (bh / 18446744073709551616) 64 true) ?_ ?_
    · exact round_left_eq (bh / 18446744073709551616) _ (by omega)
    · rw [hP, hl]
      exact Ev.now _
theorem round_Cut_l0 (n : Nat) (R : Bool) (b : Nat) (h8 : 8 ≤ n) (h64 : n ≤ 64) (hb : b ≤ 64) : ∀ (d i X a : Nat), i + d = b → X < 2 ^ (128 + a) →
    Ev (fun k => round_Cut.l0 k (n : Int) (R || decide (X % 2 ^ a ≠ 0)) (b : Int) (i : Int) (TH (X / 2 ^ a)) (TL (X / 2 ^ a)))
      ((((((2 ^ d - 1) * 2 ^ (128 + a) + X) / 2 ^ (129 - n + (a + d)) : Nat)) : Int), lft (((2 ^ d - 1) * 2 ^ (128 + a) + X) % 2 ^ (129 - n + (a + d))) (129 - n + (a + d)) R, none)
  | 0, i, X, a, hi, hX => by
    refine evs ?_
    simp only [round_Cut.l0]
    simp only [if_neg (show ¬ (i : Int) < (b : Int) by omega)]
    have := round_Cut_j3 n X a R h8 h64 hX
    simpa using this
  | d + 1, i, X, a, hi, hX => by
    refine evs ?_
    simp only [round_Cut.l0]
    simp only [if_pos (show (i : Int) < (b : Int) by omega)]
    have u := round_under_eq X a 1 1 R hX (by decide) (by decide)
    simp only [Nat.one_mul] at u
    have u' : round_under.f (TH (X / 2 ^ a)) (TL (X / 2 ^ a)) 1 1 (R || decide (X % 2 ^ a ≠ 0)) = _ := u
    simp only [u', Option.bind_some]
    have e : wrap64 ((i : Int) + 1) = ((i + 1 : Nat) : Int) := by rw [w64 (by omega) (by omega)]; omega
    rw [e]
    have hX' : 2 ^ (128 + a) + X < 2 ^ (128 + (a + 1)) := by
      rw [show 128 + (a + 1) = 128 + a + 1 by omega, Nat.pow_succ]; omega
    have ih := round_Cut_l0 n R b h8 h64 hb d (i + 1) (2 ^ (128 + a) + X) (a + 1) (by omega) hX'
    have e2 : (2 ^ d - 1) * 2 ^ (128 + (a + 1)) + (2 ^ (128 + a) + X) = (2 ^ (d + 1) - 1) * 2 ^ (128 + a) + X := by
      have p := two_pos d
      obtain ⟨q, hq⟩ : ∃ q, 2 ^ d = q + 1 := ⟨2 ^ d - 1, by omega⟩
      rw [show 128 + (a + 1) = 128 + a + 1 by omega, Nat.pow_succ 2 (128 + a), Nat.pow_succ 2 d, hq]
      generalize 2 ^ (128 + a) = Z
      rw [show (q + 1) * 2 - 1 = 2 * q + 1 by omega, show q + 1 - 1 = q by omega]
      grind
    rw [e2, show a + 1 + d = a + (d + 1) by omega] at ih
    exact ih
theorem round_Cut_l1 (n : Nat) (R : Bool) (b : Nat) (h8 : 8 ≤ n) (h64 : n ≤ 64) (hb : b ≤ 64) : ∀ (d i X a : Nat), i + d = b → X < 2 ^ (128 + a) →
    Ev (fun k => round_Cut.l1 k (n : Int) (R || decide (X % 2 ^ a ≠ 0)) (b : Int) (i : Int) (TH (X / 2 ^ a)) (TL (X / 2 ^ a)))
      (((X / 2 ^ (129 - n + (a + d)) : Nat) : Int), lft (X % 2 ^ (129 - n + (a + d))) (129 - n + (a + d)) R, none)
  | 0, i, X, a, hi, hX => by
    refine evs ?_
    simp only [round_Cut.l1]
    simp only [if_neg (show ¬ (i : Int) < (b : Int) by omega)]
    exact round_Cut_j3 n X a R h8 h64 hX
  | d + 1, i, X, a, hi, hX => by
    refine evs ?_
    simp only [round_Cut.l1]
    simp only [if_pos (show (i : Int) < (b : Int) by omega)]
    have u := round_under_eq X a 0 1 R hX (by decide) (by decide)
    simp only [Nat.zero_mul, Nat.zero_add] at u
    have u' : round_under.f (TH (X / 2 ^ a)) (TL (X / 2 ^ a)) 0 1 (R || decide (X % 2 ^ a ≠ 0)) = _ := u
    simp only [u', Option.bind_some]
    have e : wrap64 ((i : Int) + 1) = ((i + 1 : Nat) : Int) := by rw [w64 (by omega) (by omega)]; omega
    rw [e]
    have hX' : X < 2 ^ (128 + (a + 1)) := Nat.lt_of_lt_of_le hX (pow_le (by omega))
    have ih := round_Cut_l1 n R b h8 h64 hb d (i + 1) X (a + 1) (by omega) hX'
    rw [show a + 1 + d = a + (d + 1) by omega] at ih
    exact ih
theorem round_Cut_j0_eq (n f : Nat) (kd : Int) (ng : Bool) (s : Int) (R : Bool) (hn : isW n = true) (h0 : -(4 * (n : Int) - 8) ≤ s) (h1 : s < 4 * (n : Int) - 8) (hf : f < 2 ^ 127) :
    Ev (fun k => round_Cut.j0 k (n : Int) kd ng s (TH (2 ^ 127 + f)) (TL (2 ^ 127 + f)) R) (((cutP n (sig s f) : Nat) : Int), cutL n (sig s f) R, none) := by
  have hn' : n = 8 ∨ n = 16 ∨ n = 32 ∨ n = 64 := by have := isW_cases hn; omega
  have h8 : 8 ≤ n := by omega
  have h64 : n ≤ 64 := by omega
  have hV : 2 ^ 127 + f < 2 ^ 128 := by rw [show (2 : Nat) ^ 128 = 2 * 2 ^ 127 by decide]; omega
  refine evs ?_
  simp only [round_Cut.j0]
  have s1 := twin_Shl_eq (2 ^ 127 + f) 1 hV (by decide)
  have m1 : (2 ^ 127 + f) * 2 ^ 1 % 2 ^ 128 = 2 * f := by rw [p127, p128] at *; omega
  rw [m1] at s1
  have s1' : twin_Shl.f (TH (2 ^ 127 + f)) (TL (2 ^ 127 + f)) 1 = _ := s1
  simp only [s1', Option.bind_some]
  have e4 : IntKind.u64.wrap (Go.bits .and .i64 s 3) = (((s % 4).toNat : Nat) : Int) := by rw [and_i64_3, u64_of (by omega) (by omega)]; omega
  rw [e4]
  generalize he : (s % 4).toNat = e
  have he4 : e < 2 ^ 2 := by have : (2 : Nat) ^ 2 = 4 := by decide
                             omega
  have hX0 : 2 * f < 2 ^ (128 + 0) := by rw [show (2 : Nat) ^ (128 + 0) = 2 * 2 ^ 127 by decide]; omega
  have u1 := round_under_eq (2 * f) 0 e 2 R hX0 he4 (by decide)
  simp only [Nat.pow_zero, Nat.div_one, Nat.mod_one, ne_eq, not_true_eq_false, decide_false, Bool.or_false, Nat.zero_add, Nat.add_zero] at u1
  have u1' : round_under.f (TH (2 * f)) (TL (2 * f)) (e : Int) 2 R = _ := u1
  simp only [u1', Option.bind_some]
  have hX1 : e * 2 ^ 128 + 2 * f < 2 ^ (128 + 2) := by
    have : (e + 1) * 2 ^ 128 ≤ 2 ^ 2 * 2 ^ 128 := Nat.mul_le_mul_right _ he4
    rw [Nat.add_mul] at this
    rw [show (2 : Nat) ^ (128 + 2) = 2 ^ 2 * 2 ^ 128 by decide]
    simp only [Nat.add_zero] at hX0
    omega
  by_cases hk : s / 4 ≥ 0
  · simp only [if_pos hk]
    have u2 := round_under_eq (e * 2 ^ 128 + 2 * f) 2 0 1 R hX1 (by decide) (by decide)
    simp only [Nat.zero_mul, Nat.zero_add] at u2
    have u2' : round_under.f (TH ((e * 2 ^ 128 + 2 * f) / 2 ^ 2)) (TL ((e * 2 ^ 128 + 2 * f) / 2 ^ 2)) 0 1 (R || decide (¬(e * 2 ^ 128 + 2 * f) % 2 ^ 2 = 0)) = _ := u2
    simp only [u2', Option.bind_some]
    generalize hq : (s / 4).toNat = q
    have hq61 : q ≤ 61 := by omega
    have ew : wrap64 (s / 4 + 1) = ((q + 1 : Nat) : Int) := by rw [w64 (by omega) (by omega)]; omega
    rw [ew]
    have l := round_Cut_l0 n R (q + 1) h8 h64 (by omega) (q + 1) 0 (e * 2 ^ 128 + 2 * f) 3 (by omega) (Nat.lt_of_lt_of_le hX1 (pow_le (by decide)))
    have c := cut_of n ((2 ^ (q + 1) - 1) * 2 ^ (128 + 3) + (e * 2 ^ 128 + 2 * f)) (129 - n + (3 + (q + 1))) (68 - q) R h64 (by omega) (by omega)
    have es : sig s f = ((2 ^ (q + 1) - 1) * 2 ^ (128 + 3) + (e * 2 ^ 128 + 2 * f)) * 2 ^ (68 - q) := by
      unfold sig
      rw [if_pos hk, hq, he, show 69 - q = 1 + (68 - q) by omega, Nat.pow_add 2 1, ← Nat.mul_assoc]
      congr 1
      rw [show (2 : Nat) ^ (128 + 3) = 2 ^ 130 * 2 by decide, show (2 : Nat) ^ 128 = 2 ^ 127 * 2 by decide]
      generalize 2 ^ (q + 1) - 1 = z
      grind
    rw [es, c.1, c.2]
    exact l
  · simp only [if_neg hk]
    have u2 := round_under_eq (e * 2 ^ 128 + 2 * f) 2 1 1 R hX1 (by decide) (by decide)
    simp only [Nat.one_mul] at u2
    have u2' : round_under.f (TH ((e * 2 ^ 128 + 2 * f) / 2 ^ 2)) (TL ((e * 2 ^ 128 + 2 * f) / 2 ^ 2)) 1 1 (R || decide (¬(e * 2 ^ 128 + 2 * f) % 2 ^ 2 = 0)) = _ := u2
    simp only [u2', Option.bind_some]
    generalize hq : (-(s / 4)).toNat = q
    have hq62 : q ≤ 62 := by omega
    have ew : wrap64 (-(s / 4)) = ((q : Nat) : Int) := by rw [w64 (by omega) (by omega)]; omega
    rw [ew]
    have hX2 : 2 ^ (128 + 2) + (e * 2 ^ 128 + 2 * f) < 2 ^ (128 + 3) := by
      rw [show (2 : Nat) ^ (128 + 3) = 2 ^ (128 + 2) + 2 ^ (128 + 2) by decide]; omega
    have l := round_Cut_l1 n R q h8 h64 (by omega) q 0 (2 ^ (128 + 2) + (e * 2 ^ 128 + 2 * f)) 3 (by omega) hX2
    have c := cut_of n (2 ^ (128 + 2) + (e * 2 ^ 128 + 2 * f)) (129 - n + (3 + q)) (69 - q) R h64 (by omega) (by omega)
    have es : sig s f = (2 ^ (128 + 2) + (e * 2 ^ 128 + 2 * f)) * 2 ^ (69 - q) := by
      unfold sig
      rw [if_neg (by omega), hq, he, show 70 - q = 1 + (69 - q) by omega, Nat.pow_add 2 1, ← Nat.mul_assoc]
      congr 1
      rw [show (2 : Nat) ^ (128 + 2) = 2 ^ 129 * 2 by decide, show (2 : Nat) ^ 128 = 2 ^ 127 * 2 by decide]
      grind
    rw [es, c.1, c.2]
    exact l
theorem sound_kinds {kd sc hi lo : Int} {ng rs : Bool} (h : soundE kd ng sc hi lo rs = true) : kd = 0 ∨ kd = 2 ∨ kd = 1 := by
  unfold soundE at h
  split at h
  · omega
  · have := of_decide_eq_true h; omega
theorem sound_real {sc hi lo : Int} {ng rs : Bool} (h : soundE 1 ng sc hi lo rs = true) : 9223372036854775808 ≤ hi ∧ -1099511627776 ≤ sc ∧ sc ≤ 1099511627776 := by
  unfold soundE at h
  rw [if_neg (by decide)] at h
  have := of_decide_eq_true h; omega
theorem round_Cut_eq {n hi lo : Nat} {kd sc : Int} {ng rs : Bool} (hn : isW n = true) (hh : hi < 18446744073709551616) (hl : lo < 18446744073709551616) (h : soundE kd ng sc hi lo rs = true) :
    Ev (fun k => round_Cut.f k n kd ng sc hi lo rs) ((cutE n kd sc (hi * 18446744073709551616 + lo) rs).1, (cutE n kd sc (hi * 18446744073709551616 + lo) rs).2, none) := by
  unfold round_Cut.f
  have hn' : n = 8 ∨ n = 16 ∨ n = 32 ∨ n = 64 := by have := isW_cases hn; omega
  simp only [shape_Of_eq hn, Option.bind_some, Option.isNone_none, if_true]
  refine Ev.bind (round_sound_eq _ _ _ _ _ _ (by omega) (by omega)) ?_
  simp only [h, if_true]
  unfold cutE
  by_cases k0 : kd = 0
  · simp only [if_pos k0]; exact Ev.now _
  · simp only [if_neg k0]
    by_cases k2 : kd = 2
    · simp only [if_pos k2]; exact Ev.now _
    · simp only [if_neg k2]
      have k1 : kd = 1 := by have := sound_kinds h; omega
      subst k1
      obtain ⟨b0, b1, b2⟩ := sound_real h
      have ew : wrap64 (-(4 * (n : Int) - 8)) = -(4 * (n : Int) - 8) := w64 (by omega) (by omega)
      by_cases c1 : sc ≥ 4 * (n : Int) - 8
      · simp only [if_pos c1, if_pos (show 4 * (n : Int) - 8 ≤ sc by omega)]; exact Ev.now _
      · simp only [if_neg c1, if_neg (show ¬ 4 * (n : Int) - 8 ≤ sc by omega), ew]
        by_cases c2 : sc < -(4 * (n : Int) - 8)
        · simp only [if_pos c2, if_pos (Or.inl c2 : sc < -(4 * (n : Int) - 8) ∨ (sc = -(4 * (n : Int) - 8) ∧ hi * 18446744073709551616 + lo = 2 ^ 127 ∧ rs = false))]; exact Ev.now _
        · simp only [if_neg c2]
          have key : ¬ (sc = -(4 * (n : Int) - 8) ∧ hi * 18446744073709551616 + lo = 2 ^ 127 ∧ rs = false) →
              Ev (fun k => round_Cut.j0 k (n : Int) 1 ng sc (hi : Int) (lo : Int) rs)
                ((if sc < -(4 * (n : Int) - 8) ∨ (sc = -(4 * (n : Int) - 8) ∧ hi * 18446744073709551616 + lo = 2 ^ 127 ∧ rs = false) then ((1 : Int), (0 : Int)) else ((cutP n (sig sc (hi * 18446744073709551616 + lo - 2 ^ 127)) : Int), cutL n (sig sc (hi * 18446744073709551616 + lo - 2 ^ 127)) rs)).1,
                 (if sc < -(4 * (n : Int) - 8) ∨ (sc = -(4 * (n : Int) - 8) ∧ hi * 18446744073709551616 + lo = 2 ^ 127 ∧ rs = false) then ((1 : Int), (0 : Int)) else ((cutP n (sig sc (hi * 18446744073709551616 + lo - 2 ^ 127)) : Int), cutL n (sig sc (hi * 18446744073709551616 + lo - 2 ^ 127)) rs)).2, none) := by
            intro hno
            rw [if_neg (fun hh => hh.elim c2 hno)]
            have hf : 2 ^ 127 + (hi * 18446744073709551616 + lo - 2 ^ 127) = hi * 18446744073709551616 + lo := by rw [p127]; omega
            have j := round_Cut_j0_eq n (hi * 18446744073709551616 + lo - 2 ^ 127) 1 ng sc rs hn (by omega) (by omega) (by rw [p127]; omega)
            rw [hf, TH_of hl, TL_of hl] at j
            exact j
          by_cases c3 : sc = -(4 * (n : Int) - 8)
          · simp only [if_pos c3]
            by_cases c4 : (hi : Int) = 9223372036854775808
            · simp only [if_pos c4]
              by_cases c5 : (lo : Int) = 0
              · simp only [if_pos c5]
                cases rs
                · simp only [Bool.false_eq_true, if_false]
                  rw [if_pos (Or.inr ⟨c3, by rw [p127]; omega, trivial⟩)]
                  exact Ev.now _
                · simp only [if_true]
                  exact key (by simp)
              · simp only [if_neg c5]
                exact key (by rw [p127]; omega)
            · simp only [if_neg c4]
              exact key (by rw [p127]; omega)
          · simp only [if_neg c3]
            exact key (by omega)
theorem pow64 {n : Nat} (h : isW n = true) : n ≤ 64 ∧ 8 ≤ n := by have := isW_cases h; omega
theorem lead_ones_eq {n : Nat} (h : n ≤ 64) : lead_ones.f (n : Int) = some ((2 ^ n - 1 : Nat) : Int) := by
  unfold lead_ones.f
  by_cases h1 : n = 64
  · subst h1; rfl
  · rw [if_neg (by omega), if_pos (by omega)]
    have e := shl_nat 1 n h
    have e' : shl .u64 1 (n : Int) = _ := e
    have hp : 2 ^ n < 2 ^ 64 := pow_lt (by omega)
    have hp0 := two_pos n
    rw [p64] at hp
    rw [e', Nat.one_mul, Nat.mod_eq_of_lt hp, u64_of (by omega) (by omega)]
    congr 1
    omega
theorem shape_Fold_eq {n x : Nat} (h : isW n = true) (hx : x < 18446744073709551616) : shape_Fold.f (n : Int) (x : Int) = some (((x % 2 ^ n : Nat) : Int), none) := by
  have hb := pow64 h
  unfold shape_Fold.f lead_Mask.f
  simp only [shape_is_eq, h, if_true, Option.bind_some, if_neg (show ¬ (n : Int) < 0 by omega), if_neg (show ¬ (n : Int) > 64 by omega), lead_ones_eq hb.1]
  rw [and_mask x n hx hb.1]
theorem neg_wrap {p : Nat} (h : p < 18446744073709551616) : IntKind.u64.wrap (-(p : Int)) = (((18446744073709551616 - p) % 18446744073709551616 : Nat) : Int) := by
  rw [u64_wrap]; omega
theorem and_one {p : Nat} (h : p < 18446744073709551616) : Go.bits .and .u64 (p : Int) 1 = ((p % 2 : Nat) : Int) := by
  have := and_mask p 1 h (by decide)
  simpa using this
theorem round_Round_eq {n hi lo : Nat} {kd sc : Int} {ng rs : Bool} (hn : isW n = true) (hh : hi < 18446744073709551616) (hl : lo < 18446744073709551616) (h : soundE kd ng sc hi lo rs = true) :
    Ev (fun k => round_Round.f k n kd ng sc hi lo rs) (((rnd n kd ng sc (hi * 18446744073709551616 + lo) rs : Nat) : Int), none) := by
  obtain ⟨b64, b8⟩ := pow64 hn
  unfold round_Round.f
  refine Ev.bind (round_Cut_eq hn hh hl h) ?_
  have hV : hi * 18446744073709551616 + lo < 2 ^ 128 := by rw [p128]; omega
  have hb := cutE_bounds (kd := kd) (sc := sc) (R := rs) b64 b8 hV
  unfold rnd
  generalize cutE n kd sc (hi * 18446744073709551616 + lo) rs = c at hb
  obtain ⟨c1, c2⟩ := c
  simp only at hb
  obtain ⟨p, rfl⟩ := Int.eq_ofNat_of_zero_le hb.1
  have hp1 : p ≤ 2 ^ (n - 1) := by omega
  have hp2 : 2 ^ (n - 1) < 2 ^ 64 := pow_lt (by omega)
  have hp3 : 2 ^ (n - 1) + 1 < 2 ^ n := by
    have : 2 ^ n = 2 * 2 ^ (n - 1) := by rw [show n = n - 1 + 1 by omega, Nat.pow_succ]; simp; omega
    have : 2 ^ 1 ≤ 2 ^ (n - 1) := pow_le (by omega)
    omega
  have hp4 : (2 : Nat) ^ n ≤ 2 ^ 64 := pow_le b64
  rw [p64] at hp2 hp4
  have fo : ∀ x : Nat, x < 2 ^ n → shape_Fold.f (n : Int) (x : Int) = some ((x : Int), none) := fun x hx => by
    rw [shape_Fold_eq hn (by omega), Nat.mod_eq_of_lt hx]
  have fn : ∀ x : Nat, x < 2 ^ n → shape_Fold.f (n : Int) (IntKind.u64.wrap (-(x : Int))) = some (((negN n x : Nat) : Int), none) := fun x hx => by
    rw [neg_wrap (by omega), shape_Fold_eq hn (Nat.mod_lt _ (by decide))]; rfl
  have e1 : IntKind.u64.wrap ((p : Int) + 1) = ((p + 1 : Nat) : Int) := by rw [u64_of (by omega) (by omega)]; omega
  refine evn ?_
  simp only [Option.isNone_none, if_true, e1, fo p (by omega), fo (p + 1) (by omega), fn p (by omega), fn (p + 1) (by omega), Option.bind_some, and_one (show p < 18446744073709551616 by omega), Int.toNat_natCast]
  by_cases k2 : c2 = 2
  · subst k2
    by_cases hp : p % 2 = 0
    · simp only [if_true, if_pos (show ((p % 2 : Nat) : Int) = 0 by omega)]
      cases ng <;> simp [hp]
    · have hp' : p % 2 = 1 := by omega
      simp only [if_true, if_neg (show ¬ ((p % 2 : Nat) : Int) = 0 by omega)]
      cases ng <;> simp [hp']
  · by_cases k3 : c2 = 3
    · subst k3
      cases ng <;> simp
    · simp only [if_neg k2, if_neg k3]
      cases ng <;> simp [k2, k3]
def mkV (m : Nat) : Nat := if bl m ≤ 128 then m * 2 ^ (128 - bl m) else m / 2 ^ (bl m - 128)
def mkR (m : Nat) (R : Bool) : Bool := R || decide (m % 2 ^ (bl m - 128) ≠ 0)
def farI (e : Int) : Int := if e < -4398046511104 then -4398046511104 else if 4398046511104 < e then 4398046511104 else e
theorem farI_bounds (e : Int) : -4398046511104 ≤ farI e ∧ farI e ≤ 4398046511104 := by
  unfold farI
  repeat' split
  all_goals omega
theorem farI_mx (e : Int) : mx (-4398046511104) (mn e 4398046511104) = farI e := by
  unfold mx mn farI
  repeat' split
  all_goals omega
theorem T_zero {V : Nat} (h : V ≠ 0) : ¬ (TH V == 0 && TL V == 0) = true := by
  intro hc
  simp only [Bool.and_eq_true, beq_iff_eq] at hc
  unfold TH TL at hc; omega
def makeV (ng : Bool) (V : Nat) (e : Int) (R : Bool) : Int × Bool × Int × Int × Int × Bool × Option Int :=
  if V = 0 then (0, false, 0, 0, 0, false, none)
  else (1, ng, heldI (farI e + (bl V : Int) - 1), TH (mkV V), TL (mkV V), R, none)
theorem round_Make_j0 (ng : Bool) (V : Nat) (e : Int) (R : Bool) (hV : V < 2 ^ 128) : Ev (fun k => round_Make.j0 k ng (TH V) (TL V) e R false) (makeV ng V e R) := by
  refine evs ?_
  simp only [round_Make.j0, Bool.false_eq_true, if_false]
  unfold makeV
  by_cases h2 : V = 0
  · subst h2
    have t : twin_Norm.f (TH 0) (TL 0) = some (0, 0, 0) := twin_Norm_zero
    rw [if_pos rfl, t]
    exact Ev.now _
  · rw [if_neg h2]
    simp only [twin_Norm_eq V hV (by omega), Option.bind_some]
    have c1 := bl_le_of_lt hV
    have c2 := bl_pos (x := V) (by omega)
    have hm : mkV V = V * 2 ^ (128 - bl V) := by unfold mkV; rw [if_pos c1]
    rw [← hm]
    have hpos : mkV V ≠ 0 := by
      have : 0 < mkV V := by rw [hm]; exact Nat.mul_pos (by omega) (two_pos _)
      omega
    rw [if_neg (T_zero hpos), round_held_eq, Option.bind_some, farI_mx]
    have hfb := farI_bounds e
    rw [w64 (n := farI e + 127) (by omega) (by omega), w64 (by omega) (by omega)]
    have ee : farI e + 127 - ((128 - bl V : Nat) : Int) = farI e + (bl V : Int) - 1 := by omega
    rw [ee]
    exact Ev.now _
theorem round_Make_bad (ng : Bool) (hi lo e : Int) (R : Bool) : Ev (fun k => round_Make.j0 k ng hi lo e R true) (0, false, 0, 0, 0, false, some 1) := by
  refine evs ?_
  simp only [round_Make.j0, if_true]
  exact Ev.now _
theorem round_Make_eq (ng : Bool) (V : Nat) (e : Int) (R : Bool) (hV : V < 2 ^ 128) :
    Ev (fun k => round_Make.f k ng (TH V) (TL V) e R) (if R = true ∧ V < 2 ^ 127 then (0, false, 0, 0, 0, false, some 1) else makeV ng V e R) := by
  unfold round_Make.f
  cases R
  · rw [if_neg (fun h => Bool.noConfusion h.1)]
    exact Ev.congr (f := fun k => round_Make.j0 k ng (TH V) (TL V) e false false) (fun _ => by rw [if_neg Bool.false_ne_true]) (round_Make_j0 ng V e false hV)
  · refine Ev.congr (f := fun k => round_Make.j0 k ng (TH V) (TL V) e true (TH V / 9223372036854775808 == 0)) (fun _ => by rw [if_pos rfl]) ?_
    by_cases h : V < 2 ^ 127
    · rw [if_pos ⟨rfl, h⟩]
      have hb : (TH V / 9223372036854775808 == 0) = true := by
        rw [beq_iff_eq]; unfold TH; rw [p127] at h; omega
      rw [hb]
      exact round_Make_bad ng _ _ e true
    · rw [if_neg (fun hh => h hh.2)]
      have hb : (TH V / 9223372036854775808 == 0) = false := by
        rw [beq_eq_false_iff_ne]; unfold TH; rw [p127] at h; omega
      rw [hb]
      exact round_Make_j0 ng V e true hV
end Go.Proofs.Ytfegofnplcmacaa.V
namespace Go.Proofs.Ytfegofnplcmacaa.PAll
open Go.RowKit Go.Proofs.YtfegofnplcmacaaW.PrintWords Go.Proofs.YtfegofnplcmacaaW.PrintLast Go.Proofs.YtfegofnplcmacaaW.PrintMore
attribute [local go_sem] max2_int min2_int max_two min_two max_three min_three max_four min_four
set_option linter.unusedVariables false
set_option linter.unusedSimpArgs false
def vernierref01_Text.l0 : Nat → Int → List Int → Int → Option (ByteArray)
  | 0, _, _, _ => none
  | k + 1, x0, x5, x6 => if x6 ≥ 0 then (if 0 ≤ x6 then (if x5.length < 140737488355328 then (vernierref01_Text.l0 k x0 (x5 ++ [(48 + (Int.tmod (shr .u64 x0 x6) 2)) % 256]) (wrap64 (x6 - 1))) else (none)) else (none)) else (some (strOfNums x5))
def vernierref01_Text.f (k : Nat) (a0 : Int) (a1 : Int) : Option (ByteArray) := vernierref01_Text.l0 k a0 ([] : List Int) (wrap64 (a1 - 1))
theorem vernierref01_Text.mono_l : ∀ k, (∀ y0 y1 y2, LeO (vernierref01_Text.l0 k y0 y1 y2) (vernierref01_Text.l0 (k + 1) y0 y1 y2))
  | 0 => fun _ _ _ r h => by simp [vernierref01_Text.l0] at h
  | k + 1 => by
    have ih0 := vernierref01_Text.mono_l k
    · intro y0 y1 y2
      unfold vernierref01_Text.l0
      repeat' first
      | (with_reducible exact ih0 _ _ _)
      | (with_reducible exact LeO.refl _)
      | (with_reducible exact LeO.none _)
      | (with_reducible refine LeO.ite ?_ ?_)
      | (with_reducible refine LeO.bind ?_ (fun _ => ?_))
      | exact ih0 _ _ _
      | exact LeO.none _
      | refine LeO.ite ?_ ?_
      | refine LeO.bind ?_ (fun _ => ?_)
theorem vernierref01_Text.mono : ∀ a0 a1 k, LeO (vernierref01_Text.f k a0 a1) (vernierref01_Text.f (k + 1) a0 a1) := by
  intro a0 a1 k
  have ih0 := vernierref01_Text.mono_l k
  unfold vernierref01_Text.f
  repeat' first
      | (with_reducible exact ih0 _ _ _)
      | (with_reducible exact LeO.refl _)
      | (with_reducible exact LeO.none _)
      | (with_reducible refine LeO.ite ?_ ?_)
      | (with_reducible refine LeO.bind ?_ (fun _ => ?_))
      | exact ih0 _ _ _
      | exact LeO.none _
      | refine LeO.ite ?_ ?_
      | refine LeO.bind ?_ (fun _ => ?_)
set_option maxHeartbeats 8000000 in
set_option maxRecDepth 100000 in
theorem vernierref01_Text.calls (k : Nat) (a0 : Int) (a1 : Int) (r : ByteArray) (w : World) (h : vernierref01_Text.f k a0 a1 = some r) :
    Calls Try.prog 32 #[.int .u64 a0, .int .i64 a1] w fun e w' => e = .returned (.string r) ∧ Below w.heap.size w w' := by
  have HB := Aside0.mk (Below.refl w.heap.size w)
  have H : (vernierref01_Text.l0 k a0 ([] : List Int) (wrap64 (a1 - 1))) = some r := h
  clear h
  have H' := Aside0.mk H
  clear H
  go_enter Try.func32, Try.ntmps32
  go_wp2
  go_loopg [5, 6] k (fun kq v5 v6 w' => ∃ (x5_1 : List Int) (x6_1 : Int), v6 = .int .i64 x6_1 ∧ Aside0 (vernierref01_Text.l0 kq a0 x5_1 x6_1 = some r) ∧ Aside0 (kq ≤ k) ∧ Aside0 (Kd.R (Kd.int .u8) 5 w' w.heap.size (fun _ => True) v5 x5_1) ∧ Aside0 (Below w.heap.size w w'))
  case atStart => exact ⟨(([] : List Int)), (wrap64 (a1 - 1)), (by first | rfl | (simp; done) | (simp [*]; done)), H', ⟨Nat.le_refl _⟩, ⟨by first | exact Kd.R_nil _ _ _ _ _ | exact Kd.N_nil _ _ _ _ _ | exact Kd.V_nil _ _ _ _ _ | exact Kd.Q_nil _ _ _ _ _ | exact Kd.S_nil _ _ _ _ _⟩, ⟨by repeat (first | (with_reducible first | exact HB.out | apply below_alloc | apply pw_below_drewN | apply below_drew1) | exact HB.out)⟩⟩
  case round =>
    clear H'
    try clear p2
    obtain ⟨x5_1, x6_1, rfl, HA, HK1, HO_5, HB⟩ := hrel
    cases gk with
    | zero => exact absurd HA.out (by simp [vernierref01_Text.l0])
    | succ k1 =>
      have H := HA.out
      clear HA
      simp only [vernierref01_Text.l0] at H
      by_cases c3 : x6_1 ≥ 0
      · rw [if_pos c3] at H
        have c3b0 : decide (0 ≤ x6_1) = true := decide_eq_true c3
        clear c3
        by_cases c4 : 0 ≤ x6_1
        · rw [if_pos c4] at H
          have c4b0 := eq_true c4
          have c4b1 : decide (0 ≤ x6_1) = true := decide_eq_true c4
          clear c4
          obtain ⟨ji5, hji5⟩ : ∃ j_ : Int, (shr .u64 a0 x6_1) = j_ := ⟨_, rfl⟩
          replace H : (if x5_1.length < 140737488355328 then (vernierref01_Text.l0 k1 a0 (x5_1 ++ [(48 + (Int.tmod (ji5) 2)) % 256]) (wrap64 (x6_1 - 1))) else (none)) = some r := by first | (rw [hji5] at H; exact H) | (simp only [hji5] at H ⊢; exact H)
          have hji5_ : (a0 / 2 ^ min x6_1.toNat 64) = ji5 := hji5
          have hji5z : x6_1 ≤ 64 → (a0 / 2 ^ x6_1.toNat) = ji5 := shr_small hji5
          (try (have hji5Z_ := hji5z (by omega)))
          by_cases c6 : x5_1.length < 140737488355328
          · rw [if_pos c6] at H
            have LMc6 := Aside0.mk c6
            clear c6
            obtain ⟨y200, hy200⟩ : ∃ y_ : List Int, y_ = (x5_1 ++ [(48 + (Int.tmod (ji5) 2)) % 256]) := ⟨_, rfl⟩
            replace H : (vernierref01_Text.l0 k1 a0 y200 (wrap64 (x6_1 - 1))) = some r := by first | (rw [hy200]; with_reducible exact H) | (have H2_ := (Option.bind_some _ _).symm.trans H; rw [hy200]; with_reducible exact H2_) | (have H2_ := (Option.bind_some _ _).symm.trans H; with_reducible exact H2_) | with_reducible exact H | (rw [hy200]; exact H) | exact H
            have Ny200 := Aside0.mk hy200
            clear hy200
            have H' := Aside0.mk H
            clear H
            go_wp2_with (first | ((with_reducible refine gate_builtin (b := .append) (xs := #[.tmp 13, .tmp 20]) rfl ?_); at_builtin; refine Kd.R_append (Kd.int .u8) (w0 := w) w.heap.size rfl (.tmp 13) (.tmp 20) 97 5 (.int .u8 0) 1 rfl Try.underlying97 info5 rfl (by decide) (by omega) u5 x5_1 ((48 + (Int.tmod (ji5) 2)) % 256) [.int .u8 ((48 + (Int.tmod (ji5) 2)) % 256)] (fun _ => True) (fun _ => False) rfl rfl ?aP (fun _ hk => hk.elim) ?aF ?aO ?aB ?aS ?aL ?_; (case aP => exact rfl); (case aB => exact (by repeat (first | (with_reducible first | exact HB.out | apply below_alloc | apply pw_below_drewN | apply below_drew1) | exact HB.out))); (case aF => exact (fun _ _ => trivial)); (case aO => exact (by (with_reducible repeat (first | apply Kd.R_alloc | apply Kd.R_drewN | apply Kd.R_drew)); exact HO_5.out)); (case aS => exact (below_size (by repeat (first | (with_reducible first | exact HB.out | apply below_alloc | apply pw_below_drewN | apply below_drew1) | exact HB.out)))); (case aL => have := LMc6.out; omega); intro v201 w7 ho hb hg hat; rw [← Ny200.out] at ho; have n0_ := Aside0.mk (hb); have n1_ := Aside0.mk (ho); clear HB; clear HO_5; have HB := n0_; have HO202 := n1_; clear n0_ n1_; clear ho hb hg hat))
            go_roundg k1
            case measure => have := HK1.out; omega
            case rel => exact ⟨(y200), (wrap64 (x6_1 - 1)), (by first | rfl | (simp; done) | (simp [*]; done)), H', ⟨by have := HK1.out; omega⟩, ⟨by (with_reducible repeat (first | apply Kd.R_alloc | apply Kd.R_drewN | apply Kd.R_drew)); exact HO202.out⟩, ⟨by repeat (first | (with_reducible first | exact HB.out | apply below_alloc | apply pw_below_drewN | apply below_drew1) | exact HB.out)⟩⟩
          · rw [if_neg c6] at H
            exact absurd H (by simp)
        · rw [if_neg c4] at H
          exact absurd H (by simp)
      · rw [if_neg c3] at H
        have c3b0 : decide (0 ≤ x6_1) = false := decide_eq_false c3
        clear c3
        obtain rfl := Option.some.inj H
        have hcv8 := own_string (P := Try.prog) Try.underlying97 Try.underlying5 Try.underlying9 (Kd.own_of_R HO_5.out)
        go_wp2
        go_ret
        exact ⟨by first | rfl | (simp [errW_none, errW_some] <;> rfl) | (simp [*, errW_none, errW_some] <;> rfl), by repeat (first | (with_reducible first | exact HB.out | apply below_alloc | apply pw_below_drewN | apply below_drew1) | exact HB.out)⟩
end Go.Proofs.Ytfegofnplcmacaa.PAll
namespace Go.Proofs.Ytfegofnplcmacaa.PAll
open Go.RowKit Go.Proofs.YtfegofnplcmacaaW.PrintWords Go.Proofs.YtfegofnplcmacaaW.PrintLast Go.Proofs.YtfegofnplcmacaaW.PrintMore
attribute [local go_sem] max2_int min2_int max_two min_two max_three min_three max_four min_four
set_option linter.unusedVariables false
set_option linter.unusedSimpArgs false
def vernierref07_some.l0 : Nat → ByteArray → Int → Option (Bool)
  | 0, _, _ => none
  | k + 1, x0, x3 => if x3 < (x0.size : Int) then (if 0 ≤ x3 then (if (bt x0 x3) = 49 then (some true) else (vernierref07_some.l0 k x0 (wrap64 (x3 + 1)))) else (none)) else (some false)
def vernierref07_some.f (k : Nat) (a0 : ByteArray) : Option (Bool) := vernierref07_some.l0 k a0 0
theorem vernierref07_some.mono_l : ∀ k, (∀ y0 y1, LeO (vernierref07_some.l0 k y0 y1) (vernierref07_some.l0 (k + 1) y0 y1))
  | 0 => fun _ _ r h => by simp [vernierref07_some.l0] at h
  | k + 1 => by
    have ih0 := vernierref07_some.mono_l k
    · intro y0 y1
      unfold vernierref07_some.l0
      repeat' first
      | (with_reducible exact ih0 _ _)
      | (with_reducible exact LeO.refl _)
      | (with_reducible exact LeO.none _)
      | (with_reducible refine LeO.ite ?_ ?_)
      | (with_reducible refine LeO.bind ?_ (fun _ => ?_))
      | exact ih0 _ _
      | exact LeO.none _
      | refine LeO.ite ?_ ?_
      | refine LeO.bind ?_ (fun _ => ?_)
theorem vernierref07_some.mono : ∀ a0 k, LeO (vernierref07_some.f k a0) (vernierref07_some.f (k + 1) a0) := by
  intro a0 k
  have ih0 := vernierref07_some.mono_l k
  unfold vernierref07_some.f
  repeat' first
      | (with_reducible exact ih0 _ _)
      | (with_reducible exact LeO.refl _)
      | (with_reducible exact LeO.none _)
      | (with_reducible refine LeO.ite ?_ ?_)
      | (with_reducible refine LeO.bind ?_ (fun _ => ?_))
      | exact ih0 _ _
      | exact LeO.none _
      | refine LeO.ite ?_ ?_
      | refine LeO.bind ?_ (fun _ => ?_)
set_option maxHeartbeats 8000000 in
set_option maxRecDepth 100000 in
theorem vernierref07_some.calls (k : Nat) (a0 : ByteArray) (r : Bool) (w : World) (h : vernierref07_some.f k a0 = some r) :
    Calls Try.prog 33 #[.string a0] w fun e w' => e = .returned (.bool r) ∧ Drawn0 w w' := by
  have H : (vernierref07_some.l0 k a0 0) = some r := h
  clear h
  have H' := Aside0.mk H
  clear H
  go_enter Try.func33, Try.ntmps33
  go_wp2
  go_loopg [3] k (fun kq v3 w' => ∃ (x3_1 : Int), v3 = .int .i64 x3_1 ∧ Aside0 (vernierref07_some.l0 kq a0 x3_1 = some r) ∧ Aside0 (kq ≤ k) ∧ Drawn0 w w')
  case atStart => exact ⟨(0), (by first | rfl | (simp; done) | (simp [*]; done)), H', ⟨Nat.le_refl _⟩, by repeat (first | exact Drawn0.refl _ | apply Drawn0.step)⟩
  case round =>
    clear H'
    obtain ⟨x3_1, rfl, HA, HK1, ⟨m1, rfl⟩⟩ := hrel
    cases gk with
    | zero => exact absurd HA.out (by simp [vernierref07_some.l0])
    | succ k1 =>
      have H := HA.out
      clear HA
      simp only [vernierref07_some.l0] at H
      by_cases c2 : x3_1 < (a0.size : Int)
      · rw [if_pos c2] at H
        have c2b0 : decide (x3_1 < (a0.size : Int)) = true := decide_eq_true c2
        clear c2
        by_cases c3 : 0 ≤ x3_1
        · rw [if_pos c3] at H
          have c3b0 : decide (0 ≤ x3_1) = true := decide_eq_true c3
          clear c3
          by_cases c5 : (bt a0 x3_1) = 49
          · rw [if_pos c5] at H
            have c5b0 : ((bt a0 x3_1) == 49) = true := beq_iff_eq.mpr c5
            have c5b1 : ((bt a0 x3_1) != 49) = false := bne_eq_false_iff_eq.mpr c5
            clear c5
            obtain rfl := Option.some.inj H
            have p4 : 0 ≤ (x3_1 : Int) := of_decide_eq_true (by first | (with_reducible assumption) | assumption)
            have q4 : x3_1 < (a0.size : Int) := of_decide_eq_true (by first | (with_reducible assumption) | assumption)
            have hx4 := bt_at a0 x3_1
            replace p4 := eq_true p4
            replace q4 := eq_true q4
            go_wp2
            go_ret
            exact ⟨by first | rfl | (simp; done) | (simp [*]; done), by repeat (first | exact Drawn0.refl _ | apply Drawn0.step)⟩
          · rw [if_neg c5] at H
            have c5b0 : ((bt a0 x3_1) == 49) = false := beq_eq_false_iff_ne.mpr c5
            have c5b1 : ((bt a0 x3_1) != 49) = true := bne_iff_ne.mpr c5
            have H' := Aside0.mk H
            clear H
            have p4 : 0 ≤ (x3_1 : Int) := of_decide_eq_true (by first | (with_reducible assumption) | assumption)
            have q4 : x3_1 < (a0.size : Int) := of_decide_eq_true (by first | (with_reducible assumption) | assumption)
            have hx4 := bt_at a0 x3_1
            replace p4 := eq_true p4
            replace q4 := eq_true q4
            go_wp2
            go_roundg k1
            case measure => have := HK1.out; omega
            case rel => exact ⟨(wrap64 (x3_1 + 1)), (by first | rfl | (simp; done) | (simp [*]; done)), H', ⟨by have := HK1.out; omega⟩, by repeat (first | exact Drawn0.refl _ | apply Drawn0.step)⟩
        · rw [if_neg c3] at H
          exact absurd H (by simp)
      · rw [if_neg c2] at H
        have c2b0 : decide (x3_1 < (a0.size : Int)) = false := decide_eq_false c2
        clear c2
        obtain rfl := Option.some.inj H
        go_wp2
        go_ret
        exact ⟨by first | rfl | (simp; done) | (simp [*]; done), by repeat (first | exact Drawn0.refl _ | apply Drawn0.step)⟩
end Go.Proofs.Ytfegofnplcmacaa.PAll
namespace Go.Proofs.Ytfegofnplcmacaa.PAll
open Go.RowKit Go.Proofs.YtfegofnplcmacaaW.PrintWords Go.Proofs.YtfegofnplcmacaaW.PrintLast Go.Proofs.YtfegofnplcmacaaW.PrintMore
attribute [local go_sem] max2_int min2_int max_two min_two max_three min_three max_four min_four
set_option linter.unusedVariables false
set_option linter.unusedSimpArgs false
def vernierref01_Number.l0 : Nat → ByteArray → Int → Int → Option (Int)
  | 0, _, _, _ => none
  | k + 1, x0, x3, x4 => if x4 < (x0.size : Int) then (if 0 ≤ x4 then (vernierref01_Number.l0 k x0 (IntKind.u64.wrap ((IntKind.u64.wrap (2 * x3)) + (((bt x0 x4) - 48) % 256))) (wrap64 (x4 + 1))) else (none)) else (some x3)
def vernierref01_Number.f (k : Nat) (a0 : ByteArray) : Option (Int) := vernierref01_Number.l0 k a0 0 0
theorem vernierref01_Number.mono_l : ∀ k, (∀ y0 y1 y2, LeO (vernierref01_Number.l0 k y0 y1 y2) (vernierref01_Number.l0 (k + 1) y0 y1 y2))
  | 0 => fun _ _ _ r h => by simp [vernierref01_Number.l0] at h
  | k + 1 => by
    have ih0 := vernierref01_Number.mono_l k
    · intro y0 y1 y2
      unfold vernierref01_Number.l0
      repeat' first
      | (with_reducible exact ih0 _ _ _)
      | (with_reducible exact LeO.refl _)
      | (with_reducible exact LeO.none _)
      | (with_reducible refine LeO.ite ?_ ?_)
      | (with_reducible refine LeO.bind ?_ (fun _ => ?_))
      | exact ih0 _ _ _
      | exact LeO.none _
      | refine LeO.ite ?_ ?_
      | refine LeO.bind ?_ (fun _ => ?_)
theorem vernierref01_Number.mono : ∀ a0 k, LeO (vernierref01_Number.f k a0) (vernierref01_Number.f (k + 1) a0) := by
  intro a0 k
  have ih0 := vernierref01_Number.mono_l k
  unfold vernierref01_Number.f
  repeat' first
      | (with_reducible exact ih0 _ _ _)
      | (with_reducible exact LeO.refl _)
      | (with_reducible exact LeO.none _)
      | (with_reducible refine LeO.ite ?_ ?_)
      | (with_reducible refine LeO.bind ?_ (fun _ => ?_))
      | exact ih0 _ _ _
      | exact LeO.none _
      | refine LeO.ite ?_ ?_
      | refine LeO.bind ?_ (fun _ => ?_)
set_option maxHeartbeats 8000000 in
set_option maxRecDepth 100000 in
theorem vernierref01_Number.calls (k : Nat) (a0 : ByteArray) (r : Int) (w : World) (h : vernierref01_Number.f k a0 = some r) :
    Calls Try.prog 35 #[.string a0] w fun e w' => e = .returned (.int .u64 r) ∧ Drawn0 w w' := by
  have H : (vernierref01_Number.l0 k a0 0 0) = some r := h
  clear h
  have H' := Aside0.mk H
  clear H
  go_enter Try.func35, Try.ntmps35
  go_wp2
  go_loopg [3, 4] k (fun kq v3 v4 w' => ∃ (x3_1 : Int) (x4_1 : Int), v3 = .int .u64 x3_1 ∧ v4 = .int .i64 x4_1 ∧ Aside0 (vernierref01_Number.l0 kq a0 x3_1 x4_1 = some r) ∧ Aside0 (kq ≤ k) ∧ Drawn0 w w')
  case atStart => exact ⟨(0), (0), (by first | rfl | (simp; done) | (simp [*]; done)), (by first | rfl | (simp; done) | (simp [*]; done)), H', ⟨Nat.le_refl _⟩, by repeat (first | exact Drawn0.refl _ | apply Drawn0.step)⟩
  case round =>
    clear H'
    obtain ⟨x3_1, x4_1, rfl, rfl, HA, HK1, ⟨m1, rfl⟩⟩ := hrel
    cases gk with
    | zero => exact absurd HA.out (by simp [vernierref01_Number.l0])
    | succ k1 =>
      have H := HA.out
      clear HA
      simp only [vernierref01_Number.l0] at H
      by_cases c2 : x4_1 < (a0.size : Int)
      · rw [if_pos c2] at H
        have c2b0 : decide (x4_1 < (a0.size : Int)) = true := decide_eq_true c2
        clear c2
        by_cases c3 : 0 ≤ x4_1
        · rw [if_pos c3] at H
          have c3b0 : decide (0 ≤ x4_1) = true := decide_eq_true c3
          clear c3
          have H' := Aside0.mk H
          clear H
          have p4 : 0 ≤ (x4_1 : Int) := of_decide_eq_true (by first | (with_reducible assumption) | assumption)
          have q4 : x4_1 < (a0.size : Int) := of_decide_eq_true (by first | (with_reducible assumption) | assumption)
          have hx4 := bt_at a0 x4_1
          replace p4 := eq_true p4
          replace q4 := eq_true q4
          go_wp2
          go_roundg k1
          case measure => have := HK1.out; omega
          case rel => exact ⟨(IntKind.u64.wrap ((IntKind.u64.wrap (2 * x3_1)) + (((bt a0 x4_1) - 48) % 256))), (wrap64 (x4_1 + 1)), (by first | rfl | (simp; done) | (simp [*]; done)), (by first | rfl | (simp; done) | (simp [*]; done)), H', ⟨by have := HK1.out; omega⟩, by repeat (first | exact Drawn0.refl _ | apply Drawn0.step)⟩
        · rw [if_neg c3] at H
          exact absurd H (by simp)
      · rw [if_neg c2] at H
        have c2b0 : decide (x4_1 < (a0.size : Int)) = false := decide_eq_false c2
        clear c2
        obtain rfl := Option.some.inj H
        go_wp2
        go_ret
        exact ⟨by first | rfl | (simp; done) | (simp [*]; done), by repeat (first | exact Drawn0.refl _ | apply Drawn0.step)⟩
end Go.Proofs.Ytfegofnplcmacaa.PAll
