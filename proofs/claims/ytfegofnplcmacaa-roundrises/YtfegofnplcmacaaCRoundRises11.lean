-- Written by a program of this session out of its own texts (wip/tools/link.py).
import Derived.ArgAppend
import Derived.Below
import Derived.BigQuiet
import Derived.Deep.AppendLies
import Derived.Deep.CutBlock
import Derived.Deep.DeepCutAuto
import Derived.Deep.Draws
import Derived.Deep.LoopGhost
import Derived.Deep.OwnRows
import Derived.Deep.QuietTactic
import Derived.Deep.RegionHeld3
import Derived.KernelRfl
import Derived.LaidEql
import Derived.Laws.BitsLemmas
import Derived.Laws.BytesArg
import Derived.Laws.IdiomCopy
import Derived.Laws.MakeOwn
import Derived.Laws.OwnMore
import Derived.Laws.Rows
import Derived.Laws.Slices
import Derived.Laws.StructEq
import Derived.Lib.AppendStr
import Derived.Lib.BitFns
import Derived.Lib.ConvBytes
import Derived.Lib.Slices
import Derived.Lib.Small
import Derived.Lib.Strings
import Derived.Lib.Walk
import Derived.Maps.AppendAt
import Derived.OrdersHeld
import Derived.OwnWalk
import Derived.RowKit
import Derived.RowKit3
import Derived.Tactics
import Derived.Test.YtfegofnplcmacaaProg
import Derived.WalkKit
import Derived.WideLaws
import Derived.Test.YtfegofnplcmacaaCRoundRises8
import Derived.Test.YtfegofnplcmacaaCRoundRises9
import Derived.Test.YtfegofnplcmacaaCRoundRises10
namespace Go.Proofs.Ytfegofnplcmacaa.PAll
open Go.RowKit Go.Proofs.YtfegofnplcmacaaW.PrintWords Go.Proofs.YtfegofnplcmacaaW.PrintLast Go.Proofs.YtfegofnplcmacaaW.PrintMore
attribute [local go_sem] max2_int min2_int max_two min_two max_three min_three max_four min_four
set_option linter.unusedVariables false
set_option linter.unusedSimpArgs false
def vernierref05_Is.f (a0 : Int) : Option (Bool) := if a0 = 8 then (some true) else (if a0 = 16 then (some true) else (if a0 = 32 then (some true) else (some (a0 == 64))))
set_option maxHeartbeats 8000000 in
set_option maxRecDepth 100000 in
theorem vernierref05_Is.calls (a0 : Int) (r : Bool) (w : World) (h : vernierref05_Is.f a0 = some r) :
    Calls Try.prog 17 #[.int .i64 a0] w fun e w' => e = .returned (.bool r) ∧ Drawn0 w w' := by
  have H : (if a0 = 8 then (some true) else (if a0 = 16 then (some true) else (if a0 = 32 then (some true) else (some (a0 == 64))))) = some r := h
  clear h
  by_cases c2 : a0 = 8
  · rw [if_pos c2] at H
    have c2b0 : (a0 == 8) = true := beq_iff_eq.mpr c2
    have c2b1 : (a0 != 8) = false := bne_eq_false_iff_eq.mpr c2
    clear c2
    obtain rfl := Option.some.inj H
    go_enter Try.func17, Try.ntmps17
    go_wp2
    go_ret
    exact ⟨by first | rfl | (simp; done) | (simp [*]; done), by repeat (first | exact Drawn0.refl _ | apply Drawn0.step)⟩
  · rw [if_neg c2] at H
    have c2b0 : (a0 == 8) = false := beq_eq_false_iff_ne.mpr c2
    have c2b1 : (a0 != 8) = true := bne_iff_ne.mpr c2
    by_cases c3 : a0 = 16
    · rw [if_pos c3] at H
      have c3b0 : (a0 == 16) = true := beq_iff_eq.mpr c3
      have c3b1 : (a0 != 16) = false := bne_eq_false_iff_eq.mpr c3
      clear c3
      obtain rfl := Option.some.inj H
      go_enter Try.func17, Try.ntmps17
      go_wp2
      go_ret
      exact ⟨by first | rfl | (simp; done) | (simp [*]; done), by repeat (first | exact Drawn0.refl _ | apply Drawn0.step)⟩
    · rw [if_neg c3] at H
      have c3b0 : (a0 == 16) = false := beq_eq_false_iff_ne.mpr c3
      have c3b1 : (a0 != 16) = true := bne_iff_ne.mpr c3
      by_cases c4 : a0 = 32
      · rw [if_pos c4] at H
        have c4b0 : (a0 == 32) = true := beq_iff_eq.mpr c4
        have c4b1 : (a0 != 32) = false := bne_eq_false_iff_eq.mpr c4
        clear c4
        obtain rfl := Option.some.inj H
        go_enter Try.func17, Try.ntmps17
        go_wp2
        go_ret
        exact ⟨by first | rfl | (simp; done) | (simp [*]; done), by repeat (first | exact Drawn0.refl _ | apply Drawn0.step)⟩
      · rw [if_neg c4] at H
        have c4b0 : (a0 == 32) = false := beq_eq_false_iff_ne.mpr c4
        have c4b1 : (a0 != 32) = true := bne_iff_ne.mpr c4
        obtain rfl := Option.some.inj H
        go_enter Try.func17, Try.ntmps17
        go_wp2
        go_ret
        exact ⟨by first | rfl | (simp; done) | (simp [*]; done), by repeat (first | exact Drawn0.refl _ | apply Drawn0.step)⟩
end Go.Proofs.Ytfegofnplcmacaa.PAll
namespace Go.Proofs.Ytfegofnplcmacaa.PAll
open Go.RowKit Go.Proofs.YtfegofnplcmacaaW.PrintWords Go.Proofs.YtfegofnplcmacaaW.PrintLast Go.Proofs.YtfegofnplcmacaaW.PrintMore
attribute [local go_sem] max2_int min2_int max_two min_two max_three min_three max_four min_four
set_option linter.unusedVariables false
set_option linter.unusedSimpArgs false
def vernierref07_sign.f (a0_0 : Int) (a0_1 : Bool) (a0_2 : Int) (a0_3 : Int) (a0_4 : Int) (a0_5 : Bool) : Option (Int) := if a0_0 = 1 then (if a0_1 = true then (some (-1)) else (some 1)) else (some 0)
set_option maxHeartbeats 8000000 in
set_option maxRecDepth 100000 in
theorem vernierref07_sign.calls (a0_0 : Int) (a0_1 : Bool) (a0_2 : Int) (a0_3 : Int) (a0_4 : Int) (a0_5 : Bool) (r : Int) (w : World) (h : vernierref07_sign.f a0_0 a0_1 a0_2 a0_3 a0_4 a0_5 = some r) :
    Calls Try.prog 40 #[.agg #[.int .i64 a0_0, .bool a0_1, .int .i64 a0_2, .int .u64 a0_3, .int .u64 a0_4, .bool a0_5]] w fun e w' => e = .returned (.int .i64 r) ∧ Below w.heap.size w w' := by
  have hu24 := Try.underlying24
  have HB := Aside0.mk (Below.refl w.heap.size w)
  have H : (if a0_0 = 1 then (if a0_1 = true then (some (-1)) else (some 1)) else (some 0)) = some r := h
  clear h
  by_cases c2 : a0_0 = 1
  · rw [if_pos c2] at H
    have c2b0 : (a0_0 == 1) = true := beq_iff_eq.mpr c2
    have c2b1 : (a0_0 != 1) = false := bne_eq_false_iff_eq.mpr c2
    clear c2
    by_cases c3 : a0_1 = true
    · subst c3
      have H1 : (some (-1)) = some r := by rw [if_pos rfl] at H; exact H
      clear H
      have H := H1
      clear H1
      obtain rfl := Option.some.inj H
      go_enter Try.func40, Try.ntmps40
      go_wp2_with (first | ((with_reducible refine gate_dst (N := 1) rfl ?_); refine box_event ?hg (N := 1) ?hd (cs := #[.int .i64 a0_0, .bool true, .int .i64 a0_2, .int .u64 a0_3, .int .u64 a0_4, .bool a0_5]) (t := 24) ?hr ?_; (case hd => rfl); (case hg => rfl); (case hr => first | (go_simp; done) | (go_simp; rfl)); intro gb261 hg w4 hbox hb; have n0_ := Aside0.mk (below_step (by repeat (first | (with_reducible first | exact HB.out | apply below_alloc | apply pw_below_drewN | apply below_drew1) | exact HB.out)) hb); have n1_ := Aside0.mk (hbox); have n2_ := Aside0.mk ((by rw [hg]; exact (below_size (by repeat (first | (with_reducible first | exact HB.out | apply below_alloc | apply pw_below_drewN | apply below_drew1) | exact HB.out))) : w.heap.size ≤ gb261)); have n3_ := Aside0.mk ((by rw [hg]; exact (below_size (by repeat (first | (with_reducible first | exact HB.out | apply below_alloc | apply pw_below_drewN | apply below_drew1) | exact HB.out))) : w.heap.size ≤ gb261)); clear HB; have HB := n0_; have BK261 := n1_; have GW261 := n2_; have GE261 := n3_; clear n0_ n1_ n2_ n3_; clear hb hbox hg; have hcz5_0 : w4.cell? ⟨gb261, 0, none⟩ = some (.int .i64 a0_0) := (blk_cell BK261.out 0).trans rfl; have hcz5_1 : w4.cell? ⟨gb261, 1, none⟩ = some (.bool true) := (blk_cell BK261.out 1).trans rfl; have hcz5_2 : w4.cell? ⟨gb261, 2, none⟩ = some (.int .i64 a0_2) := (blk_cell BK261.out 2).trans rfl; have hcz5_3 : w4.cell? ⟨gb261, 3, none⟩ = some (.int .u64 a0_3) := (blk_cell BK261.out 3).trans rfl; have hcz5_4 : w4.cell? ⟨gb261, 4, none⟩ = some (.int .u64 a0_4) := (blk_cell BK261.out 4).trans rfl; have hcz5_5 : w4.cell? ⟨gb261, 5, none⟩ = some (.bool a0_5) := (blk_cell BK261.out 5).trans rfl; have hfz5_0 := blk_frozen BK261.out 0; have hfz5_1 := blk_frozen BK261.out 1; have hfz5_2 := blk_frozen BK261.out 2; have hfz5_3 := blk_frozen BK261.out 3; have hfz5_4 := blk_frozen BK261.out 4; have hfz5_5 := blk_frozen BK261.out 5))
      go_ret
      exact ⟨by first | rfl | (simp [errW_none, errW_some] <;> rfl) | (simp [*, errW_none, errW_some] <;> rfl), by repeat (first | (with_reducible first | exact HB.out | apply below_alloc | apply pw_below_drewN | apply below_drew1 | refine below_set ?_ GE261.out) | exact HB.out)⟩
    · replace c3 := Bool.eq_false_iff.mpr c3
      subst c3
      have H1 : (some 1) = some r := by rw [if_neg (show ¬ (false = true) by decide)] at H; exact H
      clear H
      have H := H1
      clear H1
      obtain rfl := Option.some.inj H
      go_enter Try.func40, Try.ntmps40
      go_wp2_with (first | ((with_reducible refine gate_dst (N := 1) rfl ?_); refine box_event ?hg (N := 1) ?hd (cs := #[.int .i64 a0_0, .bool false, .int .i64 a0_2, .int .u64 a0_3, .int .u64 a0_4, .bool a0_5]) (t := 24) ?hr ?_; (case hd => rfl); (case hg => rfl); (case hr => first | (go_simp; done) | (go_simp; rfl)); intro gb261 hg w6 hbox hb; have n0_ := Aside0.mk (below_step (by repeat (first | (with_reducible first | exact HB.out | apply below_alloc | apply pw_below_drewN | apply below_drew1) | exact HB.out)) hb); have n1_ := Aside0.mk (hbox); have n2_ := Aside0.mk ((by rw [hg]; exact (below_size (by repeat (first | (with_reducible first | exact HB.out | apply below_alloc | apply pw_below_drewN | apply below_drew1) | exact HB.out))) : w.heap.size ≤ gb261)); have n3_ := Aside0.mk ((by rw [hg]; exact (below_size (by repeat (first | (with_reducible first | exact HB.out | apply below_alloc | apply pw_below_drewN | apply below_drew1) | exact HB.out))) : w.heap.size ≤ gb261)); clear HB; have HB := n0_; have BK261 := n1_; have GW261 := n2_; have GE261 := n3_; clear n0_ n1_ n2_ n3_; clear hb hbox hg; have hcz7_0 : w6.cell? ⟨gb261, 0, none⟩ = some (.int .i64 a0_0) := (blk_cell BK261.out 0).trans rfl; have hcz7_1 : w6.cell? ⟨gb261, 1, none⟩ = some (.bool false) := (blk_cell BK261.out 1).trans rfl; have hcz7_2 : w6.cell? ⟨gb261, 2, none⟩ = some (.int .i64 a0_2) := (blk_cell BK261.out 2).trans rfl; have hcz7_3 : w6.cell? ⟨gb261, 3, none⟩ = some (.int .u64 a0_3) := (blk_cell BK261.out 3).trans rfl; have hcz7_4 : w6.cell? ⟨gb261, 4, none⟩ = some (.int .u64 a0_4) := (blk_cell BK261.out 4).trans rfl; have hcz7_5 : w6.cell? ⟨gb261, 5, none⟩ = some (.bool a0_5) := (blk_cell BK261.out 5).trans rfl; have hfz7_0 := blk_frozen BK261.out 0; have hfz7_1 := blk_frozen BK261.out 1; have hfz7_2 := blk_frozen BK261.out 2; have hfz7_3 := blk_frozen BK261.out 3; have hfz7_4 := blk_frozen BK261.out 4; have hfz7_5 := blk_frozen BK261.out 5))
      go_ret
      exact ⟨by first | rfl | (simp [errW_none, errW_some] <;> rfl) | (simp [*, errW_none, errW_some] <;> rfl), by repeat (first | (with_reducible first | exact HB.out | apply below_alloc | apply pw_below_drewN | apply below_drew1 | refine below_set ?_ GE261.out) | exact HB.out)⟩
  · rw [if_neg c2] at H
    have c2b0 : (a0_0 == 1) = false := beq_eq_false_iff_ne.mpr c2
    have c2b1 : (a0_0 != 1) = true := bne_iff_ne.mpr c2
    obtain rfl := Option.some.inj H
    go_enter Try.func40, Try.ntmps40
    go_wp2_with (first | ((with_reducible refine gate_dst (N := 1) rfl ?_); refine box_event ?hg (N := 1) ?hd (cs := #[.int .i64 a0_0, .bool a0_1, .int .i64 a0_2, .int .u64 a0_3, .int .u64 a0_4, .bool a0_5]) (t := 24) ?hr ?_; (case hd => rfl); (case hg => rfl); (case hr => first | (go_simp; done) | (go_simp; rfl)); intro gb261 hg w8 hbox hb; have n0_ := Aside0.mk (below_step (by repeat (first | (with_reducible first | exact HB.out | apply below_alloc | apply pw_below_drewN | apply below_drew1) | exact HB.out)) hb); have n1_ := Aside0.mk (hbox); have n2_ := Aside0.mk ((by rw [hg]; exact (below_size (by repeat (first | (with_reducible first | exact HB.out | apply below_alloc | apply pw_below_drewN | apply below_drew1) | exact HB.out))) : w.heap.size ≤ gb261)); have n3_ := Aside0.mk ((by rw [hg]; exact (below_size (by repeat (first | (with_reducible first | exact HB.out | apply below_alloc | apply pw_below_drewN | apply below_drew1) | exact HB.out))) : w.heap.size ≤ gb261)); clear HB; have HB := n0_; have BK261 := n1_; have GW261 := n2_; have GE261 := n3_; clear n0_ n1_ n2_ n3_; clear hb hbox hg; have hcz9_0 : w8.cell? ⟨gb261, 0, none⟩ = some (.int .i64 a0_0) := (blk_cell BK261.out 0).trans rfl; have hcz9_1 : w8.cell? ⟨gb261, 1, none⟩ = some (.bool a0_1) := (blk_cell BK261.out 1).trans rfl; have hcz9_2 : w8.cell? ⟨gb261, 2, none⟩ = some (.int .i64 a0_2) := (blk_cell BK261.out 2).trans rfl; have hcz9_3 : w8.cell? ⟨gb261, 3, none⟩ = some (.int .u64 a0_3) := (blk_cell BK261.out 3).trans rfl; have hcz9_4 : w8.cell? ⟨gb261, 4, none⟩ = some (.int .u64 a0_4) := (blk_cell BK261.out 4).trans rfl; have hcz9_5 : w8.cell? ⟨gb261, 5, none⟩ = some (.bool a0_5) := (blk_cell BK261.out 5).trans rfl; have hfz9_0 := blk_frozen BK261.out 0; have hfz9_1 := blk_frozen BK261.out 1; have hfz9_2 := blk_frozen BK261.out 2; have hfz9_3 := blk_frozen BK261.out 3; have hfz9_4 := blk_frozen BK261.out 4; have hfz9_5 := blk_frozen BK261.out 5))
    go_ret
    exact ⟨by first | rfl | (simp [errW_none, errW_some] <;> rfl) | (simp [*, errW_none, errW_some] <;> rfl), by repeat (first | (with_reducible first | exact HB.out | apply below_alloc | apply pw_below_drewN | apply below_drew1 | refine below_set ?_ GE261.out) | exact HB.out)⟩
end Go.Proofs.Ytfegofnplcmacaa.PAll
namespace Go.Proofs.Ytfegofnplcmacaa.PAll
open Go.RowKit Go.Proofs.YtfegofnplcmacaaW.PrintWords Go.Proofs.YtfegofnplcmacaaW.PrintLast Go.Proofs.YtfegofnplcmacaaW.PrintMore
attribute [local go_sem] max2_int min2_int max_two min_two max_three min_three max_four min_four
set_option linter.unusedVariables false
set_option linter.unusedSimpArgs false
attribute [local go_sem high] eqA24
def vernierref07_Cmp.j0 : Nat → Int → Bool → Int → Bool → Int → Int → Int → Bool → Int → Bool → Int → Int → Int → Bool → Option (Int)
  | 0, _, _, _, _, _, _, _, _, _, _, _, _, _, _ => none
  | k + 1, x5, x19, x263000, x263001, x263002, x263003, x263004, x263005, x264000, x264001, x264002, x264003, x264004, x264005 => if x19 = true then (some 0) else (if x263002 < x264002 then (some (wrap64 (-x5))) else (if x263002 = x264002 then (if x263003 < x264003 then (some (wrap64 (-x5))) else (if x263003 = x264003 then (if x263004 < x264004 then (some (wrap64 (-x5))) else (some x5)) else (some x5))) else (some x5)))
def vernierref07_Cmp.f (k : Nat) (a0_0 : Int) (a0_1 : Bool) (a0_2 : Int) (a0_3 : Int) (a0_4 : Int) (a0_5 : Bool) (a1_0 : Int) (a1_1 : Bool) (a1_2 : Int) (a1_3 : Int) (a1_4 : Int) (a1_5 : Bool) : Option (Int) := (vernierref07_sign.f a0_0 a0_1 a0_2 a0_3 a0_4 a0_5).bind fun t264 => ((vernierref07_sign.f a1_0 a1_1 a1_2 a1_3 a1_4 a1_5).bind fun t265 => (if t264 < t265 then (some (-1)) else (if t264 > t265 then (some 1) else (if t264 = 0 then (vernierref07_Cmp.j0 k t264 true a0_0 a0_1 a0_2 a0_3 a0_4 a0_5 a1_0 a1_1 a1_2 a1_3 a1_4 a1_5) else (vernierref07_Cmp.j0 k t264 (a0_0 == a1_0 && (a0_1 == a1_1 && (a0_2 == a1_2 && (a0_3 == a1_3 && (a0_4 == a1_4 && (a0_5 == a1_5)))))) a0_0 a0_1 a0_2 a0_3 a0_4 a0_5 a1_0 a1_1 a1_2 a1_3 a1_4 a1_5)))))
theorem vernierref07_Cmp.mono_l : ∀ k, (∀ y0 y1 y2 y3 y4 y5 y6 y7 y8 y9 y10 y11 y12 y13, LeO (vernierref07_Cmp.j0 k y0 y1 y2 y3 y4 y5 y6 y7 y8 y9 y10 y11 y12 y13) (vernierref07_Cmp.j0 (k + 1) y0 y1 y2 y3 y4 y5 y6 y7 y8 y9 y10 y11 y12 y13))
  | 0 => fun _ _ _ _ _ _ _ _ _ _ _ _ _ _ r h => by simp [vernierref07_Cmp.j0] at h
  | k + 1 => by
    have ih0 := vernierref07_Cmp.mono_l k
    · intro y0 y1 y2 y3 y4 y5 y6 y7 y8 y9 y10 y11 y12 y13
      unfold vernierref07_Cmp.j0
      repeat' first
      | (with_reducible exact ih0 _ _ _ _ _ _ _ _ _ _ _ _ _ _)
      | (with_reducible exact LeO.refl _)
      | (with_reducible exact LeO.none _)
      | (with_reducible refine LeO.ite ?_ ?_)
      | (with_reducible refine LeO.bind ?_ (fun _ => ?_))
      | exact ih0 _ _ _ _ _ _ _ _ _ _ _ _ _ _
      | exact LeO.none _
      | refine LeO.ite ?_ ?_
      | refine LeO.bind ?_ (fun _ => ?_)
theorem vernierref07_Cmp.mono : ∀ a0 a1 a2 a3 a4 a5 a6 a7 a8 a9 a10 a11 k, LeO (vernierref07_Cmp.f k a0 a1 a2 a3 a4 a5 a6 a7 a8 a9 a10 a11) (vernierref07_Cmp.f (k + 1) a0 a1 a2 a3 a4 a5 a6 a7 a8 a9 a10 a11) := by
  intro a0 a1 a2 a3 a4 a5 a6 a7 a8 a9 a10 a11 k
  have ih0 := vernierref07_Cmp.mono_l k
  unfold vernierref07_Cmp.f
  repeat' first
      | (with_reducible exact ih0 _ _ _ _ _ _ _ _ _ _ _ _ _ _)
      | (with_reducible exact LeO.refl _)
      | (with_reducible exact LeO.none _)
      | (with_reducible refine LeO.ite ?_ ?_)
      | (with_reducible refine LeO.bind ?_ (fun _ => ?_))
      | exact ih0 _ _ _ _ _ _ _ _ _ _ _ _ _ _
      | exact LeO.none _
      | refine LeO.ite ?_ ?_
      | refine LeO.bind ?_ (fun _ => ?_)
set_option maxHeartbeats 8000000 in
set_option maxRecDepth 100000 in
theorem vernierref07_Cmp.calls (k : Nat) (a0_0 : Int) (a0_1 : Bool) (a0_2 : Int) (a0_3 : Int) (a0_4 : Int) (a0_5 : Bool) (a1_0 : Int) (a1_1 : Bool) (a1_2 : Int) (a1_3 : Int) (a1_4 : Int) (a1_5 : Bool) (r : Int) (w : World) (h : vernierref07_Cmp.f k a0_0 a0_1 a0_2 a0_3 a0_4 a0_5 a1_0 a1_1 a1_2 a1_3 a1_4 a1_5 = some r) :
    Calls Try.prog 18 #[.agg #[.int .i64 a0_0, .bool a0_1, .int .i64 a0_2, .int .u64 a0_3, .int .u64 a0_4, .bool a0_5], .agg #[.int .i64 a1_0, .bool a1_1, .int .i64 a1_2, .int .u64 a1_3, .int .u64 a1_4, .bool a1_5]] w fun e w' => e = .returned (.int .i64 r) ∧ Below w.heap.size w w' := by
  have hu24 := Try.underlying24
  have HB := Aside0.mk (Below.refl w.heap.size w)
  have H : ((vernierref07_sign.f a0_0 a0_1 a0_2 a0_3 a0_4 a0_5).bind fun t264 => ((vernierref07_sign.f a1_0 a1_1 a1_2 a1_3 a1_4 a1_5).bind fun t265 => (if t264 < t265 then (some (-1)) else (if t264 > t265 then (some 1) else (if t264 = 0 then (vernierref07_Cmp.j0 k t264 true a0_0 a0_1 a0_2 a0_3 a0_4 a0_5 a1_0 a1_1 a1_2 a1_3 a1_4 a1_5) else (vernierref07_Cmp.j0 k t264 (a0_0 == a1_0 && (a0_1 == a1_1 && (a0_2 == a1_2 && (a0_3 == a1_3 && (a0_4 == a1_4 && (a0_5 == a1_5)))))) a0_0 a0_1 a0_2 a0_3 a0_4 a0_5 a1_0 a1_1 a1_2 a1_3 a1_4 a1_5)))))) = some r := h
  clear h
  replace H := Option.bind_eq_some_iff.mp H
  obtain ⟨t264, A30, H⟩ := H
  replace H : ((vernierref07_sign.f a1_0 a1_1 a1_2 a1_3 a1_4 a1_5).bind fun t265 => (if t264 < t265 then (some (-1)) else (if t264 > t265 then (some 1) else (if t264 = 0 then (vernierref07_Cmp.j0 k t264 true a0_0 a0_1 a0_2 a0_3 a0_4 a0_5 a1_0 a1_1 a1_2 a1_3 a1_4 a1_5) else (vernierref07_Cmp.j0 k t264 (a0_0 == a1_0 && (a0_1 == a1_1 && (a0_2 == a1_2 && (a0_3 == a1_3 && (a0_4 == a1_4 && (a0_5 == a1_5)))))) a0_0 a0_1 a0_2 a0_3 a0_4 a0_5 a1_0 a1_1 a1_2 a1_3 a1_4 a1_5))))) = some r := H
  have A3 := Aside0.mk A30
  clear A30
  replace H := Option.bind_eq_some_iff.mp H
  obtain ⟨t265, A40, H⟩ := H
  replace H : (if t264 < t265 then (some (-1)) else (if t264 > t265 then (some 1) else (if t264 = 0 then (vernierref07_Cmp.j0 k t264 true a0_0 a0_1 a0_2 a0_3 a0_4 a0_5 a1_0 a1_1 a1_2 a1_3 a1_4 a1_5) else (vernierref07_Cmp.j0 k t264 (a0_0 == a1_0 && (a0_1 == a1_1 && (a0_2 == a1_2 && (a0_3 == a1_3 && (a0_4 == a1_4 && (a0_5 == a1_5)))))) a0_0 a0_1 a0_2 a0_3 a0_4 a0_5 a1_0 a1_1 a1_2 a1_3 a1_4 a1_5)))) = some r := H
  have A4 := Aside0.mk A40
  clear A40
  by_cases c5 : t264 < t265
  · rw [if_pos c5] at H
    have c5b0 : decide (t264 < t265) = true := decide_eq_true c5
    clear c5
    obtain rfl := Option.some.inj H
    go_enter Try.func18, Try.ntmps18
    go_wp2_with (first | ((with_reducible refine gate_dst (N := 2) rfl ?_); refine box_event ?hg (N := 2) ?hd (cs := #[.int .i64 a0_0, .bool a0_1, .int .i64 a0_2, .int .u64 a0_3, .int .u64 a0_4, .bool a0_5]) (t := 24) ?hr ?_; (case hd => rfl); (case hg => rfl); (case hr => first | (go_simp; done) | (go_simp; rfl)); intro gb262 hg w6 hbox hb; have n0_ := Aside0.mk (below_step (by repeat (first | (with_reducible first | exact HB.out | apply below_alloc | apply pw_below_drewN | apply below_drew1) | exact HB.out)) hb); have n1_ := Aside0.mk (hbox); have n2_ := Aside0.mk ((by rw [hg]; exact (below_size (by repeat (first | (with_reducible first | exact HB.out | apply below_alloc | apply pw_below_drewN | apply below_drew1) | exact HB.out))) : w.heap.size ≤ gb262)); have n3_ := Aside0.mk ((by rw [hg]; exact (below_size (by repeat (first | (with_reducible first | exact HB.out | apply below_alloc | apply pw_below_drewN | apply below_drew1) | exact HB.out))) : w.heap.size ≤ gb262)); clear HB; have HB := n0_; have BK262 := n1_; have GW262 := n2_; have GE262 := n3_; clear n0_ n1_ n2_ n3_; clear hb hbox hg) | ((with_reducible refine gate_dst (N := 3) rfl ?_); refine box_event ?hg (N := 3) ?hd (cs := #[.int .i64 a1_0, .bool a1_1, .int .i64 a1_2, .int .u64 a1_3, .int .u64 a1_4, .bool a1_5]) (t := 24) ?hr ?_; (case hd => rfl); (case hg => rfl); (case hr => first | (go_simp; done) | (go_simp; rfl)); intro gb263 hg w7 hbox hb; have n0_ := Aside0.mk (blk_below (g := gb262) (o := .cells #[.int .i64 a0_0, .bool a0_1, .int .i64 a0_2, .int .u64 a0_3, .int .u64 a0_4, .bool a0_5] 24 (0, 0)) (by (with_reducible repeat (first | refine blk_drewN ?_ _ | refine blk_drew ?_ | refine blk_alloc ?_ _)); exact BK262.out) hb); have n1_ := Aside0.mk (below_step (by repeat (first | (with_reducible first | exact HB.out | apply below_alloc | apply pw_below_drewN | apply below_drew1 | refine below_set ?_ GE262.out) | exact HB.out)) hb); have n2_ := Aside0.mk (hbox); have n3_ := Aside0.mk ((by rw [hg]; exact (below_size (by repeat (first | (with_reducible first | exact HB.out | apply below_alloc | apply pw_below_drewN | apply below_drew1 | refine below_set ?_ GE262.out) | exact HB.out))) : w.heap.size ≤ gb263)); have n4_ := Aside0.mk ((by rw [hg]; exact (below_size (by repeat (first | (with_reducible first | exact HB.out | apply below_alloc | apply pw_below_drewN | apply below_drew1 | refine below_set ?_ GE262.out) | exact HB.out))) : w.heap.size ≤ gb263)); have n5_ := Aside0.mk ((by rw [hg]; exact Nat.ne_of_lt (blk_lt (g := gb262) (o := .cells #[.int .i64 a0_0, .bool a0_1, .int .i64 a0_2, .int .u64 a0_3, .int .u64 a0_4, .bool a0_5] 24 (0, 0)) (by (with_reducible repeat (first | refine blk_drewN ?_ _ | refine blk_drew ?_ | refine blk_alloc ?_ _)); exact BK262.out)) : gb262 ≠ gb263)); have n6_ := Aside0.mk ((by rw [hg]; exact Nat.ne_of_gt (blk_lt (g := gb262) (o := .cells #[.int .i64 a0_0, .bool a0_1, .int .i64 a0_2, .int .u64 a0_3, .int .u64 a0_4, .bool a0_5] 24 (0, 0)) (by (with_reducible repeat (first | refine blk_drewN ?_ _ | refine blk_drew ?_ | refine blk_alloc ?_ _)); exact BK262.out)) : gb263 ≠ gb262)); clear BK262; clear HB; have BK262 := n0_; have HB := n1_; have BK263 := n2_; have GW263 := n3_; have GE263 := n4_; have NB262_263 := n5_; have NB263_262 := n6_; clear n0_ n1_ n2_ n3_ n4_ n5_ n6_; clear hb hbox hg; have hnb8 := NB262_263.out; have hnc8 := NB263_262.out; have hcz9_0 : w7.cell? ⟨gb262, 0, none⟩ = some (.int .i64 a0_0) := (blk_cell BK262.out 0).trans rfl; have hcz9_1 : w7.cell? ⟨gb262, 1, none⟩ = some (.bool a0_1) := (blk_cell BK262.out 1).trans rfl; have hcz9_2 : w7.cell? ⟨gb262, 2, none⟩ = some (.int .i64 a0_2) := (blk_cell BK262.out 2).trans rfl; have hcz9_3 : w7.cell? ⟨gb262, 3, none⟩ = some (.int .u64 a0_3) := (blk_cell BK262.out 3).trans rfl; have hcz9_4 : w7.cell? ⟨gb262, 4, none⟩ = some (.int .u64 a0_4) := (blk_cell BK262.out 4).trans rfl; have hcz9_5 : w7.cell? ⟨gb262, 5, none⟩ = some (.bool a0_5) := (blk_cell BK262.out 5).trans rfl; have hfz9_0 := blk_frozen BK262.out 0; have hfz9_1 := blk_frozen BK262.out 1; have hfz9_2 := blk_frozen BK262.out 2; have hfz9_3 := blk_frozen BK262.out 3; have hfz9_4 := blk_frozen BK262.out 4; have hfz9_5 := blk_frozen BK262.out 5) | ((with_reducible refine gate_callee (f := 40) rfl ?_); refine goesL_ (some 8) rfl rfl Try.func40 (by kernel_rfl) rfl #[.agg #[.int .i64 a0_0, .bool a0_1, .int .i64 a0_2, .int .u64 a0_3, .int .u64 a0_4, .bool a0_5]] rfl (by (try simp only [List.map_toArray, List.map_cons, List.map_nil]); first | done | rfl | (simp only [List.length_drop, List.length_take]; rfl)) ?_; (with_reducible refine (vernierref07_sign.calls a0_0 a0_1 a0_2 a0_3 a0_4 a0_5 t264 _ A3.out).mono ?_); rintro e w10 ⟨rfl, hb⟩; refine ⟨_, rfl, ?_⟩; have n0_ := Aside0.mk (blk_below (g := gb262) (o := .cells #[.int .i64 a0_0, .bool a0_1, .int .i64 a0_2, .int .u64 a0_3, .int .u64 a0_4, .bool a0_5] 24 (0, 0)) (by (with_reducible repeat (first | refine blk_drewN ?_ _ | refine blk_drew ?_ | refine blk_alloc ?_ _)); exact BK262.out) hb); have n1_ := Aside0.mk (blk_below (g := gb263) (o := .cells #[.int .i64 a1_0, .bool a1_1, .int .i64 a1_2, .int .u64 a1_3, .int .u64 a1_4, .bool a1_5] 24 (0, 0)) (by (with_reducible repeat (first | refine blk_drewN ?_ _ | refine blk_drew ?_ | refine blk_alloc ?_ _)); exact BK263.out) hb); have n2_ := Aside0.mk (below_step (by repeat (first | (with_reducible first | exact HB.out | apply below_alloc | apply pw_below_drewN | apply below_drew1 | refine below_set ?_ GE262.out | refine below_set ?_ GE263.out) | exact HB.out)) hb); clear BK262; clear BK263; clear HB; have BK262 := n0_; have BK263 := n1_; have HB := n2_; clear n0_ n1_ n2_; (try clear hb); (try clear hb2); (try clear hk); (try clear hi); have hcz11_0 : w10.cell? ⟨gb263, 0, none⟩ = some (.int .i64 a1_0) := (blk_cell BK263.out 0).trans rfl; have hcz11_1 : w10.cell? ⟨gb263, 1, none⟩ = some (.bool a1_1) := (blk_cell BK263.out 1).trans rfl; have hcz11_2 : w10.cell? ⟨gb263, 2, none⟩ = some (.int .i64 a1_2) := (blk_cell BK263.out 2).trans rfl; have hcz11_3 : w10.cell? ⟨gb263, 3, none⟩ = some (.int .u64 a1_3) := (blk_cell BK263.out 3).trans rfl; have hcz11_4 : w10.cell? ⟨gb263, 4, none⟩ = some (.int .u64 a1_4) := (blk_cell BK263.out 4).trans rfl; have hcz11_5 : w10.cell? ⟨gb263, 5, none⟩ = some (.bool a1_5) := (blk_cell BK263.out 5).trans rfl; have hfz11_0 := blk_frozen BK263.out 0; have hfz11_1 := blk_frozen BK263.out 1; have hfz11_2 := blk_frozen BK263.out 2; have hfz11_3 := blk_frozen BK263.out 3; have hfz11_4 := blk_frozen BK263.out 4; have hfz11_5 := blk_frozen BK263.out 5) | ((with_reducible refine gate_callee (f := 40) rfl ?_); refine goesL_ (some 10) rfl rfl Try.func40 (by kernel_rfl) rfl #[.agg #[.int .i64 a1_0, .bool a1_1, .int .i64 a1_2, .int .u64 a1_3, .int .u64 a1_4, .bool a1_5]] rfl (by (try simp only [List.map_toArray, List.map_cons, List.map_nil]); first | done | rfl | (simp only [List.length_drop, List.length_take]; rfl)) ?_; (with_reducible refine (vernierref07_sign.calls a1_0 a1_1 a1_2 a1_3 a1_4 a1_5 t265 _ A4.out).mono ?_); rintro e w12 ⟨rfl, hb⟩; refine ⟨_, rfl, ?_⟩; have n0_ := Aside0.mk (blk_below (g := gb262) (o := .cells #[.int .i64 a0_0, .bool a0_1, .int .i64 a0_2, .int .u64 a0_3, .int .u64 a0_4, .bool a0_5] 24 (0, 0)) (by (with_reducible repeat (first | refine blk_drewN ?_ _ | refine blk_drew ?_ | refine blk_alloc ?_ _)); exact BK262.out) hb); have n1_ := Aside0.mk (blk_below (g := gb263) (o := .cells #[.int .i64 a1_0, .bool a1_1, .int .i64 a1_2, .int .u64 a1_3, .int .u64 a1_4, .bool a1_5] 24 (0, 0)) (by (with_reducible repeat (first | refine blk_drewN ?_ _ | refine blk_drew ?_ | refine blk_alloc ?_ _)); exact BK263.out) hb); have n2_ := Aside0.mk (below_step (by repeat (first | (with_reducible first | exact HB.out | apply below_alloc | apply pw_below_drewN | apply below_drew1 | refine below_set ?_ GE262.out | refine below_set ?_ GE263.out) | exact HB.out)) hb); clear BK262; clear BK263; clear HB; have BK262 := n0_; have BK263 := n1_; have HB := n2_; clear n0_ n1_ n2_; (try clear hb); (try clear hb2); (try clear hk); (try clear hi)))
    go_ret
    exact ⟨by first | rfl | (simp [errW_none, errW_some] <;> rfl) | (simp [*, errW_none, errW_some] <;> rfl), by repeat (first | (with_reducible first | exact HB.out | apply below_alloc | apply pw_below_drewN | apply below_drew1 | refine below_set ?_ GE262.out | refine below_set ?_ GE263.out) | exact HB.out)⟩
  · rw [if_neg c5] at H
    have c5b0 : decide (t264 < t265) = false := decide_eq_false c5
    clear c5
    by_cases c13 : t264 > t265
    · rw [if_pos c13] at H
      have c13b0 : decide (t265 < t264) = true := decide_eq_true c13
      clear c13
      obtain rfl := Option.some.inj H
      go_enter Try.func18, Try.ntmps18
      go_wp2_with (first | ((with_reducible refine gate_dst (N := 2) rfl ?_); refine box_event ?hg (N := 2) ?hd (cs := #[.int .i64 a0_0, .bool a0_1, .int .i64 a0_2, .int .u64 a0_3, .int .u64 a0_4, .bool a0_5]) (t := 24) ?hr ?_; (case hd => rfl); (case hg => rfl); (case hr => first | (go_simp; done) | (go_simp; rfl)); intro gb262 hg w14 hbox hb; have n0_ := Aside0.mk (below_step (by repeat (first | (with_reducible first | exact HB.out | apply below_alloc | apply pw_below_drewN | apply below_drew1) | exact HB.out)) hb); have n1_ := Aside0.mk (hbox); have n2_ := Aside0.mk ((by rw [hg]; exact (below_size (by repeat (first | (with_reducible first | exact HB.out | apply below_alloc | apply pw_below_drewN | apply below_drew1) | exact HB.out))) : w.heap.size ≤ gb262)); have n3_ := Aside0.mk ((by rw [hg]; exact (below_size (by repeat (first | (with_reducible first | exact HB.out | apply below_alloc | apply pw_below_drewN | apply below_drew1) | exact HB.out))) : w.heap.size ≤ gb262)); clear HB; have HB := n0_; have BK262 := n1_; have GW262 := n2_; have GE262 := n3_; clear n0_ n1_ n2_ n3_; clear hb hbox hg) | ((with_reducible refine gate_dst (N := 3) rfl ?_); refine box_event ?hg (N := 3) ?hd (cs := #[.int .i64 a1_0, .bool a1_1, .int .i64 a1_2, .int .u64 a1_3, .int .u64 a1_4, .bool a1_5]) (t := 24) ?hr ?_; (case hd => rfl); (case hg => rfl); (case hr => first | (go_simp; done) | (go_simp; rfl)); intro gb263 hg w15 hbox hb; have n0_ := Aside0.mk (blk_below (g := gb262) (o := .cells #[.int .i64 a0_0, .bool a0_1, .int .i64 a0_2, .int .u64 a0_3, .int .u64 a0_4, .bool a0_5] 24 (0, 0)) (by (with_reducible repeat (first | refine blk_drewN ?_ _ | refine blk_drew ?_ | refine blk_alloc ?_ _)); exact BK262.out) hb); have n1_ := Aside0.mk (below_step (by repeat (first | (with_reducible first | exact HB.out | apply below_alloc | apply pw_below_drewN | apply below_drew1 | refine below_set ?_ GE262.out) | exact HB.out)) hb); have n2_ := Aside0.mk (hbox); have n3_ := Aside0.mk ((by rw [hg]; exact (below_size (by repeat (first | (with_reducible first | exact HB.out | apply below_alloc | apply pw_below_drewN | apply below_drew1 | refine below_set ?_ GE262.out) | exact HB.out))) : w.heap.size ≤ gb263)); have n4_ := Aside0.mk ((by rw [hg]; exact (below_size (by repeat (first | (with_reducible first | exact HB.out | apply below_alloc | apply pw_below_drewN | apply below_drew1 | refine below_set ?_ GE262.out) | exact HB.out))) : w.heap.size ≤ gb263)); have n5_ := Aside0.mk ((by rw [hg]; exact Nat.ne_of_lt (blk_lt (g := gb262) (o := .cells #[.int .i64 a0_0, .bool a0_1, .int .i64 a0_2, .int .u64 a0_3, .int .u64 a0_4, .bool a0_5] 24 (0, 0)) (by (with_reducible repeat (first | refine blk_drewN ?_ _ | refine blk_drew ?_ | refine blk_alloc ?_ _)); exact BK262.out)) : gb262 ≠ gb263)); have n6_ := Aside0.mk ((by rw [hg]; exact Nat.ne_of_gt (blk_lt (g := gb262) (o := .cells #[.int .i64 a0_0, .bool a0_1, .int .i64 a0_2, .int .u64 a0_3, .int .u64 a0_4, .bool a0_5] 24 (0, 0)) (by (with_reducible repeat (first | refine blk_drewN ?_ _ | refine blk_drew ?_ | refine blk_alloc ?_ _)); exact BK262.out)) : gb263 ≠ gb262)); clear BK262; clear HB; have BK262 := n0_; have HB := n1_; have BK263 := n2_; have GW263 := n3_; have GE263 := n4_; have NB262_263 := n5_; have NB263_262 := n6_; clear n0_ n1_ n2_ n3_ n4_ n5_ n6_; clear hb hbox hg; have hnb16 := NB262_263.out; have hnc16 := NB263_262.out; have hcz17_0 : w15.cell? ⟨gb262, 0, none⟩ = some (.int .i64 a0_0) := (blk_cell BK262.out 0).trans rfl; have hcz17_1 : w15.cell? ⟨gb262, 1, none⟩ = some (.bool a0_1) := (blk_cell BK262.out 1).trans rfl; have hcz17_2 : w15.cell? ⟨gb262, 2, none⟩ = some (.int .i64 a0_2) := (blk_cell BK262.out 2).trans rfl; have hcz17_3 : w15.cell? ⟨gb262, 3, none⟩ = some (.int .u64 a0_3) := (blk_cell BK262.out 3).trans rfl; have hcz17_4 : w15.cell? ⟨gb262, 4, none⟩ = some (.int .u64 a0_4) := (blk_cell BK262.out 4).trans rfl; have hcz17_5 : w15.cell? ⟨gb262, 5, none⟩ = some (.bool a0_5) := (blk_cell BK262.out 5).trans rfl; have hfz17_0 := blk_frozen BK262.out 0; have hfz17_1 := blk_frozen BK262.out 1; have hfz17_2 := blk_frozen BK262.out 2; have hfz17_3 := blk_frozen BK262.out 3; have hfz17_4 := blk_frozen BK262.out 4; have hfz17_5 := blk_frozen BK262.out 5) | ((with_reducible refine gate_callee (f := 40) rfl ?_); refine goesL_ (some 8) rfl rfl Try.func40 (by kernel_rfl) rfl #[.agg #[.int .i64 a0_0, .bool a0_1, .int .i64 a0_2, .int .u64 a0_3, .int .u64 a0_4, .bool a0_5]] rfl (by (try simp only [List.map_toArray, List.map_cons, List.map_nil]); first | done | rfl | (simp only [List.length_drop, List.length_take]; rfl)) ?_; (with_reducible refine (vernierref07_sign.calls a0_0 a0_1 a0_2 a0_3 a0_4 a0_5 t264 _ A3.out).mono ?_); rintro e w18 ⟨rfl, hb⟩; refine ⟨_, rfl, ?_⟩; have n0_ := Aside0.mk (blk_below (g := gb262) (o := .cells #[.int .i64 a0_0, .bool a0_1, .int .i64 a0_2, .int .u64 a0_3, .int .u64 a0_4, .bool a0_5] 24 (0, 0)) (by (with_reducible repeat (first | refine blk_drewN ?_ _ | refine blk_drew ?_ | refine blk_alloc ?_ _)); exact BK262.out) hb); have n1_ := Aside0.mk (blk_below (g := gb263) (o := .cells #[.int .i64 a1_0, .bool a1_1, .int .i64 a1_2, .int .u64 a1_3, .int .u64 a1_4, .bool a1_5] 24 (0, 0)) (by (with_reducible repeat (first | refine blk_drewN ?_ _ | refine blk_drew ?_ | refine blk_alloc ?_ _)); exact BK263.out) hb); have n2_ := Aside0.mk (below_step (by repeat (first | (with_reducible first | exact HB.out | apply below_alloc | apply pw_below_drewN | apply below_drew1 | refine below_set ?_ GE262.out | refine below_set ?_ GE263.out) | exact HB.out)) hb); clear BK262; clear BK263; clear HB; have BK262 := n0_; have BK263 := n1_; have HB := n2_; clear n0_ n1_ n2_; (try clear hb); (try clear hb2); (try clear hk); (try clear hi); have hcz19_0 : w18.cell? ⟨gb263, 0, none⟩ = some (.int .i64 a1_0) := (blk_cell BK263.out 0).trans rfl; have hcz19_1 : w18.cell? ⟨gb263, 1, none⟩ = some (.bool a1_1) := (blk_cell BK263.out 1).trans rfl; have hcz19_2 : w18.cell? ⟨gb263, 2, none⟩ = some (.int .i64 a1_2) := (blk_cell BK263.out 2).trans rfl; have hcz19_3 : w18.cell? ⟨gb263, 3, none⟩ = some (.int .u64 a1_3) := (blk_cell BK263.out 3).trans rfl; have hcz19_4 : w18.cell? ⟨gb263, 4, none⟩ = some (.int .u64 a1_4) := (blk_cell BK263.out 4).trans rfl; have hcz19_5 : w18.cell? ⟨gb263, 5, none⟩ = some (.bool a1_5) := (blk_cell BK263.out 5).trans rfl; have hfz19_0 := blk_frozen BK263.out 0; have hfz19_1 := blk_frozen BK263.out 1; have hfz19_2 := blk_frozen BK263.out 2; have hfz19_3 := blk_frozen BK263.out 3; have hfz19_4 := blk_frozen BK263.out 4; have hfz19_5 := blk_frozen BK263.out 5) | ((with_reducible refine gate_callee (f := 40) rfl ?_); refine goesL_ (some 10) rfl rfl Try.func40 (by kernel_rfl) rfl #[.agg #[.int .i64 a1_0, .bool a1_1, .int .i64 a1_2, .int .u64 a1_3, .int .u64 a1_4, .bool a1_5]] rfl (by (try simp only [List.map_toArray, List.map_cons, List.map_nil]); first | done | rfl | (simp only [List.length_drop, List.length_take]; rfl)) ?_; (with_reducible refine (vernierref07_sign.calls a1_0 a1_1 a1_2 a1_3 a1_4 a1_5 t265 _ A4.out).mono ?_); rintro e w20 ⟨rfl, hb⟩; refine ⟨_, rfl, ?_⟩; have n0_ := Aside0.mk (blk_below (g := gb262) (o := .cells #[.int .i64 a0_0, .bool a0_1, .int .i64 a0_2, .int .u64 a0_3, .int .u64 a0_4, .bool a0_5] 24 (0, 0)) (by (with_reducible repeat (first | refine blk_drewN ?_ _ | refine blk_drew ?_ | refine blk_alloc ?_ _)); exact BK262.out) hb); have n1_ := Aside0.mk (blk_below (g := gb263) (o := .cells #[.int .i64 a1_0, .bool a1_1, .int .i64 a1_2, .int .u64 a1_3, .int .u64 a1_4, .bool a1_5] 24 (0, 0)) (by (with_reducible repeat (first | refine blk_drewN ?_ _ | refine blk_drew ?_ | refine blk_alloc ?_ _)); exact BK263.out) hb); have n2_ := Aside0.mk (below_step (by repeat (first | (with_reducible first | exact HB.out | apply below_alloc | apply pw_below_drewN | apply below_drew1 | refine below_set ?_ GE262.out | refine below_set ?_ GE263.out) | exact HB.out)) hb); clear BK262; clear BK263; clear HB; have BK262 := n0_; have BK263 := n1_; have HB := n2_; clear n0_ n1_ n2_; (try clear hb); (try clear hb2); (try clear hk); (try clear hi)))
      go_ret
      exact ⟨by first | rfl | (simp [errW_none, errW_some] <;> rfl) | (simp [*, errW_none, errW_some] <;> rfl), by repeat (first | (with_reducible first | exact HB.out | apply below_alloc | apply pw_below_drewN | apply below_drew1 | refine below_set ?_ GE262.out | refine below_set ?_ GE263.out) | exact HB.out)⟩
    · rw [if_neg c13] at H
      have c13b0 : decide (t265 < t264) = false := decide_eq_false c13
      clear c13
      have HC21 := Aside0.mk H
      clear H
      go_enter Try.func18, Try.ntmps18
      go_upto_region 7 with (first | ((with_reducible refine gate_dst (N := 2) rfl ?_); refine box_event ?hg (N := 2) ?hd (cs := #[.int .i64 a0_0, .bool a0_1, .int .i64 a0_2, .int .u64 a0_3, .int .u64 a0_4, .bool a0_5]) (t := 24) ?hr ?_; (case hd => rfl); (case hg => rfl); (case hr => first | (go_simp; done) | (go_simp; rfl)); intro gb262 hg w22 hbox hb; have n0_ := Aside0.mk (below_step (by repeat (first | (with_reducible first | exact HB.out | apply below_alloc | apply pw_below_drewN | apply below_drew1) | exact HB.out)) hb); have n1_ := Aside0.mk (hbox); have n2_ := Aside0.mk ((by rw [hg]; exact (below_size (by repeat (first | (with_reducible first | exact HB.out | apply below_alloc | apply pw_below_drewN | apply below_drew1) | exact HB.out))) : w.heap.size ≤ gb262)); have n3_ := Aside0.mk ((by rw [hg]; exact (below_size (by repeat (first | (with_reducible first | exact HB.out | apply below_alloc | apply pw_below_drewN | apply below_drew1) | exact HB.out))) : w.heap.size ≤ gb262)); clear HB; have HB := n0_; have BK262 := n1_; have GW262 := n2_; have GE262 := n3_; clear n0_ n1_ n2_ n3_; clear hb hbox hg) | ((with_reducible refine gate_dst (N := 3) rfl ?_); refine box_event ?hg (N := 3) ?hd (cs := #[.int .i64 a1_0, .bool a1_1, .int .i64 a1_2, .int .u64 a1_3, .int .u64 a1_4, .bool a1_5]) (t := 24) ?hr ?_; (case hd => rfl); (case hg => rfl); (case hr => first | (go_simp; done) | (go_simp; rfl)); intro gb263 hg w23 hbox hb; have n0_ := Aside0.mk (blk_below (g := gb262) (o := .cells #[.int .i64 a0_0, .bool a0_1, .int .i64 a0_2, .int .u64 a0_3, .int .u64 a0_4, .bool a0_5] 24 (0, 0)) (by (with_reducible repeat (first | refine blk_drewN ?_ _ | refine blk_drew ?_ | refine blk_alloc ?_ _)); exact BK262.out) hb); have n1_ := Aside0.mk (below_step (by repeat (first | (with_reducible first | exact HB.out | apply below_alloc | apply pw_below_drewN | apply below_drew1 | refine below_set ?_ GE262.out) | exact HB.out)) hb); have n2_ := Aside0.mk (hbox); have n3_ := Aside0.mk ((by rw [hg]; exact (below_size (by repeat (first | (with_reducible first | exact HB.out | apply below_alloc | apply pw_below_drewN | apply below_drew1 | refine below_set ?_ GE262.out) | exact HB.out))) : w.heap.size ≤ gb263)); have n4_ := Aside0.mk ((by rw [hg]; exact (below_size (by repeat (first | (with_reducible first | exact HB.out | apply below_alloc | apply pw_below_drewN | apply below_drew1 | refine below_set ?_ GE262.out) | exact HB.out))) : w.heap.size ≤ gb263)); have n5_ := Aside0.mk ((by rw [hg]; exact Nat.ne_of_lt (blk_lt (g := gb262) (o := .cells #[.int .i64 a0_0, .bool a0_1, .int .i64 a0_2, .int .u64 a0_3, .int .u64 a0_4, .bool a0_5] 24 (0, 0)) (by (with_reducible repeat (first | refine blk_drewN ?_ _ | refine blk_drew ?_ | refine blk_alloc ?_ _)); exact BK262.out)) : gb262 ≠ gb263)); have n6_ := Aside0.mk ((by rw [hg]; exact Nat.ne_of_gt (blk_lt (g := gb262) (o := .cells #[.int .i64 a0_0, .bool a0_1, .int .i64 a0_2, .int .u64 a0_3, .int .u64 a0_4, .bool a0_5] 24 (0, 0)) (by (with_reducible repeat (first | refine blk_drewN ?_ _ | refine blk_drew ?_ | refine blk_alloc ?_ _)); exact BK262.out)) : gb263 ≠ gb262)); clear BK262; clear HB; have BK262 := n0_; have HB := n1_; have BK263 := n2_; have GW263 := n3_; have GE263 := n4_; have NB262_263 := n5_; have NB263_262 := n6_; clear n0_ n1_ n2_ n3_ n4_ n5_ n6_; clear hb hbox hg; have hnb24 := NB262_263.out; have hnc24 := NB263_262.out; have hcz25_0 : w23.cell? ⟨gb262, 0, none⟩ = some (.int .i64 a0_0) := (blk_cell BK262.out 0).trans rfl; have hcz25_1 : w23.cell? ⟨gb262, 1, none⟩ = some (.bool a0_1) := (blk_cell BK262.out 1).trans rfl; have hcz25_2 : w23.cell? ⟨gb262, 2, none⟩ = some (.int .i64 a0_2) := (blk_cell BK262.out 2).trans rfl; have hcz25_3 : w23.cell? ⟨gb262, 3, none⟩ = some (.int .u64 a0_3) := (blk_cell BK262.out 3).trans rfl; have hcz25_4 : w23.cell? ⟨gb262, 4, none⟩ = some (.int .u64 a0_4) := (blk_cell BK262.out 4).trans rfl; have hcz25_5 : w23.cell? ⟨gb262, 5, none⟩ = some (.bool a0_5) := (blk_cell BK262.out 5).trans rfl; have hfz25_0 := blk_frozen BK262.out 0; have hfz25_1 := blk_frozen BK262.out 1; have hfz25_2 := blk_frozen BK262.out 2; have hfz25_3 := blk_frozen BK262.out 3; have hfz25_4 := blk_frozen BK262.out 4; have hfz25_5 := blk_frozen BK262.out 5) | ((with_reducible refine gate_callee (f := 40) rfl ?_); refine goesL_ (some 8) rfl rfl Try.func40 (by kernel_rfl) rfl #[.agg #[.int .i64 a0_0, .bool a0_1, .int .i64 a0_2, .int .u64 a0_3, .int .u64 a0_4, .bool a0_5]] rfl (by (try simp only [List.map_toArray, List.map_cons, List.map_nil]); first | done | rfl | (simp only [List.length_drop, List.length_take]; rfl)) ?_; (with_reducible refine (vernierref07_sign.calls a0_0 a0_1 a0_2 a0_3 a0_4 a0_5 t264 _ A3.out).mono ?_); rintro e w26 ⟨rfl, hb⟩; refine ⟨_, rfl, ?_⟩; have n0_ := Aside0.mk (blk_below (g := gb262) (o := .cells #[.int .i64 a0_0, .bool a0_1, .int .i64 a0_2, .int .u64 a0_3, .int .u64 a0_4, .bool a0_5] 24 (0, 0)) (by (with_reducible repeat (first | refine blk_drewN ?_ _ | refine blk_drew ?_ | refine blk_alloc ?_ _)); exact BK262.out) hb); have n1_ := Aside0.mk (blk_below (g := gb263) (o := .cells #[.int .i64 a1_0, .bool a1_1, .int .i64 a1_2, .int .u64 a1_3, .int .u64 a1_4, .bool a1_5] 24 (0, 0)) (by (with_reducible repeat (first | refine blk_drewN ?_ _ | refine blk_drew ?_ | refine blk_alloc ?_ _)); exact BK263.out) hb); have n2_ := Aside0.mk (below_step (by repeat (first | (with_reducible first | exact HB.out | apply below_alloc | apply pw_below_drewN | apply below_drew1 | refine below_set ?_ GE262.out | refine below_set ?_ GE263.out) | exact HB.out)) hb); clear BK262; clear BK263; clear HB; have BK262 := n0_; have BK263 := n1_; have HB := n2_; clear n0_ n1_ n2_; (try clear hb); (try clear hb2); (try clear hk); (try clear hi); have hcz27_0 : w26.cell? ⟨gb263, 0, none⟩ = some (.int .i64 a1_0) := (blk_cell BK263.out 0).trans rfl; have hcz27_1 : w26.cell? ⟨gb263, 1, none⟩ = some (.bool a1_1) := (blk_cell BK263.out 1).trans rfl; have hcz27_2 : w26.cell? ⟨gb263, 2, none⟩ = some (.int .i64 a1_2) := (blk_cell BK263.out 2).trans rfl; have hcz27_3 : w26.cell? ⟨gb263, 3, none⟩ = some (.int .u64 a1_3) := (blk_cell BK263.out 3).trans rfl; have hcz27_4 : w26.cell? ⟨gb263, 4, none⟩ = some (.int .u64 a1_4) := (blk_cell BK263.out 4).trans rfl; have hcz27_5 : w26.cell? ⟨gb263, 5, none⟩ = some (.bool a1_5) := (blk_cell BK263.out 5).trans rfl; have hfz27_0 := blk_frozen BK263.out 0; have hfz27_1 := blk_frozen BK263.out 1; have hfz27_2 := blk_frozen BK263.out 2; have hfz27_3 := blk_frozen BK263.out 3; have hfz27_4 := blk_frozen BK263.out 4; have hfz27_5 := blk_frozen BK263.out 5) | ((with_reducible refine gate_callee (f := 40) rfl ?_); refine goesL_ (some 10) rfl rfl Try.func40 (by kernel_rfl) rfl #[.agg #[.int .i64 a1_0, .bool a1_1, .int .i64 a1_2, .int .u64 a1_3, .int .u64 a1_4, .bool a1_5]] rfl (by (try simp only [List.map_toArray, List.map_cons, List.map_nil]); first | done | rfl | (simp only [List.length_drop, List.length_take]; rfl)) ?_; (with_reducible refine (vernierref07_sign.calls a1_0 a1_1 a1_2 a1_3 a1_4 a1_5 t265 _ A4.out).mono ?_); rintro e w28 ⟨rfl, hb⟩; refine ⟨_, rfl, ?_⟩; have n0_ := Aside0.mk (blk_below (g := gb262) (o := .cells #[.int .i64 a0_0, .bool a0_1, .int .i64 a0_2, .int .u64 a0_3, .int .u64 a0_4, .bool a0_5] 24 (0, 0)) (by (with_reducible repeat (first | refine blk_drewN ?_ _ | refine blk_drew ?_ | refine blk_alloc ?_ _)); exact BK262.out) hb); have n1_ := Aside0.mk (blk_below (g := gb263) (o := .cells #[.int .i64 a1_0, .bool a1_1, .int .i64 a1_2, .int .u64 a1_3, .int .u64 a1_4, .bool a1_5] 24 (0, 0)) (by (with_reducible repeat (first | refine blk_drewN ?_ _ | refine blk_drew ?_ | refine blk_alloc ?_ _)); exact BK263.out) hb); have n2_ := Aside0.mk (below_step (by repeat (first | (with_reducible first | exact HB.out | apply below_alloc | apply pw_below_drewN | apply below_drew1 | refine below_set ?_ GE262.out | refine below_set ?_ GE263.out) | exact HB.out)) hb); clear BK262; clear BK263; clear HB; have BK262 := n0_; have BK263 := n1_; have HB := n2_; clear n0_ n1_ n2_; (try clear hb); (try clear hb2); (try clear hk); (try clear hi)))
      (try simp only [Act.put, List.setIfInBounds_toArray, List.set_cons_zero, List.set_cons_succ])
      go_cut [19] (fun v19 wc => ∃ (kq : Nat) (x19_20 : Bool), v19 = .bool x19_20 ∧ Aside0 (vernierref07_Cmp.j0 kq t264 x19_20 a0_0 a0_1 a0_2 a0_3 a0_4 a0_5 a1_0 a1_1 a1_2 a1_3 a1_4 a1_5 = some r) ∧ Aside0 (kq ≤ k) ∧ Aside0 (wc.heap[gb262]? = some (.cells #[.int .i64 a0_0, .bool a0_1, .int .i64 a0_2, .int .u64 a0_3, .int .u64 a0_4, .bool a0_5] 24 (0, 0))) ∧ Aside0 (wc.heap[gb263]? = some (.cells #[.int .i64 a1_0, .bool a1_1, .int .i64 a1_2, .int .u64 a1_3, .int .u64 a1_4, .bool a1_5] 24 (0, 0))) ∧ Aside0 (Below w.heap.size w wc))
      case first =>
        have H := HC21.out
        clear HC21
        by_cases c29 : t264 = 0
        · rw [if_pos c29] at H
          have c29b0 : (t264 == 0) = true := beq_iff_eq.mpr c29
          have c29b1 : (t264 != 0) = false := bne_eq_false_iff_eq.mpr c29
          clear c29
          (first | rw [c29b0] | (simp only [i64_w, i32_w]; rw [c29b0]) | skip)
          have H' := Aside0.mk H
          clear H
          go_wp2
          go_meet
          case rel => exact ⟨_, (true), (by first | rfl | (simp; done) | (simp [*]; done)), H', ⟨by first | omega | exact Nat.le_refl _⟩, ⟨by (with_reducible repeat (first | refine blk_drewN ?_ _ | refine blk_drew ?_ | refine blk_alloc ?_ _)); exact BK262.out⟩, ⟨by (with_reducible repeat (first | refine blk_drewN ?_ _ | refine blk_drew ?_ | refine blk_alloc ?_ _)); exact BK263.out⟩, ⟨by repeat (first | (with_reducible first | exact HB.out | apply below_alloc | apply pw_below_drewN | apply below_drew1 | refine below_set ?_ GE262.out | refine below_set ?_ GE263.out) | exact HB.out)⟩⟩
        · rw [if_neg c29] at H
          have c29b0 : (t264 == 0) = false := beq_eq_false_iff_ne.mpr c29
          have c29b1 : (t264 != 0) = true := bne_iff_ne.mpr c29
          (first | rw [c29b0] | (simp only [i64_w, i32_w]; rw [c29b0]) | skip)
          have H' := Aside0.mk H
          clear H
          have hnb30 := NB262_263.out
          have hnc30 := NB263_262.out
          have hcz31_0 : w28.cell? ⟨gb262, 0, none⟩ = some (.int .i64 a0_0) := (blk_cell BK262.out 0).trans rfl
          have hcz31_1 : w28.cell? ⟨gb262, 1, none⟩ = some (.bool a0_1) := (blk_cell BK262.out 1).trans rfl
          have hcz31_2 : w28.cell? ⟨gb262, 2, none⟩ = some (.int .i64 a0_2) := (blk_cell BK262.out 2).trans rfl
          have hcz31_3 : w28.cell? ⟨gb262, 3, none⟩ = some (.int .u64 a0_3) := (blk_cell BK262.out 3).trans rfl
          have hcz31_4 : w28.cell? ⟨gb262, 4, none⟩ = some (.int .u64 a0_4) := (blk_cell BK262.out 4).trans rfl
          have hcz31_5 : w28.cell? ⟨gb262, 5, none⟩ = some (.bool a0_5) := (blk_cell BK262.out 5).trans rfl
          have hfz31_0 := blk_frozen BK262.out 0
          have hfz31_1 := blk_frozen BK262.out 1
          have hfz31_2 := blk_frozen BK262.out 2
          have hfz31_3 := blk_frozen BK262.out 3
          have hfz31_4 := blk_frozen BK262.out 4
          have hfz31_5 := blk_frozen BK262.out 5
          have hcz32_0 : w28.cell? ⟨gb263, 0, none⟩ = some (.int .i64 a1_0) := (blk_cell BK263.out 0).trans rfl
          have hcz32_1 : w28.cell? ⟨gb263, 1, none⟩ = some (.bool a1_1) := (blk_cell BK263.out 1).trans rfl
          have hcz32_2 : w28.cell? ⟨gb263, 2, none⟩ = some (.int .i64 a1_2) := (blk_cell BK263.out 2).trans rfl
          have hcz32_3 : w28.cell? ⟨gb263, 3, none⟩ = some (.int .u64 a1_3) := (blk_cell BK263.out 3).trans rfl
          have hcz32_4 : w28.cell? ⟨gb263, 4, none⟩ = some (.int .u64 a1_4) := (blk_cell BK263.out 4).trans rfl
          have hcz32_5 : w28.cell? ⟨gb263, 5, none⟩ = some (.bool a1_5) := (blk_cell BK263.out 5).trans rfl
          have hfz32_0 := blk_frozen BK263.out 0
          have hfz32_1 := blk_frozen BK263.out 1
          have hfz32_2 := blk_frozen BK263.out 2
          have hfz32_3 := blk_frozen BK263.out 3
          have hfz32_4 := blk_frozen BK263.out 4
          have hfz32_5 := blk_frozen BK263.out 5
          go_wp2
          go_meet
          case rel => exact ⟨_, ((a0_0 == a1_0 && (a0_1 == a1_1 && (a0_2 == a1_2 && (a0_3 == a1_3 && (a0_4 == a1_4 && (a0_5 == a1_5))))))), (by first | rfl | (simp; done) | (simp [*]; done)), H', ⟨by first | omega | exact Nat.le_refl _⟩, ⟨by (with_reducible repeat (first | refine blk_drewN ?_ _ | refine blk_drew ?_ | refine blk_alloc ?_ _)); exact BK262.out⟩, ⟨by (with_reducible repeat (first | refine blk_drewN ?_ _ | refine blk_drew ?_ | refine blk_alloc ?_ _)); exact BK263.out⟩, ⟨by repeat (first | (with_reducible first | exact HB.out | apply below_alloc | apply pw_below_drewN | apply below_drew1 | refine below_set ?_ GE262.out | refine below_set ?_ GE263.out) | exact HB.out)⟩⟩
      case rest =>
        clear HC21
        try clear c1
        try clear c2
        try clear p2
        try clear c3
        try clear c4
        try clear c5
        try clear c5b0
        try clear c8
        try clear c13
        try clear c13b0
        try clear c16
        try clear c18
        try clear c24
        try clear c29
        try clear c29b0
        try clear c29b1
        try clear c30
        try clear hcz11_0
        try clear hcz11_1
        try clear hcz11_2
        try clear hcz11_3
        try clear hcz11_4
        try clear hcz11_5
        try clear hcz17_0
        try clear hcz17_1
        try clear hcz17_2
        try clear hcz17_3
        try clear hcz17_4
        try clear hcz17_5
        try clear hcz19_0
        try clear hcz19_1
        try clear hcz19_2
        try clear hcz19_3
        try clear hcz19_4
        try clear hcz19_5
        try clear hcz25_0
        try clear hcz25_1
        try clear hcz25_2
        try clear hcz25_3
        try clear hcz25_4
        try clear hcz25_5
        try clear hcz27_0
        try clear hcz27_1
        try clear hcz27_2
        try clear hcz27_3
        try clear hcz27_4
        try clear hcz27_5
        try clear hcz31_0
        try clear hcz31_1
        try clear hcz31_2
        try clear hcz31_3
        try clear hcz31_4
        try clear hcz31_5
        try clear hcz32_0
        try clear hcz32_1
        try clear hcz32_2
        try clear hcz32_3
        try clear hcz32_4
        try clear hcz32_5
        try clear hcz9_0
        try clear hcz9_1
        try clear hcz9_2
        try clear hcz9_3
        try clear hcz9_4
        try clear hcz9_5
        try clear hfz11_0
        try clear hfz11_1
        try clear hfz11_2
        try clear hfz11_3
        try clear hfz11_4
        try clear hfz11_5
        try clear hfz17_0
        try clear hfz17_1
        try clear hfz17_2
        try clear hfz17_3
        try clear hfz17_4
        try clear hfz17_5
        try clear hfz19_0
        try clear hfz19_1
        try clear hfz19_2
        try clear hfz19_3
        try clear hfz19_4
        try clear hfz19_5
        try clear hfz25_0
        try clear hfz25_1
        try clear hfz25_2
        try clear hfz25_3
        try clear hfz25_4
        try clear hfz25_5
        try clear hfz27_0
        try clear hfz27_1
        try clear hfz27_2
        try clear hfz27_3
        try clear hfz27_4
        try clear hfz27_5
        try clear hfz31_0
        try clear hfz31_1
        try clear hfz31_2
        try clear hfz31_3
        try clear hfz31_4
        try clear hfz31_5
        try clear hfz32_0
        try clear hfz32_1
        try clear hfz32_2
        try clear hfz32_3
        try clear hfz32_4
        try clear hfz32_5
        try clear hfz9_0
        try clear hfz9_1
        try clear hfz9_2
        try clear hfz9_3
        try clear hfz9_4
        try clear hfz9_5
        obtain ⟨kq, x19_20, rfl, HA, HJ20, BK262, BK263, HB⟩ := hcut
        cases kq with
        | zero => exact absurd HA.out (by simp [vernierref07_Cmp.j0])
        | succ kj20 =>
          have H := HA.out
          clear HA
          simp only [vernierref07_Cmp.j0] at H
          by_cases c33 : x19_20 = true
          · subst c33
            have H1 : (some 0) = some r := by rw [if_pos rfl] at H; exact H
            clear H
            have H := H1
            clear H1
            obtain rfl := Option.some.inj H
            go_wp2
            go_ret
            exact ⟨by first | rfl | (simp [errW_none, errW_some] <;> rfl) | (simp [*, errW_none, errW_some] <;> rfl), by repeat (first | (with_reducible first | exact HB.out | apply below_alloc | apply pw_below_drewN | apply below_drew1 | refine below_set ?_ GE262.out | refine below_set ?_ GE263.out) | exact HB.out)⟩
          · replace c33 := Bool.eq_false_iff.mpr c33
            subst c33
            have H1 : (if a0_2 < a1_2 then (some (wrap64 (-t264))) else (if a0_2 = a1_2 then (if a0_3 < a1_3 then (some (wrap64 (-t264))) else (if a0_3 = a1_3 then (if a0_4 < a1_4 then (some (wrap64 (-t264))) else (some t264)) else (some t264))) else (some t264))) = some r := by rw [if_neg (show ¬ (false = true) by decide)] at H; exact H
            clear H
            have H := H1
            clear H1
            by_cases c34 : a0_2 < a1_2
            · rw [if_pos c34] at H
              have c34b0 : decide (a0_2 < a1_2) = true := decide_eq_true c34
              clear c34
              obtain rfl := Option.some.inj H
              have hnb35 := NB262_263.out
              have hnc35 := NB263_262.out
              have hcz36_0 : wc.cell? ⟨gb262, 0, none⟩ = some (.int .i64 a0_0) := (blk_cell BK262.out 0).trans rfl
              have hcz36_1 : wc.cell? ⟨gb262, 1, none⟩ = some (.bool a0_1) := (blk_cell BK262.out 1).trans rfl
              have hcz36_2 : wc.cell? ⟨gb262, 2, none⟩ = some (.int .i64 a0_2) := (blk_cell BK262.out 2).trans rfl
              have hcz36_3 : wc.cell? ⟨gb262, 3, none⟩ = some (.int .u64 a0_3) := (blk_cell BK262.out 3).trans rfl
              have hcz36_4 : wc.cell? ⟨gb262, 4, none⟩ = some (.int .u64 a0_4) := (blk_cell BK262.out 4).trans rfl
              have hcz36_5 : wc.cell? ⟨gb262, 5, none⟩ = some (.bool a0_5) := (blk_cell BK262.out 5).trans rfl
              have hfz36_0 := blk_frozen BK262.out 0
              have hfz36_1 := blk_frozen BK262.out 1
              have hfz36_2 := blk_frozen BK262.out 2
              have hfz36_3 := blk_frozen BK262.out 3
              have hfz36_4 := blk_frozen BK262.out 4
              have hfz36_5 := blk_frozen BK262.out 5
              have hcz37_0 : wc.cell? ⟨gb263, 0, none⟩ = some (.int .i64 a1_0) := (blk_cell BK263.out 0).trans rfl
              have hcz37_1 : wc.cell? ⟨gb263, 1, none⟩ = some (.bool a1_1) := (blk_cell BK263.out 1).trans rfl
              have hcz37_2 : wc.cell? ⟨gb263, 2, none⟩ = some (.int .i64 a1_2) := (blk_cell BK263.out 2).trans rfl
              have hcz37_3 : wc.cell? ⟨gb263, 3, none⟩ = some (.int .u64 a1_3) := (blk_cell BK263.out 3).trans rfl
              have hcz37_4 : wc.cell? ⟨gb263, 4, none⟩ = some (.int .u64 a1_4) := (blk_cell BK263.out 4).trans rfl
              have hcz37_5 : wc.cell? ⟨gb263, 5, none⟩ = some (.bool a1_5) := (blk_cell BK263.out 5).trans rfl
              have hfz37_0 := blk_frozen BK263.out 0
              have hfz37_1 := blk_frozen BK263.out 1
              have hfz37_2 := blk_frozen BK263.out 2
              have hfz37_3 := blk_frozen BK263.out 3
              have hfz37_4 := blk_frozen BK263.out 4
              have hfz37_5 := blk_frozen BK263.out 5
              go_wp2
              go_ret
              exact ⟨by first | rfl | (simp [errW_none, errW_some] <;> rfl) | (simp [*, errW_none, errW_some] <;> rfl), by repeat (first | (with_reducible first | exact HB.out | apply below_alloc | apply pw_below_drewN | apply below_drew1 | refine below_set ?_ GE262.out | refine below_set ?_ GE263.out) | exact HB.out)⟩
            · rw [if_neg c34] at H
              have c34b0 : decide (a0_2 < a1_2) = false := decide_eq_false c34
              clear c34
              by_cases c38 : a0_2 = a1_2
              · rw [if_pos c38] at H
                have c38b0 : (a0_2 == a1_2) = true := beq_iff_eq.mpr c38
                have c38b1 : (a0_2 != a1_2) = false := bne_eq_false_iff_eq.mpr c38
                clear c38
                by_cases c39 : a0_3 < a1_3
                · rw [if_pos c39] at H
                  have c39b0 : decide (a0_3 < a1_3) = true := decide_eq_true c39
                  clear c39
                  obtain rfl := Option.some.inj H
                  have hnb40 := NB262_263.out
                  have hnc40 := NB263_262.out
                  have hcz41_0 : wc.cell? ⟨gb262, 0, none⟩ = some (.int .i64 a0_0) := (blk_cell BK262.out 0).trans rfl
                  have hcz41_1 : wc.cell? ⟨gb262, 1, none⟩ = some (.bool a0_1) := (blk_cell BK262.out 1).trans rfl
                  have hcz41_2 : wc.cell? ⟨gb262, 2, none⟩ = some (.int .i64 a0_2) := (blk_cell BK262.out 2).trans rfl
                  have hcz41_3 : wc.cell? ⟨gb262, 3, none⟩ = some (.int .u64 a0_3) := (blk_cell BK262.out 3).trans rfl
                  have hcz41_4 : wc.cell? ⟨gb262, 4, none⟩ = some (.int .u64 a0_4) := (blk_cell BK262.out 4).trans rfl
                  have hcz41_5 : wc.cell? ⟨gb262, 5, none⟩ = some (.bool a0_5) := (blk_cell BK262.out 5).trans rfl
                  have hfz41_0 := blk_frozen BK262.out 0
                  have hfz41_1 := blk_frozen BK262.out 1
                  have hfz41_2 := blk_frozen BK262.out 2
                  have hfz41_3 := blk_frozen BK262.out 3
                  have hfz41_4 := blk_frozen BK262.out 4
                  have hfz41_5 := blk_frozen BK262.out 5
                  have hcz42_0 : wc.cell? ⟨gb263, 0, none⟩ = some (.int .i64 a1_0) := (blk_cell BK263.out 0).trans rfl
                  have hcz42_1 : wc.cell? ⟨gb263, 1, none⟩ = some (.bool a1_1) := (blk_cell BK263.out 1).trans rfl
                  have hcz42_2 : wc.cell? ⟨gb263, 2, none⟩ = some (.int .i64 a1_2) := (blk_cell BK263.out 2).trans rfl
                  have hcz42_3 : wc.cell? ⟨gb263, 3, none⟩ = some (.int .u64 a1_3) := (blk_cell BK263.out 3).trans rfl
                  have hcz42_4 : wc.cell? ⟨gb263, 4, none⟩ = some (.int .u64 a1_4) := (blk_cell BK263.out 4).trans rfl
                  have hcz42_5 : wc.cell? ⟨gb263, 5, none⟩ = some (.bool a1_5) := (blk_cell BK263.out 5).trans rfl
                  have hfz42_0 := blk_frozen BK263.out 0
                  have hfz42_1 := blk_frozen BK263.out 1
                  have hfz42_2 := blk_frozen BK263.out 2
                  have hfz42_3 := blk_frozen BK263.out 3
                  have hfz42_4 := blk_frozen BK263.out 4
                  have hfz42_5 := blk_frozen BK263.out 5
                  go_wp2
                  go_ret
                  exact ⟨by first | rfl | (simp [errW_none, errW_some] <;> rfl) | (simp [*, errW_none, errW_some] <;> rfl), by repeat (first | (with_reducible first | exact HB.out | apply below_alloc | apply pw_below_drewN | apply below_drew1 | refine below_set ?_ GE262.out | refine below_set ?_ GE263.out) | exact HB.out)⟩
                · rw [if_neg c39] at H
                  have c39b0 : decide (a0_3 < a1_3) = false := decide_eq_false c39
                  clear c39
                  by_cases c43 : a0_3 = a1_3
                  · rw [if_pos c43] at H
                    have c43b0 : (a0_3 == a1_3) = true := beq_iff_eq.mpr c43
                    have c43b1 : (a0_3 != a1_3) = false := bne_eq_false_iff_eq.mpr c43
                    clear c43
                    by_cases c44 : a0_4 < a1_4
                    · rw [if_pos c44] at H
                      have c44b0 : decide (a0_4 < a1_4) = true := decide_eq_true c44
                      clear c44
                      obtain rfl := Option.some.inj H
                      have hnb45 := NB262_263.out
                      have hnc45 := NB263_262.out
                      have hcz46_0 : wc.cell? ⟨gb262, 0, none⟩ = some (.int .i64 a0_0) := (blk_cell BK262.out 0).trans rfl
                      have hcz46_1 : wc.cell? ⟨gb262, 1, none⟩ = some (.bool a0_1) := (blk_cell BK262.out 1).trans rfl
                      have hcz46_2 : wc.cell? ⟨gb262, 2, none⟩ = some (.int .i64 a0_2) := (blk_cell BK262.out 2).trans rfl
                      have hcz46_3 : wc.cell? ⟨gb262, 3, none⟩ = some (.int .u64 a0_3) := (blk_cell BK262.out 3).trans rfl
                      have hcz46_4 : wc.cell? ⟨gb262, 4, none⟩ = some (.int .u64 a0_4) := (blk_cell BK262.out 4).trans rfl
                      have hcz46_5 : wc.cell? ⟨gb262, 5, none⟩ = some (.bool a0_5) := (blk_cell BK262.out 5).trans rfl
                      have hfz46_0 := blk_frozen BK262.out 0
                      have hfz46_1 := blk_frozen BK262.out 1
                      have hfz46_2 := blk_frozen BK262.out 2
                      have hfz46_3 := blk_frozen BK262.out 3
                      have hfz46_4 := blk_frozen BK262.out 4
                      have hfz46_5 := blk_frozen BK262.out 5
                      have hcz47_0 : wc.cell? ⟨gb263, 0, none⟩ = some (.int .i64 a1_0) := (blk_cell BK263.out 0).trans rfl
                      have hcz47_1 : wc.cell? ⟨gb263, 1, none⟩ = some (.bool a1_1) := (blk_cell BK263.out 1).trans rfl
                      have hcz47_2 : wc.cell? ⟨gb263, 2, none⟩ = some (.int .i64 a1_2) := (blk_cell BK263.out 2).trans rfl
                      have hcz47_3 : wc.cell? ⟨gb263, 3, none⟩ = some (.int .u64 a1_3) := (blk_cell BK263.out 3).trans rfl
                      have hcz47_4 : wc.cell? ⟨gb263, 4, none⟩ = some (.int .u64 a1_4) := (blk_cell BK263.out 4).trans rfl
                      have hcz47_5 : wc.cell? ⟨gb263, 5, none⟩ = some (.bool a1_5) := (blk_cell BK263.out 5).trans rfl
                      have hfz47_0 := blk_frozen BK263.out 0
                      have hfz47_1 := blk_frozen BK263.out 1
                      have hfz47_2 := blk_frozen BK263.out 2
                      have hfz47_3 := blk_frozen BK263.out 3
                      have hfz47_4 := blk_frozen BK263.out 4
                      have hfz47_5 := blk_frozen BK263.out 5
                      go_wp2
                      go_ret
                      exact ⟨by first | rfl | (simp [errW_none, errW_some] <;> rfl) | (simp [*, errW_none, errW_some] <;> rfl), by repeat (first | (with_reducible first | exact HB.out | apply below_alloc | apply pw_below_drewN | apply below_drew1 | refine below_set ?_ GE262.out | refine below_set ?_ GE263.out) | exact HB.out)⟩
                    · rw [if_neg c44] at H
                      have c44b0 : decide (a0_4 < a1_4) = false := decide_eq_false c44
                      clear c44
                      obtain rfl := Option.some.inj H
                      have hnb48 := NB262_263.out
                      have hnc48 := NB263_262.out
                      have hcz49_0 : wc.cell? ⟨gb262, 0, none⟩ = some (.int .i64 a0_0) := (blk_cell BK262.out 0).trans rfl
                      have hcz49_1 : wc.cell? ⟨gb262, 1, none⟩ = some (.bool a0_1) := (blk_cell BK262.out 1).trans rfl
                      have hcz49_2 : wc.cell? ⟨gb262, 2, none⟩ = some (.int .i64 a0_2) := (blk_cell BK262.out 2).trans rfl
                      have hcz49_3 : wc.cell? ⟨gb262, 3, none⟩ = some (.int .u64 a0_3) := (blk_cell BK262.out 3).trans rfl
                      have hcz49_4 : wc.cell? ⟨gb262, 4, none⟩ = some (.int .u64 a0_4) := (blk_cell BK262.out 4).trans rfl
                      have hcz49_5 : wc.cell? ⟨gb262, 5, none⟩ = some (.bool a0_5) := (blk_cell BK262.out 5).trans rfl
                      have hfz49_0 := blk_frozen BK262.out 0
                      have hfz49_1 := blk_frozen BK262.out 1
                      have hfz49_2 := blk_frozen BK262.out 2
                      have hfz49_3 := blk_frozen BK262.out 3
                      have hfz49_4 := blk_frozen BK262.out 4
                      have hfz49_5 := blk_frozen BK262.out 5
                      have hcz50_0 : wc.cell? ⟨gb263, 0, none⟩ = some (.int .i64 a1_0) := (blk_cell BK263.out 0).trans rfl
                      have hcz50_1 : wc.cell? ⟨gb263, 1, none⟩ = some (.bool a1_1) := (blk_cell BK263.out 1).trans rfl
                      have hcz50_2 : wc.cell? ⟨gb263, 2, none⟩ = some (.int .i64 a1_2) := (blk_cell BK263.out 2).trans rfl
                      have hcz50_3 : wc.cell? ⟨gb263, 3, none⟩ = some (.int .u64 a1_3) := (blk_cell BK263.out 3).trans rfl
                      have hcz50_4 : wc.cell? ⟨gb263, 4, none⟩ = some (.int .u64 a1_4) := (blk_cell BK263.out 4).trans rfl
                      have hcz50_5 : wc.cell? ⟨gb263, 5, none⟩ = some (.bool a1_5) := (blk_cell BK263.out 5).trans rfl
                      have hfz50_0 := blk_frozen BK263.out 0
                      have hfz50_1 := blk_frozen BK263.out 1
                      have hfz50_2 := blk_frozen BK263.out 2
                      have hfz50_3 := blk_frozen BK263.out 3
                      have hfz50_4 := blk_frozen BK263.out 4
                      have hfz50_5 := blk_frozen BK263.out 5
                      go_wp2
                      go_ret
                      exact ⟨by first | rfl | (simp [errW_none, errW_some] <;> rfl) | (simp [*, errW_none, errW_some] <;> rfl), by repeat (first | (with_reducible first | exact HB.out | apply below_alloc | apply pw_below_drewN | apply below_drew1 | refine below_set ?_ GE262.out | refine below_set ?_ GE263.out) | exact HB.out)⟩
                  · rw [if_neg c43] at H
                    have c43b0 : (a0_3 == a1_3) = false := beq_eq_false_iff_ne.mpr c43
                    have c43b1 : (a0_3 != a1_3) = true := bne_iff_ne.mpr c43
                    obtain rfl := Option.some.inj H
                    have hnb51 := NB262_263.out
                    have hnc51 := NB263_262.out
                    have hcz52_0 : wc.cell? ⟨gb262, 0, none⟩ = some (.int .i64 a0_0) := (blk_cell BK262.out 0).trans rfl
                    have hcz52_1 : wc.cell? ⟨gb262, 1, none⟩ = some (.bool a0_1) := (blk_cell BK262.out 1).trans rfl
                    have hcz52_2 : wc.cell? ⟨gb262, 2, none⟩ = some (.int .i64 a0_2) := (blk_cell BK262.out 2).trans rfl
                    have hcz52_3 : wc.cell? ⟨gb262, 3, none⟩ = some (.int .u64 a0_3) := (blk_cell BK262.out 3).trans rfl
                    have hcz52_4 : wc.cell? ⟨gb262, 4, none⟩ = some (.int .u64 a0_4) := (blk_cell BK262.out 4).trans rfl
                    have hcz52_5 : wc.cell? ⟨gb262, 5, none⟩ = some (.bool a0_5) := (blk_cell BK262.out 5).trans rfl
                    have hfz52_0 := blk_frozen BK262.out 0
                    have hfz52_1 := blk_frozen BK262.out 1
                    have hfz52_2 := blk_frozen BK262.out 2
                    have hfz52_3 := blk_frozen BK262.out 3
                    have hfz52_4 := blk_frozen BK262.out 4
                    have hfz52_5 := blk_frozen BK262.out 5
                    have hcz53_0 : wc.cell? ⟨gb263, 0, none⟩ = some (.int .i64 a1_0) := (blk_cell BK263.out 0).trans rfl
                    have hcz53_1 : wc.cell? ⟨gb263, 1, none⟩ = some (.bool a1_1) := (blk_cell BK263.out 1).trans rfl
                    have hcz53_2 : wc.cell? ⟨gb263, 2, none⟩ = some (.int .i64 a1_2) := (blk_cell BK263.out 2).trans rfl
                    have hcz53_3 : wc.cell? ⟨gb263, 3, none⟩ = some (.int .u64 a1_3) := (blk_cell BK263.out 3).trans rfl
                    have hcz53_4 : wc.cell? ⟨gb263, 4, none⟩ = some (.int .u64 a1_4) := (blk_cell BK263.out 4).trans rfl
                    have hcz53_5 : wc.cell? ⟨gb263, 5, none⟩ = some (.bool a1_5) := (blk_cell BK263.out 5).trans rfl
                    have hfz53_0 := blk_frozen BK263.out 0
                    have hfz53_1 := blk_frozen BK263.out 1
                    have hfz53_2 := blk_frozen BK263.out 2
                    have hfz53_3 := blk_frozen BK263.out 3
                    have hfz53_4 := blk_frozen BK263.out 4
                    have hfz53_5 := blk_frozen BK263.out 5
                    go_wp2
                    go_ret
                    exact ⟨by first | rfl | (simp [errW_none, errW_some] <;> rfl) | (simp [*, errW_none, errW_some] <;> rfl), by repeat (first | (with_reducible first | exact HB.out | apply below_alloc | apply pw_below_drewN | apply below_drew1 | refine below_set ?_ GE262.out | refine below_set ?_ GE263.out) | exact HB.out)⟩
              · rw [if_neg c38] at H
                have c38b0 : (a0_2 == a1_2) = false := beq_eq_false_iff_ne.mpr c38
                have c38b1 : (a0_2 != a1_2) = true := bne_iff_ne.mpr c38
                obtain rfl := Option.some.inj H
                have hnb54 := NB262_263.out
                have hnc54 := NB263_262.out
                have hcz55_0 : wc.cell? ⟨gb262, 0, none⟩ = some (.int .i64 a0_0) := (blk_cell BK262.out 0).trans rfl
                have hcz55_1 : wc.cell? ⟨gb262, 1, none⟩ = some (.bool a0_1) := (blk_cell BK262.out 1).trans rfl
                have hcz55_2 : wc.cell? ⟨gb262, 2, none⟩ = some (.int .i64 a0_2) := (blk_cell BK262.out 2).trans rfl
                have hcz55_3 : wc.cell? ⟨gb262, 3, none⟩ = some (.int .u64 a0_3) := (blk_cell BK262.out 3).trans rfl
                have hcz55_4 : wc.cell? ⟨gb262, 4, none⟩ = some (.int .u64 a0_4) := (blk_cell BK262.out 4).trans rfl
                have hcz55_5 : wc.cell? ⟨gb262, 5, none⟩ = some (.bool a0_5) := (blk_cell BK262.out 5).trans rfl
                have hfz55_0 := blk_frozen BK262.out 0
                have hfz55_1 := blk_frozen BK262.out 1
                have hfz55_2 := blk_frozen BK262.out 2
                have hfz55_3 := blk_frozen BK262.out 3
                have hfz55_4 := blk_frozen BK262.out 4
                have hfz55_5 := blk_frozen BK262.out 5
                have hcz56_0 : wc.cell? ⟨gb263, 0, none⟩ = some (.int .i64 a1_0) := (blk_cell BK263.out 0).trans rfl
                have hcz56_1 : wc.cell? ⟨gb263, 1, none⟩ = some (.bool a1_1) := (blk_cell BK263.out 1).trans rfl
                have hcz56_2 : wc.cell? ⟨gb263, 2, none⟩ = some (.int .i64 a1_2) := (blk_cell BK263.out 2).trans rfl
                have hcz56_3 : wc.cell? ⟨gb263, 3, none⟩ = some (.int .u64 a1_3) := (blk_cell BK263.out 3).trans rfl
                have hcz56_4 : wc.cell? ⟨gb263, 4, none⟩ = some (.int .u64 a1_4) := (blk_cell BK263.out 4).trans rfl
                have hcz56_5 : wc.cell? ⟨gb263, 5, none⟩ = some (.bool a1_5) := (blk_cell BK263.out 5).trans rfl
                have hfz56_0 := blk_frozen BK263.out 0
                have hfz56_1 := blk_frozen BK263.out 1
                have hfz56_2 := blk_frozen BK263.out 2
                have hfz56_3 := blk_frozen BK263.out 3
                have hfz56_4 := blk_frozen BK263.out 4
                have hfz56_5 := blk_frozen BK263.out 5
                go_wp2
                go_ret
                exact ⟨by first | rfl | (simp [errW_none, errW_some] <;> rfl) | (simp [*, errW_none, errW_some] <;> rfl), by repeat (first | (with_reducible first | exact HB.out | apply below_alloc | apply pw_below_drewN | apply below_drew1 | refine below_set ?_ GE262.out | refine below_set ?_ GE263.out) | exact HB.out)⟩
end Go.Proofs.Ytfegofnplcmacaa.PAll
namespace Go.Proofs.Ytfegofnplcmacaa.PAll
open Go.RowKit Go.Proofs.YtfegofnplcmacaaW.PrintWords Go.Proofs.YtfegofnplcmacaaW.PrintLast Go.Proofs.YtfegofnplcmacaaW.PrintMore
attribute [local go_sem] max2_int min2_int max_two min_two max_three min_three max_four min_four
set_option linter.unusedVariables false
set_option linter.unusedSimpArgs false
def vernierref01_Text.l0 : Nat → Int → List Int → Int → Option (ByteArray)
  | 0, _, _, _ => none
  | k + 1, x0, x5, x6 => if x6 ≥ 0 then (if 0 ≤ x6 then (if x5.length < 140737488355328 then (vernierref01_Text.l0 k x0 (x5 ++ [(48 + (Int.tmod (shr .u64 x0 x6) 2)) % 256]) (wrap64 (x6 - 1))) else (none)) else (none)) else (some (strOfNums x5))
def vernierref01_Text.f (k : Nat) (a0 : Int) (a1 : Int) : Option (ByteArray) := vernierref01_Text.l0 k a0 ([] : List Int) (wrap64 (a1 - 1))
theorem vernierref01_Text.mono_l : ∀ k, (∀ y0 y1 y2, LeO (vernierref01_Text.l0 k y0 y1 y2) (vernierref01_Text.l0 (k + 1) y0 y1 y2))
  | 0 => fun _ _ _ r h => by simp [vernierref01_Text.l0] at h
  | k + 1 => by
    have ih0 := vernierref01_Text.mono_l k
    · intro y0 y1 y2
      unfold vernierref01_Text.l0
      repeat' first
      | (with_reducible exact ih0 _ _ _)
      | (with_reducible exact LeO.refl _)
      | (with_reducible exact LeO.none _)
      | (with_reducible refine LeO.ite ?_ ?_)
      | (with_reducible refine LeO.bind ?_ (fun _ => ?_))
      | exact ih0 _ _ _
      | exact LeO.none _
      | refine LeO.ite ?_ ?_
      | refine LeO.bind ?_ (fun _ => ?_)
theorem vernierref01_Text.mono : ∀ a0 a1 k, LeO (vernierref01_Text.f k a0 a1) (vernierref01_Text.f (k + 1) a0 a1) := by
  intro a0 a1 k
  have ih0 := vernierref01_Text.mono_l k
  unfold vernierref01_Text.f
  repeat' first
      | (with_reducible exact ih0 _ _ _)
      | (with_reducible exact LeO.refl _)
      | (with_reducible exact LeO.none _)
      | (with_reducible refine LeO.ite ?_ ?_)
      | (with_reducible refine LeO.bind ?_ (fun _ => ?_))
      | exact ih0 _ _ _
      | exact LeO.none _
      | refine LeO.ite ?_ ?_
      | refine LeO.bind ?_ (fun _ => ?_)
set_option maxHeartbeats 8000000 in
set_option maxRecDepth 100000 in
theorem vernierref01_Text.calls (k : Nat) (a0 : Int) (a1 : Int) (r : ByteArray) (w : World) (h : vernierref01_Text.f k a0 a1 = some r) :
    Calls Try.prog 32 #[.int .u64 a0, .int .i64 a1] w fun e w' => e = .returned (.string r) ∧ Below w.heap.size w w' := by
  have HB := Aside0.mk (Below.refl w.heap.size w)
  have H : (vernierref01_Text.l0 k a0 ([] : List Int) (wrap64 (a1 - 1))) = some r := h
  clear h
  have H' := Aside0.mk H
  clear H
  go_enter Try.func32, Try.ntmps32
  go_wp2
  go_loopg [5, 6] k (fun kq v5 v6 w' => ∃ (x5_1 : List Int) (x6_1 : Int), v6 = .int .i64 x6_1 ∧ Aside0 (vernierref01_Text.l0 kq a0 x5_1 x6_1 = some r) ∧ Aside0 (kq ≤ k) ∧ Aside0 (Kd.R (Kd.int .u8) 5 w' w.heap.size (fun _ => True) v5 x5_1) ∧ Aside0 (Below w.heap.size w w'))
  case atStart => exact ⟨(([] : List Int)), (wrap64 (a1 - 1)), (by first | rfl | (simp; done) | (simp [*]; done)), H', ⟨Nat.le_refl _⟩, ⟨by first | exact Kd.R_nil _ _ _ _ _ | exact Kd.N_nil _ _ _ _ _ | exact Kd.V_nil _ _ _ _ _ | exact Kd.Q_nil _ _ _ _ _ | exact Kd.S_nil _ _ _ _ _⟩, ⟨by repeat (first | (with_reducible first | exact HB.out | apply below_alloc | apply pw_below_drewN | apply below_drew1) | exact HB.out)⟩⟩
  case round =>
    clear H'
    try clear p2
    obtain ⟨x5_1, x6_1, rfl, HA, HK1, HO_5, HB⟩ := hrel
    cases gk with
    | zero => exact absurd HA.out (by simp [vernierref01_Text.l0])
    | succ k1 =>
      have H := HA.out
      clear HA
      simp only [vernierref01_Text.l0] at H
      by_cases c3 : x6_1 ≥ 0
      · rw [if_pos c3] at H
        have c3b0 : decide (0 ≤ x6_1) = true := decide_eq_true c3
        clear c3
        by_cases c4 : 0 ≤ x6_1
        · rw [if_pos c4] at H
          have c4b0 := eq_true c4
          have c4b1 : decide (0 ≤ x6_1) = true := decide_eq_true c4
          clear c4
          obtain ⟨ji5, hji5⟩ : ∃ j_ : Int, (shr .u64 a0 x6_1) = j_ := ⟨_, rfl⟩
          replace H : (if x5_1.length < 140737488355328 then (vernierref01_Text.l0 k1 a0 (x5_1 ++ [(48 + (Int.tmod (ji5) 2)) % 256]) (wrap64 (x6_1 - 1))) else (none)) = some r := by first | (rw [hji5] at H; exact H) | (simp only [hji5] at H ⊢; exact H)
          have hji5_ : (a0 / 2 ^ min x6_1.toNat 64) = ji5 := hji5
          have hji5z : x6_1 ≤ 64 → (a0 / 2 ^ x6_1.toNat) = ji5 := shr_small hji5
          (try (have hji5Z_ := hji5z (by omega)))
          by_cases c6 : x5_1.length < 140737488355328
          · rw [if_pos c6] at H
            have LMc6 := Aside0.mk c6
            clear c6
            obtain ⟨y200, hy200⟩ : ∃ y_ : List Int, y_ = (x5_1 ++ [(48 + (Int.tmod (ji5) 2)) % 256]) := ⟨_, rfl⟩
            replace H : (vernierref01_Text.l0 k1 a0 y200 (wrap64 (x6_1 - 1))) = some r := by first | (rw [hy200]; with_reducible exact H) | (have H2_ := (Option.bind_some _ _).symm.trans H; rw [hy200]; with_reducible exact H2_) | (have H2_ := (Option.bind_some _ _).symm.trans H; with_reducible exact H2_) | with_reducible exact H | (rw [hy200]; exact H) | exact H
            have Ny200 := Aside0.mk hy200
            clear hy200
            have H' := Aside0.mk H
            clear H
            go_wp2_with (first | ((with_reducible refine gate_builtin (b := .append) (xs := #[.tmp 13, .tmp 20]) rfl ?_); at_builtin; refine Kd.R_append (Kd.int .u8) (w0 := w) w.heap.size rfl (.tmp 13) (.tmp 20) 97 5 (.int .u8 0) 1 rfl Try.underlying97 info5 rfl (by decide) (by omega) u5 x5_1 ((48 + (Int.tmod (ji5) 2)) % 256) [.int .u8 ((48 + (Int.tmod (ji5) 2)) % 256)] (fun _ => True) (fun _ => False) rfl rfl ?aP (fun _ hk => hk.elim) ?aF ?aO ?aB ?aS ?aL ?_; (case aP => exact rfl); (case aB => exact (by repeat (first | (with_reducible first | exact HB.out | apply below_alloc | apply pw_below_drewN | apply below_drew1) | exact HB.out))); (case aF => exact (fun _ _ => trivial)); (case aO => exact (by (with_reducible repeat (first | apply Kd.R_alloc | apply Kd.R_drewN | apply Kd.R_drew)); exact HO_5.out)); (case aS => exact (below_size (by repeat (first | (with_reducible first | exact HB.out | apply below_alloc | apply pw_below_drewN | apply below_drew1) | exact HB.out)))); (case aL => have := LMc6.out; omega); intro v201 w7 ho hb hg hat; rw [← Ny200.out] at ho; have n0_ := Aside0.mk (hb); have n1_ := Aside0.mk (ho); clear HB; clear HO_5; have HB := n0_; have HO202 := n1_; clear n0_ n1_; clear ho hb hg hat))
            go_roundg k1
            case measure => have := HK1.out; omega
            case rel => exact ⟨(y200), (wrap64 (x6_1 - 1)), (by first | rfl | (simp; done) | (simp [*]; done)), H', ⟨by have := HK1.out; omega⟩, ⟨by (with_reducible repeat (first | apply Kd.R_alloc | apply Kd.R_drewN | apply Kd.R_drew)); exact HO202.out⟩, ⟨by repeat (first | (with_reducible first | exact HB.out | apply below_alloc | apply pw_below_drewN | apply below_drew1) | exact HB.out)⟩⟩
          · rw [if_neg c6] at H
            exact absurd H (by simp)
        · rw [if_neg c4] at H
          exact absurd H (by simp)
      · rw [if_neg c3] at H
        have c3b0 : decide (0 ≤ x6_1) = false := decide_eq_false c3
        clear c3
        obtain rfl := Option.some.inj H
        have hcv8 := own_string (P := Try.prog) Try.underlying97 Try.underlying5 Try.underlying9 (Kd.own_of_R HO_5.out)
        go_wp2
        go_ret
        exact ⟨by first | rfl | (simp [errW_none, errW_some] <;> rfl) | (simp [*, errW_none, errW_some] <;> rfl), by repeat (first | (with_reducible first | exact HB.out | apply below_alloc | apply pw_below_drewN | apply below_drew1) | exact HB.out)⟩
end Go.Proofs.Ytfegofnplcmacaa.PAll
namespace Go.Proofs.Ytfegofnplcmacaa.PAll
open Go.RowKit Go.Proofs.YtfegofnplcmacaaW.PrintWords Go.Proofs.YtfegofnplcmacaaW.PrintLast Go.Proofs.YtfegofnplcmacaaW.PrintMore
attribute [local go_sem] max2_int min2_int max_two min_two max_three min_three max_four min_four
set_option linter.unusedVariables false
set_option linter.unusedSimpArgs false
mutual
def vernierref01_Extend.j0 : Nat → Int → Int → Bool → Option (Int × Int)
  | 0, _, _, _ => none
  | k + 1, x0, x1, x14 => if x14 = true then (some (0, 1)) else ((vernierref01_Text.f k x0 x1).bind fun t266 => (if 0 < (t266.size : Int) then (if (bt t266 0) = 49 then (vernierref01_Extend.j1 k x1 t266 (-1)) else (vernierref01_Extend.j1 k x1 t266 0)) else (none)))
def vernierref01_Extend.j1 : Nat → Int → ByteArray → Int → Option (Int × Int)
  | 0, _, _, _ => none
  | k + 1, x1, x6, x7 => vernierref01_Extend.l0 k x1 x6 x7 1
def vernierref01_Extend.l0 : Nat → Int → ByteArray → Int → Int → Option (Int × Int)
  | 0, _, _, _, _ => none
  | k + 1, x1, x6, x7, x8 => if x8 < x1 then (if 0 ≤ x8 then (if x8 < (x6.size : Int) then (vernierref01_Extend.l0 k x1 x6 (wrap64 ((wrap64 (2 * x7)) + (((bt x6 x8) - 48) % 256))) (wrap64 (x8 + 1))) else (none)) else (none)) else (some (x7, 0))
end
def vernierref01_Extend.f (k : Nat) (a0 : Int) (a1 : Int) : Option (Int × Int) := if a1 < 1 then (vernierref01_Extend.j0 k a0 a1 true) else (vernierref01_Extend.j0 k a0 a1 (decide (a1 > 64)))
theorem vernierref01_Extend.mono_l : ∀ k, (∀ y0 y1 y2, LeO (vernierref01_Extend.j0 k y0 y1 y2) (vernierref01_Extend.j0 (k + 1) y0 y1 y2)) ∧ (∀ y0 y1 y2, LeO (vernierref01_Extend.j1 k y0 y1 y2) (vernierref01_Extend.j1 (k + 1) y0 y1 y2)) ∧ (∀ y0 y1 y2 y3, LeO (vernierref01_Extend.l0 k y0 y1 y2 y3) (vernierref01_Extend.l0 (k + 1) y0 y1 y2 y3))
  | 0 => ⟨fun _ _ _ r h => by simp [vernierref01_Extend.j0] at h, fun _ _ _ r h => by simp [vernierref01_Extend.j1] at h, fun _ _ _ _ r h => by simp [vernierref01_Extend.l0] at h⟩
  | k + 1 => by
    obtain ⟨ih0, ih1, ih2⟩ := vernierref01_Extend.mono_l k
    refine ⟨?_, ?_, ?_⟩
    · intro y0 y1 y2
      unfold vernierref01_Extend.j0
      repeat' first
      | (with_reducible exact ih0 _ _ _)
      | (with_reducible exact ih1 _ _ _)
      | (with_reducible exact ih2 _ _ _ _)
      | (with_reducible exact vernierref01_Text.mono _ _ _)
      | (with_reducible exact LeO.refl _)
      | (with_reducible exact LeO.none _)
      | (with_reducible refine LeO.ite ?_ ?_)
      | (with_reducible refine LeO.bind ?_ (fun _ => ?_))
      | exact ih0 _ _ _
      | exact ih1 _ _ _
      | exact ih2 _ _ _ _
      | exact vernierref01_Text.mono _ _ _
      | exact LeO.none _
      | refine LeO.ite ?_ ?_
      | refine LeO.bind ?_ (fun _ => ?_)
    · intro y0 y1 y2
      unfold vernierref01_Extend.j1
      repeat' first
      | (with_reducible exact ih0 _ _ _)
      | (with_reducible exact ih1 _ _ _)
      | (with_reducible exact ih2 _ _ _ _)
      | (with_reducible exact vernierref01_Text.mono _ _ _)
      | (with_reducible exact LeO.refl _)
      | (with_reducible exact LeO.none _)
      | (with_reducible refine LeO.ite ?_ ?_)
      | (with_reducible refine LeO.bind ?_ (fun _ => ?_))
      | exact ih0 _ _ _
      | exact ih1 _ _ _
      | exact ih2 _ _ _ _
      | exact vernierref01_Text.mono _ _ _
      | exact LeO.none _
      | refine LeO.ite ?_ ?_
      | refine LeO.bind ?_ (fun _ => ?_)
    · intro y0 y1 y2 y3
      unfold vernierref01_Extend.l0
      repeat' first
      | (with_reducible exact ih0 _ _ _)
      | (with_reducible exact ih1 _ _ _)
      | (with_reducible exact ih2 _ _ _ _)
      | (with_reducible exact vernierref01_Text.mono _ _ _)
      | (with_reducible exact LeO.refl _)
      | (with_reducible exact LeO.none _)
      | (with_reducible refine LeO.ite ?_ ?_)
      | (with_reducible refine LeO.bind ?_ (fun _ => ?_))
      | exact ih0 _ _ _
      | exact ih1 _ _ _
      | exact ih2 _ _ _ _
      | exact vernierref01_Text.mono _ _ _
      | exact LeO.none _
      | refine LeO.ite ?_ ?_
      | refine LeO.bind ?_ (fun _ => ?_)
theorem vernierref01_Extend.mono : ∀ a0 a1 k, LeO (vernierref01_Extend.f k a0 a1) (vernierref01_Extend.f (k + 1) a0 a1) := by
  intro a0 a1 k
  obtain ⟨ih0, ih1, ih2⟩ := vernierref01_Extend.mono_l k
  unfold vernierref01_Extend.f
  repeat' first
      | (with_reducible exact ih0 _ _ _)
      | (with_reducible exact ih1 _ _ _)
      | (with_reducible exact ih2 _ _ _ _)
      | (with_reducible exact vernierref01_Text.mono _ _ _)
      | (with_reducible exact LeO.refl _)
      | (with_reducible exact LeO.none _)
      | (with_reducible refine LeO.ite ?_ ?_)
      | (with_reducible refine LeO.bind ?_ (fun _ => ?_))
      | exact ih0 _ _ _
      | exact ih1 _ _ _
      | exact ih2 _ _ _ _
      | exact vernierref01_Text.mono _ _ _
      | exact LeO.none _
      | refine LeO.ite ?_ ?_
      | refine LeO.bind ?_ (fun _ => ?_)
set_option maxHeartbeats 8000000 in
set_option maxRecDepth 100000 in
theorem vernierref01_Extend.calls (k : Nat) (a0 : Int) (a1 : Int) (r1 : Int) (r2 : Int) (w : World) (h : vernierref01_Extend.f k a0 a1 = some (r1, r2)) :
    Calls Try.prog 58 #[.int .u64 a0, .int .i64 a1] w fun e w' => e = .returned (.tuple #[.int .i64 r1, .int .i64 r2]) ∧ Below w.heap.size w w' := by
  have HB := Aside0.mk (Below.refl w.heap.size w)
  have H : (if a1 < 1 then (vernierref01_Extend.j0 k a0 a1 true) else (vernierref01_Extend.j0 k a0 a1 (decide (a1 > 64)))) = some (r1, r2) := h
  clear h
  have HC3 := Aside0.mk H
  clear H
  go_enter Try.func58, Try.ntmps58
  go_upto_region 1 with (fail)
  go_cut [14] (fun v14 wc => ∃ (kq : Nat) (x14_2 : Bool), v14 = .bool x14_2 ∧ Aside0 (vernierref01_Extend.j0 kq a0 a1 x14_2 = some (r1, r2)) ∧ Aside0 (kq ≤ k) ∧ Aside0 (Below w.heap.size w wc))
  case first =>
    have H := HC3.out
    clear HC3
    by_cases c4 : a1 < 1
    · rw [if_pos c4] at H
      have c4b0 : decide (a1 < 1) = true := decide_eq_true c4
      clear c4
      (first | rw [c4b0] | (simp only [i64_w, i32_w]; rw [c4b0]) | skip)
      have H' := Aside0.mk H
      clear H
      go_wp2
      go_meet
      case rel => exact ⟨_, (true), (by first | rfl | (simp; done) | (simp [*]; done)), H', ⟨by first | omega | exact Nat.le_refl _⟩, ⟨by repeat (first | (with_reducible first | exact HB.out | apply below_alloc | apply pw_below_drewN | apply below_drew1) | exact HB.out)⟩⟩
    · rw [if_neg c4] at H
      have c4b0 : decide (a1 < 1) = false := decide_eq_false c4
      clear c4
      (first | rw [c4b0] | (simp only [i64_w, i32_w]; rw [c4b0]) | skip)
      have H' := Aside0.mk H
      clear H
      go_wp2
      go_meet
      case rel => exact ⟨_, (decide (a1 > 64)), (by first | rfl | (simp; done) | (simp [*]; done)), H', ⟨by first | omega | exact Nat.le_refl _⟩, ⟨by repeat (first | (with_reducible first | exact HB.out | apply below_alloc | apply pw_below_drewN | apply below_drew1) | exact HB.out)⟩⟩
  case rest =>
    clear HC3
    try clear p2
    try clear c4
    try clear c4b0
    obtain ⟨kq, x14_2, rfl, HA, HJ2, HB⟩ := hcut
    cases kq with
    | zero => exact absurd HA.out (by simp [vernierref01_Extend.j0])
    | succ kj2 =>
      have H := HA.out
      clear HA
      simp only [vernierref01_Extend.j0] at H
      by_cases c5 : x14_2 = true
      · subst c5
        have H1 : (some (0, 1)) = some (r1, r2) := by rw [if_pos rfl] at H; exact H
        clear H
        have H := H1
        clear H1
        simp only [Option.some.injEq, Prod.mk.injEq] at H
        obtain ⟨rfl, rfl⟩ := H
        go_wp2
        go_ret2
        exact ⟨by first | rfl | (simp [errW_none, errW_some] <;> rfl) | (simp [*, errW_none, errW_some] <;> rfl), by repeat (first | (with_reducible first | exact HB.out | apply below_alloc | apply pw_below_drewN | apply below_drew1) | exact HB.out)⟩
      · replace c5 := Bool.eq_false_iff.mpr c5
        subst c5
        have H1 : ((vernierref01_Text.f kj2 a0 a1).bind fun t266 => (if 0 < (t266.size : Int) then (if (bt t266 0) = 49 then (vernierref01_Extend.j1 kj2 a1 t266 (-1)) else (vernierref01_Extend.j1 kj2 a1 t266 0)) else (none))) = some (r1, r2) := by rw [if_neg (show ¬ (false = true) by decide)] at H; exact H
        clear H
        have H := H1
        clear H1
        replace H := Option.bind_eq_some_iff.mp H
        obtain ⟨t266, A60, H⟩ := H
        replace H : (if 0 < (t266.size : Int) then (if (bt t266 0) = 49 then (vernierref01_Extend.j1 kj2 a1 t266 (-1)) else (vernierref01_Extend.j1 kj2 a1 t266 0)) else (none)) = some (r1, r2) := H
        have A6 := Aside0.mk A60
        clear A60
        by_cases c7 : 0 < (t266.size : Int)
        · rw [if_pos c7] at H
          have c7b0 : decide (0 < (t266.size : Int)) = true := decide_eq_true c7
          have c7b1 : decide (0 < t266.size) = true := decide_eq_true (by omega)
          clear c7
          have HC9 := Aside0.mk H
          clear H
          go_upto_if 20 with (first | ((with_reducible refine gate_callee (f := 32) rfl ?_); refine goesL_ (some 17) rfl rfl Try.func32 (by kernel_rfl) rfl #[.int .u64 a0, .int .i64 a1] rfl (by (try simp only [List.map_toArray, List.map_cons, List.map_nil]); first | done | rfl | (simp only [List.length_drop, List.length_take]; rfl)) ?_; (with_reducible refine (vernierref01_Text.calls kj2 a0 a1 t266 _ A6.out).mono ?_); rintro e w10 ⟨rfl, hb⟩; refine ⟨_, rfl, ?_⟩; have n0_ := Aside0.mk (below_step (by repeat (first | (with_reducible first | exact HB.out | apply below_alloc | apply pw_below_drewN | apply below_drew1) | exact HB.out)) hb); clear HB; have HB := n0_; clear n0_; (try clear hb); (try clear hb2); (try clear hk); (try clear hi); have p8 : 0 ≤ (0 : Int) := (by omega); have q8 : 0 < t266.size := (by have : (0 : Int) < (t266.size : Int) := of_decide_eq_true (by first | (with_reducible assumption) | assumption); omega); have hx8 : ∀ h : 0 < t266.size, ((t266[0]'h).toNat : Int) = bt t266 0 := bt_at t266 0; clear p8; have qi8 : (0 < (t266.size : Int)) = True := eq_true (of_decide_eq_true (by first | (with_reducible assumption) | assumption)); replace q8 := eq_true q8))
          (try simp only [Act.put, List.setIfInBounds_toArray, List.set_cons_zero, List.set_cons_succ])
          go_cut [7] (fun v7 wc => ∃ (kq : Nat) (x7_8 : Int), v7 = .int .i64 x7_8 ∧ Aside0 (vernierref01_Extend.j1 kq a1 t266 x7_8 = some (r1, r2)) ∧ Aside0 (kq ≤ kj2) ∧ Aside0 (Below w.heap.size w wc))
          case first =>
            have H := HC9.out
            clear HC9
            by_cases c11 : (bt t266 0) = 49
            · rw [if_pos c11] at H
              have c11b0 : ((bt t266 0) == 49) = true := beq_iff_eq.mpr c11
              have c11b1 : ((bt t266 0) != 49) = false := bne_eq_false_iff_eq.mpr c11
              clear c11
              (first | rw [c11b0] | (simp only [i64_w, i32_w]; rw [c11b0]) | skip)
              have H' := Aside0.mk H
              clear H
              go_wp2
              go_meet
              case rel => exact ⟨_, ((-1)), (by first | rfl | (simp; done) | (simp [*]; done)), H', ⟨by have := HJ2.out; first | omega | exact Nat.le_refl _⟩, ⟨by repeat (first | (with_reducible first | exact HB.out | apply below_alloc | apply pw_below_drewN | apply below_drew1) | exact HB.out)⟩⟩
            · rw [if_neg c11] at H
              have c11b0 : ((bt t266 0) == 49) = false := beq_eq_false_iff_ne.mpr c11
              have c11b1 : ((bt t266 0) != 49) = true := bne_iff_ne.mpr c11
              (first | rw [c11b0] | (simp only [i64_w, i32_w]; rw [c11b0]) | skip)
              have H' := Aside0.mk H
              clear H
              go_wp2
              go_meet
              case rel => exact ⟨_, (0), (by first | rfl | (simp; done) | (simp [*]; done)), H', ⟨by have := HJ2.out; first | omega | exact Nat.le_refl _⟩, ⟨by repeat (first | (with_reducible first | exact HB.out | apply below_alloc | apply pw_below_drewN | apply below_drew1) | exact HB.out)⟩⟩
          case rest =>
            clear HC9
            try clear c1
            try clear p2
            try clear c3
            try clear c4
            try clear c4b0
            try clear c5
            try clear c7
            try clear c7b0
            try clear c7b1
            try clear p8
            try clear q8
            try clear hx8
            try clear qi8
            try clear c11
            try clear c11b0
            try clear c11b1
            try clear p2
            try clear p8
            try clear q8
            obtain ⟨kq, x7_8, rfl, HA, HJ8, HB⟩ := hcut
            cases kq with
            | zero => exact absurd HA.out (by simp [vernierref01_Extend.j1])
            | succ kj8 =>
              have H := HA.out
              clear HA
              simp only [vernierref01_Extend.j1] at H
              have H' := Aside0.mk H
              clear H
              go_wp2
              go_loopg [7, 8] kj8 (fun kq v7 v8 w' => ∃ (x7_3 : Int) (x8_3 : Int), v7 = .int .i64 x7_3 ∧ v8 = .int .i64 x8_3 ∧ Aside0 (vernierref01_Extend.l0 kq a1 t266 x7_3 x8_3 = some (r1, r2)) ∧ Aside0 (kq ≤ kj8) ∧ Aside0 (Below w.heap.size w w'))
              case atStart => exact ⟨(x7_8), (1), (by first | rfl | (simp; done) | (simp [*]; done)), (by first | rfl | (simp; done) | (simp [*]; done)), H', ⟨Nat.le_refl _⟩, ⟨by repeat (first | (with_reducible first | exact HB.out | apply below_alloc | apply pw_below_drewN | apply below_drew1) | exact HB.out)⟩⟩
              case round =>
                clear H'
                try clear c1
                try clear p2
                try clear c3
                try clear c4
                try clear c4b0
                try clear c5
                try clear c7
                try clear c7b0
                try clear c7b1
                try clear p8
                try clear q8
                try clear hx8
                try clear qi8
                try clear c11
                try clear c11b0
                try clear c11b1
                try clear p2
                try clear p8
                try clear q8
                obtain ⟨x7_3, x8_3, rfl, rfl, HA, HK3, HB⟩ := hrel
                cases gk with
                | zero => exact absurd HA.out (by simp [vernierref01_Extend.l0])
                | succ k3 =>
                  have H := HA.out
                  clear HA
                  simp only [vernierref01_Extend.l0] at H
                  by_cases c12 : x8_3 < a1
                  · rw [if_pos c12] at H
                    have c12b0 : decide (x8_3 < a1) = true := decide_eq_true c12
                    clear c12
                    by_cases c13 : 0 ≤ x8_3
                    · rw [if_pos c13] at H
                      have c13b0 : decide (0 ≤ x8_3) = true := decide_eq_true c13
                      clear c13
                      by_cases c14 : x8_3 < (t266.size : Int)
                      · rw [if_pos c14] at H
                        have c14b0 : decide (x8_3 < (t266.size : Int)) = true := decide_eq_true c14
                        clear c14
                        have H' := Aside0.mk H
                        clear H
                        have p15 : 0 ≤ (x8_3 : Int) := of_decide_eq_true (by first | (with_reducible assumption) | assumption)
                        have q15 : x8_3 < (t266.size : Int) := of_decide_eq_true (by first | (with_reducible assumption) | assumption)
                        have hx15 := bt_at t266 x8_3
                        replace p15 := eq_true p15
                        replace q15 := eq_true q15
                        go_wp2
                        go_roundg k3
                        case measure => have := HJ2.out; have := HJ8.out; have := HK3.out; omega
                        case rel => exact ⟨(wrap64 ((wrap64 (2 * x7_3)) + (((bt t266 x8_3) - 48) % 256))), (wrap64 (x8_3 + 1)), (by first | rfl | (simp; done) | (simp [*]; done)), (by first | rfl | (simp; done) | (simp [*]; done)), H', ⟨by have := HJ2.out; have := HJ8.out; have := HK3.out; omega⟩, ⟨by repeat (first | (with_reducible first | exact HB.out | apply below_alloc | apply pw_below_drewN | apply below_drew1) | exact HB.out)⟩⟩
                      · rw [if_neg c14] at H
                        exact absurd H (by simp)
                    · rw [if_neg c13] at H
                      exact absurd H (by simp)
                  · rw [if_neg c12] at H
                    have c12b0 : decide (x8_3 < a1) = false := decide_eq_false c12
                    clear c12
                    simp only [Option.some.injEq, Prod.mk.injEq] at H
                    obtain ⟨rfl, rfl⟩ := H
                    go_wp2
                    go_ret2
                    exact ⟨by first | rfl | (simp [errW_none, errW_some] <;> rfl) | (simp [*, errW_none, errW_some] <;> rfl), by repeat (first | (with_reducible first | exact HB.out | apply below_alloc | apply pw_below_drewN | apply below_drew1) | exact HB.out)⟩
        · rw [if_neg c7] at H
          exact absurd H (by simp)
end Go.Proofs.Ytfegofnplcmacaa.PAll
namespace Go.Proofs.Ytfegofnplcmacaa.PAll
open Go.RowKit Go.Proofs.YtfegofnplcmacaaW.PrintWords Go.Proofs.YtfegofnplcmacaaW.PrintLast Go.Proofs.YtfegofnplcmacaaW.PrintMore
attribute [local go_sem] max2_int min2_int max_two min_two max_three min_three max_four min_four
set_option linter.unusedVariables false
set_option linter.unusedSimpArgs false
def vernierref05_Rank.f (k : Nat) (a0 : Int) (a1 : Int) : Option (Int × Int) := (vernierref05_Is.f a0).bind fun t267 => (if t267 = true then ((vernierref01_Extend.f k a1 a0).bind fun bt268 => (some (bt268.1, 0))) else (some (0, 2)))
theorem vernierref05_Rank.mono : ∀ a0 a1 k, LeO (vernierref05_Rank.f k a0 a1) (vernierref05_Rank.f (k + 1) a0 a1) := by
  intro a0 a1 k
  unfold vernierref05_Rank.f
  repeat' first
      | (with_reducible exact vernierref01_Extend.mono _ _ _)
      | (with_reducible exact LeO.refl _)
      | (with_reducible exact LeO.none _)
      | (with_reducible refine LeO.ite ?_ ?_)
      | (with_reducible refine LeO.bind ?_ (fun _ => ?_))
      | exact vernierref01_Extend.mono _ _ _
      | exact LeO.none _
      | refine LeO.ite ?_ ?_
      | refine LeO.bind ?_ (fun _ => ?_)
set_option maxHeartbeats 8000000 in
set_option maxRecDepth 100000 in
theorem vernierref05_Rank.calls (k : Nat) (a0 : Int) (a1 : Int) (r1 : Int) (r2 : Int) (w : World) (h : vernierref05_Rank.f k a0 a1 = some (r1, r2)) :
    Calls Try.prog 41 #[.int .i64 a0, .int .u64 a1] w fun e w' => e = .returned (.tuple #[.int .i64 r1, .int .i64 r2]) ∧ Below w.heap.size w w' := by
  have HB := Aside0.mk (Below.refl w.heap.size w)
  have H : ((vernierref05_Is.f a0).bind fun t267 => (if t267 = true then ((vernierref01_Extend.f k a1 a0).bind fun bt268 => (some (bt268.1, 0))) else (some (0, 2)))) = some (r1, r2) := h
  clear h
  replace H := Option.bind_eq_some_iff.mp H
  obtain ⟨t267, A30, H⟩ := H
  replace H : (if t267 = true then ((vernierref01_Extend.f k a1 a0).bind fun bt268 => (some (bt268.1, 0))) else (some (0, 2))) = some (r1, r2) := H
  have A3 := Aside0.mk A30
  clear A30
  by_cases c4 : t267 = true
  · subst c4
    have H1 : ((vernierref01_Extend.f k a1 a0).bind fun bt268 => (some (bt268.1, 0))) = some (r1, r2) := by rw [if_pos rfl] at H; exact H
    clear H
    have H := H1
    clear H1
    replace H := Option.bind_eq_some_iff.mp H
    obtain ⟨⟨t268, t269⟩, A50, H⟩ := H
    replace H : (some (t268, 0)) = some (r1, r2) := H
    have A5 := Aside0.mk A50
    clear A50
    simp only [Option.some.injEq, Prod.mk.injEq] at H
    obtain ⟨rfl, rfl⟩ := H
    go_enter Try.func41, Try.ntmps41
    go_wp2_with (first | ((with_reducible refine gate_callee (f := 17) rfl ?_); refine goesL_ (some 10) rfl rfl Try.func17 (by kernel_rfl) rfl #[.int .i64 a0] rfl (by (try simp only [List.map_toArray, List.map_cons, List.map_nil]); first | done | rfl | (simp only [List.length_drop, List.length_take]; rfl)) ?_; (with_reducible refine (vernierref05_Is.calls a0 true _ A3.out).mono ?_); rintro e w' ⟨rfl, ⟨nd, rfl⟩⟩; refine ⟨_, rfl, ?_⟩) | ((with_reducible refine gate_callee (f := 58) rfl ?_); refine goesL_ (some 16) rfl rfl Try.func58 (by kernel_rfl) rfl #[.int .u64 a1, .int .i64 a0] rfl (by (try simp only [List.map_toArray, List.map_cons, List.map_nil]); first | done | rfl | (simp only [List.length_drop, List.length_take]; rfl)) ?_; (with_reducible refine (vernierref01_Extend.calls k a1 a0 t268 t269 _ A5.out).mono ?_); rintro e w6 ⟨rfl, hb⟩; refine ⟨_, rfl, ?_⟩; have n0_ := Aside0.mk (below_step (by repeat (first | (with_reducible first | exact HB.out | apply below_alloc | apply pw_below_drewN | apply below_drew1) | exact HB.out)) hb); clear HB; have HB := n0_; clear n0_; (try clear hb); (try clear hb2); (try clear hk); (try clear hi)))
    go_ret2
    exact ⟨by first | rfl | (simp [errW_none, errW_some] <;> rfl) | (simp [*, errW_none, errW_some] <;> rfl), by repeat (first | (with_reducible first | exact HB.out | apply below_alloc | apply pw_below_drewN | apply below_drew1) | exact HB.out)⟩
  · replace c4 := Bool.eq_false_iff.mpr c4
    subst c4
    have H1 : (some (0, 2)) = some (r1, r2) := by rw [if_neg (show ¬ (false = true) by decide)] at H; exact H
    clear H
    have H := H1
    clear H1
    simp only [Option.some.injEq, Prod.mk.injEq] at H
    obtain ⟨rfl, rfl⟩ := H
    go_enter Try.func41, Try.ntmps41
    go_wp2_with (first | ((with_reducible refine gate_callee (f := 17) rfl ?_); refine goesL_ (some 10) rfl rfl Try.func17 (by kernel_rfl) rfl #[.int .i64 a0] rfl (by (try simp only [List.map_toArray, List.map_cons, List.map_nil]); first | done | rfl | (simp only [List.length_drop, List.length_take]; rfl)) ?_; (with_reducible refine (vernierref05_Is.calls a0 false _ A3.out).mono ?_); rintro e w' ⟨rfl, ⟨nd, rfl⟩⟩; refine ⟨_, rfl, ?_⟩))
    go_ret2
    exact ⟨by first | rfl | (simp [errW_none, errW_some] <;> rfl) | (simp [*, errW_none, errW_some] <;> rfl), by repeat (first | (with_reducible first | exact HB.out | apply below_alloc | apply pw_below_drewN | apply below_drew1) | exact HB.out)⟩
end Go.Proofs.Ytfegofnplcmacaa.PAll
namespace Go.Proofs.Ytfegofnplcmacaa.PAll
open Go.RowKit Go.Proofs.YtfegofnplcmacaaW.PrintWords Go.Proofs.YtfegofnplcmacaaW.PrintLast Go.Proofs.YtfegofnplcmacaaW.PrintMore
attribute [local go_sem] max2_int min2_int max_two min_two max_three min_three max_four min_four
set_option linter.unusedVariables false
set_option linter.unusedSimpArgs false
def vernierlaw07_rank.f (k : Nat) (a0 : Int) (a1 : Int) : Option (Int) := (vernierref05_Rank.f k a0 a1).bind fun bt270 => (some bt270.1)
theorem vernierlaw07_rank.mono : ∀ a0 a1 k, LeO (vernierlaw07_rank.f k a0 a1) (vernierlaw07_rank.f (k + 1) a0 a1) := by
  intro a0 a1 k
  unfold vernierlaw07_rank.f
  repeat' first
      | (with_reducible exact vernierref05_Rank.mono _ _ _)
      | (with_reducible exact LeO.refl _)
      | (with_reducible exact LeO.none _)
      | (with_reducible refine LeO.ite ?_ ?_)
      | (with_reducible refine LeO.bind ?_ (fun _ => ?_))
      | exact vernierref05_Rank.mono _ _ _
      | exact LeO.none _
      | refine LeO.ite ?_ ?_
      | refine LeO.bind ?_ (fun _ => ?_)
set_option maxHeartbeats 8000000 in
set_option maxRecDepth 100000 in
theorem vernierlaw07_rank.calls (k : Nat) (a0 : Int) (a1 : Int) (r : Int) (w : World) (h : vernierlaw07_rank.f k a0 a1 = some r) :
    Calls Try.prog 19 #[.int .i64 a0, .int .u64 a1] w fun e w' => e = .returned (.int .i64 r) ∧ Below w.heap.size w w' := by
  have HB := Aside0.mk (Below.refl w.heap.size w)
  have H : ((vernierref05_Rank.f k a0 a1).bind fun bt270 => (some bt270.1)) = some r := h
  clear h
  replace H := Option.bind_eq_some_iff.mp H
  obtain ⟨⟨t270, t271⟩, A30, H⟩ := H
  replace H : (some t270) = some r := H
  have A3 := Aside0.mk A30
  clear A30
  obtain rfl := Option.some.inj H
  go_enter Try.func19, Try.ntmps19
  go_wp2_with (first | ((with_reducible refine gate_callee (f := 41) rfl ?_); refine goesL_ (some 10) rfl rfl Try.func41 (by kernel_rfl) rfl #[.int .i64 a0, .int .u64 a1] rfl (by (try simp only [List.map_toArray, List.map_cons, List.map_nil]); first | done | rfl | (simp only [List.length_drop, List.length_take]; rfl)) ?_; (with_reducible refine (vernierref05_Rank.calls k a0 a1 t270 t271 _ A3.out).mono ?_); rintro e w4 ⟨rfl, hb⟩; refine ⟨_, rfl, ?_⟩; have n0_ := Aside0.mk (below_step (by repeat (first | (with_reducible first | exact HB.out | apply below_alloc | apply pw_below_drewN | apply below_drew1) | exact HB.out)) hb); clear HB; have HB := n0_; clear n0_; (try clear hb); (try clear hb2); (try clear hk); (try clear hi)))
  go_ret
  exact ⟨by first | rfl | (simp [errW_none, errW_some] <;> rfl) | (simp [*, errW_none, errW_some] <;> rfl), by repeat (first | (with_reducible first | exact HB.out | apply below_alloc | apply pw_below_drewN | apply below_drew1) | exact HB.out)⟩
end Go.Proofs.Ytfegofnplcmacaa.PAll
namespace Go.Proofs.Ytfegofnplcmacaa.PAll
open Go.RowKit Go.Proofs.YtfegofnplcmacaaW.PrintWords Go.Proofs.YtfegofnplcmacaaW.PrintLast Go.Proofs.YtfegofnplcmacaaW.PrintMore
attribute [local go_sem] max2_int min2_int max_two min_two max_three min_three max_four min_four
set_option linter.unusedVariables false
set_option linter.unusedSimpArgs false
def vernierlaw07_RoundRises.j0 : Nat → Int → Bool → Bool → Int → Bool → Int → Int → Int → Bool → Int → Bool → Int → Int → Int → Bool → Option (Bool)
  | 0, _, _, _, _, _, _, _, _, _, _, _, _, _, _, _ => none
  | k + 1, x0, x7, x52, x273000, x273001, x273002, x273003, x273004, x273005, x274000, x274001, x274002, x274003, x274004, x274005 => if x52 = true then (some x7) else ((round_Round.f k x0 x273000 x273001 x273002 x273003 x273004 x273005).bind fun bt278 => ((round_Round.f k x0 x274000 x274001 x274002 x274003 x274004 x274005).bind fun bt280 => ((vernierref07_Cmp.f k x273000 x273001 x273002 x273003 x273004 x273005 x274000 x274001 x274002 x274003 x274004 x274005).bind fun t282 => ((vernierlaw07_rank.f k x0 bt278.1).bind fun t283 => ((vernierlaw07_rank.f k x0 bt280.1).bind fun t284 => (if x7 = true then (if bt278.2.isNone = true then (if bt280.2.isNone = true then (if t282 > 0 then (if t282 < 0 then (some true) else (some (decide (t283 ≥ t284)))) else (if t283 ≤ t284 then (if t282 < 0 then (some true) else (some (decide (t283 ≥ t284)))) else (some false))) else (some false)) else (some false)) else (some false)))))))
def vernierlaw07_RoundRises.f (k : Nat) (a0 : Int) (a1_0 : Int) (a1_1 : Bool) (a1_2 : Int) (a1_3 : Int) (a1_4 : Int) (a1_5 : Bool) (a2_0 : Int) (a2_1 : Bool) (a2_2 : Int) (a2_3 : Int) (a2_4 : Int) (a2_5 : Bool) : Option (Bool) := (vernierlaw07_up.f k).bind fun t274 => ((vernierref07_Sound.f a1_0 a1_1 a1_2 a1_3 a1_4 a1_5).bind fun t275 => ((vernierref07_Sound.f a2_0 a2_1 a2_2 a2_3 a2_4 a2_5).bind fun t276 => ((vernierref05_Is.f a0).bind fun t277 => (if t275 = true then (if t276 = true then (if t277 = true then (if a1_0 = 2 then (vernierlaw07_RoundRises.j0 k a0 t274 true a1_0 a1_1 a1_2 a1_3 a1_4 a1_5 a2_0 a2_1 a2_2 a2_3 a2_4 a2_5) else (if a2_0 = 2 then (vernierlaw07_RoundRises.j0 k a0 t274 true a1_0 a1_1 a1_2 a1_3 a1_4 a1_5 a2_0 a2_1 a2_2 a2_3 a2_4 a2_5) else (if a1_5 = true then (vernierlaw07_RoundRises.j0 k a0 t274 true a1_0 a1_1 a1_2 a1_3 a1_4 a1_5 a2_0 a2_1 a2_2 a2_3 a2_4 a2_5) else (vernierlaw07_RoundRises.j0 k a0 t274 a2_5 a1_0 a1_1 a1_2 a1_3 a1_4 a1_5 a2_0 a2_1 a2_2 a2_3 a2_4 a2_5)))) else (vernierlaw07_RoundRises.j0 k a0 t274 true a1_0 a1_1 a1_2 a1_3 a1_4 a1_5 a2_0 a2_1 a2_2 a2_3 a2_4 a2_5)) else (vernierlaw07_RoundRises.j0 k a0 t274 true a1_0 a1_1 a1_2 a1_3 a1_4 a1_5 a2_0 a2_1 a2_2 a2_3 a2_4 a2_5)) else (vernierlaw07_RoundRises.j0 k a0 t274 true a1_0 a1_1 a1_2 a1_3 a1_4 a1_5 a2_0 a2_1 a2_2 a2_3 a2_4 a2_5)))))
theorem vernierlaw07_RoundRises.mono_l : ∀ k, (∀ y0 y1 y2 y3 y4 y5 y6 y7 y8 y9 y10 y11 y12 y13 y14, LeO (vernierlaw07_RoundRises.j0 k y0 y1 y2 y3 y4 y5 y6 y7 y8 y9 y10 y11 y12 y13 y14) (vernierlaw07_RoundRises.j0 (k + 1) y0 y1 y2 y3 y4 y5 y6 y7 y8 y9 y10 y11 y12 y13 y14))
  | 0 => fun _ _ _ _ _ _ _ _ _ _ _ _ _ _ _ r h => by simp [vernierlaw07_RoundRises.j0] at h
  | k + 1 => by
    have ih0 := vernierlaw07_RoundRises.mono_l k
    · intro y0 y1 y2 y3 y4 y5 y6 y7 y8 y9 y10 y11 y12 y13 y14
      unfold vernierlaw07_RoundRises.j0
      repeat' first
      | (with_reducible exact ih0 _ _ _ _ _ _ _ _ _ _ _ _ _ _ _)
      | (with_reducible exact round_Round.mono _ _ _ _ _ _ _ _)
      | (with_reducible exact vernierlaw07_rank.mono _ _ _)
      | (with_reducible exact vernierlaw07_up.mono _)
      | (with_reducible exact vernierref07_Cmp.mono _ _ _ _ _ _ _ _ _ _ _ _ _)
      | (with_reducible exact LeO.refl _)
      | (with_reducible exact LeO.none _)
      | (with_reducible refine LeO.ite ?_ ?_)
      | (with_reducible refine LeO.bind ?_ (fun _ => ?_))
      | exact ih0 _ _ _ _ _ _ _ _ _ _ _ _ _ _ _
      | exact round_Round.mono _ _ _ _ _ _ _ _
      | exact vernierlaw07_rank.mono _ _ _
      | exact vernierlaw07_up.mono _
      | exact vernierref07_Cmp.mono _ _ _ _ _ _ _ _ _ _ _ _ _
      | exact LeO.none _
      | refine LeO.ite ?_ ?_
      | refine LeO.bind ?_ (fun _ => ?_)
theorem vernierlaw07_RoundRises.mono : ∀ a0 a1 a2 a3 a4 a5 a6 a7 a8 a9 a10 a11 a12 k, LeO (vernierlaw07_RoundRises.f k a0 a1 a2 a3 a4 a5 a6 a7 a8 a9 a10 a11 a12) (vernierlaw07_RoundRises.f (k + 1) a0 a1 a2 a3 a4 a5 a6 a7 a8 a9 a10 a11 a12) := by
  intro a0 a1 a2 a3 a4 a5 a6 a7 a8 a9 a10 a11 a12 k
  have ih0 := vernierlaw07_RoundRises.mono_l k
  unfold vernierlaw07_RoundRises.f
  repeat' first
      | (with_reducible exact ih0 _ _ _ _ _ _ _ _ _ _ _ _ _ _ _)
      | (with_reducible exact round_Round.mono _ _ _ _ _ _ _ _)
      | (with_reducible exact vernierlaw07_rank.mono _ _ _)
      | (with_reducible exact vernierlaw07_up.mono _)
      | (with_reducible exact vernierref07_Cmp.mono _ _ _ _ _ _ _ _ _ _ _ _ _)
      | (with_reducible exact LeO.refl _)
      | (with_reducible exact LeO.none _)
      | (with_reducible refine LeO.ite ?_ ?_)
      | (with_reducible refine LeO.bind ?_ (fun _ => ?_))
      | exact ih0 _ _ _ _ _ _ _ _ _ _ _ _ _ _ _
      | exact round_Round.mono _ _ _ _ _ _ _ _
      | exact vernierlaw07_rank.mono _ _ _
      | exact vernierlaw07_up.mono _
      | exact vernierref07_Cmp.mono _ _ _ _ _ _ _ _ _ _ _ _ _
      | exact LeO.none _
      | refine LeO.ite ?_ ?_
      | refine LeO.bind ?_ (fun _ => ?_)
set_option maxHeartbeats 8000000 in
set_option maxRecDepth 100000 in
theorem vernierlaw07_RoundRises.calls (k : Nat) (a0 : Int) (a1_0 : Int) (a1_1 : Bool) (a1_2 : Int) (a1_3 : Int) (a1_4 : Int) (a1_5 : Bool) (a2_0 : Int) (a2_1 : Bool) (a2_2 : Int) (a2_3 : Int) (a2_4 : Int) (a2_5 : Bool) (r : Bool) (w : World) (h : vernierlaw07_RoundRises.f k a0 a1_0 a1_1 a1_2 a1_3 a1_4 a1_5 a2_0 a2_1 a2_2 a2_3 a2_4 a2_5 = some r) :
    Calls Try.prog 5 #[.int .i64 a0, .agg #[.int .i64 a1_0, .bool a1_1, .int .i64 a1_2, .int .u64 a1_3, .int .u64 a1_4, .bool a1_5], .agg #[.int .i64 a2_0, .bool a2_1, .int .i64 a2_2, .int .u64 a2_3, .int .u64 a2_4, .bool a2_5]] w fun e w' => e = .returned (.bool r) ∧ Below w.heap.size w w' := by
  have hu24 := Try.underlying24
  have hu27 := Try.underlying27
  have hu55 := Try.underlying55
  have HB := Aside0.mk (Below.refl w.heap.size w)
  have H : ((vernierlaw07_up.f k).bind fun t274 => ((vernierref07_Sound.f a1_0 a1_1 a1_2 a1_3 a1_4 a1_5).bind fun t275 => ((vernierref07_Sound.f a2_0 a2_1 a2_2 a2_3 a2_4 a2_5).bind fun t276 => ((vernierref05_Is.f a0).bind fun t277 => (if t275 = true then (if t276 = true then (if t277 = true then (if a1_0 = 2 then (vernierlaw07_RoundRises.j0 k a0 t274 true a1_0 a1_1 a1_2 a1_3 a1_4 a1_5 a2_0 a2_1 a2_2 a2_3 a2_4 a2_5) else (if a2_0 = 2 then (vernierlaw07_RoundRises.j0 k a0 t274 true a1_0 a1_1 a1_2 a1_3 a1_4 a1_5 a2_0 a2_1 a2_2 a2_3 a2_4 a2_5) else (if a1_5 = true then (vernierlaw07_RoundRises.j0 k a0 t274 true a1_0 a1_1 a1_2 a1_3 a1_4 a1_5 a2_0 a2_1 a2_2 a2_3 a2_4 a2_5) else (vernierlaw07_RoundRises.j0 k a0 t274 a2_5 a1_0 a1_1 a1_2 a1_3 a1_4 a1_5 a2_0 a2_1 a2_2 a2_3 a2_4 a2_5)))) else (vernierlaw07_RoundRises.j0 k a0 t274 true a1_0 a1_1 a1_2 a1_3 a1_4 a1_5 a2_0 a2_1 a2_2 a2_3 a2_4 a2_5)) else (vernierlaw07_RoundRises.j0 k a0 t274 true a1_0 a1_1 a1_2 a1_3 a1_4 a1_5 a2_0 a2_1 a2_2 a2_3 a2_4 a2_5)) else (vernierlaw07_RoundRises.j0 k a0 t274 true a1_0 a1_1 a1_2 a1_3 a1_4 a1_5 a2_0 a2_1 a2_2 a2_3 a2_4 a2_5)))))) = some r := h
  clear h
  replace H := Option.bind_eq_some_iff.mp H
  obtain ⟨t274, A40, H⟩ := H
  replace H : ((vernierref07_Sound.f a1_0 a1_1 a1_2 a1_3 a1_4 a1_5).bind fun t275 => ((vernierref07_Sound.f a2_0 a2_1 a2_2 a2_3 a2_4 a2_5).bind fun t276 => ((vernierref05_Is.f a0).bind fun t277 => (if t275 = true then (if t276 = true then (if t277 = true then (if a1_0 = 2 then (vernierlaw07_RoundRises.j0 k a0 t274 true a1_0 a1_1 a1_2 a1_3 a1_4 a1_5 a2_0 a2_1 a2_2 a2_3 a2_4 a2_5) else (if a2_0 = 2 then (vernierlaw07_RoundRises.j0 k a0 t274 true a1_0 a1_1 a1_2 a1_3 a1_4 a1_5 a2_0 a2_1 a2_2 a2_3 a2_4 a2_5) else (if a1_5 = true then (vernierlaw07_RoundRises.j0 k a0 t274 true a1_0 a1_1 a1_2 a1_3 a1_4 a1_5 a2_0 a2_1 a2_2 a2_3 a2_4 a2_5) else (vernierlaw07_RoundRises.j0 k a0 t274 a2_5 a1_0 a1_1 a1_2 a1_3 a1_4 a1_5 a2_0 a2_1 a2_2 a2_3 a2_4 a2_5)))) else (vernierlaw07_RoundRises.j0 k a0 t274 true a1_0 a1_1 a1_2 a1_3 a1_4 a1_5 a2_0 a2_1 a2_2 a2_3 a2_4 a2_5)) else (vernierlaw07_RoundRises.j0 k a0 t274 true a1_0 a1_1 a1_2 a1_3 a1_4 a1_5 a2_0 a2_1 a2_2 a2_3 a2_4 a2_5)) else (vernierlaw07_RoundRises.j0 k a0 t274 true a1_0 a1_1 a1_2 a1_3 a1_4 a1_5 a2_0 a2_1 a2_2 a2_3 a2_4 a2_5))))) = some r := H
  have A4 := Aside0.mk A40
  clear A40
  replace H := Option.bind_eq_some_iff.mp H
  obtain ⟨t275, A50, H⟩ := H
  replace H : ((vernierref07_Sound.f a2_0 a2_1 a2_2 a2_3 a2_4 a2_5).bind fun t276 => ((vernierref05_Is.f a0).bind fun t277 => (if t275 = true then (if t276 = true then (if t277 = true then (if a1_0 = 2 then (vernierlaw07_RoundRises.j0 k a0 t274 true a1_0 a1_1 a1_2 a1_3 a1_4 a1_5 a2_0 a2_1 a2_2 a2_3 a2_4 a2_5) else (if a2_0 = 2 then (vernierlaw07_RoundRises.j0 k a0 t274 true a1_0 a1_1 a1_2 a1_3 a1_4 a1_5 a2_0 a2_1 a2_2 a2_3 a2_4 a2_5) else (if a1_5 = true then (vernierlaw07_RoundRises.j0 k a0 t274 true a1_0 a1_1 a1_2 a1_3 a1_4 a1_5 a2_0 a2_1 a2_2 a2_3 a2_4 a2_5) else (vernierlaw07_RoundRises.j0 k a0 t274 a2_5 a1_0 a1_1 a1_2 a1_3 a1_4 a1_5 a2_0 a2_1 a2_2 a2_3 a2_4 a2_5)))) else (vernierlaw07_RoundRises.j0 k a0 t274 true a1_0 a1_1 a1_2 a1_3 a1_4 a1_5 a2_0 a2_1 a2_2 a2_3 a2_4 a2_5)) else (vernierlaw07_RoundRises.j0 k a0 t274 true a1_0 a1_1 a1_2 a1_3 a1_4 a1_5 a2_0 a2_1 a2_2 a2_3 a2_4 a2_5)) else (vernierlaw07_RoundRises.j0 k a0 t274 true a1_0 a1_1 a1_2 a1_3 a1_4 a1_5 a2_0 a2_1 a2_2 a2_3 a2_4 a2_5)))) = some r := H
  have A5 := Aside0.mk A50
  clear A50
  replace H := Option.bind_eq_some_iff.mp H
  obtain ⟨t276, A60, H⟩ := H
  replace H : ((vernierref05_Is.f a0).bind fun t277 => (if t275 = true then (if t276 = true then (if t277 = true then (if a1_0 = 2 then (vernierlaw07_RoundRises.j0 k a0 t274 true a1_0 a1_1 a1_2 a1_3 a1_4 a1_5 a2_0 a2_1 a2_2 a2_3 a2_4 a2_5) else (if a2_0 = 2 then (vernierlaw07_RoundRises.j0 k a0 t274 true a1_0 a1_1 a1_2 a1_3 a1_4 a1_5 a2_0 a2_1 a2_2 a2_3 a2_4 a2_5) else (if a1_5 = true then (vernierlaw07_RoundRises.j0 k a0 t274 true a1_0 a1_1 a1_2 a1_3 a1_4 a1_5 a2_0 a2_1 a2_2 a2_3 a2_4 a2_5) else (vernierlaw07_RoundRises.j0 k a0 t274 a2_5 a1_0 a1_1 a1_2 a1_3 a1_4 a1_5 a2_0 a2_1 a2_2 a2_3 a2_4 a2_5)))) else (vernierlaw07_RoundRises.j0 k a0 t274 true a1_0 a1_1 a1_2 a1_3 a1_4 a1_5 a2_0 a2_1 a2_2 a2_3 a2_4 a2_5)) else (vernierlaw07_RoundRises.j0 k a0 t274 true a1_0 a1_1 a1_2 a1_3 a1_4 a1_5 a2_0 a2_1 a2_2 a2_3 a2_4 a2_5)) else (vernierlaw07_RoundRises.j0 k a0 t274 true a1_0 a1_1 a1_2 a1_3 a1_4 a1_5 a2_0 a2_1 a2_2 a2_3 a2_4 a2_5))) = some r := H
  have A6 := Aside0.mk A60
  clear A60
  replace H := Option.bind_eq_some_iff.mp H
  obtain ⟨t277, A70, H⟩ := H
  replace H : (if t275 = true then (if t276 = true then (if t277 = true then (if a1_0 = 2 then (vernierlaw07_RoundRises.j0 k a0 t274 true a1_0 a1_1 a1_2 a1_3 a1_4 a1_5 a2_0 a2_1 a2_2 a2_3 a2_4 a2_5) else (if a2_0 = 2 then (vernierlaw07_RoundRises.j0 k a0 t274 true a1_0 a1_1 a1_2 a1_3 a1_4 a1_5 a2_0 a2_1 a2_2 a2_3 a2_4 a2_5) else (if a1_5 = true then (vernierlaw07_RoundRises.j0 k a0 t274 true a1_0 a1_1 a1_2 a1_3 a1_4 a1_5 a2_0 a2_1 a2_2 a2_3 a2_4 a2_5) else (vernierlaw07_RoundRises.j0 k a0 t274 a2_5 a1_0 a1_1 a1_2 a1_3 a1_4 a1_5 a2_0 a2_1 a2_2 a2_3 a2_4 a2_5)))) else (vernierlaw07_RoundRises.j0 k a0 t274 true a1_0 a1_1 a1_2 a1_3 a1_4 a1_5 a2_0 a2_1 a2_2 a2_3 a2_4 a2_5)) else (vernierlaw07_RoundRises.j0 k a0 t274 true a1_0 a1_1 a1_2 a1_3 a1_4 a1_5 a2_0 a2_1 a2_2 a2_3 a2_4 a2_5)) else (vernierlaw07_RoundRises.j0 k a0 t274 true a1_0 a1_1 a1_2 a1_3 a1_4 a1_5 a2_0 a2_1 a2_2 a2_3 a2_4 a2_5)) = some r := H
  have A7 := Aside0.mk A70
  clear A70
  have HC8 := Aside0.mk H
  clear H
  go_enter Try.func5, Try.ntmps5
  go_upto_region 5 with (first | ((with_reducible refine gate_dst (N := 4) rfl ?_); refine box_event ?hg (N := 4) ?hd (cs := #[.int .i64 a1_0, .bool a1_1, .int .i64 a1_2, .int .u64 a1_3, .int .u64 a1_4, .bool a1_5]) (t := 24) ?hr ?_; (case hd => rfl); (case hg => rfl); (case hr => first | (go_simp; done) | (go_simp; rfl)); intro gb272 hg w9 hbox hb; have n0_ := Aside0.mk (below_step (by repeat (first | (with_reducible first | exact HB.out | apply below_alloc | apply pw_below_drewN | apply below_drew1) | exact HB.out)) hb); have n1_ := Aside0.mk (hbox); have n2_ := Aside0.mk ((by rw [hg]; exact (below_size (by repeat (first | (with_reducible first | exact HB.out | apply below_alloc | apply pw_below_drewN | apply below_drew1) | exact HB.out))) : w.heap.size ≤ gb272)); have n3_ := Aside0.mk ((by rw [hg]; exact (below_size (by repeat (first | (with_reducible first | exact HB.out | apply below_alloc | apply pw_below_drewN | apply below_drew1) | exact HB.out))) : w.heap.size ≤ gb272)); clear HB; have HB := n0_; have BK272 := n1_; have GW272 := n2_; have GE272 := n3_; clear n0_ n1_ n2_ n3_; clear hb hbox hg) | ((with_reducible refine gate_dst (N := 5) rfl ?_); refine box_event ?hg (N := 5) ?hd (cs := #[.int .i64 a2_0, .bool a2_1, .int .i64 a2_2, .int .u64 a2_3, .int .u64 a2_4, .bool a2_5]) (t := 24) ?hr ?_; (case hd => rfl); (case hg => rfl); (case hr => first | (go_simp; done) | (go_simp; rfl)); intro gb273 hg w10 hbox hb; have n0_ := Aside0.mk (blk_below (g := gb272) (o := .cells #[.int .i64 a1_0, .bool a1_1, .int .i64 a1_2, .int .u64 a1_3, .int .u64 a1_4, .bool a1_5] 24 (0, 0)) (by (with_reducible repeat (first | refine blk_drewN ?_ _ | refine blk_drew ?_ | refine blk_alloc ?_ _)); exact BK272.out) hb); have n1_ := Aside0.mk (below_step (by repeat (first | (with_reducible first | exact HB.out | apply below_alloc | apply pw_below_drewN | apply below_drew1 | refine below_set ?_ GE272.out) | exact HB.out)) hb); have n2_ := Aside0.mk (hbox); have n3_ := Aside0.mk ((by rw [hg]; exact (below_size (by repeat (first | (with_reducible first | exact HB.out | apply below_alloc | apply pw_below_drewN | apply below_drew1 | refine below_set ?_ GE272.out) | exact HB.out))) : w.heap.size ≤ gb273)); have n4_ := Aside0.mk ((by rw [hg]; exact (below_size (by repeat (first | (with_reducible first | exact HB.out | apply below_alloc | apply pw_below_drewN | apply below_drew1 | refine below_set ?_ GE272.out) | exact HB.out))) : w.heap.size ≤ gb273)); have n5_ := Aside0.mk ((by rw [hg]; exact Nat.ne_of_lt (blk_lt (g := gb272) (o := .cells #[.int .i64 a1_0, .bool a1_1, .int .i64 a1_2, .int .u64 a1_3, .int .u64 a1_4, .bool a1_5] 24 (0, 0)) (by (with_reducible repeat (first | refine blk_drewN ?_ _ | refine blk_drew ?_ | refine blk_alloc ?_ _)); exact BK272.out)) : gb272 ≠ gb273)); have n6_ := Aside0.mk ((by rw [hg]; exact Nat.ne_of_gt (blk_lt (g := gb272) (o := .cells #[.int .i64 a1_0, .bool a1_1, .int .i64 a1_2, .int .u64 a1_3, .int .u64 a1_4, .bool a1_5] 24 (0, 0)) (by (with_reducible repeat (first | refine blk_drewN ?_ _ | refine blk_drew ?_ | refine blk_alloc ?_ _)); exact BK272.out)) : gb273 ≠ gb272)); clear BK272; clear HB; have BK272 := n0_; have HB := n1_; have BK273 := n2_; have GW273 := n3_; have GE273 := n4_; have NB272_273 := n5_; have NB273_272 := n6_; clear n0_ n1_ n2_ n3_ n4_ n5_ n6_; clear hb hbox hg) | ((with_reducible refine gate_callee (f := 10) rfl ?_); refine goesL_ (some 18) rfl rfl Try.func10 (by kernel_rfl) rfl #[] rfl (by (try simp only [List.map_toArray, List.map_cons, List.map_nil]); first | done | rfl | (simp only [List.length_drop, List.length_take]; rfl)) ?_; (with_reducible refine (vernierlaw07_up.calls k  t274 _ A4.out).mono ?_); rintro e w11 ⟨rfl, hb⟩; refine ⟨_, rfl, ?_⟩; have n0_ := Aside0.mk (blk_below (g := gb272) (o := .cells #[.int .i64 a1_0, .bool a1_1, .int .i64 a1_2, .int .u64 a1_3, .int .u64 a1_4, .bool a1_5] 24 (0, 0)) (by (with_reducible repeat (first | refine blk_drewN ?_ _ | refine blk_drew ?_ | refine blk_alloc ?_ _)); exact BK272.out) hb); have n1_ := Aside0.mk (blk_below (g := gb273) (o := .cells #[.int .i64 a2_0, .bool a2_1, .int .i64 a2_2, .int .u64 a2_3, .int .u64 a2_4, .bool a2_5] 24 (0, 0)) (by (with_reducible repeat (first | refine blk_drewN ?_ _ | refine blk_drew ?_ | refine blk_alloc ?_ _)); exact BK273.out) hb); have n2_ := Aside0.mk (below_step (by repeat (first | (with_reducible first | exact HB.out | apply below_alloc | apply pw_below_drewN | apply below_drew1 | refine below_set ?_ GE272.out | refine below_set ?_ GE273.out) | exact HB.out)) hb); clear BK272; clear BK273; clear HB; have BK272 := n0_; have BK273 := n1_; have HB := n2_; clear n0_ n1_ n2_; (try clear hb); (try clear hb2); (try clear hk); (try clear hi); have hnb12 := NB272_273.out; have hnc12 := NB273_272.out; have hcz13_0 : w11.cell? ⟨gb272, 0, none⟩ = some (.int .i64 a1_0) := (blk_cell BK272.out 0).trans rfl; have hcz13_1 : w11.cell? ⟨gb272, 1, none⟩ = some (.bool a1_1) := (blk_cell BK272.out 1).trans rfl; have hcz13_2 : w11.cell? ⟨gb272, 2, none⟩ = some (.int .i64 a1_2) := (blk_cell BK272.out 2).trans rfl; have hcz13_3 : w11.cell? ⟨gb272, 3, none⟩ = some (.int .u64 a1_3) := (blk_cell BK272.out 3).trans rfl; have hcz13_4 : w11.cell? ⟨gb272, 4, none⟩ = some (.int .u64 a1_4) := (blk_cell BK272.out 4).trans rfl; have hcz13_5 : w11.cell? ⟨gb272, 5, none⟩ = some (.bool a1_5) := (blk_cell BK272.out 5).trans rfl; have hfz13_0 := blk_frozen BK272.out 0; have hfz13_1 := blk_frozen BK272.out 1; have hfz13_2 := blk_frozen BK272.out 2; have hfz13_3 := blk_frozen BK272.out 3; have hfz13_4 := blk_frozen BK272.out 4; have hfz13_5 := blk_frozen BK272.out 5) | ((with_reducible refine gate_callee (f := 16) rfl ?_); refine goesL_ (some 20) rfl rfl Try.func16 (by kernel_rfl) rfl #[.agg #[.int .i64 a1_0, .bool a1_1, .int .i64 a1_2, .int .u64 a1_3, .int .u64 a1_4, .bool a1_5]] rfl (by (try simp only [List.map_toArray, List.map_cons, List.map_nil]); first | done | rfl | (simp only [List.length_drop, List.length_take]; rfl)) ?_; (with_reducible refine (vernierref07_Sound.calls a1_0 a1_1 a1_2 a1_3 a1_4 a1_5 t275 _ A5.out).mono ?_); rintro e w14 ⟨rfl, hb⟩; refine ⟨_, rfl, ?_⟩; have n0_ := Aside0.mk (blk_below (g := gb272) (o := .cells #[.int .i64 a1_0, .bool a1_1, .int .i64 a1_2, .int .u64 a1_3, .int .u64 a1_4, .bool a1_5] 24 (0, 0)) (by (with_reducible repeat (first | refine blk_drewN ?_ _ | refine blk_drew ?_ | refine blk_alloc ?_ _)); exact BK272.out) hb); have n1_ := Aside0.mk (blk_below (g := gb273) (o := .cells #[.int .i64 a2_0, .bool a2_1, .int .i64 a2_2, .int .u64 a2_3, .int .u64 a2_4, .bool a2_5] 24 (0, 0)) (by (with_reducible repeat (first | refine blk_drewN ?_ _ | refine blk_drew ?_ | refine blk_alloc ?_ _)); exact BK273.out) hb); have n2_ := Aside0.mk (below_step (by repeat (first | (with_reducible first | exact HB.out | apply below_alloc | apply pw_below_drewN | apply below_drew1 | refine below_set ?_ GE272.out | refine below_set ?_ GE273.out) | exact HB.out)) hb); clear BK272; clear BK273; clear HB; have BK272 := n0_; have BK273 := n1_; have HB := n2_; clear n0_ n1_ n2_; (try clear hb); (try clear hb2); (try clear hk); (try clear hi); have hcz15_0 : w14.cell? ⟨gb273, 0, none⟩ = some (.int .i64 a2_0) := (blk_cell BK273.out 0).trans rfl; have hcz15_1 : w14.cell? ⟨gb273, 1, none⟩ = some (.bool a2_1) := (blk_cell BK273.out 1).trans rfl; have hcz15_2 : w14.cell? ⟨gb273, 2, none⟩ = some (.int .i64 a2_2) := (blk_cell BK273.out 2).trans rfl; have hcz15_3 : w14.cell? ⟨gb273, 3, none⟩ = some (.int .u64 a2_3) := (blk_cell BK273.out 3).trans rfl; have hcz15_4 : w14.cell? ⟨gb273, 4, none⟩ = some (.int .u64 a2_4) := (blk_cell BK273.out 4).trans rfl; have hcz15_5 : w14.cell? ⟨gb273, 5, none⟩ = some (.bool a2_5) := (blk_cell BK273.out 5).trans rfl; have hfz15_0 := blk_frozen BK273.out 0; have hfz15_1 := blk_frozen BK273.out 1; have hfz15_2 := blk_frozen BK273.out 2; have hfz15_3 := blk_frozen BK273.out 3; have hfz15_4 := blk_frozen BK273.out 4; have hfz15_5 := blk_frozen BK273.out 5) | ((with_reducible refine gate_callee (f := 16) rfl ?_); refine goesL_ (some 22) rfl rfl Try.func16 (by kernel_rfl) rfl #[.agg #[.int .i64 a2_0, .bool a2_1, .int .i64 a2_2, .int .u64 a2_3, .int .u64 a2_4, .bool a2_5]] rfl (by (try simp only [List.map_toArray, List.map_cons, List.map_nil]); first | done | rfl | (simp only [List.length_drop, List.length_take]; rfl)) ?_; (with_reducible refine (vernierref07_Sound.calls a2_0 a2_1 a2_2 a2_3 a2_4 a2_5 t276 _ A6.out).mono ?_); rintro e w16 ⟨rfl, hb⟩; refine ⟨_, rfl, ?_⟩; have n0_ := Aside0.mk (blk_below (g := gb272) (o := .cells #[.int .i64 a1_0, .bool a1_1, .int .i64 a1_2, .int .u64 a1_3, .int .u64 a1_4, .bool a1_5] 24 (0, 0)) (by (with_reducible repeat (first | refine blk_drewN ?_ _ | refine blk_drew ?_ | refine blk_alloc ?_ _)); exact BK272.out) hb); have n1_ := Aside0.mk (blk_below (g := gb273) (o := .cells #[.int .i64 a2_0, .bool a2_1, .int .i64 a2_2, .int .u64 a2_3, .int .u64 a2_4, .bool a2_5] 24 (0, 0)) (by (with_reducible repeat (first | refine blk_drewN ?_ _ | refine blk_drew ?_ | refine blk_alloc ?_ _)); exact BK273.out) hb); have n2_ := Aside0.mk (below_step (by repeat (first | (with_reducible first | exact HB.out | apply below_alloc | apply pw_below_drewN | apply below_drew1 | refine below_set ?_ GE272.out | refine below_set ?_ GE273.out) | exact HB.out)) hb); clear BK272; clear BK273; clear HB; have BK272 := n0_; have BK273 := n1_; have HB := n2_; clear n0_ n1_ n2_; (try clear hb); (try clear hb2); (try clear hk); (try clear hi)) | ((with_reducible refine gate_callee (f := 17) rfl ?_); refine goesL_ (some 24) rfl rfl Try.func17 (by kernel_rfl) rfl #[.int .i64 a0] rfl (by (try simp only [List.map_toArray, List.map_cons, List.map_nil]); first | done | rfl | (simp only [List.length_drop, List.length_take]; rfl)) ?_; (with_reducible refine (vernierref05_Is.calls a0 t277 _ A7.out).mono ?_); rintro e w' ⟨rfl, ⟨nd, rfl⟩⟩; refine ⟨_, rfl, ?_⟩))
  (try simp only [Act.put, List.setIfInBounds_toArray, List.set_cons_zero, List.set_cons_succ])
  go_cut [52] (fun v52 wc => ∃ (kq : Nat) (x52_7 : Bool), v52 = .bool x52_7 ∧ Aside0 (vernierlaw07_RoundRises.j0 kq a0 t274 x52_7 a1_0 a1_1 a1_2 a1_3 a1_4 a1_5 a2_0 a2_1 a2_2 a2_3 a2_4 a2_5 = some r) ∧ Aside0 (kq ≤ k) ∧ Aside0 (wc.heap[gb272]? = some (.cells #[.int .i64 a1_0, .bool a1_1, .int .i64 a1_2, .int .u64 a1_3, .int .u64 a1_4, .bool a1_5] 24 (0, 0))) ∧ Aside0 (wc.heap[gb273]? = some (.cells #[.int .i64 a2_0, .bool a2_1, .int .i64 a2_2, .int .u64 a2_3, .int .u64 a2_4, .bool a2_5] 24 (0, 0))) ∧ Aside0 (Below w.heap.size w wc))
  case first =>
    have H := HC8.out
    clear HC8
    by_cases c17 : t275 = true
    · subst c17
      have H1 : (if t276 = true then (if t277 = true then (if a1_0 = 2 then (vernierlaw07_RoundRises.j0 k a0 t274 true a1_0 a1_1 a1_2 a1_3 a1_4 a1_5 a2_0 a2_1 a2_2 a2_3 a2_4 a2_5) else (if a2_0 = 2 then (vernierlaw07_RoundRises.j0 k a0 t274 true a1_0 a1_1 a1_2 a1_3 a1_4 a1_5 a2_0 a2_1 a2_2 a2_3 a2_4 a2_5) else (if a1_5 = true then (vernierlaw07_RoundRises.j0 k a0 t274 true a1_0 a1_1 a1_2 a1_3 a1_4 a1_5 a2_0 a2_1 a2_2 a2_3 a2_4 a2_5) else (vernierlaw07_RoundRises.j0 k a0 t274 a2_5 a1_0 a1_1 a1_2 a1_3 a1_4 a1_5 a2_0 a2_1 a2_2 a2_3 a2_4 a2_5)))) else (vernierlaw07_RoundRises.j0 k a0 t274 true a1_0 a1_1 a1_2 a1_3 a1_4 a1_5 a2_0 a2_1 a2_2 a2_3 a2_4 a2_5)) else (vernierlaw07_RoundRises.j0 k a0 t274 true a1_0 a1_1 a1_2 a1_3 a1_4 a1_5 a2_0 a2_1 a2_2 a2_3 a2_4 a2_5)) = some r := by rw [if_pos rfl] at H; exact H
      clear H
      have H := H1
      clear H1
      by_cases c18 : t276 = true
      · subst c18
        have H1 : (if t277 = true then (if a1_0 = 2 then (vernierlaw07_RoundRises.j0 k a0 t274 true a1_0 a1_1 a1_2 a1_3 a1_4 a1_5 a2_0 a2_1 a2_2 a2_3 a2_4 a2_5) else (if a2_0 = 2 then (vernierlaw07_RoundRises.j0 k a0 t274 true a1_0 a1_1 a1_2 a1_3 a1_4 a1_5 a2_0 a2_1 a2_2 a2_3 a2_4 a2_5) else (if a1_5 = true then (vernierlaw07_RoundRises.j0 k a0 t274 true a1_0 a1_1 a1_2 a1_3 a1_4 a1_5 a2_0 a2_1 a2_2 a2_3 a2_4 a2_5) else (vernierlaw07_RoundRises.j0 k a0 t274 a2_5 a1_0 a1_1 a1_2 a1_3 a1_4 a1_5 a2_0 a2_1 a2_2 a2_3 a2_4 a2_5)))) else (vernierlaw07_RoundRises.j0 k a0 t274 true a1_0 a1_1 a1_2 a1_3 a1_4 a1_5 a2_0 a2_1 a2_2 a2_3 a2_4 a2_5)) = some r := by rw [if_pos rfl] at H; exact H
        clear H
        have H := H1
        clear H1
        by_cases c19 : t277 = true
        · subst c19
          have H1 : (if a1_0 = 2 then (vernierlaw07_RoundRises.j0 k a0 t274 true a1_0 a1_1 a1_2 a1_3 a1_4 a1_5 a2_0 a2_1 a2_2 a2_3 a2_4 a2_5) else (if a2_0 = 2 then (vernierlaw07_RoundRises.j0 k a0 t274 true a1_0 a1_1 a1_2 a1_3 a1_4 a1_5 a2_0 a2_1 a2_2 a2_3 a2_4 a2_5) else (if a1_5 = true then (vernierlaw07_RoundRises.j0 k a0 t274 true a1_0 a1_1 a1_2 a1_3 a1_4 a1_5 a2_0 a2_1 a2_2 a2_3 a2_4 a2_5) else (vernierlaw07_RoundRises.j0 k a0 t274 a2_5 a1_0 a1_1 a1_2 a1_3 a1_4 a1_5 a2_0 a2_1 a2_2 a2_3 a2_4 a2_5)))) = some r := by rw [if_pos rfl] at H; exact H
          clear H
          have H := H1
          clear H1
          by_cases c20 : a1_0 = 2
          · rw [if_pos c20] at H
            have c20b0 : (a1_0 == 2) = true := beq_iff_eq.mpr c20
            have c20b1 : (a1_0 != 2) = false := bne_eq_false_iff_eq.mpr c20
            clear c20
            (first | rw [c20b0] | (simp only [i64_w, i32_w]; rw [c20b0]) | skip)
            have H' := Aside0.mk H
            clear H
            have hnb21 := NB272_273.out
            have hnc21 := NB273_272.out
            have hcz22_0 : w16.cell? ⟨gb272, 0, none⟩ = some (.int .i64 a1_0) := (blk_cell BK272.out 0).trans rfl
            have hcz22_1 : w16.cell? ⟨gb272, 1, none⟩ = some (.bool a1_1) := (blk_cell BK272.out 1).trans rfl
            have hcz22_2 : w16.cell? ⟨gb272, 2, none⟩ = some (.int .i64 a1_2) := (blk_cell BK272.out 2).trans rfl
            have hcz22_3 : w16.cell? ⟨gb272, 3, none⟩ = some (.int .u64 a1_3) := (blk_cell BK272.out 3).trans rfl
            have hcz22_4 : w16.cell? ⟨gb272, 4, none⟩ = some (.int .u64 a1_4) := (blk_cell BK272.out 4).trans rfl
            have hcz22_5 : w16.cell? ⟨gb272, 5, none⟩ = some (.bool a1_5) := (blk_cell BK272.out 5).trans rfl
            have hfz22_0 := blk_frozen BK272.out 0
            have hfz22_1 := blk_frozen BK272.out 1
            have hfz22_2 := blk_frozen BK272.out 2
            have hfz22_3 := blk_frozen BK272.out 3
            have hfz22_4 := blk_frozen BK272.out 4
            have hfz22_5 := blk_frozen BK272.out 5
            go_wp2
            go_meet
            case rel => exact ⟨_, (true), (by first | rfl | (simp; done) | (simp [*]; done)), H', ⟨by first | omega | exact Nat.le_refl _⟩, ⟨by (with_reducible repeat (first | refine blk_drewN ?_ _ | refine blk_drew ?_ | refine blk_alloc ?_ _)); exact BK272.out⟩, ⟨by (with_reducible repeat (first | refine blk_drewN ?_ _ | refine blk_drew ?_ | refine blk_alloc ?_ _)); exact BK273.out⟩, ⟨by repeat (first | (with_reducible first | exact HB.out | apply below_alloc | apply pw_below_drewN | apply below_drew1 | refine below_set ?_ GE272.out | refine below_set ?_ GE273.out) | exact HB.out)⟩⟩
          · rw [if_neg c20] at H
            have c20b0 : (a1_0 == 2) = false := beq_eq_false_iff_ne.mpr c20
            have c20b1 : (a1_0 != 2) = true := bne_iff_ne.mpr c20
            (first | rw [c20b0] | (simp only [i64_w, i32_w]; rw [c20b0]) | skip)
            by_cases c23 : a2_0 = 2
            · rw [if_pos c23] at H
              have c23b0 : (a2_0 == 2) = true := beq_iff_eq.mpr c23
              have c23b1 : (a2_0 != 2) = false := bne_eq_false_iff_eq.mpr c23
              clear c23
              have H' := Aside0.mk H
              clear H
              have hnb24 := NB272_273.out
              have hnc24 := NB273_272.out
              have hcz25_0 : w16.cell? ⟨gb272, 0, none⟩ = some (.int .i64 a1_0) := (blk_cell BK272.out 0).trans rfl
              have hcz25_1 : w16.cell? ⟨gb272, 1, none⟩ = some (.bool a1_1) := (blk_cell BK272.out 1).trans rfl
              have hcz25_2 : w16.cell? ⟨gb272, 2, none⟩ = some (.int .i64 a1_2) := (blk_cell BK272.out 2).trans rfl
              have hcz25_3 : w16.cell? ⟨gb272, 3, none⟩ = some (.int .u64 a1_3) := (blk_cell BK272.out 3).trans rfl
              have hcz25_4 : w16.cell? ⟨gb272, 4, none⟩ = some (.int .u64 a1_4) := (blk_cell BK272.out 4).trans rfl
              have hcz25_5 : w16.cell? ⟨gb272, 5, none⟩ = some (.bool a1_5) := (blk_cell BK272.out 5).trans rfl
              have hfz25_0 := blk_frozen BK272.out 0
              have hfz25_1 := blk_frozen BK272.out 1
              have hfz25_2 := blk_frozen BK272.out 2
              have hfz25_3 := blk_frozen BK272.out 3
              have hfz25_4 := blk_frozen BK272.out 4
              have hfz25_5 := blk_frozen BK272.out 5
              have hcz26_0 : w16.cell? ⟨gb273, 0, none⟩ = some (.int .i64 a2_0) := (blk_cell BK273.out 0).trans rfl
              have hcz26_1 : w16.cell? ⟨gb273, 1, none⟩ = some (.bool a2_1) := (blk_cell BK273.out 1).trans rfl
              have hcz26_2 : w16.cell? ⟨gb273, 2, none⟩ = some (.int .i64 a2_2) := (blk_cell BK273.out 2).trans rfl
              have hcz26_3 : w16.cell? ⟨gb273, 3, none⟩ = some (.int .u64 a2_3) := (blk_cell BK273.out 3).trans rfl
              have hcz26_4 : w16.cell? ⟨gb273, 4, none⟩ = some (.int .u64 a2_4) := (blk_cell BK273.out 4).trans rfl
              have hcz26_5 : w16.cell? ⟨gb273, 5, none⟩ = some (.bool a2_5) := (blk_cell BK273.out 5).trans rfl
              have hfz26_0 := blk_frozen BK273.out 0
              have hfz26_1 := blk_frozen BK273.out 1
              have hfz26_2 := blk_frozen BK273.out 2
              have hfz26_3 := blk_frozen BK273.out 3
              have hfz26_4 := blk_frozen BK273.out 4
              have hfz26_5 := blk_frozen BK273.out 5
              go_wp2
              go_meet
              case rel => exact ⟨_, (true), (by first | rfl | (simp; done) | (simp [*]; done)), H', ⟨by first | omega | exact Nat.le_refl _⟩, ⟨by (with_reducible repeat (first | refine blk_drewN ?_ _ | refine blk_drew ?_ | refine blk_alloc ?_ _)); exact BK272.out⟩, ⟨by (with_reducible repeat (first | refine blk_drewN ?_ _ | refine blk_drew ?_ | refine blk_alloc ?_ _)); exact BK273.out⟩, ⟨by repeat (first | (with_reducible first | exact HB.out | apply below_alloc | apply pw_below_drewN | apply below_drew1 | refine below_set ?_ GE272.out | refine below_set ?_ GE273.out) | exact HB.out)⟩⟩
            · rw [if_neg c23] at H
              have c23b0 : (a2_0 == 2) = false := beq_eq_false_iff_ne.mpr c23
              have c23b1 : (a2_0 != 2) = true := bne_iff_ne.mpr c23
              by_cases c27 : a1_5 = true
              · subst c27
                have H1 : (vernierlaw07_RoundRises.j0 k a0 t274 true a1_0 a1_1 a1_2 a1_3 a1_4 true a2_0 a2_1 a2_2 a2_3 a2_4 a2_5) = some r := by rw [if_pos rfl] at H; exact H
                clear H
                have H := H1
                clear H1
                have H' := Aside0.mk H
                clear H
                have hnb28 := NB272_273.out
                have hnc28 := NB273_272.out
                have hcz29_0 : w16.cell? ⟨gb272, 0, none⟩ = some (.int .i64 a1_0) := (blk_cell BK272.out 0).trans rfl
                have hcz29_1 : w16.cell? ⟨gb272, 1, none⟩ = some (.bool a1_1) := (blk_cell BK272.out 1).trans rfl
                have hcz29_2 : w16.cell? ⟨gb272, 2, none⟩ = some (.int .i64 a1_2) := (blk_cell BK272.out 2).trans rfl
                have hcz29_3 : w16.cell? ⟨gb272, 3, none⟩ = some (.int .u64 a1_3) := (blk_cell BK272.out 3).trans rfl
                have hcz29_4 : w16.cell? ⟨gb272, 4, none⟩ = some (.int .u64 a1_4) := (blk_cell BK272.out 4).trans rfl
                have hcz29_5 : w16.cell? ⟨gb272, 5, none⟩ = some (.bool true) := (blk_cell BK272.out 5).trans rfl
                have hfz29_0 := blk_frozen BK272.out 0
                have hfz29_1 := blk_frozen BK272.out 1
                have hfz29_2 := blk_frozen BK272.out 2
                have hfz29_3 := blk_frozen BK272.out 3
                have hfz29_4 := blk_frozen BK272.out 4
                have hfz29_5 := blk_frozen BK272.out 5
                have hcz30_0 : w16.cell? ⟨gb273, 0, none⟩ = some (.int .i64 a2_0) := (blk_cell BK273.out 0).trans rfl
                have hcz30_1 : w16.cell? ⟨gb273, 1, none⟩ = some (.bool a2_1) := (blk_cell BK273.out 1).trans rfl
                have hcz30_2 : w16.cell? ⟨gb273, 2, none⟩ = some (.int .i64 a2_2) := (blk_cell BK273.out 2).trans rfl
                have hcz30_3 : w16.cell? ⟨gb273, 3, none⟩ = some (.int .u64 a2_3) := (blk_cell BK273.out 3).trans rfl
                have hcz30_4 : w16.cell? ⟨gb273, 4, none⟩ = some (.int .u64 a2_4) := (blk_cell BK273.out 4).trans rfl
                have hcz30_5 : w16.cell? ⟨gb273, 5, none⟩ = some (.bool a2_5) := (blk_cell BK273.out 5).trans rfl
                have hfz30_0 := blk_frozen BK273.out 0
                have hfz30_1 := blk_frozen BK273.out 1
                have hfz30_2 := blk_frozen BK273.out 2
                have hfz30_3 := blk_frozen BK273.out 3
                have hfz30_4 := blk_frozen BK273.out 4
                have hfz30_5 := blk_frozen BK273.out 5
                go_wp2
                go_meet
                case rel => exact ⟨_, (true), (by first | rfl | (simp; done) | (simp [*]; done)), H', ⟨by first | omega | exact Nat.le_refl _⟩, ⟨by (with_reducible repeat (first | refine blk_drewN ?_ _ | refine blk_drew ?_ | refine blk_alloc ?_ _)); exact BK272.out⟩, ⟨by (with_reducible repeat (first | refine blk_drewN ?_ _ | refine blk_drew ?_ | refine blk_alloc ?_ _)); exact BK273.out⟩, ⟨by repeat (first | (with_reducible first | exact HB.out | apply below_alloc | apply pw_below_drewN | apply below_drew1 | refine below_set ?_ GE272.out | refine below_set ?_ GE273.out) | exact HB.out)⟩⟩
              · replace c27 := Bool.eq_false_iff.mpr c27
                subst c27
                have H1 : (vernierlaw07_RoundRises.j0 k a0 t274 a2_5 a1_0 a1_1 a1_2 a1_3 a1_4 false a2_0 a2_1 a2_2 a2_3 a2_4 a2_5) = some r := by rw [if_neg (show ¬ (false = true) by decide)] at H; exact H
                clear H
                have H := H1
                clear H1
                have H' := Aside0.mk H
                clear H
                have hnb31 := NB272_273.out
                have hnc31 := NB273_272.out
                have hcz32_0 : w16.cell? ⟨gb272, 0, none⟩ = some (.int .i64 a1_0) := (blk_cell BK272.out 0).trans rfl
                have hcz32_1 : w16.cell? ⟨gb272, 1, none⟩ = some (.bool a1_1) := (blk_cell BK272.out 1).trans rfl
                have hcz32_2 : w16.cell? ⟨gb272, 2, none⟩ = some (.int .i64 a1_2) := (blk_cell BK272.out 2).trans rfl
                have hcz32_3 : w16.cell? ⟨gb272, 3, none⟩ = some (.int .u64 a1_3) := (blk_cell BK272.out 3).trans rfl
                have hcz32_4 : w16.cell? ⟨gb272, 4, none⟩ = some (.int .u64 a1_4) := (blk_cell BK272.out 4).trans rfl
                have hcz32_5 : w16.cell? ⟨gb272, 5, none⟩ = some (.bool false) := (blk_cell BK272.out 5).trans rfl
                have hfz32_0 := blk_frozen BK272.out 0
                have hfz32_1 := blk_frozen BK272.out 1
                have hfz32_2 := blk_frozen BK272.out 2
                have hfz32_3 := blk_frozen BK272.out 3
                have hfz32_4 := blk_frozen BK272.out 4
                have hfz32_5 := blk_frozen BK272.out 5
                have hcz33_0 : w16.cell? ⟨gb273, 0, none⟩ = some (.int .i64 a2_0) := (blk_cell BK273.out 0).trans rfl
                have hcz33_1 : w16.cell? ⟨gb273, 1, none⟩ = some (.bool a2_1) := (blk_cell BK273.out 1).trans rfl
                have hcz33_2 : w16.cell? ⟨gb273, 2, none⟩ = some (.int .i64 a2_2) := (blk_cell BK273.out 2).trans rfl
                have hcz33_3 : w16.cell? ⟨gb273, 3, none⟩ = some (.int .u64 a2_3) := (blk_cell BK273.out 3).trans rfl
                have hcz33_4 : w16.cell? ⟨gb273, 4, none⟩ = some (.int .u64 a2_4) := (blk_cell BK273.out 4).trans rfl
                have hcz33_5 : w16.cell? ⟨gb273, 5, none⟩ = some (.bool a2_5) := (blk_cell BK273.out 5).trans rfl
                have hfz33_0 := blk_frozen BK273.out 0
                have hfz33_1 := blk_frozen BK273.out 1
                have hfz33_2 := blk_frozen BK273.out 2
                have hfz33_3 := blk_frozen BK273.out 3
                have hfz33_4 := blk_frozen BK273.out 4
                have hfz33_5 := blk_frozen BK273.out 5
                go_wp2
                go_meet
                case rel => exact ⟨_, (a2_5), (by first | rfl | (simp; done) | (simp [*]; done)), H', ⟨by first | omega | exact Nat.le_refl _⟩, ⟨by (with_reducible repeat (first | refine blk_drewN ?_ _ | refine blk_drew ?_ | refine blk_alloc ?_ _)); exact BK272.out⟩, ⟨by (with_reducible repeat (first | refine blk_drewN ?_ _ | refine blk_drew ?_ | refine blk_alloc ?_ _)); exact BK273.out⟩, ⟨by repeat (first | (with_reducible first | exact HB.out | apply below_alloc | apply pw_below_drewN | apply below_drew1 | refine below_set ?_ GE272.out | refine below_set ?_ GE273.out) | exact HB.out)⟩⟩
        · replace c19 := Bool.eq_false_iff.mpr c19
          subst c19
          have H1 : (vernierlaw07_RoundRises.j0 k a0 t274 true a1_0 a1_1 a1_2 a1_3 a1_4 a1_5 a2_0 a2_1 a2_2 a2_3 a2_4 a2_5) = some r := by rw [if_neg (show ¬ (false = true) by decide)] at H; exact H
          clear H
          have H := H1
          clear H1
          have H' := Aside0.mk H
          clear H
          go_wp2
          go_meet
          case rel => exact ⟨_, (true), (by first | rfl | (simp; done) | (simp [*]; done)), H', ⟨by first | omega | exact Nat.le_refl _⟩, ⟨by (with_reducible repeat (first | refine blk_drewN ?_ _ | refine blk_drew ?_ | refine blk_alloc ?_ _)); exact BK272.out⟩, ⟨by (with_reducible repeat (first | refine blk_drewN ?_ _ | refine blk_drew ?_ | refine blk_alloc ?_ _)); exact BK273.out⟩, ⟨by repeat (first | (with_reducible first | exact HB.out | apply below_alloc | apply pw_below_drewN | apply below_drew1 | refine below_set ?_ GE272.out | refine below_set ?_ GE273.out) | exact HB.out)⟩⟩
      · replace c18 := Bool.eq_false_iff.mpr c18
        subst c18
        have H1 : (vernierlaw07_RoundRises.j0 k a0 t274 true a1_0 a1_1 a1_2 a1_3 a1_4 a1_5 a2_0 a2_1 a2_2 a2_3 a2_4 a2_5) = some r := by rw [if_neg (show ¬ (false = true) by decide)] at H; exact H
        clear H
        have H := H1
        clear H1
        have H' := Aside0.mk H
        clear H
        go_wp2
        go_meet
        case rel => exact ⟨_, (true), (by first | rfl | (simp; done) | (simp [*]; done)), H', ⟨by first | omega | exact Nat.le_refl _⟩, ⟨by (with_reducible repeat (first | refine blk_drewN ?_ _ | refine blk_drew ?_ | refine blk_alloc ?_ _)); exact BK272.out⟩, ⟨by (with_reducible repeat (first | refine blk_drewN ?_ _ | refine blk_drew ?_ | refine blk_alloc ?_ _)); exact BK273.out⟩, ⟨by repeat (first | (with_reducible first | exact HB.out | apply below_alloc | apply pw_below_drewN | apply below_drew1 | refine below_set ?_ GE272.out | refine below_set ?_ GE273.out) | exact HB.out)⟩⟩
    · replace c17 := Bool.eq_false_iff.mpr c17
      subst c17
      have H1 : (vernierlaw07_RoundRises.j0 k a0 t274 true a1_0 a1_1 a1_2 a1_3 a1_4 a1_5 a2_0 a2_1 a2_2 a2_3 a2_4 a2_5) = some r := by rw [if_neg (show ¬ (false = true) by decide)] at H; exact H
      clear H
      have H := H1
      clear H1
      have H' := Aside0.mk H
      clear H
      go_wp2
      go_meet
      case rel => exact ⟨_, (true), (by first | rfl | (simp; done) | (simp [*]; done)), H', ⟨by first | omega | exact Nat.le_refl _⟩, ⟨by (with_reducible repeat (first | refine blk_drewN ?_ _ | refine blk_drew ?_ | refine blk_alloc ?_ _)); exact BK272.out⟩, ⟨by (with_reducible repeat (first | refine blk_drewN ?_ _ | refine blk_drew ?_ | refine blk_alloc ?_ _)); exact BK273.out⟩, ⟨by repeat (first | (with_reducible first | exact HB.out | apply below_alloc | apply pw_below_drewN | apply below_drew1 | refine below_set ?_ GE272.out | refine below_set ?_ GE273.out) | exact HB.out)⟩⟩
  case rest =>
    clear HC8
    try clear c1
    try clear c2
    try clear p2
    try clear c3
    try clear c5
    try clear c10
    try clear c12
    try clear c16
    try clear c17
    try clear c18
    try clear c19
    try clear c20
    try clear c20b0
    try clear c20b1
    try clear c21
    try clear c23
    try clear c23b0
    try clear c23b1
    try clear c24
    try clear c27
    try clear c28
    try clear c31
    try clear hcz13_0
    try clear hcz13_1
    try clear hcz13_2
    try clear hcz13_3
    try clear hcz13_4
    try clear hcz13_5
    try clear hcz15_0
    try clear hcz15_1
    try clear hcz15_2
    try clear hcz15_3
    try clear hcz15_4
    try clear hcz15_5
    try clear hcz22_0
    try clear hcz22_1
    try clear hcz22_2
    try clear hcz22_3
    try clear hcz22_4
    try clear hcz22_5
    try clear hcz25_0
    try clear hcz25_1
    try clear hcz25_2
    try clear hcz25_3
    try clear hcz25_4
    try clear hcz25_5
    try clear hcz26_0
    try clear hcz26_1
    try clear hcz26_2
    try clear hcz26_3
    try clear hcz26_4
    try clear hcz26_5
    try clear hcz29_0
    try clear hcz29_1
    try clear hcz29_2
    try clear hcz29_3
    try clear hcz29_4
    try clear hcz29_5
    try clear hcz30_0
    try clear hcz30_1
    try clear hcz30_2
    try clear hcz30_3
    try clear hcz30_4
    try clear hcz30_5
    try clear hcz32_0
    try clear hcz32_1
    try clear hcz32_2
    try clear hcz32_3
    try clear hcz32_4
    try clear hcz32_5
    try clear hcz33_0
    try clear hcz33_1
    try clear hcz33_2
    try clear hcz33_3
    try clear hcz33_4
    try clear hcz33_5
    try clear hfz13_0
    try clear hfz13_1
    try clear hfz13_2
    try clear hfz13_3
    try clear hfz13_4
    try clear hfz13_5
    try clear hfz15_0
    try clear hfz15_1
    try clear hfz15_2
    try clear hfz15_3
    try clear hfz15_4
    try clear hfz15_5
    try clear hfz22_0
    try clear hfz22_1
    try clear hfz22_2
    try clear hfz22_3
    try clear hfz22_4
    try clear hfz22_5
    try clear hfz25_0
    try clear hfz25_1
    try clear hfz25_2
    try clear hfz25_3
    try clear hfz25_4
    try clear hfz25_5
    try clear hfz26_0
    try clear hfz26_1
    try clear hfz26_2
    try clear hfz26_3
    try clear hfz26_4
    try clear hfz26_5
    try clear hfz29_0
    try clear hfz29_1
    try clear hfz29_2
    try clear hfz29_3
    try clear hfz29_4
    try clear hfz29_5
    try clear hfz30_0
    try clear hfz30_1
    try clear hfz30_2
    try clear hfz30_3
    try clear hfz30_4
    try clear hfz30_5
    try clear hfz32_0
    try clear hfz32_1
    try clear hfz32_2
    try clear hfz32_3
    try clear hfz32_4
    try clear hfz32_5
    try clear hfz33_0
    try clear hfz33_1
    try clear hfz33_2
    try clear hfz33_3
    try clear hfz33_4
    try clear hfz33_5
    obtain ⟨kq, x52_7, rfl, HA, HJ7, BK272, BK273, HB⟩ := hcut
    cases kq with
    | zero => exact absurd HA.out (by simp [vernierlaw07_RoundRises.j0])
    | succ kj7 =>
      have H := HA.out
      clear HA
      simp only [vernierlaw07_RoundRises.j0] at H
      by_cases c34 : x52_7 = true
      · subst c34
        have H1 : (some t274) = some r := by rw [if_pos rfl] at H; exact H
        clear H
        have H := H1
        clear H1
        obtain rfl := Option.some.inj H
        go_wp2
        go_ret
        exact ⟨by first | rfl | (simp [errW_none, errW_some] <;> rfl) | (simp [*, errW_none, errW_some] <;> rfl), by repeat (first | (with_reducible first | exact HB.out | apply below_alloc | apply pw_below_drewN | apply below_drew1 | refine below_set ?_ GE272.out | refine below_set ?_ GE273.out) | exact HB.out)⟩
      · replace c34 := Bool.eq_false_iff.mpr c34
        subst c34
        have H1 : ((round_Round.f kj7 a0 a1_0 a1_1 a1_2 a1_3 a1_4 a1_5).bind fun bt278 => ((round_Round.f kj7 a0 a2_0 a2_1 a2_2 a2_3 a2_4 a2_5).bind fun bt280 => ((vernierref07_Cmp.f kj7 a1_0 a1_1 a1_2 a1_3 a1_4 a1_5 a2_0 a2_1 a2_2 a2_3 a2_4 a2_5).bind fun t282 => ((vernierlaw07_rank.f kj7 a0 bt278.1).bind fun t283 => ((vernierlaw07_rank.f kj7 a0 bt280.1).bind fun t284 => (if t274 = true then (if bt278.2.isNone = true then (if bt280.2.isNone = true then (if t282 > 0 then (if t282 < 0 then (some true) else (some (decide (t283 ≥ t284)))) else (if t283 ≤ t284 then (if t282 < 0 then (some true) else (some (decide (t283 ≥ t284)))) else (some false))) else (some false)) else (some false)) else (some false))))))) = some r := by rw [if_neg (show ¬ (false = true) by decide)] at H; exact H
        clear H
        have H := H1
        clear H1
        replace H := Option.bind_eq_some_iff.mp H
        obtain ⟨⟨t278, t279⟩, A350, H⟩ := H
        replace H : ((round_Round.f kj7 a0 a2_0 a2_1 a2_2 a2_3 a2_4 a2_5).bind fun bt280 => ((vernierref07_Cmp.f kj7 a1_0 a1_1 a1_2 a1_3 a1_4 a1_5 a2_0 a2_1 a2_2 a2_3 a2_4 a2_5).bind fun t282 => ((vernierlaw07_rank.f kj7 a0 t278).bind fun t283 => ((vernierlaw07_rank.f kj7 a0 bt280.1).bind fun t284 => (if t274 = true then (if t279.isNone = true then (if bt280.2.isNone = true then (if t282 > 0 then (if t282 < 0 then (some true) else (some (decide (t283 ≥ t284)))) else (if t283 ≤ t284 then (if t282 < 0 then (some true) else (some (decide (t283 ≥ t284)))) else (some false))) else (some false)) else (some false)) else (some false)))))) = some r := H
        have A35 := Aside0.mk A350
        clear A350
        replace H := Option.bind_eq_some_iff.mp H
        obtain ⟨⟨t280, t281⟩, A360, H⟩ := H
        replace H : ((vernierref07_Cmp.f kj7 a1_0 a1_1 a1_2 a1_3 a1_4 a1_5 a2_0 a2_1 a2_2 a2_3 a2_4 a2_5).bind fun t282 => ((vernierlaw07_rank.f kj7 a0 t278).bind fun t283 => ((vernierlaw07_rank.f kj7 a0 t280).bind fun t284 => (if t274 = true then (if t279.isNone = true then (if t281.isNone = true then (if t282 > 0 then (if t282 < 0 then (some true) else (some (decide (t283 ≥ t284)))) else (if t283 ≤ t284 then (if t282 < 0 then (some true) else (some (decide (t283 ≥ t284)))) else (some false))) else (some false)) else (some false)) else (some false))))) = some r := H
        have A36 := Aside0.mk A360
        clear A360
        replace H := Option.bind_eq_some_iff.mp H
        obtain ⟨t282, A370, H⟩ := H
        replace H : ((vernierlaw07_rank.f kj7 a0 t278).bind fun t283 => ((vernierlaw07_rank.f kj7 a0 t280).bind fun t284 => (if t274 = true then (if t279.isNone = true then (if t281.isNone = true then (if t282 > 0 then (if t282 < 0 then (some true) else (some (decide (t283 ≥ t284)))) else (if t283 ≤ t284 then (if t282 < 0 then (some true) else (some (decide (t283 ≥ t284)))) else (some false))) else (some false)) else (some false)) else (some false)))) = some r := H
        have A37 := Aside0.mk A370
        clear A370
        replace H := Option.bind_eq_some_iff.mp H
        obtain ⟨t283, A380, H⟩ := H
        replace H : ((vernierlaw07_rank.f kj7 a0 t280).bind fun t284 => (if t274 = true then (if t279.isNone = true then (if t281.isNone = true then (if t282 > 0 then (if t282 < 0 then (some true) else (some (decide (t283 ≥ t284)))) else (if t283 ≤ t284 then (if t282 < 0 then (some true) else (some (decide (t283 ≥ t284)))) else (some false))) else (some false)) else (some false)) else (some false))) = some r := H
        have A38 := Aside0.mk A380
        clear A380
        replace H := Option.bind_eq_some_iff.mp H
        obtain ⟨t284, A390, H⟩ := H
        replace H : (if t274 = true then (if t279.isNone = true then (if t281.isNone = true then (if t282 > 0 then (if t282 < 0 then (some true) else (some (decide (t283 ≥ t284)))) else (if t283 ≤ t284 then (if t282 < 0 then (some true) else (some (decide (t283 ≥ t284)))) else (some false))) else (some false)) else (some false)) else (some false)) = some r := H
        have A39 := Aside0.mk A390
        clear A390
        by_cases c40 : t274 = true
        · subst c40
          have H1 : (if t279.isNone = true then (if t281.isNone = true then (if t282 > 0 then (if t282 < 0 then (some true) else (some (decide (t283 ≥ t284)))) else (if t283 ≤ t284 then (if t282 < 0 then (some true) else (some (decide (t283 ≥ t284)))) else (some false))) else (some false)) else (some false)) = some r := by rw [if_pos rfl] at H; exact H
          clear H
          have H := H1
          clear H1
          rcases t279 with _ | q285
          · have H1 : (if t281.isNone = true then (if t282 > 0 then (if t282 < 0 then (some true) else (some (decide (t283 ≥ t284)))) else (if t283 ≤ t284 then (if t282 < 0 then (some true) else (some (decide (t283 ≥ t284)))) else (some false))) else (some false)) = some r := by rw [if_pos (show (none : Option Int).isNone = true by rfl)] at H; exact H
            clear H
            have H := H1
            clear H1
            try simp only [errW_none, errW_some]
            rcases t281 with _ | q286
            · have H1 : (if t282 > 0 then (if t282 < 0 then (some true) else (some (decide (t283 ≥ t284)))) else (if t283 ≤ t284 then (if t282 < 0 then (some true) else (some (decide (t283 ≥ t284)))) else (some false))) = some r := by rw [if_pos (show (none : Option Int).isNone = true by rfl)] at H; exact H
              clear H
              have H := H1
              clear H1
              try simp only [errW_none, errW_some]
              by_cases c41 : t282 > 0
              · rw [if_pos c41] at H
                have c41b0 : decide (0 < t282) = true := decide_eq_true c41
                clear c41
                by_cases c42 : t282 < 0
                · rw [if_pos c42] at H
                  have c42b0 : decide (t282 < 0) = true := decide_eq_true c42
                  clear c42
                  obtain rfl := Option.some.inj H
                  have hnb43 := NB272_273.out
                  have hnc43 := NB273_272.out
                  have hcz44_0 : wc.cell? ⟨gb272, 0, none⟩ = some (.int .i64 a1_0) := (blk_cell BK272.out 0).trans rfl
                  have hcz44_1 : wc.cell? ⟨gb272, 1, none⟩ = some (.bool a1_1) := (blk_cell BK272.out 1).trans rfl
                  have hcz44_2 : wc.cell? ⟨gb272, 2, none⟩ = some (.int .i64 a1_2) := (blk_cell BK272.out 2).trans rfl
                  have hcz44_3 : wc.cell? ⟨gb272, 3, none⟩ = some (.int .u64 a1_3) := (blk_cell BK272.out 3).trans rfl
                  have hcz44_4 : wc.cell? ⟨gb272, 4, none⟩ = some (.int .u64 a1_4) := (blk_cell BK272.out 4).trans rfl
                  have hcz44_5 : wc.cell? ⟨gb272, 5, none⟩ = some (.bool a1_5) := (blk_cell BK272.out 5).trans rfl
                  have hfz44_0 := blk_frozen BK272.out 0
                  have hfz44_1 := blk_frozen BK272.out 1
                  have hfz44_2 := blk_frozen BK272.out 2
                  have hfz44_3 := blk_frozen BK272.out 3
                  have hfz44_4 := blk_frozen BK272.out 4
                  have hfz44_5 := blk_frozen BK272.out 5
                  go_wp2_with (first | ((with_reducible refine gate_callee (f := 14) rfl ?_); refine goesL_ (some 57) rfl rfl Try.func14 (by kernel_rfl) rfl #[.int .i64 a0, .agg #[.int .i64 a1_0, .bool a1_1, .int .i64 a1_2, .int .u64 a1_3, .int .u64 a1_4, .bool a1_5]] rfl (by (try simp only [List.map_toArray, List.map_cons, List.map_nil]); first | done | rfl | (simp only [List.length_drop, List.length_take]; rfl)) ?_; (with_reducible refine (round_Round.calls kj7 a0 a1_0 a1_1 a1_2 a1_3 a1_4 a1_5 t278 none _ A35.out).mono ?_); rintro e w45 ⟨rfl, hb⟩; refine ⟨_, rfl, ?_⟩; have n0_ := Aside0.mk (blk_below (g := gb272) (o := .cells #[.int .i64 a1_0, .bool a1_1, .int .i64 a1_2, .int .u64 a1_3, .int .u64 a1_4, .bool a1_5] 24 (0, 0)) (by (with_reducible repeat (first | refine blk_drewN ?_ _ | refine blk_drew ?_ | refine blk_alloc ?_ _)); exact BK272.out) hb); have n1_ := Aside0.mk (blk_below (g := gb273) (o := .cells #[.int .i64 a2_0, .bool a2_1, .int .i64 a2_2, .int .u64 a2_3, .int .u64 a2_4, .bool a2_5] 24 (0, 0)) (by (with_reducible repeat (first | refine blk_drewN ?_ _ | refine blk_drew ?_ | refine blk_alloc ?_ _)); exact BK273.out) hb); have n2_ := Aside0.mk (below_step (by repeat (first | (with_reducible first | exact HB.out | apply below_alloc | apply pw_below_drewN | apply below_drew1 | refine below_set ?_ GE272.out | refine below_set ?_ GE273.out) | exact HB.out)) hb); clear BK272; clear BK273; clear HB; have BK272 := n0_; have BK273 := n1_; have HB := n2_; clear n0_ n1_ n2_; (try clear hb); (try clear hb2); (try clear hk); (try clear hi); (try simp only [errW_none, errW_some]); have hcz46_0 : w45.cell? ⟨gb273, 0, none⟩ = some (.int .i64 a2_0) := (blk_cell BK273.out 0).trans rfl; have hcz46_1 : w45.cell? ⟨gb273, 1, none⟩ = some (.bool a2_1) := (blk_cell BK273.out 1).trans rfl; have hcz46_2 : w45.cell? ⟨gb273, 2, none⟩ = some (.int .i64 a2_2) := (blk_cell BK273.out 2).trans rfl; have hcz46_3 : w45.cell? ⟨gb273, 3, none⟩ = some (.int .u64 a2_3) := (blk_cell BK273.out 3).trans rfl; have hcz46_4 : w45.cell? ⟨gb273, 4, none⟩ = some (.int .u64 a2_4) := (blk_cell BK273.out 4).trans rfl; have hcz46_5 : w45.cell? ⟨gb273, 5, none⟩ = some (.bool a2_5) := (blk_cell BK273.out 5).trans rfl; have hfz46_0 := blk_frozen BK273.out 0; have hfz46_1 := blk_frozen BK273.out 1; have hfz46_2 := blk_frozen BK273.out 2; have hfz46_3 := blk_frozen BK273.out 3; have hfz46_4 := blk_frozen BK273.out 4; have hfz46_5 := blk_frozen BK273.out 5) | ((with_reducible refine gate_callee (f := 14) rfl ?_); refine goesL_ (some 63) rfl rfl Try.func14 (by kernel_rfl) rfl #[.int .i64 a0, .agg #[.int .i64 a2_0, .bool a2_1, .int .i64 a2_2, .int .u64 a2_3, .int .u64 a2_4, .bool a2_5]] rfl (by (try simp only [List.map_toArray, List.map_cons, List.map_nil]); first | done | rfl | (simp only [List.length_drop, List.length_take]; rfl)) ?_; (with_reducible refine (round_Round.calls kj7 a0 a2_0 a2_1 a2_2 a2_3 a2_4 a2_5 t280 none _ A36.out).mono ?_); rintro e w47 ⟨rfl, hb⟩; refine ⟨_, rfl, ?_⟩; have n0_ := Aside0.mk (blk_below (g := gb272) (o := .cells #[.int .i64 a1_0, .bool a1_1, .int .i64 a1_2, .int .u64 a1_3, .int .u64 a1_4, .bool a1_5] 24 (0, 0)) (by (with_reducible repeat (first | refine blk_drewN ?_ _ | refine blk_drew ?_ | refine blk_alloc ?_ _)); exact BK272.out) hb); have n1_ := Aside0.mk (blk_below (g := gb273) (o := .cells #[.int .i64 a2_0, .bool a2_1, .int .i64 a2_2, .int .u64 a2_3, .int .u64 a2_4, .bool a2_5] 24 (0, 0)) (by (with_reducible repeat (first | refine blk_drewN ?_ _ | refine blk_drew ?_ | refine blk_alloc ?_ _)); exact BK273.out) hb); have n2_ := Aside0.mk (below_step (by repeat (first | (with_reducible first | exact HB.out | apply below_alloc | apply pw_below_drewN | apply below_drew1 | refine below_set ?_ GE272.out | refine below_set ?_ GE273.out) | exact HB.out)) hb); clear BK272; clear BK273; clear HB; have BK272 := n0_; have BK273 := n1_; have HB := n2_; clear n0_ n1_ n2_; (try clear hb); (try clear hb2); (try clear hk); (try clear hi); (try simp only [errW_none, errW_some]); have hcz48_0 : w47.cell? ⟨gb272, 0, none⟩ = some (.int .i64 a1_0) := (blk_cell BK272.out 0).trans rfl; have hcz48_1 : w47.cell? ⟨gb272, 1, none⟩ = some (.bool a1_1) := (blk_cell BK272.out 1).trans rfl; have hcz48_2 : w47.cell? ⟨gb272, 2, none⟩ = some (.int .i64 a1_2) := (blk_cell BK272.out 2).trans rfl; have hcz48_3 : w47.cell? ⟨gb272, 3, none⟩ = some (.int .u64 a1_3) := (blk_cell BK272.out 3).trans rfl; have hcz48_4 : w47.cell? ⟨gb272, 4, none⟩ = some (.int .u64 a1_4) := (blk_cell BK272.out 4).trans rfl; have hcz48_5 : w47.cell? ⟨gb272, 5, none⟩ = some (.bool a1_5) := (blk_cell BK272.out 5).trans rfl; have hfz48_0 := blk_frozen BK272.out 0; have hfz48_1 := blk_frozen BK272.out 1; have hfz48_2 := blk_frozen BK272.out 2; have hfz48_3 := blk_frozen BK272.out 3; have hfz48_4 := blk_frozen BK272.out 4; have hfz48_5 := blk_frozen BK272.out 5; have hcz49_0 : w47.cell? ⟨gb273, 0, none⟩ = some (.int .i64 a2_0) := (blk_cell BK273.out 0).trans rfl; have hcz49_1 : w47.cell? ⟨gb273, 1, none⟩ = some (.bool a2_1) := (blk_cell BK273.out 1).trans rfl; have hcz49_2 : w47.cell? ⟨gb273, 2, none⟩ = some (.int .i64 a2_2) := (blk_cell BK273.out 2).trans rfl; have hcz49_3 : w47.cell? ⟨gb273, 3, none⟩ = some (.int .u64 a2_3) := (blk_cell BK273.out 3).trans rfl; have hcz49_4 : w47.cell? ⟨gb273, 4, none⟩ = some (.int .u64 a2_4) := (blk_cell BK273.out 4).trans rfl; have hcz49_5 : w47.cell? ⟨gb273, 5, none⟩ = some (.bool a2_5) := (blk_cell BK273.out 5).trans rfl; have hfz49_0 := blk_frozen BK273.out 0; have hfz49_1 := blk_frozen BK273.out 1; have hfz49_2 := blk_frozen BK273.out 2; have hfz49_3 := blk_frozen BK273.out 3; have hfz49_4 := blk_frozen BK273.out 4; have hfz49_5 := blk_frozen BK273.out 5) | ((with_reducible refine gate_callee (f := 18) rfl ?_); refine goesL_ (some 68) rfl rfl Try.func18 (by kernel_rfl) rfl #[.agg #[.int .i64 a1_0, .bool a1_1, .int .i64 a1_2, .int .u64 a1_3, .int .u64 a1_4, .bool a1_5], .agg #[.int .i64 a2_0, .bool a2_1, .int .i64 a2_2, .int .u64 a2_3, .int .u64 a2_4, .bool a2_5]] rfl (by (try simp only [List.map_toArray, List.map_cons, List.map_nil]); first | done | rfl | (simp only [List.length_drop, List.length_take]; rfl)) ?_; (with_reducible refine (vernierref07_Cmp.calls kj7 a1_0 a1_1 a1_2 a1_3 a1_4 a1_5 a2_0 a2_1 a2_2 a2_3 a2_4 a2_5 t282 _ A37.out).mono ?_); rintro e w50 ⟨rfl, hb⟩; refine ⟨_, rfl, ?_⟩; have n0_ := Aside0.mk (blk_below (g := gb272) (o := .cells #[.int .i64 a1_0, .bool a1_1, .int .i64 a1_2, .int .u64 a1_3, .int .u64 a1_4, .bool a1_5] 24 (0, 0)) (by (with_reducible repeat (first | refine blk_drewN ?_ _ | refine blk_drew ?_ | refine blk_alloc ?_ _)); exact BK272.out) hb); have n1_ := Aside0.mk (blk_below (g := gb273) (o := .cells #[.int .i64 a2_0, .bool a2_1, .int .i64 a2_2, .int .u64 a2_3, .int .u64 a2_4, .bool a2_5] 24 (0, 0)) (by (with_reducible repeat (first | refine blk_drewN ?_ _ | refine blk_drew ?_ | refine blk_alloc ?_ _)); exact BK273.out) hb); have n2_ := Aside0.mk (below_step (by repeat (first | (with_reducible first | exact HB.out | apply below_alloc | apply pw_below_drewN | apply below_drew1 | refine below_set ?_ GE272.out | refine below_set ?_ GE273.out) | exact HB.out)) hb); clear BK272; clear BK273; clear HB; have BK272 := n0_; have BK273 := n1_; have HB := n2_; clear n0_ n1_ n2_; (try clear hb); (try clear hb2); (try clear hk); (try clear hi)) | ((with_reducible refine gate_callee (f := 19) rfl ?_); refine goesL_ (some 71) rfl rfl Try.func19 (by kernel_rfl) rfl #[.int .i64 a0, .int .u64 t278] rfl (by (try simp only [List.map_toArray, List.map_cons, List.map_nil]); first | done | rfl | (simp only [List.length_drop, List.length_take]; rfl)) ?_; (with_reducible refine (vernierlaw07_rank.calls kj7 a0 t278 t283 _ A38.out).mono ?_); rintro e w51 ⟨rfl, hb⟩; refine ⟨_, rfl, ?_⟩; have n0_ := Aside0.mk (blk_below (g := gb272) (o := .cells #[.int .i64 a1_0, .bool a1_1, .int .i64 a1_2, .int .u64 a1_3, .int .u64 a1_4, .bool a1_5] 24 (0, 0)) (by (with_reducible repeat (first | refine blk_drewN ?_ _ | refine blk_drew ?_ | refine blk_alloc ?_ _)); exact BK272.out) hb); have n1_ := Aside0.mk (blk_below (g := gb273) (o := .cells #[.int .i64 a2_0, .bool a2_1, .int .i64 a2_2, .int .u64 a2_3, .int .u64 a2_4, .bool a2_5] 24 (0, 0)) (by (with_reducible repeat (first | refine blk_drewN ?_ _ | refine blk_drew ?_ | refine blk_alloc ?_ _)); exact BK273.out) hb); have n2_ := Aside0.mk (below_step (by repeat (first | (with_reducible first | exact HB.out | apply below_alloc | apply pw_below_drewN | apply below_drew1 | refine below_set ?_ GE272.out | refine below_set ?_ GE273.out) | exact HB.out)) hb); clear BK272; clear BK273; clear HB; have BK272 := n0_; have BK273 := n1_; have HB := n2_; clear n0_ n1_ n2_; (try clear hb); (try clear hb2); (try clear hk); (try clear hi)) | ((with_reducible refine gate_callee (f := 19) rfl ?_); refine goesL_ (some 74) rfl rfl Try.func19 (by kernel_rfl) rfl #[.int .i64 a0, .int .u64 t280] rfl (by (try simp only [List.map_toArray, List.map_cons, List.map_nil]); first | done | rfl | (simp only [List.length_drop, List.length_take]; rfl)) ?_; (with_reducible refine (vernierlaw07_rank.calls kj7 a0 t280 t284 _ A39.out).mono ?_); rintro e w52 ⟨rfl, hb⟩; refine ⟨_, rfl, ?_⟩; have n0_ := Aside0.mk (blk_below (g := gb272) (o := .cells #[.int .i64 a1_0, .bool a1_1, .int .i64 a1_2, .int .u64 a1_3, .int .u64 a1_4, .bool a1_5] 24 (0, 0)) (by (with_reducible repeat (first | refine blk_drewN ?_ _ | refine blk_drew ?_ | refine blk_alloc ?_ _)); exact BK272.out) hb); have n1_ := Aside0.mk (blk_below (g := gb273) (o := .cells #[.int .i64 a2_0, .bool a2_1, .int .i64 a2_2, .int .u64 a2_3, .int .u64 a2_4, .bool a2_5] 24 (0, 0)) (by (with_reducible repeat (first | refine blk_drewN ?_ _ | refine blk_drew ?_ | refine blk_alloc ?_ _)); exact BK273.out) hb); have n2_ := Aside0.mk (below_step (by repeat (first | (with_reducible first | exact HB.out | apply below_alloc | apply pw_below_drewN | apply below_drew1 | refine below_set ?_ GE272.out | refine below_set ?_ GE273.out) | exact HB.out)) hb); clear BK272; clear BK273; clear HB; have BK272 := n0_; have BK273 := n1_; have HB := n2_; clear n0_ n1_ n2_; (try clear hb); (try clear hb2); (try clear hk); (try clear hi)))
                  go_ret
                  exact ⟨by first | rfl | (simp [errW_none, errW_some] <;> rfl) | (simp [*, errW_none, errW_some] <;> rfl), by repeat (first | (with_reducible first | exact HB.out | apply below_alloc | apply pw_below_drewN | apply below_drew1 | refine below_set ?_ GE272.out | refine below_set ?_ GE273.out) | exact HB.out)⟩
                · rw [if_neg c42] at H
                  have c42b0 : decide (t282 < 0) = false := decide_eq_false c42
                  clear c42
                  obtain rfl := Option.some.inj H
                  have hnb53 := NB272_273.out
                  have hnc53 := NB273_272.out
                  have hcz54_0 : wc.cell? ⟨gb272, 0, none⟩ = some (.int .i64 a1_0) := (blk_cell BK272.out 0).trans rfl
                  have hcz54_1 : wc.cell? ⟨gb272, 1, none⟩ = some (.bool a1_1) := (blk_cell BK272.out 1).trans rfl
                  have hcz54_2 : wc.cell? ⟨gb272, 2, none⟩ = some (.int .i64 a1_2) := (blk_cell BK272.out 2).trans rfl
                  have hcz54_3 : wc.cell? ⟨gb272, 3, none⟩ = some (.int .u64 a1_3) := (blk_cell BK272.out 3).trans rfl
                  have hcz54_4 : wc.cell? ⟨gb272, 4, none⟩ = some (.int .u64 a1_4) := (blk_cell BK272.out 4).trans rfl
                  have hcz54_5 : wc.cell? ⟨gb272, 5, none⟩ = some (.bool a1_5) := (blk_cell BK272.out 5).trans rfl
                  have hfz54_0 := blk_frozen BK272.out 0
                  have hfz54_1 := blk_frozen BK272.out 1
                  have hfz54_2 := blk_frozen BK272.out 2
                  have hfz54_3 := blk_frozen BK272.out 3
                  have hfz54_4 := blk_frozen BK272.out 4
                  have hfz54_5 := blk_frozen BK272.out 5
                  go_wp2_with (first | ((with_reducible refine gate_callee (f := 14) rfl ?_); refine goesL_ (some 57) rfl rfl Try.func14 (by kernel_rfl) rfl #[.int .i64 a0, .agg #[.int .i64 a1_0, .bool a1_1, .int .i64 a1_2, .int .u64 a1_3, .int .u64 a1_4, .bool a1_5]] rfl (by (try simp only [List.map_toArray, List.map_cons, List.map_nil]); first | done | rfl | (simp only [List.length_drop, List.length_take]; rfl)) ?_; (with_reducible refine (round_Round.calls kj7 a0 a1_0 a1_1 a1_2 a1_3 a1_4 a1_5 t278 none _ A35.out).mono ?_); rintro e w55 ⟨rfl, hb⟩; refine ⟨_, rfl, ?_⟩; have n0_ := Aside0.mk (blk_below (g := gb272) (o := .cells #[.int .i64 a1_0, .bool a1_1, .int .i64 a1_2, .int .u64 a1_3, .int .u64 a1_4, .bool a1_5] 24 (0, 0)) (by (with_reducible repeat (first | refine blk_drewN ?_ _ | refine blk_drew ?_ | refine blk_alloc ?_ _)); exact BK272.out) hb); have n1_ := Aside0.mk (blk_below (g := gb273) (o := .cells #[.int .i64 a2_0, .bool a2_1, .int .i64 a2_2, .int .u64 a2_3, .int .u64 a2_4, .bool a2_5] 24 (0, 0)) (by (with_reducible repeat (first | refine blk_drewN ?_ _ | refine blk_drew ?_ | refine blk_alloc ?_ _)); exact BK273.out) hb); have n2_ := Aside0.mk (below_step (by repeat (first | (with_reducible first | exact HB.out | apply below_alloc | apply pw_below_drewN | apply below_drew1 | refine below_set ?_ GE272.out | refine below_set ?_ GE273.out) | exact HB.out)) hb); clear BK272; clear BK273; clear HB; have BK272 := n0_; have BK273 := n1_; have HB := n2_; clear n0_ n1_ n2_; (try clear hb); (try clear hb2); (try clear hk); (try clear hi); (try simp only [errW_none, errW_some]); have hcz56_0 : w55.cell? ⟨gb273, 0, none⟩ = some (.int .i64 a2_0) := (blk_cell BK273.out 0).trans rfl; have hcz56_1 : w55.cell? ⟨gb273, 1, none⟩ = some (.bool a2_1) := (blk_cell BK273.out 1).trans rfl; have hcz56_2 : w55.cell? ⟨gb273, 2, none⟩ = some (.int .i64 a2_2) := (blk_cell BK273.out 2).trans rfl; have hcz56_3 : w55.cell? ⟨gb273, 3, none⟩ = some (.int .u64 a2_3) := (blk_cell BK273.out 3).trans rfl; have hcz56_4 : w55.cell? ⟨gb273, 4, none⟩ = some (.int .u64 a2_4) := (blk_cell BK273.out 4).trans rfl; have hcz56_5 : w55.cell? ⟨gb273, 5, none⟩ = some (.bool a2_5) := (blk_cell BK273.out 5).trans rfl; have hfz56_0 := blk_frozen BK273.out 0; have hfz56_1 := blk_frozen BK273.out 1; have hfz56_2 := blk_frozen BK273.out 2; have hfz56_3 := blk_frozen BK273.out 3; have hfz56_4 := blk_frozen BK273.out 4; have hfz56_5 := blk_frozen BK273.out 5) | ((with_reducible refine gate_callee (f := 14) rfl ?_); refine goesL_ (some 63) rfl rfl Try.func14 (by kernel_rfl) rfl #[.int .i64 a0, .agg #[.int .i64 a2_0, .bool a2_1, .int .i64 a2_2, .int .u64 a2_3, .int .u64 a2_4, .bool a2_5]] rfl (by (try simp only [List.map_toArray, List.map_cons, List.map_nil]); first | done | rfl | (simp only [List.length_drop, List.length_take]; rfl)) ?_; (with_reducible refine (round_Round.calls kj7 a0 a2_0 a2_1 a2_2 a2_3 a2_4 a2_5 t280 none _ A36.out).mono ?_); rintro e w57 ⟨rfl, hb⟩; refine ⟨_, rfl, ?_⟩; have n0_ := Aside0.mk (blk_below (g := gb272) (o := .cells #[.int .i64 a1_0, .bool a1_1, .int .i64 a1_2, .int .u64 a1_3, .int .u64 a1_4, .bool a1_5] 24 (0, 0)) (by (with_reducible repeat (first | refine blk_drewN ?_ _ | refine blk_drew ?_ | refine blk_alloc ?_ _)); exact BK272.out) hb); have n1_ := Aside0.mk (blk_below (g := gb273) (o := .cells #[.int .i64 a2_0, .bool a2_1, .int .i64 a2_2, .int .u64 a2_3, .int .u64 a2_4, .bool a2_5] 24 (0, 0)) (by (with_reducible repeat (first | refine blk_drewN ?_ _ | refine blk_drew ?_ | refine blk_alloc ?_ _)); exact BK273.out) hb); have n2_ := Aside0.mk (below_step (by repeat (first | (with_reducible first | exact HB.out | apply below_alloc | apply pw_below_drewN | apply below_drew1 | refine below_set ?_ GE272.out | refine below_set ?_ GE273.out) | exact HB.out)) hb); clear BK272; clear BK273; clear HB; have BK272 := n0_; have BK273 := n1_; have HB := n2_; clear n0_ n1_ n2_; (try clear hb); (try clear hb2); (try clear hk); (try clear hi); (try simp only [errW_none, errW_some]); have hcz58_0 : w57.cell? ⟨gb272, 0, none⟩ = some (.int .i64 a1_0) := (blk_cell BK272.out 0).trans rfl; have hcz58_1 : w57.cell? ⟨gb272, 1, none⟩ = some (.bool a1_1) := (blk_cell BK272.out 1).trans rfl; have hcz58_2 : w57.cell? ⟨gb272, 2, none⟩ = some (.int .i64 a1_2) := (blk_cell BK272.out 2).trans rfl; have hcz58_3 : w57.cell? ⟨gb272, 3, none⟩ = some (.int .u64 a1_3) := (blk_cell BK272.out 3).trans rfl; have hcz58_4 : w57.cell? ⟨gb272, 4, none⟩ = some (.int .u64 a1_4) := (blk_cell BK272.out 4).trans rfl; have hcz58_5 : w57.cell? ⟨gb272, 5, none⟩ = some (.bool a1_5) := (blk_cell BK272.out 5).trans rfl; have hfz58_0 := blk_frozen BK272.out 0; have hfz58_1 := blk_frozen BK272.out 1; have hfz58_2 := blk_frozen BK272.out 2; have hfz58_3 := blk_frozen BK272.out 3; have hfz58_4 := blk_frozen BK272.out 4; have hfz58_5 := blk_frozen BK272.out 5; have hcz59_0 : w57.cell? ⟨gb273, 0, none⟩ = some (.int .i64 a2_0) := (blk_cell BK273.out 0).trans rfl; have hcz59_1 : w57.cell? ⟨gb273, 1, none⟩ = some (.bool a2_1) := (blk_cell BK273.out 1).trans rfl; have hcz59_2 : w57.cell? ⟨gb273, 2, none⟩ = some (.int .i64 a2_2) := (blk_cell BK273.out 2).trans rfl; have hcz59_3 : w57.cell? ⟨gb273, 3, none⟩ = some (.int .u64 a2_3) := (blk_cell BK273.out 3).trans rfl; have hcz59_4 : w57.cell? ⟨gb273, 4, none⟩ = some (.int .u64 a2_4) := (blk_cell BK273.out 4).trans rfl; have hcz59_5 : w57.cell? ⟨gb273, 5, none⟩ = some (.bool a2_5) := (blk_cell BK273.out 5).trans rfl; have hfz59_0 := blk_frozen BK273.out 0; have hfz59_1 := blk_frozen BK273.out 1; have hfz59_2 := blk_frozen BK273.out 2; have hfz59_3 := blk_frozen BK273.out 3; have hfz59_4 := blk_frozen BK273.out 4; have hfz59_5 := blk_frozen BK273.out 5) | ((with_reducible refine gate_callee (f := 18) rfl ?_); refine goesL_ (some 68) rfl rfl Try.func18 (by kernel_rfl) rfl #[.agg #[.int .i64 a1_0, .bool a1_1, .int .i64 a1_2, .int .u64 a1_3, .int .u64 a1_4, .bool a1_5], .agg #[.int .i64 a2_0, .bool a2_1, .int .i64 a2_2, .int .u64 a2_3, .int .u64 a2_4, .bool a2_5]] rfl (by (try simp only [List.map_toArray, List.map_cons, List.map_nil]); first | done | rfl | (simp only [List.length_drop, List.length_take]; rfl)) ?_; (with_reducible refine (vernierref07_Cmp.calls kj7 a1_0 a1_1 a1_2 a1_3 a1_4 a1_5 a2_0 a2_1 a2_2 a2_3 a2_4 a2_5 t282 _ A37.out).mono ?_); rintro e w60 ⟨rfl, hb⟩; refine ⟨_, rfl, ?_⟩; have n0_ := Aside0.mk (blk_below (g := gb272) (o := .cells #[.int .i64 a1_0, .bool a1_1, .int .i64 a1_2, .int .u64 a1_3, .int .u64 a1_4, .bool a1_5] 24 (0, 0)) (by (with_reducible repeat (first | refine blk_drewN ?_ _ | refine blk_drew ?_ | refine blk_alloc ?_ _)); exact BK272.out) hb); have n1_ := Aside0.mk (blk_below (g := gb273) (o := .cells #[.int .i64 a2_0, .bool a2_1, .int .i64 a2_2, .int .u64 a2_3, .int .u64 a2_4, .bool a2_5] 24 (0, 0)) (by (with_reducible repeat (first | refine blk_drewN ?_ _ | refine blk_drew ?_ | refine blk_alloc ?_ _)); exact BK273.out) hb); have n2_ := Aside0.mk (below_step (by repeat (first | (with_reducible first | exact HB.out | apply below_alloc | apply pw_below_drewN | apply below_drew1 | refine below_set ?_ GE272.out | refine below_set ?_ GE273.out) | exact HB.out)) hb); clear BK272; clear BK273; clear HB; have BK272 := n0_; have BK273 := n1_; have HB := n2_; clear n0_ n1_ n2_; (try clear hb); (try clear hb2); (try clear hk); (try clear hi)) | ((with_reducible refine gate_callee (f := 19) rfl ?_); refine goesL_ (some 71) rfl rfl Try.func19 (by kernel_rfl) rfl #[.int .i64 a0, .int .u64 t278] rfl (by (try simp only [List.map_toArray, List.map_cons, List.map_nil]); first | done | rfl | (simp only [List.length_drop, List.length_take]; rfl)) ?_; (with_reducible refine (vernierlaw07_rank.calls kj7 a0 t278 t283 _ A38.out).mono ?_); rintro e w61 ⟨rfl, hb⟩; refine ⟨_, rfl, ?_⟩; have n0_ := Aside0.mk (blk_below (g := gb272) (o := .cells #[.int .i64 a1_0, .bool a1_1, .int .i64 a1_2, .int .u64 a1_3, .int .u64 a1_4, .bool a1_5] 24 (0, 0)) (by (with_reducible repeat (first | refine blk_drewN ?_ _ | refine blk_drew ?_ | refine blk_alloc ?_ _)); exact BK272.out) hb); have n1_ := Aside0.mk (blk_below (g := gb273) (o := .cells #[.int .i64 a2_0, .bool a2_1, .int .i64 a2_2, .int .u64 a2_3, .int .u64 a2_4, .bool a2_5] 24 (0, 0)) (by (with_reducible repeat (first | refine blk_drewN ?_ _ | refine blk_drew ?_ | refine blk_alloc ?_ _)); exact BK273.out) hb); have n2_ := Aside0.mk (below_step (by repeat (first | (with_reducible first | exact HB.out | apply below_alloc | apply pw_below_drewN | apply below_drew1 | refine below_set ?_ GE272.out | refine below_set ?_ GE273.out) | exact HB.out)) hb); clear BK272; clear BK273; clear HB; have BK272 := n0_; have BK273 := n1_; have HB := n2_; clear n0_ n1_ n2_; (try clear hb); (try clear hb2); (try clear hk); (try clear hi)) | ((with_reducible refine gate_callee (f := 19) rfl ?_); refine goesL_ (some 74) rfl rfl Try.func19 (by kernel_rfl) rfl #[.int .i64 a0, .int .u64 t280] rfl (by (try simp only [List.map_toArray, List.map_cons, List.map_nil]); first | done | rfl | (simp only [List.length_drop, List.length_take]; rfl)) ?_; (with_reducible refine (vernierlaw07_rank.calls kj7 a0 t280 t284 _ A39.out).mono ?_); rintro e w62 ⟨rfl, hb⟩; refine ⟨_, rfl, ?_⟩; have n0_ := Aside0.mk (blk_below (g := gb272) (o := .cells #[.int .i64 a1_0, .bool a1_1, .int .i64 a1_2, .int .u64 a1_3, .int .u64 a1_4, .bool a1_5] 24 (0, 0)) (by (with_reducible repeat (first | refine blk_drewN ?_ _ | refine blk_drew ?_ | refine blk_alloc ?_ _)); exact BK272.out) hb); have n1_ := Aside0.mk (blk_below (g := gb273) (o := .cells #[.int .i64 a2_0, .bool a2_1, .int .i64 a2_2, .int .u64 a2_3, .int .u64 a2_4, .bool a2_5] 24 (0, 0)) (by (with_reducible repeat (first | refine blk_drewN ?_ _ | refine blk_drew ?_ | refine blk_alloc ?_ _)); exact BK273.out) hb); have n2_ := Aside0.mk (below_step (by repeat (first | (with_reducible first | exact HB.out | apply below_alloc | apply pw_below_drewN | apply below_drew1 | refine below_set ?_ GE272.out | refine below_set ?_ GE273.out) | exact HB.out)) hb); clear BK272; clear BK273; clear HB; have BK272 := n0_; have BK273 := n1_; have HB := n2_; clear n0_ n1_ n2_; (try clear hb); (try clear hb2); (try clear hk); (try clear hi)))
                  go_ret
                  exact ⟨by first | rfl | (simp [errW_none, errW_some] <;> rfl) | (simp [*, errW_none, errW_some] <;> rfl), by repeat (first | (with_reducible first | exact HB.out | apply below_alloc | apply pw_below_drewN | apply below_drew1 | refine below_set ?_ GE272.out | refine below_set ?_ GE273.out) | exact HB.out)⟩
              · rw [if_neg c41] at H
                have c41b0 : decide (0 < t282) = false := decide_eq_false c41
                clear c41
                by_cases c63 : t283 ≤ t284
                · rw [if_pos c63] at H
                  have c63b0 : decide (t283 ≤ t284) = true := decide_eq_true c63
                  clear c63
                  by_cases c64 : t282 < 0
                  · rw [if_pos c64] at H
                    have c64b0 : decide (t282 < 0) = true := decide_eq_true c64
                    clear c64
                    obtain rfl := Option.some.inj H
                    have hnb65 := NB272_273.out
                    have hnc65 := NB273_272.out
                    have hcz66_0 : wc.cell? ⟨gb272, 0, none⟩ = some (.int .i64 a1_0) := (blk_cell BK272.out 0).trans rfl
                    have hcz66_1 : wc.cell? ⟨gb272, 1, none⟩ = some (.bool a1_1) := (blk_cell BK272.out 1).trans rfl
                    have hcz66_2 : wc.cell? ⟨gb272, 2, none⟩ = some (.int .i64 a1_2) := (blk_cell BK272.out 2).trans rfl
                    have hcz66_3 : wc.cell? ⟨gb272, 3, none⟩ = some (.int .u64 a1_3) := (blk_cell BK272.out 3).trans rfl
                    have hcz66_4 : wc.cell? ⟨gb272, 4, none⟩ = some (.int .u64 a1_4) := (blk_cell BK272.out 4).trans rfl
                    have hcz66_5 : wc.cell? ⟨gb272, 5, none⟩ = some (.bool a1_5) := (blk_cell BK272.out 5).trans rfl
                    have hfz66_0 := blk_frozen BK272.out 0
                    have hfz66_1 := blk_frozen BK272.out 1
                    have hfz66_2 := blk_frozen BK272.out 2
                    have hfz66_3 := blk_frozen BK272.out 3
                    have hfz66_4 := blk_frozen BK272.out 4
                    have hfz66_5 := blk_frozen BK272.out 5
                    go_wp2_with (first | ((with_reducible refine gate_callee (f := 14) rfl ?_); refine goesL_ (some 57) rfl rfl Try.func14 (by kernel_rfl) rfl #[.int .i64 a0, .agg #[.int .i64 a1_0, .bool a1_1, .int .i64 a1_2, .int .u64 a1_3, .int .u64 a1_4, .bool a1_5]] rfl (by (try simp only [List.map_toArray, List.map_cons, List.map_nil]); first | done | rfl | (simp only [List.length_drop, List.length_take]; rfl)) ?_; (with_reducible refine (round_Round.calls kj7 a0 a1_0 a1_1 a1_2 a1_3 a1_4 a1_5 t278 none _ A35.out).mono ?_); rintro e w67 ⟨rfl, hb⟩; refine ⟨_, rfl, ?_⟩; have n0_ := Aside0.mk (blk_below (g := gb272) (o := .cells #[.int .i64 a1_0, .bool a1_1, .int .i64 a1_2, .int .u64 a1_3, .int .u64 a1_4, .bool a1_5] 24 (0, 0)) (by (with_reducible repeat (first | refine blk_drewN ?_ _ | refine blk_drew ?_ | refine blk_alloc ?_ _)); exact BK272.out) hb); have n1_ := Aside0.mk (blk_below (g := gb273) (o := .cells #[.int .i64 a2_0, .bool a2_1, .int .i64 a2_2, .int .u64 a2_3, .int .u64 a2_4, .bool a2_5] 24 (0, 0)) (by (with_reducible repeat (first | refine blk_drewN ?_ _ | refine blk_drew ?_ | refine blk_alloc ?_ _)); exact BK273.out) hb); have n2_ := Aside0.mk (below_step (by repeat (first | (with_reducible first | exact HB.out | apply below_alloc | apply pw_below_drewN | apply below_drew1 | refine below_set ?_ GE272.out | refine below_set ?_ GE273.out) | exact HB.out)) hb); clear BK272; clear BK273; clear HB; have BK272 := n0_; have BK273 := n1_; have HB := n2_; clear n0_ n1_ n2_; (try clear hb); (try clear hb2); (try clear hk); (try clear hi); (try simp only [errW_none, errW_some]); have hcz68_0 : w67.cell? ⟨gb273, 0, none⟩ = some (.int .i64 a2_0) := (blk_cell BK273.out 0).trans rfl; have hcz68_1 : w67.cell? ⟨gb273, 1, none⟩ = some (.bool a2_1) := (blk_cell BK273.out 1).trans rfl; have hcz68_2 : w67.cell? ⟨gb273, 2, none⟩ = some (.int .i64 a2_2) := (blk_cell BK273.out 2).trans rfl; have hcz68_3 : w67.cell? ⟨gb273, 3, none⟩ = some (.int .u64 a2_3) := (blk_cell BK273.out 3).trans rfl; have hcz68_4 : w67.cell? ⟨gb273, 4, none⟩ = some (.int .u64 a2_4) := (blk_cell BK273.out 4).trans rfl; have hcz68_5 : w67.cell? ⟨gb273, 5, none⟩ = some (.bool a2_5) := (blk_cell BK273.out 5).trans rfl; have hfz68_0 := blk_frozen BK273.out 0; have hfz68_1 := blk_frozen BK273.out 1; have hfz68_2 := blk_frozen BK273.out 2; have hfz68_3 := blk_frozen BK273.out 3; have hfz68_4 := blk_frozen BK273.out 4; have hfz68_5 := blk_frozen BK273.out 5) | ((with_reducible refine gate_callee (f := 14) rfl ?_); refine goesL_ (some 63) rfl rfl Try.func14 (by kernel_rfl) rfl #[.int .i64 a0, .agg #[.int .i64 a2_0, .bool a2_1, .int .i64 a2_2, .int .u64 a2_3, .int .u64 a2_4, .bool a2_5]] rfl (by (try simp only [List.map_toArray, List.map_cons, List.map_nil]); first | done | rfl | (simp only [List.length_drop, List.length_take]; rfl)) ?_; (with_reducible refine (round_Round.calls kj7 a0 a2_0 a2_1 a2_2 a2_3 a2_4 a2_5 t280 none _ A36.out).mono ?_); rintro e w69 ⟨rfl, hb⟩; refine ⟨_, rfl, ?_⟩; have n0_ := Aside0.mk (blk_below (g := gb272) (o := .cells #[.int .i64 a1_0, .bool a1_1, .int .i64 a1_2, .int .u64 a1_3, .int .u64 a1_4, .bool a1_5] 24 (0, 0)) (by (with_reducible repeat (first | refine blk_drewN ?_ _ | refine blk_drew ?_ | refine blk_alloc ?_ _)); exact BK272.out) hb); have n1_ := Aside0.mk (blk_below (g := gb273) (o := .cells #[.int .i64 a2_0, .bool a2_1, .int .i64 a2_2, .int .u64 a2_3, .int .u64 a2_4, .bool a2_5] 24 (0, 0)) (by (with_reducible repeat (first | refine blk_drewN ?_ _ | refine blk_drew ?_ | refine blk_alloc ?_ _)); exact BK273.out) hb); have n2_ := Aside0.mk (below_step (by repeat (first | (with_reducible first | exact HB.out | apply below_alloc | apply pw_below_drewN | apply below_drew1 | refine below_set ?_ GE272.out | refine below_set ?_ GE273.out) | exact HB.out)) hb); clear BK272; clear BK273; clear HB; have BK272 := n0_; have BK273 := n1_; have HB := n2_; clear n0_ n1_ n2_; (try clear hb); (try clear hb2); (try clear hk); (try clear hi); (try simp only [errW_none, errW_some]); have hcz70_0 : w69.cell? ⟨gb272, 0, none⟩ = some (.int .i64 a1_0) := (blk_cell BK272.out 0).trans rfl; have hcz70_1 : w69.cell? ⟨gb272, 1, none⟩ = some (.bool a1_1) := (blk_cell BK272.out 1).trans rfl; have hcz70_2 : w69.cell? ⟨gb272, 2, none⟩ = some (.int .i64 a1_2) := (blk_cell BK272.out 2).trans rfl; have hcz70_3 : w69.cell? ⟨gb272, 3, none⟩ = some (.int .u64 a1_3) := (blk_cell BK272.out 3).trans rfl; have hcz70_4 : w69.cell? ⟨gb272, 4, none⟩ = some (.int .u64 a1_4) := (blk_cell BK272.out 4).trans rfl; have hcz70_5 : w69.cell? ⟨gb272, 5, none⟩ = some (.bool a1_5) := (blk_cell BK272.out 5).trans rfl; have hfz70_0 := blk_frozen BK272.out 0; have hfz70_1 := blk_frozen BK272.out 1; have hfz70_2 := blk_frozen BK272.out 2; have hfz70_3 := blk_frozen BK272.out 3; have hfz70_4 := blk_frozen BK272.out 4; have hfz70_5 := blk_frozen BK272.out 5; have hcz71_0 : w69.cell? ⟨gb273, 0, none⟩ = some (.int .i64 a2_0) := (blk_cell BK273.out 0).trans rfl; have hcz71_1 : w69.cell? ⟨gb273, 1, none⟩ = some (.bool a2_1) := (blk_cell BK273.out 1).trans rfl; have hcz71_2 : w69.cell? ⟨gb273, 2, none⟩ = some (.int .i64 a2_2) := (blk_cell BK273.out 2).trans rfl; have hcz71_3 : w69.cell? ⟨gb273, 3, none⟩ = some (.int .u64 a2_3) := (blk_cell BK273.out 3).trans rfl; have hcz71_4 : w69.cell? ⟨gb273, 4, none⟩ = some (.int .u64 a2_4) := (blk_cell BK273.out 4).trans rfl; have hcz71_5 : w69.cell? ⟨gb273, 5, none⟩ = some (.bool a2_5) := (blk_cell BK273.out 5).trans rfl; have hfz71_0 := blk_frozen BK273.out 0; have hfz71_1 := blk_frozen BK273.out 1; have hfz71_2 := blk_frozen BK273.out 2; have hfz71_3 := blk_frozen BK273.out 3; have hfz71_4 := blk_frozen BK273.out 4; have hfz71_5 := blk_frozen BK273.out 5) | ((with_reducible refine gate_callee (f := 18) rfl ?_); refine goesL_ (some 68) rfl rfl Try.func18 (by kernel_rfl) rfl #[.agg #[.int .i64 a1_0, .bool a1_1, .int .i64 a1_2, .int .u64 a1_3, .int .u64 a1_4, .bool a1_5], .agg #[.int .i64 a2_0, .bool a2_1, .int .i64 a2_2, .int .u64 a2_3, .int .u64 a2_4, .bool a2_5]] rfl (by (try simp only [List.map_toArray, List.map_cons, List.map_nil]); first | done | rfl | (simp only [List.length_drop, List.length_take]; rfl)) ?_; (with_reducible refine (vernierref07_Cmp.calls kj7 a1_0 a1_1 a1_2 a1_3 a1_4 a1_5 a2_0 a2_1 a2_2 a2_3 a2_4 a2_5 t282 _ A37.out).mono ?_); rintro e w72 ⟨rfl, hb⟩; refine ⟨_, rfl, ?_⟩; have n0_ := Aside0.mk (blk_below (g := gb272) (o := .cells #[.int .i64 a1_0, .bool a1_1, .int .i64 a1_2, .int .u64 a1_3, .int .u64 a1_4, .bool a1_5] 24 (0, 0)) (by (with_reducible repeat (first | refine blk_drewN ?_ _ | refine blk_drew ?_ | refine blk_alloc ?_ _)); exact BK272.out) hb); have n1_ := Aside0.mk (blk_below (g := gb273) (o := .cells #[.int .i64 a2_0, .bool a2_1, .int .i64 a2_2, .int .u64 a2_3, .int .u64 a2_4, .bool a2_5] 24 (0, 0)) (by (with_reducible repeat (first | refine blk_drewN ?_ _ | refine blk_drew ?_ | refine blk_alloc ?_ _)); exact BK273.out) hb); have n2_ := Aside0.mk (below_step (by repeat (first | (with_reducible first | exact HB.out | apply below_alloc | apply pw_below_drewN | apply below_drew1 | refine below_set ?_ GE272.out | refine below_set ?_ GE273.out) | exact HB.out)) hb); clear BK272; clear BK273; clear HB; have BK272 := n0_; have BK273 := n1_; have HB := n2_; clear n0_ n1_ n2_; (try clear hb); (try clear hb2); (try clear hk); (try clear hi)) | ((with_reducible refine gate_callee (f := 19) rfl ?_); refine goesL_ (some 71) rfl rfl Try.func19 (by kernel_rfl) rfl #[.int .i64 a0, .int .u64 t278] rfl (by (try simp only [List.map_toArray, List.map_cons, List.map_nil]); first | done | rfl | (simp only [List.length_drop, List.length_take]; rfl)) ?_; (with_reducible refine (vernierlaw07_rank.calls kj7 a0 t278 t283 _ A38.out).mono ?_); rintro e w73 ⟨rfl, hb⟩; refine ⟨_, rfl, ?_⟩; have n0_ := Aside0.mk (blk_below (g := gb272) (o := .cells #[.int .i64 a1_0, .bool a1_1, .int .i64 a1_2, .int .u64 a1_3, .int .u64 a1_4, .bool a1_5] 24 (0, 0)) (by (with_reducible repeat (first | refine blk_drewN ?_ _ | refine blk_drew ?_ | refine blk_alloc ?_ _)); exact BK272.out) hb); have n1_ := Aside0.mk (blk_below (g := gb273) (o := .cells #[.int .i64 a2_0, .bool a2_1, .int .i64 a2_2, .int .u64 a2_3, .int .u64 a2_4, .bool a2_5] 24 (0, 0)) (by (with_reducible repeat (first | refine blk_drewN ?_ _ | refine blk_drew ?_ | refine blk_alloc ?_ _)); exact BK273.out) hb); have n2_ := Aside0.mk (below_step (by repeat (first | (with_reducible first | exact HB.out | apply below_alloc | apply pw_below_drewN | apply below_drew1 | refine below_set ?_ GE272.out | refine below_set ?_ GE273.out) | exact HB.out)) hb); clear BK272; clear BK273; clear HB; have BK272 := n0_; have BK273 := n1_; have HB := n2_; clear n0_ n1_ n2_; (try clear hb); (try clear hb2); (try clear hk); (try clear hi)) | ((with_reducible refine gate_callee (f := 19) rfl ?_); refine goesL_ (some 74) rfl rfl Try.func19 (by kernel_rfl) rfl #[.int .i64 a0, .int .u64 t280] rfl (by (try simp only [List.map_toArray, List.map_cons, List.map_nil]); first | done | rfl | (simp only [List.length_drop, List.length_take]; rfl)) ?_; (with_reducible refine (vernierlaw07_rank.calls kj7 a0 t280 t284 _ A39.out).mono ?_); rintro e w74 ⟨rfl, hb⟩; refine ⟨_, rfl, ?_⟩; have n0_ := Aside0.mk (blk_below (g := gb272) (o := .cells #[.int .i64 a1_0, .bool a1_1, .int .i64 a1_2, .int .u64 a1_3, .int .u64 a1_4, .bool a1_5] 24 (0, 0)) (by (with_reducible repeat (first | refine blk_drewN ?_ _ | refine blk_drew ?_ | refine blk_alloc ?_ _)); exact BK272.out) hb); have n1_ := Aside0.mk (blk_below (g := gb273) (o := .cells #[.int .i64 a2_0, .bool a2_1, .int .i64 a2_2, .int .u64 a2_3, .int .u64 a2_4, .bool a2_5] 24 (0, 0)) (by (with_reducible repeat (first | refine blk_drewN ?_ _ | refine blk_drew ?_ | refine blk_alloc ?_ _)); exact BK273.out) hb); have n2_ := Aside0.mk (below_step (by repeat (first | (with_reducible first | exact HB.out | apply below_alloc | apply pw_below_drewN | apply below_drew1 | refine below_set ?_ GE272.out | refine below_set ?_ GE273.out) | exact HB.out)) hb); clear BK272; clear BK273; clear HB; have BK272 := n0_; have BK273 := n1_; have HB := n2_; clear n0_ n1_ n2_; (try clear hb); (try clear hb2); (try clear hk); (try clear hi)))
                    go_ret
                    exact ⟨by first | rfl | (simp [errW_none, errW_some] <;> rfl) | (simp [*, errW_none, errW_some] <;> rfl), by repeat (first | (with_reducible first | exact HB.out | apply below_alloc | apply pw_below_drewN | apply below_drew1 | refine below_set ?_ GE272.out | refine below_set ?_ GE273.out) | exact HB.out)⟩
                  · rw [if_neg c64] at H
                    have c64b0 : decide (t282 < 0) = false := decide_eq_false c64
                    clear c64
                    obtain rfl := Option.some.inj H
                    have hnb75 := NB272_273.out
                    have hnc75 := NB273_272.out
                    have hcz76_0 : wc.cell? ⟨gb272, 0, none⟩ = some (.int .i64 a1_0) := (blk_cell BK272.out 0).trans rfl
                    have hcz76_1 : wc.cell? ⟨gb272, 1, none⟩ = some (.bool a1_1) := (blk_cell BK272.out 1).trans rfl
                    have hcz76_2 : wc.cell? ⟨gb272, 2, none⟩ = some (.int .i64 a1_2) := (blk_cell BK272.out 2).trans rfl
                    have hcz76_3 : wc.cell? ⟨gb272, 3, none⟩ = some (.int .u64 a1_3) := (blk_cell BK272.out 3).trans rfl
                    have hcz76_4 : wc.cell? ⟨gb272, 4, none⟩ = some (.int .u64 a1_4) := (blk_cell BK272.out 4).trans rfl
                    have hcz76_5 : wc.cell? ⟨gb272, 5, none⟩ = some (.bool a1_5) := (blk_cell BK272.out 5).trans rfl
                    have hfz76_0 := blk_frozen BK272.out 0
                    have hfz76_1 := blk_frozen BK272.out 1
                    have hfz76_2 := blk_frozen BK272.out 2
                    have hfz76_3 := blk_frozen BK272.out 3
                    have hfz76_4 := blk_frozen BK272.out 4
                    have hfz76_5 := blk_frozen BK272.out 5
                    go_wp2_with (first | ((with_reducible refine gate_callee (f := 14) rfl ?_); refine goesL_ (some 57) rfl rfl Try.func14 (by kernel_rfl) rfl #[.int .i64 a0, .agg #[.int .i64 a1_0, .bool a1_1, .int .i64 a1_2, .int .u64 a1_3, .int .u64 a1_4, .bool a1_5]] rfl (by (try simp only [List.map_toArray, List.map_cons, List.map_nil]); first | done | rfl | (simp only [List.length_drop, List.length_take]; rfl)) ?_; (with_reducible refine (round_Round.calls kj7 a0 a1_0 a1_1 a1_2 a1_3 a1_4 a1_5 t278 none _ A35.out).mono ?_); rintro e w77 ⟨rfl, hb⟩; refine ⟨_, rfl, ?_⟩; have n0_ := Aside0.mk (blk_below (g := gb272) (o := .cells #[.int .i64 a1_0, .bool a1_1, .int .i64 a1_2, .int .u64 a1_3, .int .u64 a1_4, .bool a1_5] 24 (0, 0)) (by (with_reducible repeat (first | refine blk_drewN ?_ _ | refine blk_drew ?_ | refine blk_alloc ?_ _)); exact BK272.out) hb); have n1_ := Aside0.mk (blk_below (g := gb273) (o := .cells #[.int .i64 a2_0, .bool a2_1, .int .i64 a2_2, .int .u64 a2_3, .int .u64 a2_4, .bool a2_5] 24 (0, 0)) (by (with_reducible repeat (first | refine blk_drewN ?_ _ | refine blk_drew ?_ | refine blk_alloc ?_ _)); exact BK273.out) hb); have n2_ := Aside0.mk (below_step (by repeat (first | (with_reducible first | exact HB.out | apply below_alloc | apply pw_below_drewN | apply below_drew1 | refine below_set ?_ GE272.out | refine below_set ?_ GE273.out) | exact HB.out)) hb); clear BK272; clear BK273; clear HB; have BK272 := n0_; have BK273 := n1_; have HB := n2_; clear n0_ n1_ n2_; (try clear hb); (try clear hb2); (try clear hk); (try clear hi); (try simp only [errW_none, errW_some]); have hcz78_0 : w77.cell? ⟨gb273, 0, none⟩ = some (.int .i64 a2_0) := (blk_cell BK273.out 0).trans rfl; have hcz78_1 : w77.cell? ⟨gb273, 1, none⟩ = some (.bool a2_1) := (blk_cell BK273.out 1).trans rfl; have hcz78_2 : w77.cell? ⟨gb273, 2, none⟩ = some (.int .i64 a2_2) := (blk_cell BK273.out 2).trans rfl; have hcz78_3 : w77.cell? ⟨gb273, 3, none⟩ = some (.int .u64 a2_3) := (blk_cell BK273.out 3).trans rfl; have hcz78_4 : w77.cell? ⟨gb273, 4, none⟩ = some (.int .u64 a2_4) := (blk_cell BK273.out 4).trans rfl; have hcz78_5 : w77.cell? ⟨gb273, 5, none⟩ = some (.bool a2_5) := (blk_cell BK273.out 5).trans rfl; have hfz78_0 := blk_frozen BK273.out 0; have hfz78_1 := blk_frozen BK273.out 1; have hfz78_2 := blk_frozen BK273.out 2; have hfz78_3 := blk_frozen BK273.out 3; have hfz78_4 := blk_frozen BK273.out 4; have hfz78_5 := blk_frozen BK273.out 5) | ((with_reducible refine gate_callee (f := 14) rfl ?_); refine goesL_ (some 63) rfl rfl Try.func14 (by kernel_rfl) rfl #[.int .i64 a0, .agg #[.int .i64 a2_0, .bool a2_1, .int .i64 a2_2, .int .u64 a2_3, .int .u64 a2_4, .bool a2_5]] rfl (by (try simp only [List.map_toArray, List.map_cons, List.map_nil]); first | done | rfl | (simp only [List.length_drop, List.length_take]; rfl)) ?_; (with_reducible refine (round_Round.calls kj7 a0 a2_0 a2_1 a2_2 a2_3 a2_4 a2_5 t280 none _ A36.out).mono ?_); rintro e w79 ⟨rfl, hb⟩; refine ⟨_, rfl, ?_⟩; have n0_ := Aside0.mk (blk_below (g := gb272) (o := .cells #[.int .i64 a1_0, .bool a1_1, .int .i64 a1_2, .int .u64 a1_3, .int .u64 a1_4, .bool a1_5] 24 (0, 0)) (by (with_reducible repeat (first | refine blk_drewN ?_ _ | refine blk_drew ?_ | refine blk_alloc ?_ _)); exact BK272.out) hb); have n1_ := Aside0.mk (blk_below (g := gb273) (o := .cells #[.int .i64 a2_0, .bool a2_1, .int .i64 a2_2, .int .u64 a2_3, .int .u64 a2_4, .bool a2_5] 24 (0, 0)) (by (with_reducible repeat (first | refine blk_drewN ?_ _ | refine blk_drew ?_ | refine blk_alloc ?_ _)); exact BK273.out) hb); have n2_ := Aside0.mk (below_step (by repeat (first | (with_reducible first | exact HB.out | apply below_alloc | apply pw_below_drewN | apply below_drew1 | refine below_set ?_ GE272.out | refine below_set ?_ GE273.out) | exact HB.out)) hb); clear BK272; clear BK273; clear HB; have BK272 := n0_; have BK273 := n1_; have HB := n2_; clear n0_ n1_ n2_; (try clear hb); (try clear hb2); (try clear hk); (try clear hi); (try simp only [errW_none, errW_some]); have hcz80_0 : w79.cell? ⟨gb272, 0, none⟩ = some (.int .i64 a1_0) := (blk_cell BK272.out 0).trans rfl; have hcz80_1 : w79.cell? ⟨gb272, 1, none⟩ = some (.bool a1_1) := (blk_cell BK272.out 1).trans rfl; have hcz80_2 : w79.cell? ⟨gb272, 2, none⟩ = some (.int .i64 a1_2) := (blk_cell BK272.out 2).trans rfl; have hcz80_3 : w79.cell? ⟨gb272, 3, none⟩ = some (.int .u64 a1_3) := (blk_cell BK272.out 3).trans rfl; have hcz80_4 : w79.cell? ⟨gb272, 4, none⟩ = some (.int .u64 a1_4) := (blk_cell BK272.out 4).trans rfl; have hcz80_5 : w79.cell? ⟨gb272, 5, none⟩ = some (.bool a1_5) := (blk_cell BK272.out 5).trans rfl; have hfz80_0 := blk_frozen BK272.out 0; have hfz80_1 := blk_frozen BK272.out 1; have hfz80_2 := blk_frozen BK272.out 2; have hfz80_3 := blk_frozen BK272.out 3; have hfz80_4 := blk_frozen BK272.out 4; have hfz80_5 := blk_frozen BK272.out 5; have hcz81_0 : w79.cell? ⟨gb273, 0, none⟩ = some (.int .i64 a2_0) := (blk_cell BK273.out 0).trans rfl; have hcz81_1 : w79.cell? ⟨gb273, 1, none⟩ = some (.bool a2_1) := (blk_cell BK273.out 1).trans rfl; have hcz81_2 : w79.cell? ⟨gb273, 2, none⟩ = some (.int .i64 a2_2) := (blk_cell BK273.out 2).trans rfl; have hcz81_3 : w79.cell? ⟨gb273, 3, none⟩ = some (.int .u64 a2_3) := (blk_cell BK273.out 3).trans rfl; have hcz81_4 : w79.cell? ⟨gb273, 4, none⟩ = some (.int .u64 a2_4) := (blk_cell BK273.out 4).trans rfl; have hcz81_5 : w79.cell? ⟨gb273, 5, none⟩ = some (.bool a2_5) := (blk_cell BK273.out 5).trans rfl; have hfz81_0 := blk_frozen BK273.out 0; have hfz81_1 := blk_frozen BK273.out 1; have hfz81_2 := blk_frozen BK273.out 2; have hfz81_3 := blk_frozen BK273.out 3; have hfz81_4 := blk_frozen BK273.out 4; have hfz81_5 := blk_frozen BK273.out 5) | ((with_reducible refine gate_callee (f := 18) rfl ?_); refine goesL_ (some 68) rfl rfl Try.func18 (by kernel_rfl) rfl #[.agg #[.int .i64 a1_0, .bool a1_1, .int .i64 a1_2, .int .u64 a1_3, .int .u64 a1_4, .bool a1_5], .agg #[.int .i64 a2_0, .bool a2_1, .int .i64 a2_2, .int .u64 a2_3, .int .u64 a2_4, .bool a2_5]] rfl (by (try simp only [List.map_toArray, List.map_cons, List.map_nil]); first | done | rfl | (simp only [List.length_drop, List.length_take]; rfl)) ?_; (with_reducible refine (vernierref07_Cmp.calls kj7 a1_0 a1_1 a1_2 a1_3 a1_4 a1_5 a2_0 a2_1 a2_2 a2_3 a2_4 a2_5 t282 _ A37.out).mono ?_); rintro e w82 ⟨rfl, hb⟩; refine ⟨_, rfl, ?_⟩; have n0_ := Aside0.mk (blk_below (g := gb272) (o := .cells #[.int .i64 a1_0, .bool a1_1, .int .i64 a1_2, .int .u64 a1_3, .int .u64 a1_4, .bool a1_5] 24 (0, 0)) (by (with_reducible repeat (first | refine blk_drewN ?_ _ | refine blk_drew ?_ | refine blk_alloc ?_ _)); exact BK272.out) hb); have n1_ := Aside0.mk (blk_below (g := gb273) (o := .cells #[.int .i64 a2_0, .bool a2_1, .int .i64 a2_2, .int .u64 a2_3, .int .u64 a2_4, .bool a2_5] 24 (0, 0)) (by (with_reducible repeat (first | refine blk_drewN ?_ _ | refine blk_drew ?_ | refine blk_alloc ?_ _)); exact BK273.out) hb); have n2_ := Aside0.mk (below_step (by repeat (first | (with_reducible first | exact HB.out | apply below_alloc | apply pw_below_drewN | apply below_drew1 | refine below_set ?_ GE272.out | refine below_set ?_ GE273.out) | exact HB.out)) hb); clear BK272; clear BK273; clear HB; have BK272 := n0_; have BK273 := n1_; have HB := n2_; clear n0_ n1_ n2_; (try clear hb); (try clear hb2); (try clear hk); (try clear hi)) | ((with_reducible refine gate_callee (f := 19) rfl ?_); refine goesL_ (some 71) rfl rfl Try.func19 (by kernel_rfl) rfl #[.int .i64 a0, .int .u64 t278] rfl (by (try simp only [List.map_toArray, List.map_cons, List.map_nil]); first | done | rfl | (simp only [List.length_drop, List.length_take]; rfl)) ?_; (with_reducible refine (vernierlaw07_rank.calls kj7 a0 t278 t283 _ A38.out).mono ?_); rintro e w83 ⟨rfl, hb⟩; refine ⟨_, rfl, ?_⟩; have n0_ := Aside0.mk (blk_below (g := gb272) (o := .cells #[.int .i64 a1_0, .bool a1_1, .int .i64 a1_2, .int .u64 a1_3, .int .u64 a1_4, .bool a1_5] 24 (0, 0)) (by (with_reducible repeat (first | refine blk_drewN ?_ _ | refine blk_drew ?_ | refine blk_alloc ?_ _)); exact BK272.out) hb); have n1_ := Aside0.mk (blk_below (g := gb273) (o := .cells #[.int .i64 a2_0, .bool a2_1, .int .i64 a2_2, .int .u64 a2_3, .int .u64 a2_4, .bool a2_5] 24 (0, 0)) (by (with_reducible repeat (first | refine blk_drewN ?_ _ | refine blk_drew ?_ | refine blk_alloc ?_ _)); exact BK273.out) hb); have n2_ := Aside0.mk (below_step (by repeat (first | (with_reducible first | exact HB.out | apply below_alloc | apply pw_below_drewN | apply below_drew1 | refine below_set ?_ GE272.out | refine below_set ?_ GE273.out) | exact HB.out)) hb); clear BK272; clear BK273; clear HB; have BK272 := n0_; have BK273 := n1_; have HB := n2_; clear n0_ n1_ n2_; (try clear hb); (try clear hb2); (try clear hk); (try clear hi)) | ((with_reducible refine gate_callee (f := 19) rfl ?_); refine goesL_ (some 74) rfl rfl Try.func19 (by kernel_rfl) rfl #[.int .i64 a0, .int .u64 t280] rfl (by (try simp only [List.map_toArray, List.map_cons, List.map_nil]); first | done | rfl | (simp only [List.length_drop, List.length_take]; rfl)) ?_; (with_reducible refine (vernierlaw07_rank.calls kj7 a0 t280 t284 _ A39.out).mono ?_); rintro e w84 ⟨rfl, hb⟩; refine ⟨_, rfl, ?_⟩; have n0_ := Aside0.mk (blk_below (g := gb272) (o := .cells #[.int .i64 a1_0, .bool a1_1, .int .i64 a1_2, .int .u64 a1_3, .int .u64 a1_4, .bool a1_5] 24 (0, 0)) (by (with_reducible repeat (first | refine blk_drewN ?_ _ | refine blk_drew ?_ | refine blk_alloc ?_ _)); exact BK272.out) hb); have n1_ := Aside0.mk (blk_below (g := gb273) (o := .cells #[.int .i64 a2_0, .bool a2_1, .int .i64 a2_2, .int .u64 a2_3, .int .u64 a2_4, .bool a2_5] 24 (0, 0)) (by (with_reducible repeat (first | refine blk_drewN ?_ _ | refine blk_drew ?_ | refine blk_alloc ?_ _)); exact BK273.out) hb); have n2_ := Aside0.mk (below_step (by repeat (first | (with_reducible first | exact HB.out | apply below_alloc | apply pw_below_drewN | apply below_drew1 | refine below_set ?_ GE272.out | refine below_set ?_ GE273.out) | exact HB.out)) hb); clear BK272; clear BK273; clear HB; have BK272 := n0_; have BK273 := n1_; have HB := n2_; clear n0_ n1_ n2_; (try clear hb); (try clear hb2); (try clear hk); (try clear hi)))
                    go_ret
                    exact ⟨by first | rfl | (simp [errW_none, errW_some] <;> rfl) | (simp [*, errW_none, errW_some] <;> rfl), by repeat (first | (with_reducible first | exact HB.out | apply below_alloc | apply pw_below_drewN | apply below_drew1 | refine below_set ?_ GE272.out | refine below_set ?_ GE273.out) | exact HB.out)⟩
                · rw [if_neg c63] at H
                  have c63b0 : decide (t283 ≤ t284) = false := decide_eq_false c63
                  clear c63
                  obtain rfl := Option.some.inj H
                  have hnb85 := NB272_273.out
                  have hnc85 := NB273_272.out
                  have hcz86_0 : wc.cell? ⟨gb272, 0, none⟩ = some (.int .i64 a1_0) := (blk_cell BK272.out 0).trans rfl
                  have hcz86_1 : wc.cell? ⟨gb272, 1, none⟩ = some (.bool a1_1) := (blk_cell BK272.out 1).trans rfl
                  have hcz86_2 : wc.cell? ⟨gb272, 2, none⟩ = some (.int .i64 a1_2) := (blk_cell BK272.out 2).trans rfl
                  have hcz86_3 : wc.cell? ⟨gb272, 3, none⟩ = some (.int .u64 a1_3) := (blk_cell BK272.out 3).trans rfl
                  have hcz86_4 : wc.cell? ⟨gb272, 4, none⟩ = some (.int .u64 a1_4) := (blk_cell BK272.out 4).trans rfl
                  have hcz86_5 : wc.cell? ⟨gb272, 5, none⟩ = some (.bool a1_5) := (blk_cell BK272.out 5).trans rfl
                  have hfz86_0 := blk_frozen BK272.out 0
                  have hfz86_1 := blk_frozen BK272.out 1
                  have hfz86_2 := blk_frozen BK272.out 2
                  have hfz86_3 := blk_frozen BK272.out 3
                  have hfz86_4 := blk_frozen BK272.out 4
                  have hfz86_5 := blk_frozen BK272.out 5
                  go_wp2_with (first | ((with_reducible refine gate_callee (f := 14) rfl ?_); refine goesL_ (some 57) rfl rfl Try.func14 (by kernel_rfl) rfl #[.int .i64 a0, .agg #[.int .i64 a1_0, .bool a1_1, .int .i64 a1_2, .int .u64 a1_3, .int .u64 a1_4, .bool a1_5]] rfl (by (try simp only [List.map_toArray, List.map_cons, List.map_nil]); first | done | rfl | (simp only [List.length_drop, List.length_take]; rfl)) ?_; (with_reducible refine (round_Round.calls kj7 a0 a1_0 a1_1 a1_2 a1_3 a1_4 a1_5 t278 none _ A35.out).mono ?_); rintro e w87 ⟨rfl, hb⟩; refine ⟨_, rfl, ?_⟩; have n0_ := Aside0.mk (blk_below (g := gb272) (o := .cells #[.int .i64 a1_0, .bool a1_1, .int .i64 a1_2, .int .u64 a1_3, .int .u64 a1_4, .bool a1_5] 24 (0, 0)) (by (with_reducible repeat (first | refine blk_drewN ?_ _ | refine blk_drew ?_ | refine blk_alloc ?_ _)); exact BK272.out) hb); have n1_ := Aside0.mk (blk_below (g := gb273) (o := .cells #[.int .i64 a2_0, .bool a2_1, .int .i64 a2_2, .int .u64 a2_3, .int .u64 a2_4, .bool a2_5] 24 (0, 0)) (by (with_reducible repeat (first | refine blk_drewN ?_ _ | refine blk_drew ?_ | refine blk_alloc ?_ _)); exact BK273.out) hb); have n2_ := Aside0.mk (below_step (by repeat (first | (with_reducible first | exact HB.out | apply below_alloc | apply pw_below_drewN | apply below_drew1 | refine below_set ?_ GE272.out | refine below_set ?_ GE273.out) | exact HB.out)) hb); clear BK272; clear BK273; clear HB; have BK272 := n0_; have BK273 := n1_; have HB := n2_; clear n0_ n1_ n2_; (try clear hb); (try clear hb2); (try clear hk); (try clear hi); (try simp only [errW_none, errW_some]); have hcz88_0 : w87.cell? ⟨gb273, 0, none⟩ = some (.int .i64 a2_0) := (blk_cell BK273.out 0).trans rfl; have hcz88_1 : w87.cell? ⟨gb273, 1, none⟩ = some (.bool a2_1) := (blk_cell BK273.out 1).trans rfl; have hcz88_2 : w87.cell? ⟨gb273, 2, none⟩ = some (.int .i64 a2_2) := (blk_cell BK273.out 2).trans rfl; have hcz88_3 : w87.cell? ⟨gb273, 3, none⟩ = some (.int .u64 a2_3) := (blk_cell BK273.out 3).trans rfl; have hcz88_4 : w87.cell? ⟨gb273, 4, none⟩ = some (.int .u64 a2_4) := (blk_cell BK273.out 4).trans rfl; have hcz88_5 : w87.cell? ⟨gb273, 5, none⟩ = some (.bool a2_5) := (blk_cell BK273.out 5).trans rfl; have hfz88_0 := blk_frozen BK273.out 0; have hfz88_1 := blk_frozen BK273.out 1; have hfz88_2 := blk_frozen BK273.out 2; have hfz88_3 := blk_frozen BK273.out 3; have hfz88_4 := blk_frozen BK273.out 4; have hfz88_5 := blk_frozen BK273.out 5) | ((with_reducible refine gate_callee (f := 14) rfl ?_); refine goesL_ (some 63) rfl rfl Try.func14 (by kernel_rfl) rfl #[.int .i64 a0, .agg #[.int .i64 a2_0, .bool a2_1, .int .i64 a2_2, .int .u64 a2_3, .int .u64 a2_4, .bool a2_5]] rfl (by (try simp only [List.map_toArray, List.map_cons, List.map_nil]); first | done | rfl | (simp only [List.length_drop, List.length_take]; rfl)) ?_; (with_reducible refine (round_Round.calls kj7 a0 a2_0 a2_1 a2_2 a2_3 a2_4 a2_5 t280 none _ A36.out).mono ?_); rintro e w89 ⟨rfl, hb⟩; refine ⟨_, rfl, ?_⟩; have n0_ := Aside0.mk (blk_below (g := gb272) (o := .cells #[.int .i64 a1_0, .bool a1_1, .int .i64 a1_2, .int .u64 a1_3, .int .u64 a1_4, .bool a1_5] 24 (0, 0)) (by (with_reducible repeat (first | refine blk_drewN ?_ _ | refine blk_drew ?_ | refine blk_alloc ?_ _)); exact BK272.out) hb); have n1_ := Aside0.mk (blk_below (g := gb273) (o := .cells #[.int .i64 a2_0, .bool a2_1, .int .i64 a2_2, .int .u64 a2_3, .int .u64 a2_4, .bool a2_5] 24 (0, 0)) (by (with_reducible repeat (first | refine blk_drewN ?_ _ | refine blk_drew ?_ | refine blk_alloc ?_ _)); exact BK273.out) hb); have n2_ := Aside0.mk (below_step (by repeat (first | (with_reducible first | exact HB.out | apply below_alloc | apply pw_below_drewN | apply below_drew1 | refine below_set ?_ GE272.out | refine below_set ?_ GE273.out) | exact HB.out)) hb); clear BK272; clear BK273; clear HB; have BK272 := n0_; have BK273 := n1_; have HB := n2_; clear n0_ n1_ n2_; (try clear hb); (try clear hb2); (try clear hk); (try clear hi); (try simp only [errW_none, errW_some]); have hcz90_0 : w89.cell? ⟨gb272, 0, none⟩ = some (.int .i64 a1_0) := (blk_cell BK272.out 0).trans rfl; have hcz90_1 : w89.cell? ⟨gb272, 1, none⟩ = some (.bool a1_1) := (blk_cell BK272.out 1).trans rfl; have hcz90_2 : w89.cell? ⟨gb272, 2, none⟩ = some (.int .i64 a1_2) := (blk_cell BK272.out 2).trans rfl; have hcz90_3 : w89.cell? ⟨gb272, 3, none⟩ = some (.int .u64 a1_3) := (blk_cell BK272.out 3).trans rfl; have hcz90_4 : w89.cell? ⟨gb272, 4, none⟩ = some (.int .u64 a1_4) := (blk_cell BK272.out 4).trans rfl; have hcz90_5 : w89.cell? ⟨gb272, 5, none⟩ = some (.bool a1_5) := (blk_cell BK272.out 5).trans rfl; have hfz90_0 := blk_frozen BK272.out 0; have hfz90_1 := blk_frozen BK272.out 1; have hfz90_2 := blk_frozen BK272.out 2; have hfz90_3 := blk_frozen BK272.out 3; have hfz90_4 := blk_frozen BK272.out 4; have hfz90_5 := blk_frozen BK272.out 5; have hcz91_0 : w89.cell? ⟨gb273, 0, none⟩ = some (.int .i64 a2_0) := (blk_cell BK273.out 0).trans rfl; have hcz91_1 : w89.cell? ⟨gb273, 1, none⟩ = some (.bool a2_1) := (blk_cell BK273.out 1).trans rfl; have hcz91_2 : w89.cell? ⟨gb273, 2, none⟩ = some (.int .i64 a2_2) := (blk_cell BK273.out 2).trans rfl; have hcz91_3 : w89.cell? ⟨gb273, 3, none⟩ = some (.int .u64 a2_3) := (blk_cell BK273.out 3).trans rfl; have hcz91_4 : w89.cell? ⟨gb273, 4, none⟩ = some (.int .u64 a2_4) := (blk_cell BK273.out 4).trans rfl; have hcz91_5 : w89.cell? ⟨gb273, 5, none⟩ = some (.bool a2_5) := (blk_cell BK273.out 5).trans rfl; have hfz91_0 := blk_frozen BK273.out 0; have hfz91_1 := blk_frozen BK273.out 1; have hfz91_2 := blk_frozen BK273.out 2; have hfz91_3 := blk_frozen BK273.out 3; have hfz91_4 := blk_frozen BK273.out 4; have hfz91_5 := blk_frozen BK273.out 5) | ((with_reducible refine gate_callee (f := 18) rfl ?_); refine goesL_ (some 68) rfl rfl Try.func18 (by kernel_rfl) rfl #[.agg #[.int .i64 a1_0, .bool a1_1, .int .i64 a1_2, .int .u64 a1_3, .int .u64 a1_4, .bool a1_5], .agg #[.int .i64 a2_0, .bool a2_1, .int .i64 a2_2, .int .u64 a2_3, .int .u64 a2_4, .bool a2_5]] rfl (by (try simp only [List.map_toArray, List.map_cons, List.map_nil]); first | done | rfl | (simp only [List.length_drop, List.length_take]; rfl)) ?_; (with_reducible refine (vernierref07_Cmp.calls kj7 a1_0 a1_1 a1_2 a1_3 a1_4 a1_5 a2_0 a2_1 a2_2 a2_3 a2_4 a2_5 t282 _ A37.out).mono ?_); rintro e w92 ⟨rfl, hb⟩; refine ⟨_, rfl, ?_⟩; have n0_ := Aside0.mk (blk_below (g := gb272) (o := .cells #[.int .i64 a1_0, .bool a1_1, .int .i64 a1_2, .int .u64 a1_3, .int .u64 a1_4, .bool a1_5] 24 (0, 0)) (by (with_reducible repeat (first | refine blk_drewN ?_ _ | refine blk_drew ?_ | refine blk_alloc ?_ _)); exact BK272.out) hb); have n1_ := Aside0.mk (blk_below (g := gb273) (o := .cells #[.int .i64 a2_0, .bool a2_1, .int .i64 a2_2, .int .u64 a2_3, .int .u64 a2_4, .bool a2_5] 24 (0, 0)) (by (with_reducible repeat (first | refine blk_drewN ?_ _ | refine blk_drew ?_ | refine blk_alloc ?_ _)); exact BK273.out) hb); have n2_ := Aside0.mk (below_step (by repeat (first | (with_reducible first | exact HB.out | apply below_alloc | apply pw_below_drewN | apply below_drew1 | refine below_set ?_ GE272.out | refine below_set ?_ GE273.out) | exact HB.out)) hb); clear BK272; clear BK273; clear HB; have BK272 := n0_; have BK273 := n1_; have HB := n2_; clear n0_ n1_ n2_; (try clear hb); (try clear hb2); (try clear hk); (try clear hi)) | ((with_reducible refine gate_callee (f := 19) rfl ?_); refine goesL_ (some 71) rfl rfl Try.func19 (by kernel_rfl) rfl #[.int .i64 a0, .int .u64 t278] rfl (by (try simp only [List.map_toArray, List.map_cons, List.map_nil]); first | done | rfl | (simp only [List.length_drop, List.length_take]; rfl)) ?_; (with_reducible refine (vernierlaw07_rank.calls kj7 a0 t278 t283 _ A38.out).mono ?_); rintro e w93 ⟨rfl, hb⟩; refine ⟨_, rfl, ?_⟩; have n0_ := Aside0.mk (blk_below (g := gb272) (o := .cells #[.int .i64 a1_0, .bool a1_1, .int .i64 a1_2, .int .u64 a1_3, .int .u64 a1_4, .bool a1_5] 24 (0, 0)) (by (with_reducible repeat (first | refine blk_drewN ?_ _ | refine blk_drew ?_ | refine blk_alloc ?_ _)); exact BK272.out) hb); have n1_ := Aside0.mk (blk_below (g := gb273) (o := .cells #[.int .i64 a2_0, .bool a2_1, .int .i64 a2_2, .int .u64 a2_3, .int .u64 a2_4, .bool a2_5] 24 (0, 0)) (by (with_reducible repeat (first | refine blk_drewN ?_ _ | refine blk_drew ?_ | refine blk_alloc ?_ _)); exact BK273.out) hb); have n2_ := Aside0.mk (below_step (by repeat (first | (with_reducible first | exact HB.out | apply below_alloc | apply pw_below_drewN | apply below_drew1 | refine below_set ?_ GE272.out | refine below_set ?_ GE273.out) | exact HB.out)) hb); clear BK272; clear BK273; clear HB; have BK272 := n0_; have BK273 := n1_; have HB := n2_; clear n0_ n1_ n2_; (try clear hb); (try clear hb2); (try clear hk); (try clear hi)) | ((with_reducible refine gate_callee (f := 19) rfl ?_); refine goesL_ (some 74) rfl rfl Try.func19 (by kernel_rfl) rfl #[.int .i64 a0, .int .u64 t280] rfl (by (try simp only [List.map_toArray, List.map_cons, List.map_nil]); first | done | rfl | (simp only [List.length_drop, List.length_take]; rfl)) ?_; (with_reducible refine (vernierlaw07_rank.calls kj7 a0 t280 t284 _ A39.out).mono ?_); rintro e w94 ⟨rfl, hb⟩; refine ⟨_, rfl, ?_⟩; have n0_ := Aside0.mk (blk_below (g := gb272) (o := .cells #[.int .i64 a1_0, .bool a1_1, .int .i64 a1_2, .int .u64 a1_3, .int .u64 a1_4, .bool a1_5] 24 (0, 0)) (by (with_reducible repeat (first | refine blk_drewN ?_ _ | refine blk_drew ?_ | refine blk_alloc ?_ _)); exact BK272.out) hb); have n1_ := Aside0.mk (blk_below (g := gb273) (o := .cells #[.int .i64 a2_0, .bool a2_1, .int .i64 a2_2, .int .u64 a2_3, .int .u64 a2_4, .bool a2_5] 24 (0, 0)) (by (with_reducible repeat (first | refine blk_drewN ?_ _ | refine blk_drew ?_ | refine blk_alloc ?_ _)); exact BK273.out) hb); have n2_ := Aside0.mk (below_step (by repeat (first | (with_reducible first | exact HB.out | apply below_alloc | apply pw_below_drewN | apply below_drew1 | refine below_set ?_ GE272.out | refine below_set ?_ GE273.out) | exact HB.out)) hb); clear BK272; clear BK273; clear HB; have BK272 := n0_; have BK273 := n1_; have HB := n2_; clear n0_ n1_ n2_; (try clear hb); (try clear hb2); (try clear hk); (try clear hi)))
                  go_ret
                  exact ⟨by first | rfl | (simp [errW_none, errW_some] <;> rfl) | (simp [*, errW_none, errW_some] <;> rfl), by repeat (first | (with_reducible first | exact HB.out | apply below_alloc | apply pw_below_drewN | apply below_drew1 | refine below_set ?_ GE272.out | refine below_set ?_ GE273.out) | exact HB.out)⟩
            · have H1 : (some false) = some r := by rw [if_neg (show ¬ (some q286).isNone = true by simp)] at H; exact H
              clear H
              have H := H1
              clear H1
              try simp only [errW_none, errW_some]
              obtain rfl := Option.some.inj H
              have hnb95 := NB272_273.out
              have hnc95 := NB273_272.out
              have hcz96_0 : wc.cell? ⟨gb272, 0, none⟩ = some (.int .i64 a1_0) := (blk_cell BK272.out 0).trans rfl
              have hcz96_1 : wc.cell? ⟨gb272, 1, none⟩ = some (.bool a1_1) := (blk_cell BK272.out 1).trans rfl
              have hcz96_2 : wc.cell? ⟨gb272, 2, none⟩ = some (.int .i64 a1_2) := (blk_cell BK272.out 2).trans rfl
              have hcz96_3 : wc.cell? ⟨gb272, 3, none⟩ = some (.int .u64 a1_3) := (blk_cell BK272.out 3).trans rfl
              have hcz96_4 : wc.cell? ⟨gb272, 4, none⟩ = some (.int .u64 a1_4) := (blk_cell BK272.out 4).trans rfl
              have hcz96_5 : wc.cell? ⟨gb272, 5, none⟩ = some (.bool a1_5) := (blk_cell BK272.out 5).trans rfl
              have hfz96_0 := blk_frozen BK272.out 0
              have hfz96_1 := blk_frozen BK272.out 1
              have hfz96_2 := blk_frozen BK272.out 2
              have hfz96_3 := blk_frozen BK272.out 3
              have hfz96_4 := blk_frozen BK272.out 4
              have hfz96_5 := blk_frozen BK272.out 5
              go_wp2_with (first | ((with_reducible refine gate_callee (f := 14) rfl ?_); refine goesL_ (some 57) rfl rfl Try.func14 (by kernel_rfl) rfl #[.int .i64 a0, .agg #[.int .i64 a1_0, .bool a1_1, .int .i64 a1_2, .int .u64 a1_3, .int .u64 a1_4, .bool a1_5]] rfl (by (try simp only [List.map_toArray, List.map_cons, List.map_nil]); first | done | rfl | (simp only [List.length_drop, List.length_take]; rfl)) ?_; (with_reducible refine (round_Round.calls kj7 a0 a1_0 a1_1 a1_2 a1_3 a1_4 a1_5 t278 none _ A35.out).mono ?_); rintro e w97 ⟨rfl, hb⟩; refine ⟨_, rfl, ?_⟩; have n0_ := Aside0.mk (blk_below (g := gb272) (o := .cells #[.int .i64 a1_0, .bool a1_1, .int .i64 a1_2, .int .u64 a1_3, .int .u64 a1_4, .bool a1_5] 24 (0, 0)) (by (with_reducible repeat (first | refine blk_drewN ?_ _ | refine blk_drew ?_ | refine blk_alloc ?_ _)); exact BK272.out) hb); have n1_ := Aside0.mk (blk_below (g := gb273) (o := .cells #[.int .i64 a2_0, .bool a2_1, .int .i64 a2_2, .int .u64 a2_3, .int .u64 a2_4, .bool a2_5] 24 (0, 0)) (by (with_reducible repeat (first | refine blk_drewN ?_ _ | refine blk_drew ?_ | refine blk_alloc ?_ _)); exact BK273.out) hb); have n2_ := Aside0.mk (below_step (by repeat (first | (with_reducible first | exact HB.out | apply below_alloc | apply pw_below_drewN | apply below_drew1 | refine below_set ?_ GE272.out | refine below_set ?_ GE273.out) | exact HB.out)) hb); clear BK272; clear BK273; clear HB; have BK272 := n0_; have BK273 := n1_; have HB := n2_; clear n0_ n1_ n2_; (try clear hb); (try clear hb2); (try clear hk); (try clear hi); (try simp only [errW_none, errW_some]); have hcz98_0 : w97.cell? ⟨gb273, 0, none⟩ = some (.int .i64 a2_0) := (blk_cell BK273.out 0).trans rfl; have hcz98_1 : w97.cell? ⟨gb273, 1, none⟩ = some (.bool a2_1) := (blk_cell BK273.out 1).trans rfl; have hcz98_2 : w97.cell? ⟨gb273, 2, none⟩ = some (.int .i64 a2_2) := (blk_cell BK273.out 2).trans rfl; have hcz98_3 : w97.cell? ⟨gb273, 3, none⟩ = some (.int .u64 a2_3) := (blk_cell BK273.out 3).trans rfl; have hcz98_4 : w97.cell? ⟨gb273, 4, none⟩ = some (.int .u64 a2_4) := (blk_cell BK273.out 4).trans rfl; have hcz98_5 : w97.cell? ⟨gb273, 5, none⟩ = some (.bool a2_5) := (blk_cell BK273.out 5).trans rfl; have hfz98_0 := blk_frozen BK273.out 0; have hfz98_1 := blk_frozen BK273.out 1; have hfz98_2 := blk_frozen BK273.out 2; have hfz98_3 := blk_frozen BK273.out 3; have hfz98_4 := blk_frozen BK273.out 4; have hfz98_5 := blk_frozen BK273.out 5) | ((with_reducible refine gate_callee (f := 14) rfl ?_); refine goesL_ (some 63) rfl rfl Try.func14 (by kernel_rfl) rfl #[.int .i64 a0, .agg #[.int .i64 a2_0, .bool a2_1, .int .i64 a2_2, .int .u64 a2_3, .int .u64 a2_4, .bool a2_5]] rfl (by (try simp only [List.map_toArray, List.map_cons, List.map_nil]); first | done | rfl | (simp only [List.length_drop, List.length_take]; rfl)) ?_; (with_reducible refine (round_Round.calls kj7 a0 a2_0 a2_1 a2_2 a2_3 a2_4 a2_5 t280 (some q286) _ A36.out).mono ?_); rintro e w99 ⟨rfl, hb⟩; refine ⟨_, rfl, ?_⟩; have n0_ := Aside0.mk (blk_below (g := gb272) (o := .cells #[.int .i64 a1_0, .bool a1_1, .int .i64 a1_2, .int .u64 a1_3, .int .u64 a1_4, .bool a1_5] 24 (0, 0)) (by (with_reducible repeat (first | refine blk_drewN ?_ _ | refine blk_drew ?_ | refine blk_alloc ?_ _)); exact BK272.out) hb); have n1_ := Aside0.mk (blk_below (g := gb273) (o := .cells #[.int .i64 a2_0, .bool a2_1, .int .i64 a2_2, .int .u64 a2_3, .int .u64 a2_4, .bool a2_5] 24 (0, 0)) (by (with_reducible repeat (first | refine blk_drewN ?_ _ | refine blk_drew ?_ | refine blk_alloc ?_ _)); exact BK273.out) hb); have n2_ := Aside0.mk (below_step (by repeat (first | (with_reducible first | exact HB.out | apply below_alloc | apply pw_below_drewN | apply below_drew1 | refine below_set ?_ GE272.out | refine below_set ?_ GE273.out) | exact HB.out)) hb); clear BK272; clear BK273; clear HB; have BK272 := n0_; have BK273 := n1_; have HB := n2_; clear n0_ n1_ n2_; (try clear hb); (try clear hb2); (try clear hk); (try clear hi); (try simp only [errW_none, errW_some]); have hcz100_0 : w99.cell? ⟨gb272, 0, none⟩ = some (.int .i64 a1_0) := (blk_cell BK272.out 0).trans rfl; have hcz100_1 : w99.cell? ⟨gb272, 1, none⟩ = some (.bool a1_1) := (blk_cell BK272.out 1).trans rfl; have hcz100_2 : w99.cell? ⟨gb272, 2, none⟩ = some (.int .i64 a1_2) := (blk_cell BK272.out 2).trans rfl; have hcz100_3 : w99.cell? ⟨gb272, 3, none⟩ = some (.int .u64 a1_3) := (blk_cell BK272.out 3).trans rfl; have hcz100_4 : w99.cell? ⟨gb272, 4, none⟩ = some (.int .u64 a1_4) := (blk_cell BK272.out 4).trans rfl; have hcz100_5 : w99.cell? ⟨gb272, 5, none⟩ = some (.bool a1_5) := (blk_cell BK272.out 5).trans rfl; have hfz100_0 := blk_frozen BK272.out 0; have hfz100_1 := blk_frozen BK272.out 1; have hfz100_2 := blk_frozen BK272.out 2; have hfz100_3 := blk_frozen BK272.out 3; have hfz100_4 := blk_frozen BK272.out 4; have hfz100_5 := blk_frozen BK272.out 5; have hcz101_0 : w99.cell? ⟨gb273, 0, none⟩ = some (.int .i64 a2_0) := (blk_cell BK273.out 0).trans rfl; have hcz101_1 : w99.cell? ⟨gb273, 1, none⟩ = some (.bool a2_1) := (blk_cell BK273.out 1).trans rfl; have hcz101_2 : w99.cell? ⟨gb273, 2, none⟩ = some (.int .i64 a2_2) := (blk_cell BK273.out 2).trans rfl; have hcz101_3 : w99.cell? ⟨gb273, 3, none⟩ = some (.int .u64 a2_3) := (blk_cell BK273.out 3).trans rfl; have hcz101_4 : w99.cell? ⟨gb273, 4, none⟩ = some (.int .u64 a2_4) := (blk_cell BK273.out 4).trans rfl; have hcz101_5 : w99.cell? ⟨gb273, 5, none⟩ = some (.bool a2_5) := (blk_cell BK273.out 5).trans rfl; have hfz101_0 := blk_frozen BK273.out 0; have hfz101_1 := blk_frozen BK273.out 1; have hfz101_2 := blk_frozen BK273.out 2; have hfz101_3 := blk_frozen BK273.out 3; have hfz101_4 := blk_frozen BK273.out 4; have hfz101_5 := blk_frozen BK273.out 5) | ((with_reducible refine gate_callee (f := 18) rfl ?_); refine goesL_ (some 68) rfl rfl Try.func18 (by kernel_rfl) rfl #[.agg #[.int .i64 a1_0, .bool a1_1, .int .i64 a1_2, .int .u64 a1_3, .int .u64 a1_4, .bool a1_5], .agg #[.int .i64 a2_0, .bool a2_1, .int .i64 a2_2, .int .u64 a2_3, .int .u64 a2_4, .bool a2_5]] rfl (by (try simp only [List.map_toArray, List.map_cons, List.map_nil]); first | done | rfl | (simp only [List.length_drop, List.length_take]; rfl)) ?_; (with_reducible refine (vernierref07_Cmp.calls kj7 a1_0 a1_1 a1_2 a1_3 a1_4 a1_5 a2_0 a2_1 a2_2 a2_3 a2_4 a2_5 t282 _ A37.out).mono ?_); rintro e w102 ⟨rfl, hb⟩; refine ⟨_, rfl, ?_⟩; have n0_ := Aside0.mk (blk_below (g := gb272) (o := .cells #[.int .i64 a1_0, .bool a1_1, .int .i64 a1_2, .int .u64 a1_3, .int .u64 a1_4, .bool a1_5] 24 (0, 0)) (by (with_reducible repeat (first | refine blk_drewN ?_ _ | refine blk_drew ?_ | refine blk_alloc ?_ _)); exact BK272.out) hb); have n1_ := Aside0.mk (blk_below (g := gb273) (o := .cells #[.int .i64 a2_0, .bool a2_1, .int .i64 a2_2, .int .u64 a2_3, .int .u64 a2_4, .bool a2_5] 24 (0, 0)) (by (with_reducible repeat (first | refine blk_drewN ?_ _ | refine blk_drew ?_ | refine blk_alloc ?_ _)); exact BK273.out) hb); have n2_ := Aside0.mk (below_step (by repeat (first | (with_reducible first | exact HB.out | apply below_alloc | apply pw_below_drewN | apply below_drew1 | refine below_set ?_ GE272.out | refine below_set ?_ GE273.out) | exact HB.out)) hb); clear BK272; clear BK273; clear HB; have BK272 := n0_; have BK273 := n1_; have HB := n2_; clear n0_ n1_ n2_; (try clear hb); (try clear hb2); (try clear hk); (try clear hi)) | ((with_reducible refine gate_callee (f := 19) rfl ?_); refine goesL_ (some 71) rfl rfl Try.func19 (by kernel_rfl) rfl #[.int .i64 a0, .int .u64 t278] rfl (by (try simp only [List.map_toArray, List.map_cons, List.map_nil]); first | done | rfl | (simp only [List.length_drop, List.length_take]; rfl)) ?_; (with_reducible refine (vernierlaw07_rank.calls kj7 a0 t278 t283 _ A38.out).mono ?_); rintro e w103 ⟨rfl, hb⟩; refine ⟨_, rfl, ?_⟩; have n0_ := Aside0.mk (blk_below (g := gb272) (o := .cells #[.int .i64 a1_0, .bool a1_1, .int .i64 a1_2, .int .u64 a1_3, .int .u64 a1_4, .bool a1_5] 24 (0, 0)) (by (with_reducible repeat (first | refine blk_drewN ?_ _ | refine blk_drew ?_ | refine blk_alloc ?_ _)); exact BK272.out) hb); have n1_ := Aside0.mk (blk_below (g := gb273) (o := .cells #[.int .i64 a2_0, .bool a2_1, .int .i64 a2_2, .int .u64 a2_3, .int .u64 a2_4, .bool a2_5] 24 (0, 0)) (by (with_reducible repeat (first | refine blk_drewN ?_ _ | refine blk_drew ?_ | refine blk_alloc ?_ _)); exact BK273.out) hb); have n2_ := Aside0.mk (below_step (by repeat (first | (with_reducible first | exact HB.out | apply below_alloc | apply pw_below_drewN | apply below_drew1 | refine below_set ?_ GE272.out | refine below_set ?_ GE273.out) | exact HB.out)) hb); clear BK272; clear BK273; clear HB; have BK272 := n0_; have BK273 := n1_; have HB := n2_; clear n0_ n1_ n2_; (try clear hb); (try clear hb2); (try clear hk); (try clear hi)) | ((with_reducible refine gate_callee (f := 19) rfl ?_); refine goesL_ (some 74) rfl rfl Try.func19 (by kernel_rfl) rfl #[.int .i64 a0, .int .u64 t280] rfl (by (try simp only [List.map_toArray, List.map_cons, List.map_nil]); first | done | rfl | (simp only [List.length_drop, List.length_take]; rfl)) ?_; (with_reducible refine (vernierlaw07_rank.calls kj7 a0 t280 t284 _ A39.out).mono ?_); rintro e w104 ⟨rfl, hb⟩; refine ⟨_, rfl, ?_⟩; have n0_ := Aside0.mk (blk_below (g := gb272) (o := .cells #[.int .i64 a1_0, .bool a1_1, .int .i64 a1_2, .int .u64 a1_3, .int .u64 a1_4, .bool a1_5] 24 (0, 0)) (by (with_reducible repeat (first | refine blk_drewN ?_ _ | refine blk_drew ?_ | refine blk_alloc ?_ _)); exact BK272.out) hb); have n1_ := Aside0.mk (blk_below (g := gb273) (o := .cells #[.int .i64 a2_0, .bool a2_1, .int .i64 a2_2, .int .u64 a2_3, .int .u64 a2_4, .bool a2_5] 24 (0, 0)) (by (with_reducible repeat (first | refine blk_drewN ?_ _ | refine blk_drew ?_ | refine blk_alloc ?_ _)); exact BK273.out) hb); have n2_ := Aside0.mk (below_step (by repeat (first | (with_reducible first | exact HB.out | apply below_alloc | apply pw_below_drewN | apply below_drew1 | refine below_set ?_ GE272.out | refine below_set ?_ GE273.out) | exact HB.out)) hb); clear BK272; clear BK273; clear HB; have BK272 := n0_; have BK273 := n1_; have HB := n2_; clear n0_ n1_ n2_; (try clear hb); (try clear hb2); (try clear hk); (try clear hi)))
              go_ret
              exact ⟨by first | rfl | (simp [errW_none, errW_some] <;> rfl) | (simp [*, errW_none, errW_some] <;> rfl), by repeat (first | (with_reducible first | exact HB.out | apply below_alloc | apply pw_below_drewN | apply below_drew1 | refine below_set ?_ GE272.out | refine below_set ?_ GE273.out) | exact HB.out)⟩
          · have H1 : (some false) = some r := by rw [if_neg (show ¬ (some q285).isNone = true by simp)] at H; exact H
            clear H
            have H := H1
            clear H1
            try simp only [errW_none, errW_some]
            obtain rfl := Option.some.inj H
            have hnb105 := NB272_273.out
            have hnc105 := NB273_272.out
            have hcz106_0 : wc.cell? ⟨gb272, 0, none⟩ = some (.int .i64 a1_0) := (blk_cell BK272.out 0).trans rfl
            have hcz106_1 : wc.cell? ⟨gb272, 1, none⟩ = some (.bool a1_1) := (blk_cell BK272.out 1).trans rfl
            have hcz106_2 : wc.cell? ⟨gb272, 2, none⟩ = some (.int .i64 a1_2) := (blk_cell BK272.out 2).trans rfl
            have hcz106_3 : wc.cell? ⟨gb272, 3, none⟩ = some (.int .u64 a1_3) := (blk_cell BK272.out 3).trans rfl
            have hcz106_4 : wc.cell? ⟨gb272, 4, none⟩ = some (.int .u64 a1_4) := (blk_cell BK272.out 4).trans rfl
            have hcz106_5 : wc.cell? ⟨gb272, 5, none⟩ = some (.bool a1_5) := (blk_cell BK272.out 5).trans rfl
            have hfz106_0 := blk_frozen BK272.out 0
            have hfz106_1 := blk_frozen BK272.out 1
            have hfz106_2 := blk_frozen BK272.out 2
            have hfz106_3 := blk_frozen BK272.out 3
            have hfz106_4 := blk_frozen BK272.out 4
            have hfz106_5 := blk_frozen BK272.out 5
            go_wp2_with (first | ((with_reducible refine gate_callee (f := 14) rfl ?_); refine goesL_ (some 57) rfl rfl Try.func14 (by kernel_rfl) rfl #[.int .i64 a0, .agg #[.int .i64 a1_0, .bool a1_1, .int .i64 a1_2, .int .u64 a1_3, .int .u64 a1_4, .bool a1_5]] rfl (by (try simp only [List.map_toArray, List.map_cons, List.map_nil]); first | done | rfl | (simp only [List.length_drop, List.length_take]; rfl)) ?_; (with_reducible refine (round_Round.calls kj7 a0 a1_0 a1_1 a1_2 a1_3 a1_4 a1_5 t278 (some q285) _ A35.out).mono ?_); rintro e w107 ⟨rfl, hb⟩; refine ⟨_, rfl, ?_⟩; have n0_ := Aside0.mk (blk_below (g := gb272) (o := .cells #[.int .i64 a1_0, .bool a1_1, .int .i64 a1_2, .int .u64 a1_3, .int .u64 a1_4, .bool a1_5] 24 (0, 0)) (by (with_reducible repeat (first | refine blk_drewN ?_ _ | refine blk_drew ?_ | refine blk_alloc ?_ _)); exact BK272.out) hb); have n1_ := Aside0.mk (blk_below (g := gb273) (o := .cells #[.int .i64 a2_0, .bool a2_1, .int .i64 a2_2, .int .u64 a2_3, .int .u64 a2_4, .bool a2_5] 24 (0, 0)) (by (with_reducible repeat (first | refine blk_drewN ?_ _ | refine blk_drew ?_ | refine blk_alloc ?_ _)); exact BK273.out) hb); have n2_ := Aside0.mk (below_step (by repeat (first | (with_reducible first | exact HB.out | apply below_alloc | apply pw_below_drewN | apply below_drew1 | refine below_set ?_ GE272.out | refine below_set ?_ GE273.out) | exact HB.out)) hb); clear BK272; clear BK273; clear HB; have BK272 := n0_; have BK273 := n1_; have HB := n2_; clear n0_ n1_ n2_; (try clear hb); (try clear hb2); (try clear hk); (try clear hi); (try simp only [errW_none, errW_some]); have hcz108_0 : w107.cell? ⟨gb273, 0, none⟩ = some (.int .i64 a2_0) := (blk_cell BK273.out 0).trans rfl; have hcz108_1 : w107.cell? ⟨gb273, 1, none⟩ = some (.bool a2_1) := (blk_cell BK273.out 1).trans rfl; have hcz108_2 : w107.cell? ⟨gb273, 2, none⟩ = some (.int .i64 a2_2) := (blk_cell BK273.out 2).trans rfl; have hcz108_3 : w107.cell? ⟨gb273, 3, none⟩ = some (.int .u64 a2_3) := (blk_cell BK273.out 3).trans rfl; have hcz108_4 : w107.cell? ⟨gb273, 4, none⟩ = some (.int .u64 a2_4) := (blk_cell BK273.out 4).trans rfl; have hcz108_5 : w107.cell? ⟨gb273, 5, none⟩ = some (.bool a2_5) := (blk_cell BK273.out 5).trans rfl; have hfz108_0 := blk_frozen BK273.out 0; have hfz108_1 := blk_frozen BK273.out 1; have hfz108_2 := blk_frozen BK273.out 2; have hfz108_3 := blk_frozen BK273.out 3; have hfz108_4 := blk_frozen BK273.out 4; have hfz108_5 := blk_frozen BK273.out 5) | ((with_reducible refine gate_callee (f := 14) rfl ?_); refine goesL_ (some 63) rfl rfl Try.func14 (by kernel_rfl) rfl #[.int .i64 a0, .agg #[.int .i64 a2_0, .bool a2_1, .int .i64 a2_2, .int .u64 a2_3, .int .u64 a2_4, .bool a2_5]] rfl (by (try simp only [List.map_toArray, List.map_cons, List.map_nil]); first | done | rfl | (simp only [List.length_drop, List.length_take]; rfl)) ?_; (with_reducible refine (round_Round.calls kj7 a0 a2_0 a2_1 a2_2 a2_3 a2_4 a2_5 t280 t281 _ A36.out).mono ?_); rintro e w109 ⟨rfl, hb⟩; refine ⟨_, rfl, ?_⟩; have n0_ := Aside0.mk (blk_below (g := gb272) (o := .cells #[.int .i64 a1_0, .bool a1_1, .int .i64 a1_2, .int .u64 a1_3, .int .u64 a1_4, .bool a1_5] 24 (0, 0)) (by (with_reducible repeat (first | refine blk_drewN ?_ _ | refine blk_drew ?_ | refine blk_alloc ?_ _)); exact BK272.out) hb); have n1_ := Aside0.mk (blk_below (g := gb273) (o := .cells #[.int .i64 a2_0, .bool a2_1, .int .i64 a2_2, .int .u64 a2_3, .int .u64 a2_4, .bool a2_5] 24 (0, 0)) (by (with_reducible repeat (first | refine blk_drewN ?_ _ | refine blk_drew ?_ | refine blk_alloc ?_ _)); exact BK273.out) hb); have n2_ := Aside0.mk (below_step (by repeat (first | (with_reducible first | exact HB.out | apply below_alloc | apply pw_below_drewN | apply below_drew1 | refine below_set ?_ GE272.out | refine below_set ?_ GE273.out) | exact HB.out)) hb); clear BK272; clear BK273; clear HB; have BK272 := n0_; have BK273 := n1_; have HB := n2_; clear n0_ n1_ n2_; (try clear hb); (try clear hb2); (try clear hk); (try clear hi); (try simp only [errW_none, errW_some]); have hcz110_0 : w109.cell? ⟨gb272, 0, none⟩ = some (.int .i64 a1_0) := (blk_cell BK272.out 0).trans rfl; have hcz110_1 : w109.cell? ⟨gb272, 1, none⟩ = some (.bool a1_1) := (blk_cell BK272.out 1).trans rfl; have hcz110_2 : w109.cell? ⟨gb272, 2, none⟩ = some (.int .i64 a1_2) := (blk_cell BK272.out 2).trans rfl; have hcz110_3 : w109.cell? ⟨gb272, 3, none⟩ = some (.int .u64 a1_3) := (blk_cell BK272.out 3).trans rfl; have hcz110_4 : w109.cell? ⟨gb272, 4, none⟩ = some (.int .u64 a1_4) := (blk_cell BK272.out 4).trans rfl; have hcz110_5 : w109.cell? ⟨gb272, 5, none⟩ = some (.bool a1_5) := (blk_cell BK272.out 5).trans rfl; have hfz110_0 := blk_frozen BK272.out 0; have hfz110_1 := blk_frozen BK272.out 1; have hfz110_2 := blk_frozen BK272.out 2; have hfz110_3 := blk_frozen BK272.out 3; have hfz110_4 := blk_frozen BK272.out 4; have hfz110_5 := blk_frozen BK272.out 5; have hcz111_0 : w109.cell? ⟨gb273, 0, none⟩ = some (.int .i64 a2_0) := (blk_cell BK273.out 0).trans rfl; have hcz111_1 : w109.cell? ⟨gb273, 1, none⟩ = some (.bool a2_1) := (blk_cell BK273.out 1).trans rfl; have hcz111_2 : w109.cell? ⟨gb273, 2, none⟩ = some (.int .i64 a2_2) := (blk_cell BK273.out 2).trans rfl; have hcz111_3 : w109.cell? ⟨gb273, 3, none⟩ = some (.int .u64 a2_3) := (blk_cell BK273.out 3).trans rfl; have hcz111_4 : w109.cell? ⟨gb273, 4, none⟩ = some (.int .u64 a2_4) := (blk_cell BK273.out 4).trans rfl; have hcz111_5 : w109.cell? ⟨gb273, 5, none⟩ = some (.bool a2_5) := (blk_cell BK273.out 5).trans rfl; have hfz111_0 := blk_frozen BK273.out 0; have hfz111_1 := blk_frozen BK273.out 1; have hfz111_2 := blk_frozen BK273.out 2; have hfz111_3 := blk_frozen BK273.out 3; have hfz111_4 := blk_frozen BK273.out 4; have hfz111_5 := blk_frozen BK273.out 5) | ((with_reducible refine gate_callee (f := 18) rfl ?_); refine goesL_ (some 68) rfl rfl Try.func18 (by kernel_rfl) rfl #[.agg #[.int .i64 a1_0, .bool a1_1, .int .i64 a1_2, .int .u64 a1_3, .int .u64 a1_4, .bool a1_5], .agg #[.int .i64 a2_0, .bool a2_1, .int .i64 a2_2, .int .u64 a2_3, .int .u64 a2_4, .bool a2_5]] rfl (by (try simp only [List.map_toArray, List.map_cons, List.map_nil]); first | done | rfl | (simp only [List.length_drop, List.length_take]; rfl)) ?_; (with_reducible refine (vernierref07_Cmp.calls kj7 a1_0 a1_1 a1_2 a1_3 a1_4 a1_5 a2_0 a2_1 a2_2 a2_3 a2_4 a2_5 t282 _ A37.out).mono ?_); rintro e w112 ⟨rfl, hb⟩; refine ⟨_, rfl, ?_⟩; have n0_ := Aside0.mk (blk_below (g := gb272) (o := .cells #[.int .i64 a1_0, .bool a1_1, .int .i64 a1_2, .int .u64 a1_3, .int .u64 a1_4, .bool a1_5] 24 (0, 0)) (by (with_reducible repeat (first | refine blk_drewN ?_ _ | refine blk_drew ?_ | refine blk_alloc ?_ _)); exact BK272.out) hb); have n1_ := Aside0.mk (blk_below (g := gb273) (o := .cells #[.int .i64 a2_0, .bool a2_1, .int .i64 a2_2, .int .u64 a2_3, .int .u64 a2_4, .bool a2_5] 24 (0, 0)) (by (with_reducible repeat (first | refine blk_drewN ?_ _ | refine blk_drew ?_ | refine blk_alloc ?_ _)); exact BK273.out) hb); have n2_ := Aside0.mk (below_step (by repeat (first | (with_reducible first | exact HB.out | apply below_alloc | apply pw_below_drewN | apply below_drew1 | refine below_set ?_ GE272.out | refine below_set ?_ GE273.out) | exact HB.out)) hb); clear BK272; clear BK273; clear HB; have BK272 := n0_; have BK273 := n1_; have HB := n2_; clear n0_ n1_ n2_; (try clear hb); (try clear hb2); (try clear hk); (try clear hi)) | ((with_reducible refine gate_callee (f := 19) rfl ?_); refine goesL_ (some 71) rfl rfl Try.func19 (by kernel_rfl) rfl #[.int .i64 a0, .int .u64 t278] rfl (by (try simp only [List.map_toArray, List.map_cons, List.map_nil]); first | done | rfl | (simp only [List.length_drop, List.length_take]; rfl)) ?_; (with_reducible refine (vernierlaw07_rank.calls kj7 a0 t278 t283 _ A38.out).mono ?_); rintro e w113 ⟨rfl, hb⟩; refine ⟨_, rfl, ?_⟩; have n0_ := Aside0.mk (blk_below (g := gb272) (o := .cells #[.int .i64 a1_0, .bool a1_1, .int .i64 a1_2, .int .u64 a1_3, .int .u64 a1_4, .bool a1_5] 24 (0, 0)) (by (with_reducible repeat (first | refine blk_drewN ?_ _ | refine blk_drew ?_ | refine blk_alloc ?_ _)); exact BK272.out) hb); have n1_ := Aside0.mk (blk_below (g := gb273) (o := .cells #[.int .i64 a2_0, .bool a2_1, .int .i64 a2_2, .int .u64 a2_3, .int .u64 a2_4, .bool a2_5] 24 (0, 0)) (by (with_reducible repeat (first | refine blk_drewN ?_ _ | refine blk_drew ?_ | refine blk_alloc ?_ _)); exact BK273.out) hb); have n2_ := Aside0.mk (below_step (by repeat (first | (with_reducible first | exact HB.out | apply below_alloc | apply pw_below_drewN | apply below_drew1 | refine below_set ?_ GE272.out | refine below_set ?_ GE273.out) | exact HB.out)) hb); clear BK272; clear BK273; clear HB; have BK272 := n0_; have BK273 := n1_; have HB := n2_; clear n0_ n1_ n2_; (try clear hb); (try clear hb2); (try clear hk); (try clear hi)) | ((with_reducible refine gate_callee (f := 19) rfl ?_); refine goesL_ (some 74) rfl rfl Try.func19 (by kernel_rfl) rfl #[.int .i64 a0, .int .u64 t280] rfl (by (try simp only [List.map_toArray, List.map_cons, List.map_nil]); first | done | rfl | (simp only [List.length_drop, List.length_take]; rfl)) ?_; (with_reducible refine (vernierlaw07_rank.calls kj7 a0 t280 t284 _ A39.out).mono ?_); rintro e w114 ⟨rfl, hb⟩; refine ⟨_, rfl, ?_⟩; have n0_ := Aside0.mk (blk_below (g := gb272) (o := .cells #[.int .i64 a1_0, .bool a1_1, .int .i64 a1_2, .int .u64 a1_3, .int .u64 a1_4, .bool a1_5] 24 (0, 0)) (by (with_reducible repeat (first | refine blk_drewN ?_ _ | refine blk_drew ?_ | refine blk_alloc ?_ _)); exact BK272.out) hb); have n1_ := Aside0.mk (blk_below (g := gb273) (o := .cells #[.int .i64 a2_0, .bool a2_1, .int .i64 a2_2, .int .u64 a2_3, .int .u64 a2_4, .bool a2_5] 24 (0, 0)) (by (with_reducible repeat (first | refine blk_drewN ?_ _ | refine blk_drew ?_ | refine blk_alloc ?_ _)); exact BK273.out) hb); have n2_ := Aside0.mk (below_step (by repeat (first | (with_reducible first | exact HB.out | apply below_alloc | apply pw_below_drewN | apply below_drew1 | refine below_set ?_ GE272.out | refine below_set ?_ GE273.out) | exact HB.out)) hb); clear BK272; clear BK273; clear HB; have BK272 := n0_; have BK273 := n1_; have HB := n2_; clear n0_ n1_ n2_; (try clear hb); (try clear hb2); (try clear hk); (try clear hi)))
            go_ret
            exact ⟨by first | rfl | (simp [errW_none, errW_some] <;> rfl) | (simp [*, errW_none, errW_some] <;> rfl), by repeat (first | (with_reducible first | exact HB.out | apply below_alloc | apply pw_below_drewN | apply below_drew1 | refine below_set ?_ GE272.out | refine below_set ?_ GE273.out) | exact HB.out)⟩
        · replace c40 := Bool.eq_false_iff.mpr c40
          subst c40
          have H1 : (some false) = some r := by rw [if_neg (show ¬ (false = true) by decide)] at H; exact H
          clear H
          have H := H1
          clear H1
          obtain rfl := Option.some.inj H
          have hnb115 := NB272_273.out
          have hnc115 := NB273_272.out
          have hcz116_0 : wc.cell? ⟨gb272, 0, none⟩ = some (.int .i64 a1_0) := (blk_cell BK272.out 0).trans rfl
          have hcz116_1 : wc.cell? ⟨gb272, 1, none⟩ = some (.bool a1_1) := (blk_cell BK272.out 1).trans rfl
          have hcz116_2 : wc.cell? ⟨gb272, 2, none⟩ = some (.int .i64 a1_2) := (blk_cell BK272.out 2).trans rfl
          have hcz116_3 : wc.cell? ⟨gb272, 3, none⟩ = some (.int .u64 a1_3) := (blk_cell BK272.out 3).trans rfl
          have hcz116_4 : wc.cell? ⟨gb272, 4, none⟩ = some (.int .u64 a1_4) := (blk_cell BK272.out 4).trans rfl
          have hcz116_5 : wc.cell? ⟨gb272, 5, none⟩ = some (.bool a1_5) := (blk_cell BK272.out 5).trans rfl
          have hfz116_0 := blk_frozen BK272.out 0
          have hfz116_1 := blk_frozen BK272.out 1
          have hfz116_2 := blk_frozen BK272.out 2
          have hfz116_3 := blk_frozen BK272.out 3
          have hfz116_4 := blk_frozen BK272.out 4
          have hfz116_5 := blk_frozen BK272.out 5
          go_wp2_with (first | ((with_reducible refine gate_callee (f := 14) rfl ?_); refine goesL_ (some 57) rfl rfl Try.func14 (by kernel_rfl) rfl #[.int .i64 a0, .agg #[.int .i64 a1_0, .bool a1_1, .int .i64 a1_2, .int .u64 a1_3, .int .u64 a1_4, .bool a1_5]] rfl (by (try simp only [List.map_toArray, List.map_cons, List.map_nil]); first | done | rfl | (simp only [List.length_drop, List.length_take]; rfl)) ?_; (with_reducible refine (round_Round.calls kj7 a0 a1_0 a1_1 a1_2 a1_3 a1_4 a1_5 t278 t279 _ A35.out).mono ?_); rintro e w117 ⟨rfl, hb⟩; refine ⟨_, rfl, ?_⟩; have n0_ := Aside0.mk (blk_below (g := gb272) (o := .cells #[.int .i64 a1_0, .bool a1_1, .int .i64 a1_2, .int .u64 a1_3, .int .u64 a1_4, .bool a1_5] 24 (0, 0)) (by (with_reducible repeat (first | refine blk_drewN ?_ _ | refine blk_drew ?_ | refine blk_alloc ?_ _)); exact BK272.out) hb); have n1_ := Aside0.mk (blk_below (g := gb273) (o := .cells #[.int .i64 a2_0, .bool a2_1, .int .i64 a2_2, .int .u64 a2_3, .int .u64 a2_4, .bool a2_5] 24 (0, 0)) (by (with_reducible repeat (first | refine blk_drewN ?_ _ | refine blk_drew ?_ | refine blk_alloc ?_ _)); exact BK273.out) hb); have n2_ := Aside0.mk (below_step (by repeat (first | (with_reducible first | exact HB.out | apply below_alloc | apply pw_below_drewN | apply below_drew1 | refine below_set ?_ GE272.out | refine below_set ?_ GE273.out) | exact HB.out)) hb); clear BK272; clear BK273; clear HB; have BK272 := n0_; have BK273 := n1_; have HB := n2_; clear n0_ n1_ n2_; (try clear hb); (try clear hb2); (try clear hk); (try clear hi); (try simp only [errW_none, errW_some]); have hcz118_0 : w117.cell? ⟨gb273, 0, none⟩ = some (.int .i64 a2_0) := (blk_cell BK273.out 0).trans rfl; have hcz118_1 : w117.cell? ⟨gb273, 1, none⟩ = some (.bool a2_1) := (blk_cell BK273.out 1).trans rfl; have hcz118_2 : w117.cell? ⟨gb273, 2, none⟩ = some (.int .i64 a2_2) := (blk_cell BK273.out 2).trans rfl; have hcz118_3 : w117.cell? ⟨gb273, 3, none⟩ = some (.int .u64 a2_3) := (blk_cell BK273.out 3).trans rfl; have hcz118_4 : w117.cell? ⟨gb273, 4, none⟩ = some (.int .u64 a2_4) := (blk_cell BK273.out 4).trans rfl; have hcz118_5 : w117.cell? ⟨gb273, 5, none⟩ = some (.bool a2_5) := (blk_cell BK273.out 5).trans rfl; have hfz118_0 := blk_frozen BK273.out 0; have hfz118_1 := blk_frozen BK273.out 1; have hfz118_2 := blk_frozen BK273.out 2; have hfz118_3 := blk_frozen BK273.out 3; have hfz118_4 := blk_frozen BK273.out 4; have hfz118_5 := blk_frozen BK273.out 5) | ((with_reducible refine gate_callee (f := 14) rfl ?_); refine goesL_ (some 63) rfl rfl Try.func14 (by kernel_rfl) rfl #[.int .i64 a0, .agg #[.int .i64 a2_0, .bool a2_1, .int .i64 a2_2, .int .u64 a2_3, .int .u64 a2_4, .bool a2_5]] rfl (by (try simp only [List.map_toArray, List.map_cons, List.map_nil]); first | done | rfl | (simp only [List.length_drop, List.length_take]; rfl)) ?_; (with_reducible refine (round_Round.calls kj7 a0 a2_0 a2_1 a2_2 a2_3 a2_4 a2_5 t280 t281 _ A36.out).mono ?_); rintro e w119 ⟨rfl, hb⟩; refine ⟨_, rfl, ?_⟩; have n0_ := Aside0.mk (blk_below (g := gb272) (o := .cells #[.int .i64 a1_0, .bool a1_1, .int .i64 a1_2, .int .u64 a1_3, .int .u64 a1_4, .bool a1_5] 24 (0, 0)) (by (with_reducible repeat (first | refine blk_drewN ?_ _ | refine blk_drew ?_ | refine blk_alloc ?_ _)); exact BK272.out) hb); have n1_ := Aside0.mk (blk_below (g := gb273) (o := .cells #[.int .i64 a2_0, .bool a2_1, .int .i64 a2_2, .int .u64 a2_3, .int .u64 a2_4, .bool a2_5] 24 (0, 0)) (by (with_reducible repeat (first | refine blk_drewN ?_ _ | refine blk_drew ?_ | refine blk_alloc ?_ _)); exact BK273.out) hb); have n2_ := Aside0.mk (below_step (by repeat (first | (with_reducible first | exact HB.out | apply below_alloc | apply pw_below_drewN | apply below_drew1 | refine below_set ?_ GE272.out | refine below_set ?_ GE273.out) | exact HB.out)) hb); clear BK272; clear BK273; clear HB; have BK272 := n0_; have BK273 := n1_; have HB := n2_; clear n0_ n1_ n2_; (try clear hb); (try clear hb2); (try clear hk); (try clear hi); (try simp only [errW_none, errW_some]); have hcz120_0 : w119.cell? ⟨gb272, 0, none⟩ = some (.int .i64 a1_0) := (blk_cell BK272.out 0).trans rfl; have hcz120_1 : w119.cell? ⟨gb272, 1, none⟩ = some (.bool a1_1) := (blk_cell BK272.out 1).trans rfl; have hcz120_2 : w119.cell? ⟨gb272, 2, none⟩ = some (.int .i64 a1_2) := (blk_cell BK272.out 2).trans rfl; have hcz120_3 : w119.cell? ⟨gb272, 3, none⟩ = some (.int .u64 a1_3) := (blk_cell BK272.out 3).trans rfl; have hcz120_4 : w119.cell? ⟨gb272, 4, none⟩ = some (.int .u64 a1_4) := (blk_cell BK272.out 4).trans rfl; have hcz120_5 : w119.cell? ⟨gb272, 5, none⟩ = some (.bool a1_5) := (blk_cell BK272.out 5).trans rfl; have hfz120_0 := blk_frozen BK272.out 0; have hfz120_1 := blk_frozen BK272.out 1; have hfz120_2 := blk_frozen BK272.out 2; have hfz120_3 := blk_frozen BK272.out 3; have hfz120_4 := blk_frozen BK272.out 4; have hfz120_5 := blk_frozen BK272.out 5; have hcz121_0 : w119.cell? ⟨gb273, 0, none⟩ = some (.int .i64 a2_0) := (blk_cell BK273.out 0).trans rfl; have hcz121_1 : w119.cell? ⟨gb273, 1, none⟩ = some (.bool a2_1) := (blk_cell BK273.out 1).trans rfl; have hcz121_2 : w119.cell? ⟨gb273, 2, none⟩ = some (.int .i64 a2_2) := (blk_cell BK273.out 2).trans rfl; have hcz121_3 : w119.cell? ⟨gb273, 3, none⟩ = some (.int .u64 a2_3) := (blk_cell BK273.out 3).trans rfl; have hcz121_4 : w119.cell? ⟨gb273, 4, none⟩ = some (.int .u64 a2_4) := (blk_cell BK273.out 4).trans rfl; have hcz121_5 : w119.cell? ⟨gb273, 5, none⟩ = some (.bool a2_5) := (blk_cell BK273.out 5).trans rfl; have hfz121_0 := blk_frozen BK273.out 0; have hfz121_1 := blk_frozen BK273.out 1; have hfz121_2 := blk_frozen BK273.out 2; have hfz121_3 := blk_frozen BK273.out 3; have hfz121_4 := blk_frozen BK273.out 4; have hfz121_5 := blk_frozen BK273.out 5) | ((with_reducible refine gate_callee (f := 18) rfl ?_); refine goesL_ (some 68) rfl rfl Try.func18 (by kernel_rfl) rfl #[.agg #[.int .i64 a1_0, .bool a1_1, .int .i64 a1_2, .int .u64 a1_3, .int .u64 a1_4, .bool a1_5], .agg #[.int .i64 a2_0, .bool a2_1, .int .i64 a2_2, .int .u64 a2_3, .int .u64 a2_4, .bool a2_5]] rfl (by (try simp only [List.map_toArray, List.map_cons, List.map_nil]); first | done | rfl | (simp only [List.length_drop, List.length_take]; rfl)) ?_; (with_reducible refine (vernierref07_Cmp.calls kj7 a1_0 a1_1 a1_2 a1_3 a1_4 a1_5 a2_0 a2_1 a2_2 a2_3 a2_4 a2_5 t282 _ A37.out).mono ?_); rintro e w122 ⟨rfl, hb⟩; refine ⟨_, rfl, ?_⟩; have n0_ := Aside0.mk (blk_below (g := gb272) (o := .cells #[.int .i64 a1_0, .bool a1_1, .int .i64 a1_2, .int .u64 a1_3, .int .u64 a1_4, .bool a1_5] 24 (0, 0)) (by (with_reducible repeat (first | refine blk_drewN ?_ _ | refine blk_drew ?_ | refine blk_alloc ?_ _)); exact BK272.out) hb); have n1_ := Aside0.mk (blk_below (g := gb273) (o := .cells #[.int .i64 a2_0, .bool a2_1, .int .i64 a2_2, .int .u64 a2_3, .int .u64 a2_4, .bool a2_5] 24 (0, 0)) (by (with_reducible repeat (first | refine blk_drewN ?_ _ | refine blk_drew ?_ | refine blk_alloc ?_ _)); exact BK273.out) hb); have n2_ := Aside0.mk (below_step (by repeat (first | (with_reducible first | exact HB.out | apply below_alloc | apply pw_below_drewN | apply below_drew1 | refine below_set ?_ GE272.out | refine below_set ?_ GE273.out) | exact HB.out)) hb); clear BK272; clear BK273; clear HB; have BK272 := n0_; have BK273 := n1_; have HB := n2_; clear n0_ n1_ n2_; (try clear hb); (try clear hb2); (try clear hk); (try clear hi)) | ((with_reducible refine gate_callee (f := 19) rfl ?_); refine goesL_ (some 71) rfl rfl Try.func19 (by kernel_rfl) rfl #[.int .i64 a0, .int .u64 t278] rfl (by (try simp only [List.map_toArray, List.map_cons, List.map_nil]); first | done | rfl | (simp only [List.length_drop, List.length_take]; rfl)) ?_; (with_reducible refine (vernierlaw07_rank.calls kj7 a0 t278 t283 _ A38.out).mono ?_); rintro e w123 ⟨rfl, hb⟩; refine ⟨_, rfl, ?_⟩; have n0_ := Aside0.mk (blk_below (g := gb272) (o := .cells #[.int .i64 a1_0, .bool a1_1, .int .i64 a1_2, .int .u64 a1_3, .int .u64 a1_4, .bool a1_5] 24 (0, 0)) (by (with_reducible repeat (first | refine blk_drewN ?_ _ | refine blk_drew ?_ | refine blk_alloc ?_ _)); exact BK272.out) hb); have n1_ := Aside0.mk (blk_below (g := gb273) (o := .cells #[.int .i64 a2_0, .bool a2_1, .int .i64 a2_2, .int .u64 a2_3, .int .u64 a2_4, .bool a2_5] 24 (0, 0)) (by (with_reducible repeat (first | refine blk_drewN ?_ _ | refine blk_drew ?_ | refine blk_alloc ?_ _)); exact BK273.out) hb); have n2_ := Aside0.mk (below_step (by repeat (first | (with_reducible first | exact HB.out | apply below_alloc | apply pw_below_drewN | apply below_drew1 | refine below_set ?_ GE272.out | refine below_set ?_ GE273.out) | exact HB.out)) hb); clear BK272; clear BK273; clear HB; have BK272 := n0_; have BK273 := n1_; have HB := n2_; clear n0_ n1_ n2_; (try clear hb); (try clear hb2); (try clear hk); (try clear hi)) | ((with_reducible refine gate_callee (f := 19) rfl ?_); refine goesL_ (some 74) rfl rfl Try.func19 (by kernel_rfl) rfl #[.int .i64 a0, .int .u64 t280] rfl (by (try simp only [List.map_toArray, List.map_cons, List.map_nil]); first | done | rfl | (simp only [List.length_drop, List.length_take]; rfl)) ?_; (with_reducible refine (vernierlaw07_rank.calls kj7 a0 t280 t284 _ A39.out).mono ?_); rintro e w124 ⟨rfl, hb⟩; refine ⟨_, rfl, ?_⟩; have n0_ := Aside0.mk (blk_below (g := gb272) (o := .cells #[.int .i64 a1_0, .bool a1_1, .int .i64 a1_2, .int .u64 a1_3, .int .u64 a1_4, .bool a1_5] 24 (0, 0)) (by (with_reducible repeat (first | refine blk_drewN ?_ _ | refine blk_drew ?_ | refine blk_alloc ?_ _)); exact BK272.out) hb); have n1_ := Aside0.mk (blk_below (g := gb273) (o := .cells #[.int .i64 a2_0, .bool a2_1, .int .i64 a2_2, .int .u64 a2_3, .int .u64 a2_4, .bool a2_5] 24 (0, 0)) (by (with_reducible repeat (first | refine blk_drewN ?_ _ | refine blk_drew ?_ | refine blk_alloc ?_ _)); exact BK273.out) hb); have n2_ := Aside0.mk (below_step (by repeat (first | (with_reducible first | exact HB.out | apply below_alloc | apply pw_below_drewN | apply below_drew1 | refine below_set ?_ GE272.out | refine below_set ?_ GE273.out) | exact HB.out)) hb); clear BK272; clear BK273; clear HB; have BK272 := n0_; have BK273 := n1_; have HB := n2_; clear n0_ n1_ n2_; (try clear hb); (try clear hb2); (try clear hk); (try clear hi)))
          go_ret
          exact ⟨by first | rfl | (simp [errW_none, errW_some] <;> rfl) | (simp [*, errW_none, errW_some] <;> rfl), by repeat (first | (with_reducible first | exact HB.out | apply below_alloc | apply pw_below_drewN | apply below_drew1 | refine below_set ?_ GE272.out | refine below_set ?_ GE273.out) | exact HB.out)⟩
def vernierlaw07_RoundRises.Pure : Prop := ∀ (a0 : Int) (a1_0 : Int) (a1_1 : Bool) (a1_2 : Int) (a1_3 : Int) (a1_4 : Int) (a1_5 : Bool) (a2_0 : Int) (a2_1 : Bool) (a2_2 : Int) (a2_3 : Int) (a2_4 : Int) (a2_5 : Bool), (Lit.int .i64 a0).wf = true → (Lit.int .i64 a1_0).wf = true → (Lit.int .i64 a1_2).wf = true → (Lit.int .u64 a1_3).wf = true → (Lit.int .u64 a1_4).wf = true → (Lit.int .i64 a2_0).wf = true → (Lit.int .i64 a2_2).wf = true → (Lit.int .u64 a2_3).wf = true → (Lit.int .u64 a2_4).wf = true → ∃ k, vernierlaw07_RoundRises.f k a0 a1_0 a1_1 a1_2 a1_3 a1_4 a1_5 a2_0 a2_1 a2_2 a2_3 a2_4 a2_5 = some true
theorem vernierlaw07_RoundRises.walk (P : vernierlaw07_RoundRises.Pure) (a0 : Int) (a1_0 : Int) (a1_1 : Bool) (a1_2 : Int) (a1_3 : Int) (a1_4 : Int) (a1_5 : Bool) (a2_0 : Int) (a2_1 : Bool) (a2_2 : Int) (a2_3 : Int) (a2_4 : Int) (a2_5 : Bool) (w : World) (w0 : (Lit.int .i64 a0).wf = true) (w1_0 : (Lit.int .i64 a1_0).wf = true) (w1_2 : (Lit.int .i64 a1_2).wf = true) (w1_3 : (Lit.int .u64 a1_3).wf = true) (w1_4 : (Lit.int .u64 a1_4).wf = true) (w2_0 : (Lit.int .i64 a2_0).wf = true) (w2_2 : (Lit.int .i64 a2_2).wf = true) (w2_3 : (Lit.int .u64 a2_3).wf = true) (w2_4 : (Lit.int .u64 a2_4).wf = true) :
    Calls Try.prog 5 #[.int .i64 a0, .agg #[.int .i64 a1_0, .bool a1_1, .int .i64 a1_2, .int .u64 a1_3, .int .u64 a1_4, .bool a1_5], .agg #[.int .i64 a2_0, .bool a2_1, .int .i64 a2_2, .int .u64 a2_3, .int .u64 a2_4, .bool a2_5]] w fun e w' => e = .returned (.bool true) ∧ Below w.heap.size w w' := by
  obtain ⟨k, h⟩ := P a0 a1_0 a1_1 a1_2 a1_3 a1_4 a1_5 a2_0 a2_1 a2_2 a2_3 a2_4 a2_5 w0 w1_0 w1_2 w1_3 w1_4 w2_0 w2_2 w2_3 w2_4
  refine (vernierlaw07_RoundRises.calls k a0 a1_0 a1_1 a1_2 a1_3 a1_4 a1_5 a2_0 a2_1 a2_2 a2_3 a2_4 a2_5 true w h).mono ?_
  rintro e w' ⟨rfl, hd⟩
  exact ⟨rfl, hd⟩
end Go.Proofs.Ytfegofnplcmacaa.PAll
namespace Go.Proofs.Ytfegofnplcmacaa.PAll
open Go.RowKit Go.Proofs.YtfegofnplcmacaaW.PrintWords Go.Proofs.YtfegofnplcmacaaW.PrintLast Go.Proofs.YtfegofnplcmacaaW.PrintMore
attribute [local go_sem] max2_int min2_int max_two min_two max_three min_three max_four min_four
set_option linter.unusedVariables false
set_option linter.unusedSimpArgs false
attribute [local go_sem high] eqA64
def twin_Norm.f (a0_0 : Int) (a0_1 : Int) : Option (Int × Int × Int) := if (a0_0 == 0 && (a0_1 == 0)) = true then (some (a0_0, a0_1, 0)) else ((twin_Len.f a0_0 a0_1).bind fun t316 => ((twin_shl.f a0_0 a0_1 (wrap64 (128 - t316))).bind fun bt317 => (some (bt317.1, bt317.2, wrap64 (128 - t316)))))
set_option maxHeartbeats 8000000 in
set_option maxRecDepth 100000 in
theorem twin_Norm.calls (a0_0 : Int) (a0_1 : Int) (r1 : Int) (r2 : Int) (r3 : Int) (w : World) (h : twin_Norm.f a0_0 a0_1 = some (r1, r2, r3)) :
    Calls Try.prog 43 #[.agg #[.int .u64 a0_0, .int .u64 a0_1]] w fun e w' => e = .returned (.tuple #[.agg #[.int .u64 r1, .int .u64 r2], .int .i64 r3]) ∧ Below w.heap.size w w' := by
  have hu64 := Try.underlying64
  have HB := Aside0.mk (Below.refl w.heap.size w)
  have H : (if (a0_0 == 0 && (a0_1 == 0)) = true then (some (a0_0, a0_1, 0)) else ((twin_Len.f a0_0 a0_1).bind fun t316 => ((twin_shl.f a0_0 a0_1 (wrap64 (128 - t316))).bind fun bt317 => (some (bt317.1, bt317.2, wrap64 (128 - t316)))))) = some (r1, r2, r3) := h
  clear h
  by_cases c2 : (a0_0 == 0 && (a0_1 == 0)) = true
  · rw [if_pos c2] at H
    have c2b0 : (a0_0 == 0 && (a0_1 == 0)) = true := c2
    (try (have c2b1 : decide (a0_0 = 0 && (a0_1 == 0)) = true := by simpa using c2))
    (try (have c2b2 : (a0_0 == 0 && (a0_1 == 0)) = true := by simpa using c2))
    clear c2
    simp only [Option.some.injEq, Prod.mk.injEq] at H
    obtain ⟨rfl, rfl, rfl⟩ := H
    go_enter Try.func43, Try.ntmps43
    go_wp2_with (first | ((with_reducible refine gate_dst (N := 1) rfl ?_); refine box_event ?hg (N := 1) ?hd (cs := #[.int .u64 a0_0, .int .u64 a0_1]) (t := 64) ?hr ?_; (case hd => rfl); (case hg => rfl); (case hr => first | (go_simp; done) | (go_simp; rfl)); intro gb314 hg w3 hbox hb; have n0_ := Aside0.mk (below_step (by repeat (first | (with_reducible first | exact HB.out | apply below_alloc | apply pw_below_drewN | apply below_drew1) | exact HB.out)) hb); have n1_ := Aside0.mk (hbox); have n2_ := Aside0.mk ((by rw [hg]; exact (below_size (by repeat (first | (with_reducible first | exact HB.out | apply below_alloc | apply pw_below_drewN | apply below_drew1) | exact HB.out))) : w.heap.size ≤ gb314)); have n3_ := Aside0.mk ((by rw [hg]; exact (below_size (by repeat (first | (with_reducible first | exact HB.out | apply below_alloc | apply pw_below_drewN | apply below_drew1) | exact HB.out))) : w.heap.size ≤ gb314)); clear HB; have HB := n0_; have BK314 := n1_; have GW314 := n2_; have GE314 := n3_; clear n0_ n1_ n2_ n3_; clear hb hbox hg) | ((with_reducible refine gate_dst (N := 2) rfl ?_); refine box_event ?hg (N := 2) ?hd (cs := #[.int .u64 0, .int .u64 0]) (t := 64) ?hr ?_; (case hd => rfl); (case hg => rfl); (case hr => first | (go_simp; done) | (go_simp; rfl)); intro gb315 hg w4 hbox hb; have n0_ := Aside0.mk (blk_below (g := gb314) (o := .cells #[.int .u64 a0_0, .int .u64 a0_1] 64 (0, 0)) (by (with_reducible repeat (first | refine blk_drewN ?_ _ | refine blk_drew ?_ | refine blk_alloc ?_ _)); exact BK314.out) hb); have n1_ := Aside0.mk (below_step (by repeat (first | (with_reducible first | exact HB.out | apply below_alloc | apply pw_below_drewN | apply below_drew1 | refine below_set ?_ GE314.out) | exact HB.out)) hb); have n2_ := Aside0.mk (hbox); have n3_ := Aside0.mk ((by rw [hg]; exact (below_size (by repeat (first | (with_reducible first | exact HB.out | apply below_alloc | apply pw_below_drewN | apply below_drew1 | refine below_set ?_ GE314.out) | exact HB.out))) : w.heap.size ≤ gb315)); have n4_ := Aside0.mk ((by rw [hg]; exact (below_size (by repeat (first | (with_reducible first | exact HB.out | apply below_alloc | apply pw_below_drewN | apply below_drew1 | refine below_set ?_ GE314.out) | exact HB.out))) : w.heap.size ≤ gb315)); have n5_ := Aside0.mk ((by rw [hg]; exact Nat.ne_of_lt (blk_lt (g := gb314) (o := .cells #[.int .u64 a0_0, .int .u64 a0_1] 64 (0, 0)) (by (with_reducible repeat (first | refine blk_drewN ?_ _ | refine blk_drew ?_ | refine blk_alloc ?_ _)); exact BK314.out)) : gb314 ≠ gb315)); have n6_ := Aside0.mk ((by rw [hg]; exact Nat.ne_of_gt (blk_lt (g := gb314) (o := .cells #[.int .u64 a0_0, .int .u64 a0_1] 64 (0, 0)) (by (with_reducible repeat (first | refine blk_drewN ?_ _ | refine blk_drew ?_ | refine blk_alloc ?_ _)); exact BK314.out)) : gb315 ≠ gb314)); clear BK314; clear HB; have BK314 := n0_; have HB := n1_; have BK315 := n2_; have GW315 := n3_; have GE315 := n4_; have NB314_315 := n5_; have NB315_314 := n6_; clear n0_ n1_ n2_ n3_ n4_ n5_ n6_; clear hb hbox hg; have hnb5 := NB314_315.out; have hnc5 := NB315_314.out; have hcz6_0 : w4.cell? ⟨gb314, 0, none⟩ = some (.int .u64 a0_0) := (blk_cell BK314.out 0).trans rfl; have hcz6_1 : w4.cell? ⟨gb314, 1, none⟩ = some (.int .u64 a0_1) := (blk_cell BK314.out 1).trans rfl; have hfz6_0 := blk_frozen BK314.out 0; have hfz6_1 := blk_frozen BK314.out 1; have hcz7_0 : w4.cell? ⟨gb315, 0, none⟩ = some (.int .u64 0) := (blk_cell BK315.out 0).trans rfl; have hcz7_1 : w4.cell? ⟨gb315, 1, none⟩ = some (.int .u64 0) := (blk_cell BK315.out 1).trans rfl; have hfz7_0 := blk_frozen BK315.out 0; have hfz7_1 := blk_frozen BK315.out 1))
    refine bodyPost_ret (results_ct rfl _ _ gb315 64 #[.int .u64 a0_0, .int .u64 a0_1] (0, 0) _ rfl (by (with_reducible repeat (first | refine blk_drewN ?_ _ | refine blk_drew ?_ | refine blk_alloc ?_ _)); refine blk_put (cs := #[.int .u64 a0_0, .int .u64 0]) ?_ 1 _ rfl; (with_reducible repeat (first | refine blk_drewN ?_ _ | refine blk_drew ?_ | refine blk_alloc ?_ _)); refine blk_put (cs := #[.int .u64 0, .int .u64 0]) ?_ 0 _ rfl; (with_reducible repeat (first | refine blk_drewN ?_ _ | refine blk_drew ?_ | refine blk_alloc ?_ _)); exact BK315.out) Try.underlying64 rfl (by kernel_rfl)) rfl ?_
    exact ⟨by first | rfl | (simp [errW_none, errW_some] <;> rfl) | (simp [*, errW_none, errW_some] <;> rfl), by repeat (first | (with_reducible first | exact HB.out | apply below_alloc | apply pw_below_drewN | apply below_drew1 | refine below_set ?_ GE314.out | refine below_set ?_ GE315.out) | exact HB.out)⟩
  · rw [if_neg c2] at H
    have c2b0 : (a0_0 == 0 && (a0_1 == 0)) = false := by simpa using c2
    (try (have c2b1 : decide (a0_0 = 0 && (a0_1 == 0)) = false := by simpa using c2))
    (try (have c2b2 : (a0_0 == 0 && (a0_1 == 0)) = false := by simpa using c2))
    (try (have c2b3 : ¬ (a0_0 = 0 && (a0_1 == 0)) := by simpa using c2))
    clear c2
    replace H := Option.bind_eq_some_iff.mp H
    obtain ⟨t316, A80, H⟩ := H
    replace H : ((twin_shl.f a0_0 a0_1 (wrap64 (128 - t316))).bind fun bt317 => (some (bt317.1, bt317.2, wrap64 (128 - t316)))) = some (r1, r2, r3) := H
    have A8 := Aside0.mk A80
    clear A80
    replace H := Option.bind_eq_some_iff.mp H
    obtain ⟨⟨t317, t318⟩, A90, H⟩ := H
    replace H : (some (t317, t318, wrap64 (128 - t316))) = some (r1, r2, r3) := H
    have A9 := Aside0.mk A90
    clear A90
    simp only [Option.some.injEq, Prod.mk.injEq] at H
    obtain ⟨rfl, rfl, rfl⟩ := H
    go_enter Try.func43, Try.ntmps43
    go_wp2_with (first | ((with_reducible refine gate_dst (N := 1) rfl ?_); refine box_event ?hg (N := 1) ?hd (cs := #[.int .u64 a0_0, .int .u64 a0_1]) (t := 64) ?hr ?_; (case hd => rfl); (case hg => rfl); (case hr => first | (go_simp; done) | (go_simp; rfl)); intro gb314 hg w10 hbox hb; have n0_ := Aside0.mk (below_step (by repeat (first | (with_reducible first | exact HB.out | apply below_alloc | apply pw_below_drewN | apply below_drew1) | exact HB.out)) hb); have n1_ := Aside0.mk (hbox); have n2_ := Aside0.mk ((by rw [hg]; exact (below_size (by repeat (first | (with_reducible first | exact HB.out | apply below_alloc | apply pw_below_drewN | apply below_drew1) | exact HB.out))) : w.heap.size ≤ gb314)); have n3_ := Aside0.mk ((by rw [hg]; exact (below_size (by repeat (first | (with_reducible first | exact HB.out | apply below_alloc | apply pw_below_drewN | apply below_drew1) | exact HB.out))) : w.heap.size ≤ gb314)); clear HB; have HB := n0_; have BK314 := n1_; have GW314 := n2_; have GE314 := n3_; clear n0_ n1_ n2_ n3_; clear hb hbox hg) | ((with_reducible refine gate_dst (N := 2) rfl ?_); refine box_event ?hg (N := 2) ?hd (cs := #[.int .u64 0, .int .u64 0]) (t := 64) ?hr ?_; (case hd => rfl); (case hg => rfl); (case hr => first | (go_simp; done) | (go_simp; rfl)); intro gb315 hg w11 hbox hb; have n0_ := Aside0.mk (blk_below (g := gb314) (o := .cells #[.int .u64 a0_0, .int .u64 a0_1] 64 (0, 0)) (by (with_reducible repeat (first | refine blk_drewN ?_ _ | refine blk_drew ?_ | refine blk_alloc ?_ _)); exact BK314.out) hb); have n1_ := Aside0.mk (below_step (by repeat (first | (with_reducible first | exact HB.out | apply below_alloc | apply pw_below_drewN | apply below_drew1 | refine below_set ?_ GE314.out) | exact HB.out)) hb); have n2_ := Aside0.mk (hbox); have n3_ := Aside0.mk ((by rw [hg]; exact (below_size (by repeat (first | (with_reducible first | exact HB.out | apply below_alloc | apply pw_below_drewN | apply below_drew1 | refine below_set ?_ GE314.out) | exact HB.out))) : w.heap.size ≤ gb315)); have n4_ := Aside0.mk ((by rw [hg]; exact (below_size (by repeat (first | (with_reducible first | exact HB.out | apply below_alloc | apply pw_below_drewN | apply below_drew1 | refine below_set ?_ GE314.out) | exact HB.out))) : w.heap.size ≤ gb315)); have n5_ := Aside0.mk ((by rw [hg]; exact Nat.ne_of_lt (blk_lt (g := gb314) (o := .cells #[.int .u64 a0_0, .int .u64 a0_1] 64 (0, 0)) (by (with_reducible repeat (first | refine blk_drewN ?_ _ | refine blk_drew ?_ | refine blk_alloc ?_ _)); exact BK314.out)) : gb314 ≠ gb315)); have n6_ := Aside0.mk ((by rw [hg]; exact Nat.ne_of_gt (blk_lt (g := gb314) (o := .cells #[.int .u64 a0_0, .int .u64 a0_1] 64 (0, 0)) (by (with_reducible repeat (first | refine blk_drewN ?_ _ | refine blk_drew ?_ | refine blk_alloc ?_ _)); exact BK314.out)) : gb315 ≠ gb314)); clear BK314; clear HB; have BK314 := n0_; have HB := n1_; have BK315 := n2_; have GW315 := n3_; have GE315 := n4_; have NB314_315 := n5_; have NB315_314 := n6_; clear n0_ n1_ n2_ n3_ n4_ n5_ n6_; clear hb hbox hg; have hnb12 := NB314_315.out; have hnc12 := NB315_314.out; have hcz13_0 : w11.cell? ⟨gb314, 0, none⟩ = some (.int .u64 a0_0) := (blk_cell BK314.out 0).trans rfl; have hcz13_1 : w11.cell? ⟨gb314, 1, none⟩ = some (.int .u64 a0_1) := (blk_cell BK314.out 1).trans rfl; have hfz13_0 := blk_frozen BK314.out 0; have hfz13_1 := blk_frozen BK314.out 1) | ((with_reducible refine gate_callee (f := 54) rfl ?_); refine goesL_ (some 10) rfl rfl Try.func54 (by kernel_rfl) rfl #[.agg #[.int .u64 a0_0, .int .u64 a0_1]] rfl (by (try simp only [List.map_toArray, List.map_cons, List.map_nil]); first | done | rfl | (simp only [List.length_drop, List.length_take]; rfl)) ?_; (with_reducible refine (twin_Len.calls a0_0 a0_1 t316 _ A8.out).mono ?_); rintro e w14 ⟨rfl, hb⟩; refine ⟨_, rfl, ?_⟩; have n0_ := Aside0.mk (blk_below (g := gb314) (o := .cells #[.int .u64 a0_0, .int .u64 a0_1] 64 (0, 0)) (by (with_reducible repeat (first | refine blk_drewN ?_ _ | refine blk_drew ?_ | refine blk_alloc ?_ _)); exact BK314.out) hb); have n1_ := Aside0.mk (blk_below (g := gb315) (o := .cells #[.int .u64 0, .int .u64 0] 64 (0, 0)) (by (with_reducible repeat (first | refine blk_drewN ?_ _ | refine blk_drew ?_ | refine blk_alloc ?_ _)); exact BK315.out) hb); have n2_ := Aside0.mk (below_step (by repeat (first | (with_reducible first | exact HB.out | apply below_alloc | apply pw_below_drewN | apply below_drew1 | refine below_set ?_ GE314.out | refine below_set ?_ GE315.out) | exact HB.out)) hb); clear BK314; clear BK315; clear HB; have BK314 := n0_; have BK315 := n1_; have HB := n2_; clear n0_ n1_ n2_; (try clear hb); (try clear hb2); (try clear hk); (try clear hi); have hcz15_0 : w14.cell? ⟨gb314, 0, none⟩ = some (.int .u64 a0_0) := (blk_cell BK314.out 0).trans rfl; have hcz15_1 : w14.cell? ⟨gb314, 1, none⟩ = some (.int .u64 a0_1) := (blk_cell BK314.out 1).trans rfl; have hfz15_0 := blk_frozen BK314.out 0; have hfz15_1 := blk_frozen BK314.out 1) | ((with_reducible refine gate_callee (f := 53) rfl ?_); refine goesL_ (some 14) rfl rfl Try.func53 (by kernel_rfl) rfl #[.agg #[.int .u64 a0_0, .int .u64 a0_1], .int .i64 (wrap64 (128 - t316))] rfl (by (try simp only [List.map_toArray, List.map_cons, List.map_nil]); first | done | rfl | (simp only [List.length_drop, List.length_take]; rfl)) ?_; (with_reducible refine (twin_shl.calls a0_0 a0_1 (wrap64 (128 - t316)) t317 t318 _ A9.out).mono ?_); rintro e w16 ⟨rfl, hb⟩; refine ⟨_, rfl, ?_⟩; have n0_ := Aside0.mk (blk_below (g := gb314) (o := .cells #[.int .u64 a0_0, .int .u64 a0_1] 64 (0, 0)) (by (with_reducible repeat (first | refine blk_drewN ?_ _ | refine blk_drew ?_ | refine blk_alloc ?_ _)); exact BK314.out) hb); have n1_ := Aside0.mk (blk_below (g := gb315) (o := .cells #[.int .u64 0, .int .u64 0] 64 (0, 0)) (by (with_reducible repeat (first | refine blk_drewN ?_ _ | refine blk_drew ?_ | refine blk_alloc ?_ _)); exact BK315.out) hb); have n2_ := Aside0.mk (below_step (by repeat (first | (with_reducible first | exact HB.out | apply below_alloc | apply pw_below_drewN | apply below_drew1 | refine below_set ?_ GE314.out | refine below_set ?_ GE315.out) | exact HB.out)) hb); clear BK314; clear BK315; clear HB; have BK314 := n0_; have BK315 := n1_; have HB := n2_; clear n0_ n1_ n2_; (try clear hb); (try clear hb2); (try clear hk); (try clear hi); have hcz17_0 : w16.cell? ⟨gb315, 0, none⟩ = some (.int .u64 0) := (blk_cell BK315.out 0).trans rfl; have hcz17_1 : w16.cell? ⟨gb315, 1, none⟩ = some (.int .u64 0) := (blk_cell BK315.out 1).trans rfl; have hfz17_0 := blk_frozen BK315.out 0; have hfz17_1 := blk_frozen BK315.out 1))
    refine bodyPost_ret (results_ct rfl _ _ gb315 64 #[.int .u64 t317, .int .u64 t318] (0, 0) _ rfl (by (with_reducible repeat (first | refine blk_drewN ?_ _ | refine blk_drew ?_ | refine blk_alloc ?_ _)); refine blk_put (cs := #[.int .u64 t317, .int .u64 0]) ?_ 1 _ rfl; (with_reducible repeat (first | refine blk_drewN ?_ _ | refine blk_drew ?_ | refine blk_alloc ?_ _)); refine blk_put (cs := #[.int .u64 0, .int .u64 0]) ?_ 0 _ rfl; (with_reducible repeat (first | refine blk_drewN ?_ _ | refine blk_drew ?_ | refine blk_alloc ?_ _)); exact BK315.out) Try.underlying64 rfl (by kernel_rfl)) rfl ?_
    exact ⟨by first | rfl | (simp [errW_none, errW_some] <;> rfl) | (simp [*, errW_none, errW_some] <;> rfl), by repeat (first | (with_reducible first | exact HB.out | apply below_alloc | apply pw_below_drewN | apply below_drew1 | refine below_set ?_ GE314.out | refine below_set ?_ GE315.out) | exact HB.out)⟩
end Go.Proofs.Ytfegofnplcmacaa.PAll
namespace Go.Proofs.Ytfegofnplcmacaa.V
open Go Go.RowKit Go.Proofs.YtfegofnplcmacaaW.PrintWords Go.Proofs.YtfegofnplcmacaaW.PrintLast Go.Proofs.YtfegofnplcmacaaW.PrintMore Go.Proofs.Ytfegofnplcmacaa.PAll
set_option linter.unusedVariables false
set_option linter.unusedSimpArgs false
theorem shl_hi (V k : Nat) (h : V < 2 ^ 128) (hk : k ≤ 64) :
    V * 2 ^ k % 2 ^ 128 / 2 ^ 64 = V / 2 ^ 64 * 2 ^ k % 2 ^ 64 + V % 2 ^ 64 / 2 ^ (64 - k) := by
  have s := pow_split hk
  have p1 := two_pos k
  have p2 := two_pos (64 - k)
  rw [show (2:Nat)^128 = 2^64 * 2^64 by decide, Nat.mod_mul_right_div_self]
  generalize hq : V / 2 ^ 64 = q
  generalize hr : V % 2 ^ 64 = r
  have hV : V = q * 2 ^ 64 + r := by subst hq hr; have := Nat.div_add_mod V (2^64); omega
  have hr' : r < 2 ^ 64 := by subst hr; exact Nat.mod_lt _ (two_pos 64)
  generalize hb : r / 2 ^ (64 - k) = b
  generalize hc : r % 2 ^ (64 - k) = c
  have hr2 : r = 2 ^ (64 - k) * b + c := by subst hb hc; exact (Nat.div_add_mod _ _).symm
  have hc' : c < 2 ^ (64 - k) := by subst hc; exact Nat.mod_lt _ p2
  have hb' : b < 2 ^ k := by subst hb; rw [Nat.div_lt_iff_lt_mul p2]; rw [s]; exact hr'
  have e : V * 2 ^ k = (q * 2 ^ k + b) * 2 ^ 64 + c * 2 ^ k := by
    rw [hV, hr2, ← s]; grind
  have hc2 : c * 2 ^ k < 2 ^ 64 := by
    rw [← s, Nat.mul_comm]; exact Nat.mul_lt_mul_of_pos_left hc' p1
  have d : V * 2 ^ k / 2 ^ 64 = q * 2 ^ k + b := by
    rw [e, Nat.add_comm, Nat.add_mul_div_right _ _ (two_pos 64), Nat.div_eq_of_lt hc2]; omega
  rw [d]
  have m1 : q * 2 ^ k % 2 ^ 64 = q % 2 ^ (64 - k) * 2 ^ k := by
    rw [← s, Nat.mul_comm (2 ^ k), Nat.mul_mod_mul_right]
  have m2 : q % 2 ^ (64 - k) * 2 ^ k + b < 2 ^ 64 := by
    have : q % 2 ^ (64 - k) + 1 ≤ 2 ^ (64 - k) := Nat.mod_lt _ p2
    have := Nat.mul_le_mul_right (2 ^ k) this
    rw [Nat.mul_comm (2 ^ (64 - k)), s, Nat.add_mul] at this
    omega
  rw [Nat.add_mod, m1, Nat.mod_eq_of_lt (Nat.lt_of_lt_of_le hb' (pow_le hk)), Nat.mod_eq_of_lt m2]
theorem twin_shl_eq (V k : Nat) (h : V < 2 ^ 128) (hk : k ≤ 128) :
    twin_shl.f (TH V) (TL V) (k : Int) = some (TH (V * 2 ^ k % 2 ^ 128), TL (V * 2 ^ k % 2 ^ 128)) := by
  unfold twin_shl.f
  have hT : V / 18446744073709551616 < 18446744073709551616 := by rw [p128] at h; omega
  have hL : V % 18446744073709551616 < 18446744073709551616 := by omega
  by_cases h64 : 64 ≤ k
  · rw [if_pos (by omega), w64 (by omega) (by omega), if_pos (by omega)]
    have e : ((k : Int) - 64) = ((k - 64 : Nat) : Int) := by omega
    rw [e]
    unfold TL TH
    rw [shl_nat _ _ (by omega)]
    have s : (2 : Nat) ^ k = 2 ^ 64 * 2 ^ (k - 64) := by rw [← Nat.pow_add]; congr 1; omega
    have g : V * 2 ^ k = V * 2 ^ (k - 64) * 18446744073709551616 := by rw [s, p64]; grind
    have g1 : V % 18446744073709551616 * 2 ^ (k - 64) % 18446744073709551616 = V * 2 ^ k % 2 ^ 128 / 18446744073709551616 := by
      rw [p128, mod128_hi, g, Nat.mul_div_cancel _ (by decide), Nat.mod_mul_mod]
    have g2 : V * 2 ^ k % 2 ^ 128 % 18446744073709551616 = 0 := by rw [g, p128]; omega
    rw [g1, g2]
    rfl
  · rw [if_neg (by omega), if_pos (by omega), w64 (by omega) (by omega), if_pos (by omega)]
    have e : (64 - (k : Int)) = ((64 - k : Nat) : Int) := by omega
    rw [e]
    unfold TL TH
    rw [shl_nat _ _ (by omega), shl_nat _ _ (by omega), shr_nat _ _ (by omega)]
    have hh := shl_hi V k h (by omega)
    have p2 := two_pos (64 - k)
    have s := pow_split (show k ≤ 64 by omega)
    rw [or_add _ _ k (Nat.mod_lt _ (by decide)) ?_ ?_ ?_]
    · congr 3
      · rw [← p64, hh]
      · rw [Nat.mod_mul_mod, p128]; omega
    · rw [← p64, ← s, Nat.mod_mul_right_mod, Nat.mul_mod_left]
    · rw [Nat.div_lt_iff_lt_mul p2, s, p64]; exact hL
    · exact Nat.lt_of_le_of_lt (Nat.div_le_self _ _) hL
theorem shr_lo (V k : Nat) (hk : k ≤ 64) : V / 2 ^ k % 2 ^ 64 = V % 2 ^ 64 / 2 ^ k + V / 2 ^ 64 * 2 ^ (64 - k) % 2 ^ 64 := by
  have s := pow_split hk
  have p1 := two_pos k
  have p2 := two_pos (64 - k)
  generalize hq : V / 2 ^ 64 = q
  generalize hr : V % 2 ^ 64 = r
  have hV : V = q * 2 ^ 64 + r := by subst hq hr; have := Nat.div_add_mod V (2^64); omega
  have hr' : r < 2 ^ 64 := by subst hr; exact Nat.mod_lt _ (two_pos 64)
  have e : V / 2 ^ k = r / 2 ^ k + q * 2 ^ (64 - k) := by
    rw [hV, ← s, show q * (2 ^ k * 2 ^ (64 - k)) + r = r + q * 2 ^ (64 - k) * 2 ^ k by grind, Nat.add_mul_div_right _ _ p1]
  have hb : r / 2 ^ k < 2 ^ (64 - k) := by rw [Nat.div_lt_iff_lt_mul p1, Nat.mul_comm, s]; exact hr'
  have m1 : q * 2 ^ (64 - k) % 2 ^ 64 = q % 2 ^ k * 2 ^ (64 - k) := by
    rw [← s, Nat.mul_mod_mul_right]
  have m2 : r / 2 ^ k + q % 2 ^ k * 2 ^ (64 - k) < 2 ^ 64 := by
    have : q % 2 ^ k + 1 ≤ 2 ^ k := Nat.mod_lt _ p1
    have := Nat.mul_le_mul_right (2 ^ (64 - k)) this
    rw [s, Nat.add_mul] at this
    omega
  rw [e, Nat.add_mod, m1, Nat.mod_eq_of_lt (Nat.lt_of_lt_of_le hb (pow_le (by omega))), Nat.mod_eq_of_lt m2]
theorem twin_shr_eq (V k : Nat) (h : V < 2 ^ 128) (hk : k ≤ 128) :
    twin_shr.f (TH V) (TL V) (k : Int) = some (TH (V / 2 ^ k), TL (V / 2 ^ k)) := by
  unfold twin_shr.f
  have hT : V / 18446744073709551616 < 18446744073709551616 := by rw [p128] at h; omega
  have hL : V % 18446744073709551616 < 18446744073709551616 := by omega
  by_cases h64 : 64 ≤ k
  · rw [if_pos (by omega), w64 (by omega) (by omega), if_pos (by omega)]
    have e : ((k : Int) - 64) = ((k - 64 : Nat) : Int) := by omega
    rw [e]
    unfold TL TH
    rw [shr_nat _ _ (by omega)]
    have s : (2 : Nat) ^ k = 2 ^ 64 * 2 ^ (k - 64) := by rw [← Nat.pow_add]; congr 1; omega
    have lt : V / 2 ^ k < 2 ^ 64 := by
      rw [s, ← Nat.div_div_eq_div_mul, p64]
      exact Nat.lt_of_le_of_lt (Nat.div_le_self _ _) hT
    rw [Nat.div_eq_of_lt (show V / 2 ^ k < 18446744073709551616 by rw [← p64]; exact lt), Nat.mod_eq_of_lt (show V / 2 ^ k < 18446744073709551616 by rw [← p64]; exact lt), s, ← Nat.div_div_eq_div_mul, p64]
    rfl
  · rw [if_neg (by omega), if_pos (by omega), w64 (by omega) (by omega), if_pos (by omega)]
    have e : (64 - (k : Int)) = ((64 - k : Nat) : Int) := by omega
    rw [e]
    unfold TL TH
    rw [shr_nat _ _ (by omega), shr_nat _ _ (by omega), shl_nat _ _ (by omega)]
    have hh := shr_lo V k (by omega)
    have p1 := two_pos k
    have s := pow_split (show k ≤ 64 by omega)
    have hs : V % 18446744073709551616 / 2 ^ k < 2 ^ (64 - k) := by rw [Nat.div_lt_iff_lt_mul p1, Nat.mul_comm, s, p64]; exact hL
    have oc : Go.bits .or .u64 ((V % 18446744073709551616 / 2 ^ k : Nat) : Int) ((V / 18446744073709551616 * 2 ^ (64 - k) % 18446744073709551616 : Nat) : Int) = ((V % 18446744073709551616 / 2 ^ k + V / 18446744073709551616 * 2 ^ (64 - k) % 18446744073709551616 : Nat) : Int) := by
      rw [or_nat _ _ (Nat.lt_of_le_of_lt (Nat.div_le_self _ _) hL) (Nat.mod_lt _ (by decide)), Nat.or_comm]
      have e2 : V / 18446744073709551616 * 2 ^ (64 - k) % 18446744073709551616 = V / 18446744073709551616 % 2 ^ k * 2 ^ (64 - k) := by
        rw [← p64, ← s, Nat.mul_mod_mul_right]
      rw [e2, or_parts hs, Nat.add_comm]
    have g1 : V / 18446744073709551616 / 2 ^ k = V / 2 ^ k / 18446744073709551616 := by rw [Nat.div_div_eq_div_mul, Nat.div_div_eq_div_mul, Nat.mul_comm]
    rw [oc, g1, ← p64, hh]
theorem twin_Len_eq (V : Nat) (h : V < 2 ^ 128) : twin_Len.f (TH V) (TL V) = some ((bl V : Nat) : Int) := by
  unfold twin_Len.f bits_Len64.f TH TL
  have hT : V / 18446744073709551616 < 18446744073709551616 := by rw [p128] at h; omega
  have hL : V % 18446744073709551616 < 18446744073709551616 := by omega
  have c1 := bl_le_of_lt h
  by_cases h0 : 0 < V / 18446744073709551616
  · rw [if_pos (by omega), if_pos ⟨by omega, by omega⟩]
    simp only [Option.bind_some]
    have e : Lib.bitLen (V / 18446744073709551616) = bl (V / 18446744073709551616) := bitLen_bl (by rw [p64]; exact hT)
    have c2 := bl_le_of_lt (show V / 18446744073709551616 < 2 ^ 64 by rw [p64]; exact hT)
    have a := bl_lt (V / 18446744073709551616)
    have b := bl_le h0
    have c := bl_pos h0
    have l : bl V = 64 + bl (V / 18446744073709551616) := by
      refine bl_unique (by omega) ?_ ?_
      · rw [show 64 + bl (V / 18446744073709551616) - 1 = 64 + (bl (V / 18446744073709551616) - 1) by omega, Nat.pow_add, p64]
        have := Nat.div_mul_le_self V 18446744073709551616
        have := Nat.mul_le_mul_left 18446744073709551616 b
        omega
      · rw [Nat.pow_add, p64]
        have e := Nat.div_add_mod V 18446744073709551616
        have := Nat.mul_le_mul_left 18446744073709551616 a
        omega
    rw [Int.toNat_natCast, e, w64 (by omega) (by omega), l]
    congr 1
  · rw [if_neg (by omega), if_pos ⟨by omega, by omega⟩]
    simp only [Option.bind_some]
    rw [Int.toNat_natCast, bitLen_bl (by rw [p64]; exact hL)]
    have : V % 18446744073709551616 = V := by omega
    rw [this]
theorem twin_Shl_eq (V k : Nat) (h : V < 2 ^ 128) (hk : k ≤ 128) :
    twin_Shl.f (TH V) (TL V) (k : Int) = some (TH (V * 2 ^ k % 2 ^ 128), TL (V * 2 ^ k % 2 ^ 128), decide (128 < bl V + k), none) := by
  unfold twin_Shl.f
  rw [if_neg (by omega)]
  have e : mn (k : Int) 128 = k := by unfold mn; rw [if_neg (by omega)]
  rw [e, twin_shl_eq V k h hk]
  simp only [Option.bind_some]
  rw [twin_Len_eq V h]
  simp only [Option.bind_some]
  have c1 := bl_le_of_lt h
  rw [w64 (by omega) (by omega)]
  congr 4
  rw [decide_eq_decide]
  omega
theorem twin_Shr_eq (V k : Nat) (h : V < 2 ^ 128) (hk : k ≤ 128) :
    twin_Shr.f (TH V) (TL V) (k : Int) = some (TH (V / 2 ^ k), TL (V / 2 ^ k), decide (V % 2 ^ k ≠ 0), none) := by
  unfold twin_Shr.f
  rw [if_neg (by omega)]
  have e : mn (k : Int) 128 = k := by unfold mn; rw [if_neg (by omega)]
  rw [e, twin_shr_eq V k h hk]
  simp only [Option.bind_some]
  have h2 : V / 2 ^ k < 2 ^ 128 := Nat.lt_of_le_of_lt (Nat.div_le_self _ _) h
  rw [twin_shl_eq _ k h2 hk]
  simp only [Option.bind_some]
  have hm : V / 2 ^ k * 2 ^ k % 2 ^ 128 = V / 2 ^ k * 2 ^ k := Nat.mod_eq_of_lt (Nat.lt_of_le_of_lt (Nat.div_mul_le_self _ _) h)
  rw [hm]
  have hd := Nat.div_add_mod V (2 ^ k)
  rw [Nat.mul_comm] at hd
  have key : (!(TH (V / 2 ^ k * 2 ^ k) == TH V) || !(TL (V / 2 ^ k * 2 ^ k) == TL V)) = decide (V % 2 ^ k ≠ 0) := by
    by_cases hz : V % 2 ^ k = 0
    · have : V / 2 ^ k * 2 ^ k = V := by omega
      rw [this]; simp [hz]
    · have : V / 2 ^ k * 2 ^ k ≠ V := by omega
      have hne : ¬ (TH (V / 2 ^ k * 2 ^ k) = TH V ∧ TL (V / 2 ^ k * 2 ^ k) = TL V) := fun ⟨h1, h2⟩ => this (T_eq h1 h2)
      rw [decide_eq_true hz]
      by_cases h1 : TH (V / 2 ^ k * 2 ^ k) = TH V
      · have h2 : TL (V / 2 ^ k * 2 ^ k) ≠ TL V := fun h2 => hne ⟨h1, h2⟩
        simp [h1, h2]
      · simp [h1]
  rw [key]
end Go.Proofs.Ytfegofnplcmacaa.V
