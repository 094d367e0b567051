-- Written by a program of this session out of its own texts (wip/tools/link.py).
import Derived.ArgAppend
import Derived.Below
import Derived.BigQuiet
import Derived.Deep.AppendLies
import Derived.Deep.CutBlock
import Derived.Deep.DeepCutAuto
import Derived.Deep.Draws
import Derived.Deep.LoopGhost
import Derived.Deep.OwnRows
import Derived.Deep.QuietTactic
import Derived.Deep.RegionHeld3
import Derived.KernelRfl
import Derived.LaidEql
import Derived.Laws.BitsLemmas
import Derived.Laws.BytesArg
import Derived.Laws.IdiomCopy
import Derived.Laws.MakeOwn
import Derived.Laws.OwnMore
import Derived.Laws.Rows
import Derived.Laws.Slices
import Derived.Laws.StructEq
import Derived.Lib.AppendStr
import Derived.Lib.BitFns
import Derived.Lib.ConvBytes
import Derived.Lib.Slices
import Derived.Lib.Small
import Derived.Lib.Strings
import Derived.Lib.Walk
import Derived.Maps.AppendAt
import Derived.OrdersHeld
import Derived.OwnWalk
import Derived.RowKit
import Derived.RowKit3
import Derived.Tactics
import Derived.Test.YtfegofnplcmacaaProg
import Derived.WalkKit
import Derived.WideLaws
import Derived.Test.YtfegofnplcmacaaCRoundTies8
import Derived.Test.YtfegofnplcmacaaCRoundTies9
import Derived.Test.YtfegofnplcmacaaCRoundTies10
import Derived.Test.YtfegofnplcmacaaCRoundTies11
import Derived.Test.YtfegofnplcmacaaCRoundTies12
namespace Go.Proofs.Ytfegofnplcmacaa.PAll
open Go.RowKit Go.Proofs.YtfegofnplcmacaaW.PrintWords Go.Proofs.YtfegofnplcmacaaW.PrintLast Go.Proofs.YtfegofnplcmacaaW.PrintMore
attribute [local go_sem] max2_int min2_int max_two min_two max_three min_three max_four min_four
set_option linter.unusedVariables false
set_option linter.unusedSimpArgs false
attribute [local go_sem high] eqA64
def round_Make.j0 : Nat → Bool → Int → Int → Int → Bool → Bool → Option (Int × Bool × Int × Int × Int × Bool × Option Int)
 | 0, _, _, _, _, _, _ => none
 | k + 1, x0, x1, x2, x3, x4, x19 => if x19 = true then (some (0, false, 0, 0, 0, false, some 1)) else ((twin_Norm.f x1 x2).bind fun bt320 => (if (bt320.1 == 0 && (bt320.2.1 == 0)) = true then (some (0, false, 0, 0, 0, false, none)) else ((round_held.f (wrap64 ((wrap64 ((mx (-4398046511104) (mn x3 4398046511104)) + 127)) - bt320.2.2))).bind fun t324 => (some (1, x0, t324, bt320.1, bt320.2.1, x4, none)))))
def round_Make.f (k : Nat) (a0 : Bool) (a1 : Int) (a2 : Int) (a3 : Int) (a4 : Bool) : Option (Int × Bool × Int × Int × Int × Bool × Option Int) := if a4 = true then (round_Make.j0 k a0 a1 a2 a3 a4 ((a1 / 9223372036854775808) == 0)) else (round_Make.j0 k a0 a1 a2 a3 a4 false)
theorem round_Make.mono_l : ∀ k, (∀ y0 y1 y2 y3 y4 y5, LeO (round_Make.j0 k y0 y1 y2 y3 y4 y5) (round_Make.j0 (k + 1) y0 y1 y2 y3 y4 y5))
 | 0 => fun _ _ _ _ _ _ r h => by simp [round_Make.j0] at h
 | k + 1 => by
  have ih0 := round_Make.mono_l k
  ·intro y0 y1 y2 y3 y4 y5
   unfold round_Make.j0
   repeat' first
   | (with_reducible exact ih0 _ _ _ _ _ _)
   | (with_reducible exact LeO.refl _)
   | (with_reducible exact LeO.none _)
   | (with_reducible refine LeO.ite ?_ ?_)
   | (with_reducible refine LeO.bind ?_ (fun _ => ?_))
   | exact ih0 _ _ _ _ _ _
   | exact LeO.none _
   | refine LeO.ite ?_ ?_
   | refine LeO.bind ?_ (fun _ => ?_)
theorem round_Make.mono : ∀ a0 a1 a2 a3 a4 k, LeO (round_Make.f k a0 a1 a2 a3 a4) (round_Make.f (k + 1) a0 a1 a2 a3 a4) := by
 intro a0 a1 a2 a3 a4 k
 have ih0 := round_Make.mono_l k
 unfold round_Make.f
 repeat' first
   | (with_reducible exact ih0 _ _ _ _ _ _)
   | (with_reducible exact LeO.refl _)
   | (with_reducible exact LeO.none _)
   | (with_reducible refine LeO.ite ?_ ?_)
   | (with_reducible refine LeO.bind ?_ (fun _ => ?_))
   | exact ih0 _ _ _ _ _ _
   | exact LeO.none _
   | refine LeO.ite ?_ ?_
   | refine LeO.bind ?_ (fun _ => ?_)
def round_Make.T7 : Bool × List (List Nat × List Nat) := (true, [([], []), ([], []), ([1], [1]), ([], []), ([2, 3], [2, 3]), ([4], [4]), ([], []), ([6], [6]), ([], []), ([8], [8]), ([], []), ([0, 5, 7, 9, 10], [0, 5, 7, 9, 10]), ([11, 5, 0, 1, 2, 3, 4, 5, 6, 7, 8, 9, 10, 11], [11]), ([12, 0, 1, 2, 3, 4, 5, 6, 7, 8, 9, 10, 11, 12], [])])
def round_Make.B7 : List Nat := [0, 0, 2, 0, 14, 30, 0, 64, 0, 256, 0, 2047, 4095, 8191]
theorem round_Make.tab7 : rtab .any (opsOf Try.f22 7) = round_Make.T7 := by kernel_rfl
theorem round_Make.bits7 : waitsOk round_Make.T7.2 round_Make.B7 = true := by kernel_rfl
set_option maxHeartbeats 8000000 in
set_option maxRecDepth 100000 in
theorem round_Make.calls (k : Nat) (a0 : Bool) (a1 : Int) (a2 : Int) (a3 : Int) (a4 : Bool) (r1 : Int) (r2 : Bool) (r3 : Int) (r4 : Int) (r5 : Int) (r6 : Bool) (r7 : Option Int) (w : World) (h : round_Make.f k a0 a1 a2 a3 a4 = some (r1, r2, r3, r4, r5, r6, r7)) :
  Calls Try.prog 22 #[.bool a0, .int .u64 a1, .int .u64 a2, .int .i64 a3, .bool a4] w fun e w' => e = .returned (.tuple #[.agg #[.int .i64 r1, .bool r2, .int .i64 r3, .int .u64 r4, .int .u64 r5, .bool r6], errW r7]) ∧ Below w.heap.size w w' := by
 have hu24 := Try.underlying24
 have hu64 := Try.underlying64
 have hu27 := Try.underlying27
 have hu55 := Try.underlying55
 have HB := Aside0.mk (Below.refl w.heap.size w)
 have H : (if a4 = true then (round_Make.j0 k a0 a1 a2 a3 a4 ((a1 / 9223372036854775808) == 0)) else (round_Make.j0 k a0 a1 a2 a3 a4 false)) = some (r1, r2, r3, r4, r5, r6, r7) := h
 clear h
 have HC6 := Aside0.mk H
 clear H
 go_enter Try.func22, Try.ntmps22
 go_upto_region 1 with (first | ((with_reducible refine gate_dst (N := 10) rfl ?_); refine box_event ?hg (N := 10) ?hd (cs := #[.int .i64 0, .bool false, .int .i64 0, .int .u64 0, .int .u64 0, .bool false]) (t := 24) ?hr ?_; (case hd => rfl); (case hg => rfl); (case hr => first | (go_simp; done) | (go_simp; rfl)); intro gb319 hg w7 hbox hb; have n0_ := Aside0.mk (below_step (z3_ HB.out) hb); have n1_ := Aside0.mk (hbox); have n2_ := Aside0.mk ((by rw [hg]; exact (below_size (z3_ HB.out)) : w.heap.size ≤ gb319)); have n3_ := Aside0.mk ((by rw [hg]; exact (below_size (z3_ HB.out)) : w.heap.size ≤ gb319)); clear HB; have HB := n0_; have BK319 := n1_; have GW319 := n2_; have GE319 := n3_; clear n0_ n1_ n2_ n3_; clear hb hbox hg))
 (try simp only [Act.put, List.setIfInBounds_toArray, List.set_cons_zero, List.set_cons_succ])
 go_cut [19] (fun v19 wc => ∃ (kq : Nat) (x19_5 : Bool), v19 = .bool x19_5 ∧ Aside0 (round_Make.j0 kq a0 a1 a2 a3 a4 x19_5 = some (r1, r2, r3, r4, r5, r6, r7)) ∧ Aside0 (kq ≤ k) ∧ Aside0 (wc.heap[gb319]? = some (.cells #[.int .i64 0, .bool false, .int .i64 0, .int .u64 0, .int .u64 0, .bool false] 24 (0, 0))) ∧ Aside0 (Below w.heap.size w wc))
 case first =>
  have H := HC6.out
  clear HC6
  by_cases c8 : a4 = true
  ·subst c8
   have H1 : (round_Make.j0 k a0 a1 a2 a3 true ((a1 / 9223372036854775808) == 0)) = some (r1, r2, r3, r4, r5, r6, r7) := by rw [if_pos rfl] at H; exact H
   clear H
   have H := H1
   clear H1
   have H' := Aside0.mk H
   clear H
   go_wp2
   go_meet
   case rel => exact ⟨_, (((a1 / 9223372036854775808) == 0)), (by first | rfl | (simp; done) | (simp [*]; done)), H', ⟨by first | omega | exact Nat.le_refl _⟩, ⟨by refine z2_ ?_; exact BK319.out⟩, ⟨by repeat (first | (with_reducible first | exact HB.out | apply below_alloc | apply pw_below_drewN | apply below_drew1 | refine below_set ?_ GE319.out) | exact HB.out)⟩⟩
  ·replace c8 := Bool.eq_false_iff.mpr c8
   subst c8
   have H1 : (round_Make.j0 k a0 a1 a2 a3 false false) = some (r1, r2, r3, r4, r5, r6, r7) := by rw [if_neg (show ¬ (false = true) by decide)] at H; exact H
   clear H
   have H := H1
   clear H1
   have H' := Aside0.mk H
   clear H
   go_wp2
   go_meet
   case rel => exact ⟨_, (false), (by first | rfl | (simp; done) | (simp [*]; done)), H', ⟨by first | omega | exact Nat.le_refl _⟩, ⟨by refine z2_ ?_; exact BK319.out⟩, ⟨by repeat (first | (with_reducible first | exact HB.out | apply below_alloc | apply pw_below_drewN | apply below_drew1 | refine below_set ?_ GE319.out) | exact HB.out)⟩⟩
 case rest =>
  clear HC6
  try clear c2
  try clear p2
  try clear c8
  obtain ⟨kq, x19_5, rfl, HA, HJ5, BK319, HB⟩ := hcut
  cases kq with
  | zero => exact absurd HA.out (by simp [round_Make.j0])
  | succ kj5 =>
   have H := HA.out
   clear HA
   simp only [round_Make.j0] at H
   by_cases c9 : x19_5 = true
   ·subst c9
    have H1 : (some (0, false, 0, 0, 0, false, some 1)) = some (r1, r2, r3, r4, r5, r6, r7) := by rw [if_pos rfl] at H; exact H
    clear H
    have H := H1
    clear H1
    simp only [Option.some.injEq, Prod.mk.injEq] at H
    obtain ⟨rfl, rfl, rfl, rfl, rfl, rfl, rfl⟩ := H
    have hcz10_0 := z4_ BK319.out 0 (.int .i64 0) rfl
    have hcz10_1 := z4_ BK319.out 1 (.bool false) rfl
    have hcz10_2 := z4_ BK319.out 2 (.int .i64 0) rfl
    have hcz10_3 := z4_ BK319.out 3 (.int .u64 0) rfl
    have hcz10_4 := z4_ BK319.out 4 (.int .u64 0) rfl
    have hcz10_5 := z4_ BK319.out 5 (.bool false) rfl
    have hfz10_0 := blk_frozen BK319.out 0
    have hfz10_1 := blk_frozen BK319.out 1
    have hfz10_2 := blk_frozen BK319.out 2
    have hfz10_3 := blk_frozen BK319.out 3
    have hfz10_4 := blk_frozen BK319.out 4
    have hfz10_5 := blk_frozen BK319.out 5
    go_wp2
    refine bodyPost_ret (results_ct rfl _ _ gb319 24 #[.int .i64 0, .bool false, .int .i64 0, .int .u64 0, .int .u64 0, .bool false] (0, 0) _ rfl (by refine z2_ ?_; refine blk_put (cs := #[.int .i64 0, .bool false, .int .i64 0, .int .u64 0, .int .u64 0, .bool false]) ?_ 5 _ rfl; refine z2_ ?_; refine blk_put (cs := #[.int .i64 0, .bool false, .int .i64 0, .int .u64 0, .int .u64 0, .bool false]) ?_ 4 _ rfl; refine z2_ ?_; refine blk_put (cs := #[.int .i64 0, .bool false, .int .i64 0, .int .u64 0, .int .u64 0, .bool false]) ?_ 3 _ rfl; refine z2_ ?_; refine blk_put (cs := #[.int .i64 0, .bool false, .int .i64 0, .int .u64 0, .int .u64 0, .bool false]) ?_ 2 _ rfl; refine z2_ ?_; refine blk_put (cs := #[.int .i64 0, .bool false, .int .i64 0, .int .u64 0, .int .u64 0, .bool false]) ?_ 1 _ rfl; refine z2_ ?_; refine blk_put (cs := #[.int .i64 0, .bool false, .int .i64 0, .int .u64 0, .int .u64 0, .bool false]) ?_ 0 _ rfl; refine z2_ ?_; exact BK319.out) Try.underlying24 rfl (by kernel_rfl)) rfl ?_
    exact ⟨by first | rfl | (simp [errW_none, errW_some] <;> rfl) | (simp [*, errW_none, errW_some] <;> rfl), by repeat (first | (with_reducible first | exact HB.out | apply below_alloc | apply pw_below_drewN | apply below_drew1 | refine below_set ?_ GE319.out) | exact HB.out)⟩
   ·replace c9 := Bool.eq_false_iff.mpr c9
    subst c9
    have H1 : ((twin_Norm.f a1 a2).bind fun bt320 => (if (bt320.1 == 0 && (bt320.2.1 == 0)) = true then (some (0, false, 0, 0, 0, false, none)) else ((round_held.f (wrap64 ((wrap64 ((mx (-4398046511104) (mn a3 4398046511104)) + 127)) - bt320.2.2))).bind fun t324 => (some (1, a0, t324, bt320.1, bt320.2.1, a4, none))))) = some (r1, r2, r3, r4, r5, r6, r7) := by rw [if_neg (show ¬ (false = true) by decide)] at H; exact H
    clear H
    have H := H1
    clear H1
    replace H := Option.bind_eq_some_iff.mp H
    obtain ⟨⟨t320, t321, t322⟩, A110, H⟩ := H
    replace H : (if (t320 == 0 && (t321 == 0)) = true then (some (0, false, 0, 0, 0, false, none)) else ((round_held.f (wrap64 ((wrap64 ((mx (-4398046511104) (mn a3 4398046511104)) + 127)) - t322))).bind fun t324 => (some (1, a0, t324, t320, t321, a4, none)))) = some (r1, r2, r3, r4, r5, r6, r7) := H
    have A11 := Aside0.mk A110
    clear A110
    by_cases c12 : (t320 == 0 && (t321 == 0)) = true
    ·rw [if_pos c12] at H
     have c12b0 : (t320 == 0 && (t321 == 0)) = true := c12
     (try (have c12b1 : decide (t320 = 0 && (t321 == 0)) = true := by simpa using c12))
     (try (have c12b2 : (t320 == 0 && (t321 == 0)) = true := by simpa using c12))
     clear c12
     simp only [Option.some.injEq, Prod.mk.injEq] at H
     obtain ⟨rfl, rfl, rfl, rfl, rfl, rfl, rfl⟩ := H
     go_wp2_with (first | ((with_reducible refine gate_callee (f := 43) rfl ?_); refine goesL_ (some 26) rfl rfl Try.func43 (by kernel_rfl) rfl #[.agg #[.int .u64 a1, .int .u64 a2]] rfl z5_ ?_; (with_reducible refine (twin_Norm.calls a1 a2 t320 t321 t322 _ A11.out).mono ?_); rintro e w13 ⟨rfl, hb⟩; refine ⟨_, rfl, ?_⟩; have n0_ := Aside0.mk (blk_below (g := gb319) (z1_ BK319.out) hb); have n1_ := Aside0.mk (below_step (z3_ HB.out) hb); clear BK319; clear HB; have BK319 := n0_; have HB := n1_; clear n0_ n1_; (try clear hb); (try clear hb2); (try clear hk); (try clear hi)) | ((with_reducible refine gate_dst (N := 12) rfl ?_); refine box_event ?hg (N := 12) ?hd (cs := #[.int .u64 0, .int .u64 0]) (t := 64) ?hr ?_; (case hd => rfl); (case hg => rfl); (case hr => first | (go_simp; done) | (go_simp; rfl)); intro gb323 hg w14 hbox hb; have n0_ := Aside0.mk (blk_below (g := gb319) (z1_ BK319.out) hb); have n1_ := Aside0.mk (below_step (z3_ HB.out) hb); have n2_ := Aside0.mk (hbox); have n3_ := Aside0.mk ((by rw [hg]; exact (below_size (z3_ HB.out)) : w.heap.size ≤ gb323)); have n4_ := Aside0.mk ((by rw [hg]; exact (below_size (z3_ HB.out)) : w.heap.size ≤ gb323)); have n5_ := Aside0.mk ((by rw [hg]; exact Nat.ne_of_lt (blk_lt (g := gb319) (o := .cells #[.int .i64 0, .bool false, .int .i64 0, .int .u64 0, .int .u64 0, .bool false] 24 (0, 0)) (z1_ BK319.out)) : gb319 ≠ gb323)); have n6_ := Aside0.mk ((by rw [hg]; exact Nat.ne_of_gt (blk_lt (g := gb319) (o := .cells #[.int .i64 0, .bool false, .int .i64 0, .int .u64 0, .int .u64 0, .bool false] 24 (0, 0)) (z1_ BK319.out)) : gb323 ≠ gb319)); clear BK319; clear HB; have BK319 := n0_; have HB := n1_; have BK323 := n2_; have GW323 := n3_; have GE323 := n4_; have NB319_323 := n5_; have NB323_319 := n6_; clear n0_ n1_ n2_ n3_ n4_ n5_ n6_; clear hb hbox hg; have hnb15 := NB323_319.out; have hnc15 := NB319_323.out; have hcz16_0 := z4_ BK323.out 0 (.int .u64 0) rfl; have hcz16_1 := z4_ BK323.out 1 (.int .u64 0) rfl; have hfz16_0 := blk_frozen BK323.out 0; have hfz16_1 := blk_frozen BK323.out 1; have hcz17_0 := z4_ BK319.out 0 (.int .i64 0) rfl; have hcz17_1 := z4_ BK319.out 1 (.bool false) rfl; have hcz17_2 := z4_ BK319.out 2 (.int .i64 0) rfl; have hcz17_3 := z4_ BK319.out 3 (.int .u64 0) rfl; have hcz17_4 := z4_ BK319.out 4 (.int .u64 0) rfl; have hcz17_5 := z4_ BK319.out 5 (.bool false) rfl; have hfz17_0 := blk_frozen BK319.out 0; have hfz17_1 := blk_frozen BK319.out 1; have hfz17_2 := blk_frozen BK319.out 2; have hfz17_3 := blk_frozen BK319.out 3; have hfz17_4 := blk_frozen BK319.out 4; have hfz17_5 := blk_frozen BK319.out 5))
     refine bodyPost_ret (results_ct rfl _ _ gb319 24 #[.int .i64 0, .bool false, .int .i64 0, .int .u64 0, .int .u64 0, .bool false] (0, 0) _ rfl (by refine z2_ ?_; refine blk_put (cs := #[.int .i64 0, .bool false, .int .i64 0, .int .u64 0, .int .u64 0, .bool false]) ?_ 5 _ rfl; refine z2_ ?_; refine blk_put (cs := #[.int .i64 0, .bool false, .int .i64 0, .int .u64 0, .int .u64 0, .bool false]) ?_ 4 _ rfl; refine z2_ ?_; refine blk_put (cs := #[.int .i64 0, .bool false, .int .i64 0, .int .u64 0, .int .u64 0, .bool false]) ?_ 3 _ rfl; refine z2_ ?_; refine blk_put (cs := #[.int .i64 0, .bool false, .int .i64 0, .int .u64 0, .int .u64 0, .bool false]) ?_ 2 _ rfl; refine z2_ ?_; refine blk_put (cs := #[.int .i64 0, .bool false, .int .i64 0, .int .u64 0, .int .u64 0, .bool false]) ?_ 1 _ rfl; refine z2_ ?_; refine blk_put (cs := #[.int .i64 0, .bool false, .int .i64 0, .int .u64 0, .int .u64 0, .bool false]) ?_ 0 _ rfl; refine z2_ ?_; refine blk_far ?_ NB319_323.out _; refine z2_ ?_; refine blk_far ?_ NB319_323.out _; refine z2_ ?_; exact BK319.out) Try.underlying24 rfl (by kernel_rfl)) rfl ?_
     exact ⟨by first | rfl | (simp [errW_none, errW_some] <;> rfl) | (simp [*, errW_none, errW_some] <;> rfl), by repeat (first | (with_reducible first | exact HB.out | apply below_alloc | apply pw_below_drewN | apply below_drew1 | refine below_set ?_ GE319.out | refine below_set ?_ GE323.out) | exact HB.out)⟩
    ·rw [if_neg c12] at H
     have c12b0 : (t320 == 0 && (t321 == 0)) = false := by simpa using c12
     (try (have c12b1 : decide (t320 = 0 && (t321 == 0)) = false := by simpa using c12))
     (try (have c12b2 : (t320 == 0 && (t321 == 0)) = false := by simpa using c12))
     (try (have c12b3 : ¬ (t320 = 0 && (t321 == 0)) := by simpa using c12))
     clear c12
     obtain ⟨ji18, hji18⟩ : ∃ j_ : Int, (mn a3 4398046511104) = j_ := ⟨_, rfl⟩
     replace H : ((round_held.f (wrap64 ((wrap64 ((mx (-4398046511104) (ji18)) + 127)) - t322))).bind fun t324 => (some (1, a0, t324, t320, t321, a4, none))) = some (r1, r2, r3, r4, r5, r6, r7) := by first | (rw [hji18] at H; exact H) | (simp only [hji18] at H ⊢; exact H)
     (try rw [hji18] at A11)
     (try (have hji18h : ji18 ≤ 4398046511104 := by (rw [← hji18]; unfold mn; (repeat' split) <;> omega)))
     (try (have hji18g : ji18 ≤ 64 := by omega))
     have hji18_ : (if 4398046511104 < a3 then 4398046511104 else a3) = ji18 := hji18
     obtain ⟨ji19, hji19⟩ : ∃ j_ : Int, (mx (-4398046511104) (ji18)) = j_ := ⟨_, rfl⟩
     replace H : ((round_held.f (wrap64 ((wrap64 ((ji19) + 127)) - t322))).bind fun t324 => (some (1, a0, t324, t320, t321, a4, none))) = some (r1, r2, r3, r4, r5, r6, r7) := by first | (rw [hji19] at H; exact H) | (simp only [hji19] at H ⊢; exact H)
     (try rw [hji19] at A11)
     (try (have hji19h : ji19 ≤ 4398046511104 := by (rw [← hji19]; unfold mx; (repeat' split) <;> omega)))
     (try (have hji19g : ji19 ≤ 64 := by omega))
     (try (have hji19l : (-4398046511104) ≤ ji19 := by (rw [← hji19]; unfold mx; (repeat' split) <;> omega)))
     have hji19_ : (if (-4398046511104) < (ji18) then (ji18) else (-4398046511104)) = ji19 := hji19
     replace H := Option.bind_eq_some_iff.mp H
     obtain ⟨t324, A200, H⟩ := H
     replace H : (some (1, a0, t324, t320, t321, a4, none)) = some (r1, r2, r3, r4, r5, r6, r7) := H
     have A20 := Aside0.mk A200
     clear A200
     simp only [Option.some.injEq, Prod.mk.injEq] at H
     obtain ⟨rfl, rfl, rfl, rfl, rfl, rfl, rfl⟩ := H
     try go_wp2_with (first | ((with_reducible refine gate_callee (f := 43) rfl ?_); refine goesL_ (some 26) rfl rfl Try.func43 (by kernel_rfl) rfl #[.agg #[.int .u64 a1, .int .u64 a2]] rfl z5_ ?_; (with_reducible refine (twin_Norm.calls a1 a2 t320 t321 t322 _ A11.out).mono ?_); rintro e w21 ⟨rfl, hb⟩; refine ⟨_, rfl, ?_⟩; have n0_ := Aside0.mk (blk_below (g := gb319) (z1_ BK319.out) hb); have n1_ := Aside0.mk (below_step (z3_ HB.out) hb); clear BK319; clear HB; have BK319 := n0_; have HB := n1_; clear n0_ n1_; (try clear hb); (try clear hb2); (try clear hk); (try clear hi)) | ((with_reducible refine gate_dst (N := 12) rfl ?_); refine box_event ?hg (N := 12) ?hd (cs := #[.int .u64 0, .int .u64 0]) (t := 64) ?hr ?_; (case hd => rfl); (case hg => rfl); (case hr => first | (go_simp; done) | (go_simp; rfl)); intro gb323 hg w22 hbox hb; have n0_ := Aside0.mk (blk_below (g := gb319) (z1_ BK319.out) hb); have n1_ := Aside0.mk (below_step (z3_ HB.out) hb); have n2_ := Aside0.mk (hbox); have n3_ := Aside0.mk ((by rw [hg]; exact (below_size (z3_ HB.out)) : w.heap.size ≤ gb323)); have n4_ := Aside0.mk ((by rw [hg]; exact (below_size (z3_ HB.out)) : w.heap.size ≤ gb323)); have n5_ := Aside0.mk ((by rw [hg]; exact Nat.ne_of_lt (blk_lt (g := gb319) (o := .cells #[.int .i64 0, .bool false, .int .i64 0, .int .u64 0, .int .u64 0, .bool false] 24 (0, 0)) (z1_ BK319.out)) : gb319 ≠ gb323)); have n6_ := Aside0.mk ((by rw [hg]; exact Nat.ne_of_gt (blk_lt (g := gb319) (o := .cells #[.int .i64 0, .bool false, .int .i64 0, .int .u64 0, .int .u64 0, .bool false] 24 (0, 0)) (z1_ BK319.out)) : gb323 ≠ gb319)); clear BK319; clear HB; have BK319 := n0_; have HB := n1_; have BK323 := n2_; have GW323 := n3_; have GE323 := n4_; have NB319_323 := n5_; have NB323_319 := n6_; clear n0_ n1_ n2_ n3_ n4_ n5_ n6_; clear hb hbox hg; have hnb23 := NB323_319.out; have hnc23 := NB319_323.out; have hcz24_0 := z4_ BK323.out 0 (.int .u64 0) rfl; have hcz24_1 := z4_ BK323.out 1 (.int .u64 0) rfl; have hfz24_0 := blk_frozen BK323.out 0; have hfz24_1 := blk_frozen BK323.out 1))
     have n0_ : Aside0 (((w22.setCell ⟨gb323, 0, none⟩ (.int .u64 t320)).setCell ⟨gb323, 1, none⟩ (.int .u64 t321)).heap[gb319]? = some (.cells #[.int .i64 0, .bool false, .int .i64 0, .int .u64 0, .int .u64 0, .bool false] 24 (0, 0))) := ⟨by refine z2_ ?_; refine blk_far ?_ NB319_323.out _; refine z2_ ?_; refine blk_far ?_ NB319_323.out _; refine z2_ ?_; exact BK319.out⟩
     have n1_ : Aside0 (((w22.setCell ⟨gb323, 0, none⟩ (.int .u64 t320)).setCell ⟨gb323, 1, none⟩ (.int .u64 t321)).heap[gb323]? = some (.cells #[.int .u64 t320, .int .u64 t321] 64 (0, 0))) := ⟨by refine z2_ ?_; refine blk_put (cs := #[.int .u64 t320, .int .u64 0]) ?_ 1 _ rfl; refine z2_ ?_; refine blk_put (cs := #[.int .u64 0, .int .u64 0]) ?_ 0 _ rfl; refine z2_ ?_; exact BK323.out⟩
     have n2_ : Aside0 (Below w.heap.size w ((w22.setCell ⟨gb323, 0, none⟩ (.int .u64 t320)).setCell ⟨gb323, 1, none⟩ (.int .u64 t321))) := ⟨by repeat (first | (with_reducible first | exact HB.out | apply below_alloc | apply pw_below_drewN | apply below_drew1 | refine below_set ?_ GE319.out | refine below_set ?_ GE323.out) | exact HB.out)⟩
     (try clear BK319)
     (try clear BK323)
     (try clear HB)
     generalize ((w22.setCell ⟨gb323, 0, none⟩ (.int .u64 t320)).setCell ⟨gb323, 1, none⟩ (.int .u64 t321)) = w25 at n0_ n1_ n2_ ⊢
     have BK319 := n0_
     have BK323 := n1_
     have HB := n2_
     clear n0_ n1_ n2_
     have n0_ := Aside0.mk (blk_drew BK319.out)
     have n1_ := Aside0.mk (blk_drew BK323.out)
     have n2_ := Aside0.mk (below_drew1 HB.out)
     clear BK319
     clear BK323
     clear HB
     have BK319 := n0_
     have BK323 := n1_
     have HB := n2_
     clear n0_ n1_ n2_
     refine start_ (n := 14) (S := fun w' => w'.cell? ⟨gb323, 0, none⟩ = some (.int .u64 t320) ∧ w'.cell? ⟨gb323, 1, none⟩ = some (.int .u64 t321)) (ds := []) #[false, false, false, false, false, false, false, false, false, false, false, false, false, false] (by kernel_rfl) rfl rfl ⟨(blk_cell BK323.out 0).trans rfl, (blk_cell BK323.out 1).trans rfl⟩ (fun hHeld => ?_); refine with_tabW round_Make.tab7 round_Make.bits7 (fun HT_ HW_ => ?_)
     generalize w25.drew = w26 at BK319 BK323 HB hHeld ⊢
     refine pure_ (i := 0) (N := some 36) (v := ?_) (a' := ?_) #[true, false, false, false, false, false, false, false, false, false, false, false, false, false] rfl rfl (any_of HT_.out (by kernel_rfl)) (fun _ _ _ h => h) (Or.inl ⟨by rfl, ?_⟩) ?_ ?_
     rotate_left
     ·intro w'
      go_simp
      with_reducible rfl
     rotate_left
     ·simp only [Act.put, List.setIfInBounds_toArray, List.set_cons_zero, List.set_cons_succ, i64_w, i32_w]
      rfl
     refine pure_ (i := 1) (N := some 37) (v := ?_) (a' := ?_) #[true, true, false, false, false, false, false, false, false, false, false, false, false, false] rfl rfl (any_of HT_.out (by kernel_rfl)) (fun _ _ _ h => h) (Or.inl ⟨by rfl, ?_⟩) ?_ ?_
     rotate_left
     ·intro w'
      go_simp
      with_reducible rfl
     rotate_left
     ·simp only [Act.put, List.setIfInBounds_toArray, List.set_cons_zero, List.set_cons_succ, i64_w, i32_w]
      rfl
     refine pure_ (i := 2) (N := some 38) (v := ?_) (a' := ?_) #[true, true, true, false, false, false, false, false, false, false, false, false, false, false] rfl rfl (any_of HT_.out (by kernel_rfl)) (fun _ _ _ h => h) (Or.inl ⟨by rfl, ?_⟩) ?_ ?_
     rotate_left
     ·intro w'
      go_simp
      with_reducible rfl
     rotate_left
     ·simp only [Act.put, List.setIfInBounds_toArray, List.set_cons_zero, List.set_cons_succ, i64_w, i32_w]
      rfl
     refine pure_ (i := 3) (N := some 39) (v := ?_) (a' := ?_) #[true, true, true, true, false, false, false, false, false, false, false, false, false, false] rfl rfl (any_of HT_.out (by kernel_rfl)) (fun _ _ _ h => h) (Or.inl ⟨by rfl, ?_⟩) ?_ ?_
     rotate_left
     ·intro w'
      go_simp
      with_reducible rfl
     rotate_left
     ·simp only [Act.put, List.setIfInBounds_toArray, List.set_cons_zero, List.set_cons_succ, i64_w, i32_w]
      rfl
     refine pure_ (i := 4) (N := some 40) (v := ?_) (a' := ?_) #[true, true, true, true, true, false, false, false, false, false, false, false, false, false] rfl rfl (any_of HT_.out (by kernel_rfl)) (fun _ _ _ h => h) (Or.inl ⟨by rfl, ?_⟩) ?_ ?_
     rotate_left
     ·intro w'
      go_simp
      with_reducible rfl
     rotate_left
     ·simp only [Act.put, List.setIfInBounds_toArray, List.set_cons_zero, List.set_cons_succ, i64_w, i32_w]
      rfl
     refine pure_ (i := 6) (N := some 42) (v := ?_) (a' := ?_) #[true, true, true, true, true, false, true, false, false, false, false, false, false, false] rfl rfl (any_of HT_.out (by kernel_rfl)) (fun _ _ _ h => h) (Or.inl ⟨by rfl, ?_⟩) ?_ ?_
     rotate_left
     ·intro w'
      go_simp
      with_reducible rfl
     rotate_left
     ·simp only [Act.put, List.setIfInBounds_toArray, List.set_cons_zero, List.set_cons_succ, i64_w, i32_w]
      rfl
     refine pure_ (i := 8) (N := some 44) (v := ?_) (a' := ?_) #[true, true, true, true, true, false, true, false, true, false, false, false, false, false] rfl rfl (any_of HT_.out (by kernel_rfl)) (fun _ _ _ h => h) (Or.inl ⟨by rfl, ?_⟩) ?_ ?_
     rotate_left
     ·intro w'
      go_simp
      with_reducible rfl
     rotate_left
     ·simp only [Act.put, List.setIfInBounds_toArray, List.set_cons_zero, List.set_cons_succ, i64_w, i32_w]
      rfl
     refine pure_ (i := 10) (N := some 46) (v := ?_) (a' := ?_) #[true, true, true, true, true, false, true, false, true, false, true, false, false, false] rfl rfl (any_of HT_.out (by kernel_rfl)) (fun _ _ _ h => h) (Or.inl ⟨by rfl, ?_⟩) ?_ ?_
     rotate_left
     ·intro w'
      go_simp
      with_reducible rfl
     rotate_left
     ·simp only [Act.put, List.setIfInBounds_toArray, List.set_cons_zero, List.set_cons_succ, i64_w, i32_w]
      rfl
     refine take_ (i := 7) (N := some 43) (v := ?_) (a' := ?_) #[true, true, true, true, true, false, true, true, true, false, true, false, false, false] rfl rfl (take_ofW HT_.out HW_.out (by kernel_rfl)) (fun _ _ _ h => h) (Or.inl ⟨by rfl, ?_⟩) hHeld ?_ ?_
     rotate_left
     ·rintro w' ⟨s0, s1⟩
      go_simp
      with_reducible rfl
     rotate_left
     ·simp only [Act.put, List.setIfInBounds_toArray, List.set_cons_zero, List.set_cons_succ, i64_w, i32_w]
      rfl
     refine take_ (i := 9) (N := some 45) (v := ?_) (a' := ?_) #[true, true, true, true, true, false, true, true, true, true, true, false, false, false] rfl rfl (take_ofW HT_.out HW_.out (by kernel_rfl)) (fun _ _ _ h => h) (Or.inl ⟨by rfl, ?_⟩) hHeld ?_ ?_
     rotate_left
     ·rintro w' ⟨s0, s1⟩
      go_simp
      with_reducible rfl
     rotate_left
     ·simp only [Act.put, List.setIfInBounds_toArray, List.set_cons_zero, List.set_cons_succ, i64_w, i32_w]
      rfl
     refine one_ (i := 5) (N := some 41) #[true, true, true, true, true, true, true, true, true, true, true, false, false, false] rfl rfl (one_of HT_.out (by kernel_rfl)) (by decide) (fun K hK => ?_)
     refine goes_ Try.func44 (by kernel_rfl) rfl #[.int .i64 (wrap64 ((wrap64 ((ji19) + 127)) - t322))] (by rfl) rfl rfl (by (try simp only [List.map_toArray, List.map_cons, List.map_nil]); first | done | (simp only [hji19]; rfl) | rfl | (simp only [List.length_drop, List.length_take]; rfl)) ?_
     with_reducible refine (round_held.calls (wrap64 ((wrap64 ((ji19) + 127)) - t322)) t324 _ A20.out).mono ?_
     rintro e w27 ⟨rfl, hb⟩
     refine ⟨_, rfl, ?_⟩
     have n0_ := Aside0.mk (blk_below (g := gb319) (z1_ BK319.out) hb)
     have n1_ := Aside0.mk (blk_below (g := gb323) (z1_ BK323.out) hb)
     have n2_ := Aside0.mk (below_step (z3_ HB.out) hb)
     clear BK319
     clear BK323
     clear HB
     have BK319 := n0_
     have BK323 := n1_
     have HB := n2_
     clear n0_ n1_ n2_
     (try clear hb)
     (try clear hb2)
     (try clear hk)
     (try clear hi)
     refine hK.out _ _ ⟨(blk_cell BK323.out 0).trans rfl, (blk_cell BK323.out 1).trans rfl⟩ (fun hHeld => ?_)
     clear hK K
     refine norm_ (a' := ?_) ?_ ?_
     rotate_left
     ·show Act.put _ (some 41) _ = _
      simp only [Act.put, List.setIfInBounds_toArray, List.set_cons_zero, List.set_cons_succ, i64_w, i32_w]
      rfl
     refine pure_ (i := 11) (N := some 47) (v := ?_) (a' := ?_) #[true, true, true, true, true, true, true, true, true, true, true, true, false, false] rfl rfl (any_of HT_.out (by kernel_rfl)) (fun _ _ _ h => h) (Or.inl ⟨by rfl, ?_⟩) ?_ ?_
     rotate_left
     ·intro w'
      go_simp
      with_reducible rfl
     rotate_left
     ·simp only [Act.put, List.setIfInBounds_toArray, List.set_cons_zero, List.set_cons_succ, i64_w, i32_w]
      rfl
     refine one_ (i := 12) (N := none) #[true, true, true, true, true, true, true, true, true, true, true, true, true, false] rfl rfl (one_of HT_.out (by kernel_rfl)) (by decide) (fun K hK => ?_)
     have hs28 : w27.cell? ⟨gb319, 0, none⟩ = some (.int .i64 0) := (blk_cell BK319.out 0).trans rfl
     have hfs28 := blk_frozen BK319.out 0
     have hns28_1 := NB323_319.out
     have hms28_1 := NB319_323.out
     have hs29 : w27.cell? ⟨gb319, 1, none⟩ = some (.bool false) := (blk_cell BK319.out 1).trans rfl
     have hfs29 := blk_frozen BK319.out 1
     have hns29_1 := NB323_319.out
     have hms29_1 := NB319_323.out
     have hs30 : w27.cell? ⟨gb319, 2, none⟩ = some (.int .i64 0) := (blk_cell BK319.out 2).trans rfl
     have hfs30 := blk_frozen BK319.out 2
     have hns30_1 := NB323_319.out
     have hms30_1 := NB319_323.out
     have hs31 : w27.cell? ⟨gb319, 3, none⟩ = some (.int .u64 0) := (blk_cell BK319.out 3).trans rfl
     have hfs31 := blk_frozen BK319.out 3
     have hns31_1 := NB323_319.out
     have hms31_1 := NB319_323.out
     have hs32 : w27.cell? ⟨gb319, 4, none⟩ = some (.int .u64 0) := (blk_cell BK319.out 4).trans rfl
     have hfs32 := blk_frozen BK319.out 4
     have hns32_1 := NB323_319.out
     have hms32_1 := NB319_323.out
     have hs33 : w27.cell? ⟨gb319, 5, none⟩ = some (.bool false) := (blk_cell BK319.out 5).trans rfl
     have hfs33 := blk_frozen BK319.out 5
     have hns33_1 := NB323_319.out
     have hms33_1 := NB319_323.out
     refine skip_ (w1 := ?_) (by rfl) rfl ?_ ?_
     rotate_left
     ·go_simp
      rfl
     refine hK.out _ _ ⟨((cell_far (p := ⟨gb319, _, none⟩) NB323_319.out _).trans (((cell_far (p := ⟨gb319, _, none⟩) NB323_319.out _).trans (((cell_far (p := ⟨gb319, _, none⟩) NB323_319.out _).trans (((cell_far (p := ⟨gb319, _, none⟩) NB323_319.out _).trans (((cell_far (p := ⟨gb319, _, none⟩) NB323_319.out _).trans (((cell_far (p := ⟨gb319, _, none⟩) NB323_319.out _).trans (hHeld.1)))))))))))), ((cell_far (p := ⟨gb319, _, none⟩) NB323_319.out _).trans (((cell_far (p := ⟨gb319, _, none⟩) NB323_319.out _).trans (((cell_far (p := ⟨gb319, _, none⟩) NB323_319.out _).trans (((cell_far (p := ⟨gb319, _, none⟩) NB323_319.out _).trans (((cell_far (p := ⟨gb319, _, none⟩) NB323_319.out _).trans (((cell_far (p := ⟨gb319, _, none⟩) NB323_319.out _).trans (hHeld.2))))))))))))⟩ (fun hHeld => ?_)
     clear hK K
     refine pure_ (i := 13) (N := some 11) (v := ?_) (a' := ?_) #[true, true, true, true, true, true, true, true, true, true, true, true, true, true] rfl rfl (any_of HT_.out (by kernel_rfl)) (fun _ _ _ h => h) (Or.inl ⟨by rfl, ?_⟩) ?_ ?_
     rotate_left
     ·intro w'
      go_simp
      with_reducible rfl
     rotate_left
     ·simp only [Act.put, List.setIfInBounds_toArray, List.set_cons_zero, List.set_cons_succ, i64_w, i32_w]
      rfl
     refine done_ (done_of HT_.out (by kernel_rfl)) ?_
     try go_wp2
     refine bodyPost_ret (results_ct rfl _ _ gb319 24 #[.int .i64 1, .bool a0, .int .i64 t324, .int .u64 t320, .int .u64 t321, .bool a4] (0, 0) _ rfl (by refine z2_ ?_; refine blk_put (cs := #[.int .i64 1, .bool a0, .int .i64 t324, .int .u64 t320, .int .u64 t321, .bool false]) ?_ 5 _ rfl; refine z2_ ?_; refine blk_put (cs := #[.int .i64 1, .bool a0, .int .i64 t324, .int .u64 t320, .int .u64 0, .bool false]) ?_ 4 _ rfl; refine z2_ ?_; refine blk_put (cs := #[.int .i64 1, .bool a0, .int .i64 t324, .int .u64 0, .int .u64 0, .bool false]) ?_ 3 _ rfl; refine z2_ ?_; refine blk_put (cs := #[.int .i64 1, .bool a0, .int .i64 0, .int .u64 0, .int .u64 0, .bool false]) ?_ 2 _ rfl; refine z2_ ?_; refine blk_put (cs := #[.int .i64 1, .bool false, .int .i64 0, .int .u64 0, .int .u64 0, .bool false]) ?_ 1 _ rfl; refine z2_ ?_; refine blk_put (cs := #[.int .i64 0, .bool false, .int .i64 0, .int .u64 0, .int .u64 0, .bool false]) ?_ 0 _ rfl; refine z2_ ?_; exact BK319.out) Try.underlying24 rfl (by kernel_rfl)) rfl ?_
     exact ⟨by first | rfl | (simp [errW_none, errW_some] <;> rfl) | (simp only [← hji18, ← hji19]; first | rfl | (simp [errW_none, errW_some] <;> rfl)) | (simp [*, errW_none, errW_some] <;> rfl), by repeat (first | (with_reducible first | exact HB.out | apply below_alloc | apply pw_below_drewN | apply below_drew1 | refine below_set ?_ GE319.out | refine below_set ?_ GE323.out) | exact HB.out)⟩
end Go.Proofs.Ytfegofnplcmacaa.PAll
namespace Go.Proofs.Ytfegofnplcmacaa.V
open Go Go.RowKit Go.Proofs.YtfegofnplcmacaaW.PrintWords Go.Proofs.YtfegofnplcmacaaW.PrintLast Go.Proofs.YtfegofnplcmacaaW.PrintMore Go.Proofs.Ytfegofnplcmacaa.PAll
set_option linter.unusedVariables false
set_option linter.unusedSimpArgs false
def isW (n : Int) : Bool := n == 8 || n == 16 || n == 32 || n == 64
theorem isW_cases {n : Int} (h : isW n = true) : n = 8 ∨ n = 16 ∨ n = 32 ∨ n = 64 := by
  unfold isW at h; simp at h; omega
theorem shape_is_eq (n : Int) : shape_is.f n = some (isW n) := by
  unfold shape_is.f isW
  by_cases h1 : n = 8
  · simp [h1]
  · by_cases h2 : n = 16
    · simp [h2]
    · by_cases h3 : n = 32
      · simp [h3]
      · by_cases h4 : n = 64
        · simp [h4]
        · simp [h1, h2, h3, h4]
theorem shape_Of_eq {n : Nat} (h : isW n = true) : shape_Of.f n = some ((n : Int), ((2 ^ (n - 1) - 1 : Nat) : Int), 1, ((2 ^ (n - 1) : Nat) : Int), 4 * (n : Int) - 8, none) := by
  unfold shape_Of.f
  rw [shape_is_eq, h]
  have h' : n = 8 ∨ n = 16 ∨ n = 32 ∨ n = 64 := by have := isW_cases h; omega
  rcases h' with rfl | rfl | rfl | rfl <;> decide +kernel
def soundE (kd : Int) (ng : Bool) (sc hi lo : Int) (rs : Bool) : Bool :=
  if kd = 0 ∨ kd = 2 then (!ng && (sc == 0 && (hi == 0 && (lo == 0 && !rs))))
  else decide (kd = 1 ∧ 9223372036854775808 ≤ hi ∧ -1099511627776 ≤ sc ∧ sc ≤ 1099511627776)
def heldI (s : Int) : Int := if s < -1099511627776 then -1099511627776 else if 1099511627776 < s then 1099511627776 else s
theorem round_held_eq (s : Int) : round_held.f s = some (heldI s) := by
  unfold round_held.f heldI mx mn
  congr 1
  repeat' split
  all_goals omega
theorem round_sound_eq (kd : Int) (ng : Bool) (sc hi lo : Int) (rs : Bool) (h : hi < 18446744073709551616) (h0 : 0 ≤ hi) :
    Ev (fun k => round_sound.f k kd ng sc hi lo rs) (soundE kd ng sc hi lo rs) := by
  unfold round_sound.f soundE
  by_cases h0 : kd = 0
  · simp only [if_pos h0, if_pos (Or.inl h0 : kd = 0 ∨ kd = 2)]
    refine Ev.step (f := fun _ => _) (fun k => by simp only [round_sound.j0]; rw [if_pos (by simp [h0])]) (Ev.now _)
  · simp only [if_neg h0]
    by_cases h2 : kd = 2
    · simp only [if_pos (Or.inr h2 : kd = 0 ∨ kd = 2)]
      refine Ev.step (f := fun _ => _) (fun k => by simp only [round_sound.j0]; rw [if_pos (by simp [h2])]) (Ev.now _)
    · simp only [if_neg (show ¬ (kd = 0 ∨ kd = 2) by omega)]
      refine Ev.step (f := fun _ => _) (fun k => by simp only [round_sound.j0]; rw [if_neg (by simp [h2])]) ?_
      simp only [round_held_eq, Option.bind_some]
      refine Ev.congr (f := fun _ => some _) (fun _ => ?_) (Ev.now _)
      by_cases h1 : kd = 1
      · rw [if_pos h1]
        by_cases h3 : hi / 9223372036854775808 = 1
        · rw [if_pos h3]
          congr 1
          rw [Bool.eq_iff_iff]
          simp only [beq_iff_eq, decide_eq_true_eq, heldI]
          split
          · omega
          · split <;> omega
        · rw [if_neg h3]
          congr 1
          symm
          rw [decide_eq_false_iff_not]
          omega
      · rw [if_neg h1]
        congr 1
        symm
        rw [decide_eq_false_iff_not]
        omega
theorem round_under_eq (X a b m : Nat) (R : Bool) (hX : X < 2 ^ (128 + a)) (hb : b < 2 ^ m) (hm : m ≤ 64) :
    round_under.f (TH (X / 2 ^ a)) (TL (X / 2 ^ a)) (b : Int) (m : Int) (R || decide (X % 2 ^ a ≠ 0)) =
      some (TH ((b * 2 ^ (128 + a) + X) / 2 ^ (a + m)), TL ((b * 2 ^ (128 + a) + X) / 2 ^ (a + m)), R || decide ((b * 2 ^ (128 + a) + X) % 2 ^ (a + m) ≠ 0)) := by
  unfold round_under.f
  have pa := two_pos a
  have pm := two_pos m
  have hw : X / 2 ^ a < 2 ^ 128 := by rw [Nat.div_lt_iff_lt_mul pa, ← Nat.pow_add]; exact hX
  rw [twin_Shr_eq _ m hw (by omega)]
  simp only [Option.bind_some]
  rw [w64 (by omega) (by omega), if_pos (by omega)]
  have e64 : (64 - (m : Int)) = ((64 - m : Nat) : Int) := by omega
  rw [e64, shl_nat _ _ (by omega)]
  -- the new string's upper bits
  have s := pow_split hm
  have hbl : b * 2 ^ (64 - m) < 2 ^ 64 := by rw [← s]; exact Nat.mul_lt_mul_of_pos_right hb (two_pos _)
  rw [Nat.mod_eq_of_lt (show b * 2 ^ (64 - m) < 18446744073709551616 by rw [← p64]; exact hbl)]
  generalize hw2 : X / 2 ^ a = w at hw
  have e1 : (b * 2 ^ (128 + a) + X) / 2 ^ (a + m) = b * 2 ^ (128 - m) + w / 2 ^ m := by
    have s1 : b * 2 ^ (128 + a) = b * 2 ^ (128 - m) * 2 ^ (a + m) := by
      rw [Nat.mul_assoc, ← Nat.pow_add]; congr 2; omega
    rw [s1, Nat.add_comm, Nat.add_mul_div_right _ _ (two_pos _), Nat.pow_add, ← Nat.div_div_eq_div_mul, hw2, Nat.add_comm]
  have hwm : w / 2 ^ m < 2 ^ (128 - m) := by
    rw [Nat.div_lt_iff_lt_mul pm, Nat.mul_comm, pow_split (by omega)]; exact hw
  have e2 : b * 2 ^ (128 - m) = b * 2 ^ (64 - m) * 18446744073709551616 := by
    rw [← p64, Nat.mul_assoc, ← Nat.pow_add]; congr 2; omega
  have hq : w / 2 ^ m / 18446744073709551616 < 2 ^ (64 - m) := by
    rw [← p64, Nat.div_lt_iff_lt_mul (two_pos 64), ← Nat.pow_add]
    exact Nat.lt_of_lt_of_eq hwm (by congr 1; omega)
  have hor : Go.bits .or .u64 (TH (w / 2 ^ m)) ((b * 2 ^ (64 - m) : Nat) : Int) = TH (b * 2 ^ (128 - m) + w / 2 ^ m) := by
    unfold TH
    have hlt : w / 2 ^ m / 18446744073709551616 < 18446744073709551616 := Nat.lt_of_lt_of_le hq (by rw [← p64]; exact pow_le (by omega))
    rw [or_nat _ _ hlt (by rw [← p64]; exact hbl), Nat.or_comm, or_parts hq, e2]
    congr 1
    omega
  have hlo : TL (w / 2 ^ m) = TL (b * 2 ^ (128 - m) + w / 2 ^ m) := by unfold TL; rw [e2]; congr 1; omega
  have e3 : decide ((b * 2 ^ (128 + a) + X) % 2 ^ (a + m) ≠ 0) = (decide (X % 2 ^ a ≠ 0) || decide (w % 2 ^ m ≠ 0)) := by
    have s1 : b * 2 ^ (128 + a) = b * 2 ^ (128 - m) * 2 ^ (a + m) := by
      rw [Nat.mul_assoc, ← Nat.pow_add]; congr 2; omega
    have s2 : (b * 2 ^ (128 + a) + X) % 2 ^ (a + m) = X % 2 ^ (a + m) := by rw [s1, Nat.mul_add_mod_self_right]
    have s3 : X % 2 ^ (a + m) = 2 ^ a * (w % 2 ^ m) + X % 2 ^ a := by
      rw [Nat.pow_add, Nat.mod_mul, hw2, Nat.add_comm]
    rw [s2, s3, Bool.eq_iff_iff]
    simp only [Bool.or_eq_true, decide_eq_true_eq]
    have hz : 2 ^ a * (w % 2 ^ m) = 0 ↔ w % 2 ^ m = 0 := by
      rw [Nat.mul_eq_zero]; constructor
      · rintro (h | h)
        · omega
        · exact h
      · exact .inr
    omega
  rw [hor, hlo, e1, e3]
  cases R <;> by_cases hd : X % 2 ^ a = 0 <;> simp [hd]
theorem round_left_eq (b : Nat) (R : Bool) (hb : b < 18446744073709551616) : Ev (fun k => round_left.f k (b : Int) R) (lft b 64 R) := by
  unfold round_left.f lft
  rw [p64]
  by_cases h1 : (b : Int) > 9223372036854775808
  · simp only [if_pos h1, if_pos (show 18446744073709551616 < 2 * b by omega)]
    exact Ev.step (f := fun _ => some 3) (fun k => by simp only [round_left.j0]; rw [if_pos (by simpa using h1)]) (Ev.now _)
  · simp only [if_neg h1, if_neg (show ¬ 18446744073709551616 < 2 * b by omega)]
    by_cases h2 : (b : Int) = 9223372036854775808
    · simp only [if_pos h2, if_pos (show 2 * b = 18446744073709551616 by omega)]
      refine evs ?_
      simp only [round_left.j0]
      refine evn ?_
      cases R
      · simp [h2]
      · simp
    · simp only [if_neg h2, if_neg (show ¬ 2 * b = 18446744073709551616 by omega)]
      refine evs ?_
      simp only [round_left.j0]
      refine evn ?_
      by_cases h3 : 0 < b
      · rw [if_neg (by simp), if_neg h2, if_pos (by omega), if_pos h3]
      · rw [if_neg (by simp), if_neg h2, if_neg (by omega), if_neg h3]
        cases R <;> simp
theorem round_Cut_j3 (n X a : Nat) (R : Bool) (h8 : 8 ≤ n) (h64 : n ≤ 64) (hX : X < 2 ^ (128 + a)) :
    Ev (fun k => round_Cut.j3 k (n : Int) (R || decide (X % 2 ^ a ≠ 0)) (TH (X / 2 ^ a)) (TL (X / 2 ^ a)))
      (((X / 2 ^ (129 - n + a) : Nat) : Int), lft (X % 2 ^ (129 - n + a)) (129 - n + a) R, none) := by
  have pa := two_pos a
  have hw : X / 2 ^ a < 2 ^ 128 := by rw [Nat.div_lt_iff_lt_mul pa, ← Nat.pow_add]; exact hX
  generalize hw2 : X / 2 ^ a = w at hw
  refine evs ?_
  simp only [round_Cut.j3]
  have e1 : wrap64 (65 - (n : Int)) = ((65 - n : Nat) : Int) := by rw [w64 (by omega) (by omega)]; omega
  have e2 : wrap64 ((n : Int) - 1) = ((n - 1 : Nat) : Int) := by rw [w64 (by omega) (by omega)]; omega
  simp only [e1, e2, if_pos (show (0 : Int) ≤ ((65 - n : Nat) : Int) by omega)]
  simp only [twin_Shl_eq w (n - 1) hw (by omega), Option.bind_some]
  -- what is behind
  have hsplit : w * 2 ^ (n - 1) % 2 ^ 128 = w % 2 ^ (129 - n) * 2 ^ (n - 1) := by
    have e : (2 : Nat) ^ 128 = 2 ^ (129 - n) * 2 ^ (n - 1) := by rw [← Nat.pow_add]; congr 1; omega
    rw [e, Nat.mul_mod_mul_right]
  generalize hb : w * 2 ^ (n - 1) % 2 ^ 128 = bh at hsplit
  have hbh : bh < 340282366920938463463374607431768211456 := by rw [← hb, ← p128]; exact Nat.mod_lt _ (two_pos 128)
  have hP : shr .u64 (TH w) ((65 - n : Nat) : Int) = ((X / 2 ^ (129 - n + a) : Nat) : Int) := by
    unfold TH
    rw [shr_nat _ _ (by omega), ← p64, div_div_pow, ← hw2, div_div_pow]
    congr 3; omega
  have hL : ∀ R' : Bool, R' = (R || decide (X % 2 ^ a ≠ 0)) → lft (bh / 18446744073709551616) 64 (R' || decide (bh % 18446744073709551616 ≠ 0)) = lft (X % 2 ^ (129 - n + a)) (129 - n + a) R := by
    intro R' hR
    have a1 := lft_split (bh / 18446744073709551616) (bh % 18446744073709551616) 64 64 R' (by rw [p64]; omega) (by omega)
    rw [p64, show bh / 18446744073709551616 * 18446744073709551616 + bh % 18446744073709551616 = bh by omega] at a1
    rw [← a1, hsplit, show 64 + 64 = (129 - n) + (n - 1) by omega, lft_scale _ _ _ _ (by omega), hR]
    have a2 := lft_split (w % 2 ^ (129 - n)) (X % 2 ^ a) a (129 - n) R (Nat.mod_lt _ pa) (by omega)
    rw [← a2]
    congr 1
    rw [Nat.add_comm (129 - n) a, Nat.pow_add, Nat.mod_mul, hw2, Nat.mul_comm, Nat.add_comm]
  by_cases h0 : TL bh = 0
  · simp only [if_pos h0]
    have hz : bh % 18446744073709551616 = 0 := by unfold TL at h0; omega
    have hl := hL _ rfl
    rw [hz] at hl
    simp only [ne_eq, not_true_eq_false, decide_false, Bool.or_false] at hl
    refine Ev.bind (a := lft (bh / 18446744073709551616) 64 (R || decide (X % 2 ^ a ≠ 0))) ?_ ?_
    · exact round_left_eq (bh / 18446744073709551616) _ (by omega)
    · rw [hP]
      simp only [ne_eq] at hl ⊢
      rw [hl]
      exact Ev.now _
  · simp only [if_neg h0]
    have hz : bh % 18446744073709551616 ≠ 0 := by unfold TL at h0; omega
    have hl := hL _ rfl
    rw [decide_eq_true hz, Bool.or_true] at hl
    refine Ev.bind (a := lft (bh / 18446744073709551616) 64 true) ?_ ?_
    · exact round_left_eq (bh / 18446744073709551616) _ (by omega)
    · rw [hP, hl]
      exact Ev.now _
theorem round_Cut_l0 (n : Nat) (R : Bool) (b : Nat) (h8 : 8 ≤ n) (h64 : n ≤ 64) (hb : b ≤ 64) : ∀ (d i X a : Nat), i + d = b → X < 2 ^ (128 + a) →
    Ev (fun k => round_Cut.l0 k (n : Int) (R || decide (X % 2 ^ a ≠ 0)) (b : Int) (i : Int) (TH (X / 2 ^ a)) (TL (X / 2 ^ a)))
      ((((((2 ^ d - 1) * 2 ^ (128 + a) + X) / 2 ^ (129 - n + (a + d)) : Nat)) : Int), lft (((2 ^ d - 1) * 2 ^ (128 + a) + X) % 2 ^ (129 - n + (a + d))) (129 - n + (a + d)) R, none)
  | 0, i, X, a, hi, hX => by
    refine evs ?_
    simp only [round_Cut.l0]
    simp only [if_neg (show ¬ (i : Int) < (b : Int) by omega)]
    have := round_Cut_j3 n X a R h8 h64 hX
    simpa using this
  | d + 1, i, X, a, hi, hX => by
    refine evs ?_
    simp only [round_Cut.l0]
    simp only [if_pos (show (i : Int) < (b : Int) by omega)]
    have u := round_under_eq X a 1 1 R hX (by decide) (by decide)
    simp only [Nat.one_mul] at u
    have u' : round_under.f (TH (X / 2 ^ a)) (TL (X / 2 ^ a)) 1 1 (R || decide (X % 2 ^ a ≠ 0)) = _ := u
    simp only [u', Option.bind_some]
    have e : wrap64 ((i : Int) + 1) = ((i + 1 : Nat) : Int) := by rw [w64 (by omega) (by omega)]; omega
    rw [e]
    have hX' : 2 ^ (128 + a) + X < 2 ^ (128 + (a + 1)) := by
      rw [show 128 + (a + 1) = 128 + a + 1 by omega, Nat.pow_succ]; omega
    have ih := round_Cut_l0 n R b h8 h64 hb d (i + 1) (2 ^ (128 + a) + X) (a + 1) (by omega) hX'
    have e2 : (2 ^ d - 1) * 2 ^ (128 + (a + 1)) + (2 ^ (128 + a) + X) = (2 ^ (d + 1) - 1) * 2 ^ (128 + a) + X := by
      have p := two_pos d
      obtain ⟨q, hq⟩ : ∃ q, 2 ^ d = q + 1 := ⟨2 ^ d - 1, by omega⟩
      rw [show 128 + (a + 1) = 128 + a + 1 by omega, Nat.pow_succ 2 (128 + a), Nat.pow_succ 2 d, hq]
      generalize 2 ^ (128 + a) = Z
      rw [show (q + 1) * 2 - 1 = 2 * q + 1 by omega, show q + 1 - 1 = q by omega]
      grind
    rw [e2, show a + 1 + d = a + (d + 1) by omega] at ih
    exact ih
theorem round_Cut_l1 (n : Nat) (R : Bool) (b : Nat) (h8 : 8 ≤ n) (h64 : n ≤ 64) (hb : b ≤ 64) : ∀ (d i X a : Nat), i + d = b → X < 2 ^ (128 + a) →
    Ev (fun k => round_Cut.l1 k (n : Int) (R || decide (X % 2 ^ a ≠ 0)) (b : Int) (i : Int) (TH (X / 2 ^ a)) (TL (X / 2 ^ a)))
      (((X / 2 ^ (129 - n + (a + d)) : Nat) : Int), lft (X % 2 ^ (129 - n + (a + d))) (129 - n + (a + d)) R, none)
  | 0, i, X, a, hi, hX => by
    refine evs ?_
    simp only [round_Cut.l1]
    simp only [if_neg (show ¬ (i : Int) < (b : Int) by omega)]
    exact round_Cut_j3 n X a R h8 h64 hX
  | d + 1, i, X, a, hi, hX => by
    refine evs ?_
    simp only [round_Cut.l1]
    simp only [if_pos (show (i : Int) < (b : Int) by omega)]
    have u := round_under_eq X a 0 1 R hX (by decide) (by decide)
    simp only [Nat.zero_mul, Nat.zero_add] at u
    have u' : round_under.f (TH (X / 2 ^ a)) (TL (X / 2 ^ a)) 0 1 (R || decide (X % 2 ^ a ≠ 0)) = _ := u
    simp only [u', Option.bind_some]
    have e : wrap64 ((i : Int) + 1) = ((i + 1 : Nat) : Int) := by rw [w64 (by omega) (by omega)]; omega
    rw [e]
    have hX' : X < 2 ^ (128 + (a + 1)) := Nat.lt_of_lt_of_le hX (pow_le (by omega))
    have ih := round_Cut_l1 n R b h8 h64 hb d (i + 1) X (a + 1) (by omega) hX'
    rw [show a + 1 + d = a + (d + 1) by omega] at ih
    exact ih
theorem round_Cut_j0_eq (n f : Nat) (kd : Int) (ng : Bool) (s : Int) (R : Bool) (hn : isW n = true) (h0 : -(4 * (n : Int) - 8) ≤ s) (h1 : s < 4 * (n : Int) - 8) (hf : f < 2 ^ 127) :
    Ev (fun k => round_Cut.j0 k (n : Int) kd ng s (TH (2 ^ 127 + f)) (TL (2 ^ 127 + f)) R) (((cutP n (sig s f) : Nat) : Int), cutL n (sig s f) R, none) := by
  have hn' : n = 8 ∨ n = 16 ∨ n = 32 ∨ n = 64 := by have := isW_cases hn; omega
  have h8 : 8 ≤ n := by omega
  have h64 : n ≤ 64 := by omega
  have hV : 2 ^ 127 + f < 2 ^ 128 := by rw [show (2 : Nat) ^ 128 = 2 * 2 ^ 127 by decide]; omega
  refine evs ?_
  simp only [round_Cut.j0]
  have s1 := twin_Shl_eq (2 ^ 127 + f) 1 hV (by decide)
  have m1 : (2 ^ 127 + f) * 2 ^ 1 % 2 ^ 128 = 2 * f := by rw [p127, p128] at *; omega
  rw [m1] at s1
  have s1' : twin_Shl.f (TH (2 ^ 127 + f)) (TL (2 ^ 127 + f)) 1 = _ := s1
  simp only [s1', Option.bind_some]
  have e4 : IntKind.u64.wrap (Go.bits .and .i64 s 3) = (((s % 4).toNat : Nat) : Int) := by rw [and_i64_3, u64_of (by omega) (by omega)]; omega
  rw [e4]
  generalize he : (s % 4).toNat = e
  have he4 : e < 2 ^ 2 := by have : (2 : Nat) ^ 2 = 4 := by decide
                             omega
  have hX0 : 2 * f < 2 ^ (128 + 0) := by rw [show (2 : Nat) ^ (128 + 0) = 2 * 2 ^ 127 by decide]; omega
  have u1 := round_under_eq (2 * f) 0 e 2 R hX0 he4 (by decide)
  simp only [Nat.pow_zero, Nat.div_one, Nat.mod_one, ne_eq, not_true_eq_false, decide_false, Bool.or_false, Nat.zero_add, Nat.add_zero] at u1
  have u1' : round_under.f (TH (2 * f)) (TL (2 * f)) (e : Int) 2 R = _ := u1
  simp only [u1', Option.bind_some]
  have hX1 : e * 2 ^ 128 + 2 * f < 2 ^ (128 + 2) := by
    have : (e + 1) * 2 ^ 128 ≤ 2 ^ 2 * 2 ^ 128 := Nat.mul_le_mul_right _ he4
    rw [Nat.add_mul] at this
    rw [show (2 : Nat) ^ (128 + 2) = 2 ^ 2 * 2 ^ 128 by decide]
    simp only [Nat.add_zero] at hX0
    omega
  by_cases hk : s / 4 ≥ 0
  · simp only [if_pos hk]
    have u2 := round_under_eq (e * 2 ^ 128 + 2 * f) 2 0 1 R hX1 (by decide) (by decide)
    simp only [Nat.zero_mul, Nat.zero_add] at u2
    have u2' : round_under.f (TH ((e * 2 ^ 128 + 2 * f) / 2 ^ 2)) (TL ((e * 2 ^ 128 + 2 * f) / 2 ^ 2)) 0 1 (R || decide (¬(e * 2 ^ 128 + 2 * f) % 2 ^ 2 = 0)) = _ := u2
    simp only [u2', Option.bind_some]
    generalize hq : (s / 4).toNat = q
    have hq61 : q ≤ 61 := by omega
    have ew : wrap64 (s / 4 + 1) = ((q + 1 : Nat) : Int) := by rw [w64 (by omega) (by omega)]; omega
    rw [ew]
    have l := round_Cut_l0 n R (q + 1) h8 h64 (by omega) (q + 1) 0 (e * 2 ^ 128 + 2 * f) 3 (by omega) (Nat.lt_of_lt_of_le hX1 (pow_le (by decide)))
    have c := cut_of n ((2 ^ (q + 1) - 1) * 2 ^ (128 + 3) + (e * 2 ^ 128 + 2 * f)) (129 - n + (3 + (q + 1))) (68 - q) R h64 (by omega) (by omega)
    have es : sig s f = ((2 ^ (q + 1) - 1) * 2 ^ (128 + 3) + (e * 2 ^ 128 + 2 * f)) * 2 ^ (68 - q) := by
      unfold sig
      rw [if_pos hk, hq, he, show 69 - q = 1 + (68 - q) by omega, Nat.pow_add 2 1, ← Nat.mul_assoc]
      congr 1
      rw [show (2 : Nat) ^ (128 + 3) = 2 ^ 130 * 2 by decide, show (2 : Nat) ^ 128 = 2 ^ 127 * 2 by decide]
      generalize 2 ^ (q + 1) - 1 = z
      grind
    rw [es, c.1, c.2]
    exact l
  · simp only [if_neg hk]
    have u2 := round_under_eq (e * 2 ^ 128 + 2 * f) 2 1 1 R hX1 (by decide) (by decide)
    simp only [Nat.one_mul] at u2
    have u2' : round_under.f (TH ((e * 2 ^ 128 + 2 * f) / 2 ^ 2)) (TL ((e * 2 ^ 128 + 2 * f) / 2 ^ 2)) 1 1 (R || decide (¬(e * 2 ^ 128 + 2 * f) % 2 ^ 2 = 0)) = _ := u2
    simp only [u2', Option.bind_some]
    generalize hq : (-(s / 4)).toNat = q
    have hq62 : q ≤ 62 := by omega
    have ew : wrap64 (-(s / 4)) = ((q : Nat) : Int) := by rw [w64 (by omega) (by omega)]; omega
    rw [ew]
    have hX2 : 2 ^ (128 + 2) + (e * 2 ^ 128 + 2 * f) < 2 ^ (128 + 3) := by
      rw [show (2 : Nat) ^ (128 + 3) = 2 ^ (128 + 2) + 2 ^ (128 + 2) by decide]; omega
    have l := round_Cut_l1 n R q h8 h64 (by omega) q 0 (2 ^ (128 + 2) + (e * 2 ^ 128 + 2 * f)) 3 (by omega) hX2
    have c := cut_of n (2 ^ (128 + 2) + (e * 2 ^ 128 + 2 * f)) (129 - n + (3 + q)) (69 - q) R h64 (by omega) (by omega)
    have es : sig s f = (2 ^ (128 + 2) + (e * 2 ^ 128 + 2 * f)) * 2 ^ (69 - q) := by
      unfold sig
      rw [if_neg (by omega), hq, he, show 70 - q = 1 + (69 - q) by omega, Nat.pow_add 2 1, ← Nat.mul_assoc]
      congr 1
      rw [show (2 : Nat) ^ (128 + 2) = 2 ^ 129 * 2 by decide, show (2 : Nat) ^ 128 = 2 ^ 127 * 2 by decide]
      grind
    rw [es, c.1, c.2]
    exact l
theorem sound_kinds {kd sc hi lo : Int} {ng rs : Bool} (h : soundE kd ng sc hi lo rs = true) : kd = 0 ∨ kd = 2 ∨ kd = 1 := by
  unfold soundE at h
  split at h
  · omega
  · have := of_decide_eq_true h; omega
theorem sound_real {sc hi lo : Int} {ng rs : Bool} (h : soundE 1 ng sc hi lo rs = true) : 9223372036854775808 ≤ hi ∧ -1099511627776 ≤ sc ∧ sc ≤ 1099511627776 := by
  unfold soundE at h
  rw [if_neg (by decide)] at h
  have := of_decide_eq_true h; omega
theorem round_Cut_eq {n hi lo : Nat} {kd sc : Int} {ng rs : Bool} (hn : isW n = true) (hh : hi < 18446744073709551616) (hl : lo < 18446744073709551616) (h : soundE kd ng sc hi lo rs = true) :
    Ev (fun k => round_Cut.f k n kd ng sc hi lo rs) ((cutE n kd sc (hi * 18446744073709551616 + lo) rs).1, (cutE n kd sc (hi * 18446744073709551616 + lo) rs).2, none) := by
  unfold round_Cut.f
  have hn' : n = 8 ∨ n = 16 ∨ n = 32 ∨ n = 64 := by have := isW_cases hn; omega
  simp only [shape_Of_eq hn, Option.bind_some, Option.isNone_none, if_true]
  refine Ev.bind (round_sound_eq _ _ _ _ _ _ (by omega) (by omega)) ?_
  simp only [h, if_true]
  unfold cutE
  by_cases k0 : kd = 0
  · simp only [if_pos k0]; exact Ev.now _
  · simp only [if_neg k0]
    by_cases k2 : kd = 2
    · simp only [if_pos k2]; exact Ev.now _
    · simp only [if_neg k2]
      have k1 : kd = 1 := by have := sound_kinds h; omega
      subst k1
      obtain ⟨b0, b1, b2⟩ := sound_real h
      have ew : wrap64 (-(4 * (n : Int) - 8)) = -(4 * (n : Int) - 8) := w64 (by omega) (by omega)
      by_cases c1 : sc ≥ 4 * (n : Int) - 8
      · simp only [if_pos c1, if_pos (show 4 * (n : Int) - 8 ≤ sc by omega)]; exact Ev.now _
      · simp only [if_neg c1, if_neg (show ¬ 4 * (n : Int) - 8 ≤ sc by omega), ew]
        by_cases c2 : sc < -(4 * (n : Int) - 8)
        · simp only [if_pos c2, if_pos (Or.inl c2 : sc < -(4 * (n : Int) - 8) ∨ (sc = -(4 * (n : Int) - 8) ∧ hi * 18446744073709551616 + lo = 2 ^ 127 ∧ rs = false))]; exact Ev.now _
        · simp only [if_neg c2]
          have key : ¬ (sc = -(4 * (n : Int) - 8) ∧ hi * 18446744073709551616 + lo = 2 ^ 127 ∧ rs = false) →
              Ev (fun k => round_Cut.j0 k (n : Int) 1 ng sc (hi : Int) (lo : Int) rs)
                ((if sc < -(4 * (n : Int) - 8) ∨ (sc = -(4 * (n : Int) - 8) ∧ hi * 18446744073709551616 + lo = 2 ^ 127 ∧ rs = false) then ((1 : Int), (0 : Int)) else ((cutP n (sig sc (hi * 18446744073709551616 + lo - 2 ^ 127)) : Int), cutL n (sig sc (hi * 18446744073709551616 + lo - 2 ^ 127)) rs)).1,
                 (if sc < -(4 * (n : Int) - 8) ∨ (sc = -(4 * (n : Int) - 8) ∧ hi * 18446744073709551616 + lo = 2 ^ 127 ∧ rs = false) then ((1 : Int), (0 : Int)) else ((cutP n (sig sc (hi * 18446744073709551616 + lo - 2 ^ 127)) : Int), cutL n (sig sc (hi * 18446744073709551616 + lo - 2 ^ 127)) rs)).2, none) := by
            intro hno
            rw [if_neg (fun hh => hh.elim c2 hno)]
            have hf : 2 ^ 127 + (hi * 18446744073709551616 + lo - 2 ^ 127) = hi * 18446744073709551616 + lo := by rw [p127]; omega
            have j := round_Cut_j0_eq n (hi * 18446744073709551616 + lo - 2 ^ 127) 1 ng sc rs hn (by omega) (by omega) (by rw [p127]; omega)
            rw [hf, TH_of hl, TL_of hl] at j
            exact j
          by_cases c3 : sc = -(4 * (n : Int) - 8)
          · simp only [if_pos c3]
            by_cases c4 : (hi : Int) = 9223372036854775808
            · simp only [if_pos c4]
              by_cases c5 : (lo : Int) = 0
              · simp only [if_pos c5]
                cases rs
                · simp only [Bool.false_eq_true, if_false]
                  rw [if_pos (Or.inr ⟨c3, by rw [p127]; omega, trivial⟩)]
                  exact Ev.now _
                · simp only [if_true]
                  exact key (by simp)
              · simp only [if_neg c5]
                exact key (by rw [p127]; omega)
            · simp only [if_neg c4]
              exact key (by rw [p127]; omega)
          · simp only [if_neg c3]
            exact key (by omega)
theorem pow64 {n : Nat} (h : isW n = true) : n ≤ 64 ∧ 8 ≤ n := by have := isW_cases h; omega
theorem lead_ones_eq {n : Nat} (h : n ≤ 64) : lead_ones.f (n : Int) = some ((2 ^ n - 1 : Nat) : Int) := by
  unfold lead_ones.f
  by_cases h1 : n = 64
  · subst h1; rfl
  · rw [if_neg (by omega), if_pos (by omega)]
    have e := shl_nat 1 n h
    have e' : shl .u64 1 (n : Int) = _ := e
    have hp : 2 ^ n < 2 ^ 64 := pow_lt (by omega)
    have hp0 := two_pos n
    rw [p64] at hp
    rw [e', Nat.one_mul, Nat.mod_eq_of_lt hp, u64_of (by omega) (by omega)]
    congr 1
    omega
theorem shape_Fold_eq {n x : Nat} (h : isW n = true) (hx : x < 18446744073709551616) : shape_Fold.f (n : Int) (x : Int) = some (((x % 2 ^ n : Nat) : Int), none) := by
  have hb := pow64 h
  unfold shape_Fold.f lead_Mask.f
  simp only [shape_is_eq, h, if_true, Option.bind_some, if_neg (show ¬ (n : Int) < 0 by omega), if_neg (show ¬ (n : Int) > 64 by omega), lead_ones_eq hb.1]
  rw [and_mask x n hx hb.1]
theorem neg_wrap {p : Nat} (h : p < 18446744073709551616) : IntKind.u64.wrap (-(p : Int)) = (((18446744073709551616 - p) % 18446744073709551616 : Nat) : Int) := by
  rw [u64_wrap]; omega
theorem and_one {p : Nat} (h : p < 18446744073709551616) : Go.bits .and .u64 (p : Int) 1 = ((p % 2 : Nat) : Int) := by
  have := and_mask p 1 h (by decide)
  simpa using this
theorem round_Round_eq {n hi lo : Nat} {kd sc : Int} {ng rs : Bool} (hn : isW n = true) (hh : hi < 18446744073709551616) (hl : lo < 18446744073709551616) (h : soundE kd ng sc hi lo rs = true) :
    Ev (fun k => round_Round.f k n kd ng sc hi lo rs) (((rnd n kd ng sc (hi * 18446744073709551616 + lo) rs : Nat) : Int), none) := by
  obtain ⟨b64, b8⟩ := pow64 hn
  unfold round_Round.f
  refine Ev.bind (round_Cut_eq hn hh hl h) ?_
  have hV : hi * 18446744073709551616 + lo < 2 ^ 128 := by rw [p128]; omega
  have hb := cutE_bounds (kd := kd) (sc := sc) (R := rs) b64 b8 hV
  unfold rnd
  generalize cutE n kd sc (hi * 18446744073709551616 + lo) rs = c at hb
  obtain ⟨c1, c2⟩ := c
  simp only at hb
  obtain ⟨p, rfl⟩ := Int.eq_ofNat_of_zero_le hb.1
  have hp1 : p ≤ 2 ^ (n - 1) := by omega
  have hp2 : 2 ^ (n - 1) < 2 ^ 64 := pow_lt (by omega)
  have hp3 : 2 ^ (n - 1) + 1 < 2 ^ n := by
    have : 2 ^ n = 2 * 2 ^ (n - 1) := by rw [show n = n - 1 + 1 by omega, Nat.pow_succ]; simp; omega
    have : 2 ^ 1 ≤ 2 ^ (n - 1) := pow_le (by omega)
    omega
  have hp4 : (2 : Nat) ^ n ≤ 2 ^ 64 := pow_le b64
  rw [p64] at hp2 hp4
  have fo : ∀ x : Nat, x < 2 ^ n → shape_Fold.f (n : Int) (x : Int) = some ((x : Int), none) := fun x hx => by
    rw [shape_Fold_eq hn (by omega), Nat.mod_eq_of_lt hx]
  have fn : ∀ x : Nat, x < 2 ^ n → shape_Fold.f (n : Int) (IntKind.u64.wrap (-(x : Int))) = some (((negN n x : Nat) : Int), none) := fun x hx => by
    rw [neg_wrap (by omega), shape_Fold_eq hn (Nat.mod_lt _ (by decide))]; rfl
  have e1 : IntKind.u64.wrap ((p : Int) + 1) = ((p + 1 : Nat) : Int) := by rw [u64_of (by omega) (by omega)]; omega
  refine evn ?_
  simp only [Option.isNone_none, if_true, e1, fo p (by omega), fo (p + 1) (by omega), fn p (by omega), fn (p + 1) (by omega), Option.bind_some, and_one (show p < 18446744073709551616 by omega), Int.toNat_natCast]
  by_cases k2 : c2 = 2
  · subst k2
    by_cases hp : p % 2 = 0
    · simp only [if_true, if_pos (show ((p % 2 : Nat) : Int) = 0 by omega)]
      cases ng <;> simp [hp]
    · have hp' : p % 2 = 1 := by omega
      simp only [if_true, if_neg (show ¬ ((p % 2 : Nat) : Int) = 0 by omega)]
      cases ng <;> simp [hp']
  · by_cases k3 : c2 = 3
    · subst k3
      cases ng <;> simp
    · simp only [if_neg k2, if_neg k3]
      cases ng <;> simp [k2, k3]
def soundN (kd : Int) (ng : Bool) (sc fr : Int) : Bool :=
  if kd = 0 ∨ kd = 2 then (!ng && (sc == 0 && fr == 0))
  else decide (kd = 1 ∧ 9223372036854775808 ≤ fr ∧ -1073741824 ≤ sc ∧ sc ≤ 1073741824)
theorem round_Of_eq (kd : Int) (ng : Bool) (sc fr : Int) (h : fr < 18446744073709551616) (h0 : 0 ≤ fr) :
    Ev (fun k => round_Of.f k kd ng sc fr) (if soundN kd ng sc fr then (kd, ng, sc, fr, 0, false, none) else (0, false, 0, 0, 0, false, some 1)) := by
  unfold round_Of.f
  refine Ev.bind (round_sound_eq _ _ _ _ _ _ h h0) ?_
  refine evn ?_
  unfold soundE soundN
  by_cases hk : kd = 0 ∨ kd = 2
  · simp only [if_pos hk]
    cases ng
    · by_cases h1 : sc = 0
      · by_cases h2 : fr = 0
        · simp [h1, h2]
        · simp [h1, h2]
      · simp [h1]
    · simp
  · simp only [if_neg hk]
    by_cases h1 : kd = 1 ∧ 9223372036854775808 ≤ fr ∧ -1073741824 ≤ sc ∧ sc ≤ 1073741824
    · have h2 : kd = 1 ∧ 9223372036854775808 ≤ fr ∧ -1099511627776 ≤ sc ∧ sc ≤ 1099511627776 := by omega
      rw [decide_eq_true h1, decide_eq_true h2]
      simp only [if_true]
      rw [if_neg (by omega), if_neg (by omega)]
    · rw [decide_eq_false h1]
      simp only [Bool.false_eq_true, if_false]
      by_cases h2 : kd = 1 ∧ 9223372036854775808 ≤ fr ∧ -1099511627776 ≤ sc ∧ sc ≤ 1099511627776
      · rw [decide_eq_true h2]
        simp only [if_true]
        by_cases h3 : sc < -1073741824
        · rw [if_pos h3]
        · rw [if_neg h3, if_pos (by omega)]
      · rw [decide_eq_false h2]
        simp
end Go.Proofs.Ytfegofnplcmacaa.V
namespace Go.Proofs.Ytfegofnplcmacaa.PAll
open Go.RowKit Go.Proofs.YtfegofnplcmacaaW.PrintWords Go.Proofs.YtfegofnplcmacaaW.PrintLast Go.Proofs.YtfegofnplcmacaaW.PrintMore
attribute [local go_sem] max2_int min2_int max_two min_two max_three min_three max_four min_four
set_option linter.unusedVariables false
set_option linter.unusedSimpArgs false
def vernierref01_Text.l0 : Nat → Int → List Int → Int → Option (ByteArray)
 | 0, _, _, _ => none
 | k + 1, x0, x5, x6 => if x6 ≥ 0 then (if 0 ≤ x6 then (if x5.length < 140737488355328 then (vernierref01_Text.l0 k x0 (x5 ++ [(48 + (Int.tmod (shr .u64 x0 x6) 2)) % 256]) (wrap64 (x6 - 1))) else (none)) else (none)) else (some (strOfNums x5))
def vernierref01_Text.f (k : Nat) (a0 : Int) (a1 : Int) : Option (ByteArray) := vernierref01_Text.l0 k a0 ([] : List Int) (wrap64 (a1 - 1))
theorem vernierref01_Text.mono_l : ∀ k, (∀ y0 y1 y2, LeO (vernierref01_Text.l0 k y0 y1 y2) (vernierref01_Text.l0 (k + 1) y0 y1 y2))
 | 0 => fun _ _ _ r h => by simp [vernierref01_Text.l0] at h
 | k + 1 => by
  have ih0 := vernierref01_Text.mono_l k
  ·intro y0 y1 y2
   unfold vernierref01_Text.l0
   repeat' first
   | (with_reducible exact ih0 _ _ _)
   | (with_reducible exact LeO.refl _)
   | (with_reducible exact LeO.none _)
   | (with_reducible refine LeO.ite ?_ ?_)
   | (with_reducible refine LeO.bind ?_ (fun _ => ?_))
   | exact ih0 _ _ _
   | exact LeO.none _
   | refine LeO.ite ?_ ?_
   | refine LeO.bind ?_ (fun _ => ?_)
theorem vernierref01_Text.mono : ∀ a0 a1 k, LeO (vernierref01_Text.f k a0 a1) (vernierref01_Text.f (k + 1) a0 a1) := by
 intro a0 a1 k
 have ih0 := vernierref01_Text.mono_l k
 unfold vernierref01_Text.f
 repeat' first
   | (with_reducible exact ih0 _ _ _)
   | (with_reducible exact LeO.refl _)
   | (with_reducible exact LeO.none _)
   | (with_reducible refine LeO.ite ?_ ?_)
   | (with_reducible refine LeO.bind ?_ (fun _ => ?_))
   | exact ih0 _ _ _
   | exact LeO.none _
   | refine LeO.ite ?_ ?_
   | refine LeO.bind ?_ (fun _ => ?_)
set_option maxHeartbeats 8000000 in
set_option maxRecDepth 100000 in
theorem vernierref01_Text.calls (k : Nat) (a0 : Int) (a1 : Int) (r : ByteArray) (w : World) (h : vernierref01_Text.f k a0 a1 = some r) :
  Calls Try.prog 32 #[.int .u64 a0, .int .i64 a1] w fun e w' => e = .returned (.string r) ∧ Below w.heap.size w w' := by
 have HB := Aside0.mk (Below.refl w.heap.size w)
 have H : (vernierref01_Text.l0 k a0 ([] : List Int) (wrap64 (a1 - 1))) = some r := h
 clear h
 have H' := Aside0.mk H
 clear H
 go_enter Try.func32, Try.ntmps32
 go_wp2
 go_loopg [5, 6] k (fun kq v5 v6 w' => ∃ (x5_1 : List Int) (x6_1 : Int), v6 = .int .i64 x6_1 ∧ Aside0 (vernierref01_Text.l0 kq a0 x5_1 x6_1 = some r) ∧ Aside0 (kq ≤ k) ∧ Aside0 (Kd.R (Kd.int .u8) 5 w' w.heap.size (fun _ => True) v5 x5_1) ∧ Aside0 (Below w.heap.size w w'))
 case atStart => exact ⟨(([] : List Int)), (wrap64 (a1 - 1)), (by first | rfl | (simp; done) | (simp [*]; done)), H', ⟨Nat.le_refl _⟩, ⟨by first | exact Kd.R_nil _ _ _ _ _ | exact Kd.N_nil _ _ _ _ _ | exact Kd.V_nil _ _ _ _ _ | exact Kd.Q_nil _ _ _ _ _ | exact Kd.S_nil _ _ _ _ _⟩, ⟨by repeat (first | (with_reducible first | exact HB.out | apply below_alloc | apply pw_below_drewN | apply below_drew1) | exact HB.out)⟩⟩
 case round =>
  clear H'
  try clear p2
  obtain ⟨x5_1, x6_1, rfl, HA, HK1, HO_5, HB⟩ := hrel
  cases gk with
  | zero => exact absurd HA.out (by simp [vernierref01_Text.l0])
  | succ k1 =>
   have H := HA.out
   clear HA
   simp only [vernierref01_Text.l0] at H
   by_cases c3 : x6_1 ≥ 0
   ·rw [if_pos c3] at H
    have c3b0 : decide (0 ≤ x6_1) = true := decide_eq_true c3
    clear c3
    by_cases c4 : 0 ≤ x6_1
    ·rw [if_pos c4] at H
     have c4b0 := eq_true c4
     have c4b1 : decide (0 ≤ x6_1) = true := decide_eq_true c4
     clear c4
     obtain ⟨ji5, hji5⟩ : ∃ j_ : Int, (shr .u64 a0 x6_1) = j_ := ⟨_, rfl⟩
     replace H : (if x5_1.length < 140737488355328 then (vernierref01_Text.l0 k1 a0 (x5_1 ++ [(48 + (Int.tmod (ji5) 2)) % 256]) (wrap64 (x6_1 - 1))) else (none)) = some r := by first | (rw [hji5] at H; exact H) | (simp only [hji5] at H ⊢; exact H)
     have hji5_ : (a0 / 2 ^ min x6_1.toNat 64) = ji5 := hji5
     have hji5z : x6_1 ≤ 64 → (a0 / 2 ^ x6_1.toNat) = ji5 := shr_small hji5
     (try (have hji5Z_ := hji5z (by omega)))
     by_cases c6 : x5_1.length < 140737488355328
     ·rw [if_pos c6] at H
      have LMc6 := Aside0.mk c6
      clear c6
      obtain ⟨y200, hy200⟩ : ∃ y_ : List Int, y_ = (x5_1 ++ [(48 + (Int.tmod (ji5) 2)) % 256]) := ⟨_, rfl⟩
      replace H : (vernierref01_Text.l0 k1 a0 y200 (wrap64 (x6_1 - 1))) = some r := by first | (rw [hy200]; with_reducible exact H) | (have H2_ := (Option.bind_some _ _).symm.trans H; rw [hy200]; with_reducible exact H2_) | (have H2_ := (Option.bind_some _ _).symm.trans H; with_reducible exact H2_) | with_reducible exact H | (rw [hy200]; exact H) | exact H
      have Ny200 := Aside0.mk hy200
      clear hy200
      have H' := Aside0.mk H
      clear H
      go_wp2_with (first | ((with_reducible refine gate_builtin (b := .append) (xs := #[.tmp 13, .tmp 20]) rfl ?_); at_builtin; refine Kd.R_append (Kd.int .u8) (w0 := w) w.heap.size rfl (.tmp 13) (.tmp 20) 97 5 (.int .u8 0) 1 rfl Try.underlying97 info5 rfl (by decide) (by omega) u5 x5_1 ((48 + (Int.tmod (ji5) 2)) % 256) [.int .u8 ((48 + (Int.tmod (ji5) 2)) % 256)] (fun _ => True) (fun _ => False) rfl rfl ?aP (fun _ hk => hk.elim) ?aF ?aO ?aB ?aS ?aL ?_; (case aP => exact rfl); (case aB => exact (z3_ HB.out)); (case aF => exact (fun _ _ => trivial)); (case aO => exact (by (with_reducible repeat (first | apply Kd.R_alloc | apply Kd.R_drewN | apply Kd.R_drew)); exact HO_5.out)); (case aS => exact (below_size (z3_ HB.out))); (case aL => have := LMc6.out; omega); intro v201 w7 ho hb hg hat; rw [← Ny200.out] at ho; have n0_ := Aside0.mk (hb); have n1_ := Aside0.mk (ho); clear HB; clear HO_5; have HB := n0_; have HO202 := n1_; clear n0_ n1_; clear ho hb hg hat))
      go_roundg k1
      case measure => have := HK1.out; omega
      case rel => exact ⟨(y200), (wrap64 (x6_1 - 1)), (by first | rfl | (simp; done) | (simp [*]; done)), H', ⟨by have := HK1.out; omega⟩, ⟨by (with_reducible repeat (first | apply Kd.R_alloc | apply Kd.R_drewN | apply Kd.R_drew)); exact HO202.out⟩, ⟨by repeat (first | (with_reducible first | exact HB.out | apply below_alloc | apply pw_below_drewN | apply below_drew1) | exact HB.out)⟩⟩
     ·rw [if_neg c6] at H
      exact absurd H (by simp)
    ·rw [if_neg c4] at H
     exact absurd H (by simp)
   ·rw [if_neg c3] at H
    have c3b0 : decide (0 ≤ x6_1) = false := decide_eq_false c3
    clear c3
    obtain rfl := Option.some.inj H
    have hcv8 := own_string (P := Try.prog) Try.underlying97 Try.underlying5 Try.underlying9 (Kd.own_of_R HO_5.out)
    go_wp2
    go_ret
    exact ⟨by first | rfl | (simp [errW_none, errW_some] <;> rfl) | (simp [*, errW_none, errW_some] <;> rfl), by repeat (first | (with_reducible first | exact HB.out | apply below_alloc | apply pw_below_drewN | apply below_drew1) | exact HB.out)⟩
end Go.Proofs.Ytfegofnplcmacaa.PAll
namespace Go.Proofs.Ytfegofnplcmacaa.PAll
open Go.RowKit Go.Proofs.YtfegofnplcmacaaW.PrintWords Go.Proofs.YtfegofnplcmacaaW.PrintLast Go.Proofs.YtfegofnplcmacaaW.PrintMore
attribute [local go_sem] max2_int min2_int max_two min_two max_three min_three max_four min_four
set_option linter.unusedVariables false
set_option linter.unusedSimpArgs false
def vernierref07_some.l0 : Nat → ByteArray → Int → Option (Bool)
 | 0, _, _ => none
 | k + 1, x0, x3 => if x3 < (x0.size : Int) then (if 0 ≤ x3 then (if (bt x0 x3) = 49 then (some true) else (vernierref07_some.l0 k x0 (wrap64 (x3 + 1)))) else (none)) else (some false)
def vernierref07_some.f (k : Nat) (a0 : ByteArray) : Option (Bool) := vernierref07_some.l0 k a0 0
theorem vernierref07_some.mono_l : ∀ k, (∀ y0 y1, LeO (vernierref07_some.l0 k y0 y1) (vernierref07_some.l0 (k + 1) y0 y1))
 | 0 => fun _ _ r h => by simp [vernierref07_some.l0] at h
 | k + 1 => by
  have ih0 := vernierref07_some.mono_l k
  ·intro y0 y1
   unfold vernierref07_some.l0
   repeat' first
   | (with_reducible exact ih0 _ _)
   | (with_reducible exact LeO.refl _)
   | (with_reducible exact LeO.none _)
   | (with_reducible refine LeO.ite ?_ ?_)
   | (with_reducible refine LeO.bind ?_ (fun _ => ?_))
   | exact ih0 _ _
   | exact LeO.none _
   | refine LeO.ite ?_ ?_
   | refine LeO.bind ?_ (fun _ => ?_)
theorem vernierref07_some.mono : ∀ a0 k, LeO (vernierref07_some.f k a0) (vernierref07_some.f (k + 1) a0) := by
 intro a0 k
 have ih0 := vernierref07_some.mono_l k
 unfold vernierref07_some.f
 repeat' first
   | (with_reducible exact ih0 _ _)
   | (with_reducible exact LeO.refl _)
   | (with_reducible exact LeO.none _)
   | (with_reducible refine LeO.ite ?_ ?_)
   | (with_reducible refine LeO.bind ?_ (fun _ => ?_))
   | exact ih0 _ _
   | exact LeO.none _
   | refine LeO.ite ?_ ?_
   | refine LeO.bind ?_ (fun _ => ?_)
set_option maxHeartbeats 8000000 in
set_option maxRecDepth 100000 in
theorem vernierref07_some.calls (k : Nat) (a0 : ByteArray) (r : Bool) (w : World) (h : vernierref07_some.f k a0 = some r) :
  Calls Try.prog 33 #[.string a0] w fun e w' => e = .returned (.bool r) ∧ Drawn0 w w' := by
 have H : (vernierref07_some.l0 k a0 0) = some r := h
 clear h
 have H' := Aside0.mk H
 clear H
 go_enter Try.func33, Try.ntmps33
 go_wp2
 go_loopg [3] k (fun kq v3 w' => ∃ (x3_1 : Int), v3 = .int .i64 x3_1 ∧ Aside0 (vernierref07_some.l0 kq a0 x3_1 = some r) ∧ Aside0 (kq ≤ k) ∧ Drawn0 w w')
 case atStart => exact ⟨(0), (by first | rfl | (simp; done) | (simp [*]; done)), H', ⟨Nat.le_refl _⟩, by repeat (first | exact Drawn0.refl _ | apply Drawn0.step)⟩
 case round =>
  clear H'
  obtain ⟨x3_1, rfl, HA, HK1, ⟨m1, rfl⟩⟩ := hrel
  cases gk with
  | zero => exact absurd HA.out (by simp [vernierref07_some.l0])
  | succ k1 =>
   have H := HA.out
   clear HA
   simp only [vernierref07_some.l0] at H
   by_cases c2 : x3_1 < (a0.size : Int)
   ·rw [if_pos c2] at H
    have c2b0 : decide (x3_1 < (a0.size : Int)) = true := decide_eq_true c2
    clear c2
    by_cases c3 : 0 ≤ x3_1
    ·rw [if_pos c3] at H
     have c3b0 : decide (0 ≤ x3_1) = true := decide_eq_true c3
     clear c3
     by_cases c5 : (bt a0 x3_1) = 49
     ·rw [if_pos c5] at H
      have c5b0 : ((bt a0 x3_1) == 49) = true := beq_iff_eq.mpr c5
      have c5b1 : ((bt a0 x3_1) != 49) = false := bne_eq_false_iff_eq.mpr c5
      clear c5
      obtain rfl := Option.some.inj H
      have p4 : 0 ≤ (x3_1 : Int) := of_decide_eq_true (by first | (with_reducible assumption) | assumption)
      have q4 : x3_1 < (a0.size : Int) := of_decide_eq_true (by first | (with_reducible assumption) | assumption)
      have hx4 := bt_at a0 x3_1
      replace p4 := eq_true p4
      replace q4 := eq_true q4
      go_wp2
      go_ret
      exact ⟨by first | rfl | (simp; done) | (simp [*]; done), by repeat (first | exact Drawn0.refl _ | apply Drawn0.step)⟩
     ·rw [if_neg c5] at H
      have c5b0 : ((bt a0 x3_1) == 49) = false := beq_eq_false_iff_ne.mpr c5
      have c5b1 : ((bt a0 x3_1) != 49) = true := bne_iff_ne.mpr c5
      have H' := Aside0.mk H
      clear H
      have p4 : 0 ≤ (x3_1 : Int) := of_decide_eq_true (by first | (with_reducible assumption) | assumption)
      have q4 : x3_1 < (a0.size : Int) := of_decide_eq_true (by first | (with_reducible assumption) | assumption)
      have hx4 := bt_at a0 x3_1
      replace p4 := eq_true p4
      replace q4 := eq_true q4
      go_wp2
      go_roundg k1
      case measure => have := HK1.out; omega
      case rel => exact ⟨(wrap64 (x3_1 + 1)), (by first | rfl | (simp; done) | (simp [*]; done)), H', ⟨by have := HK1.out; omega⟩, by repeat (first | exact Drawn0.refl _ | apply Drawn0.step)⟩
    ·rw [if_neg c3] at H
     exact absurd H (by simp)
   ·rw [if_neg c2] at H
    have c2b0 : decide (x3_1 < (a0.size : Int)) = false := decide_eq_false c2
    clear c2
    obtain rfl := Option.some.inj H
    go_wp2
    go_ret
    exact ⟨by first | rfl | (simp; done) | (simp [*]; done), by repeat (first | exact Drawn0.refl _ | apply Drawn0.step)⟩
end Go.Proofs.Ytfegofnplcmacaa.PAll
namespace Go.Proofs.Ytfegofnplcmacaa.PAll
open Go.RowKit Go.Proofs.YtfegofnplcmacaaW.PrintWords Go.Proofs.YtfegofnplcmacaaW.PrintLast Go.Proofs.YtfegofnplcmacaaW.PrintMore
attribute [local go_sem] max2_int min2_int max_two min_two max_three min_three max_four min_four
set_option linter.unusedVariables false
set_option linter.unusedSimpArgs false
def vernierref01_Number.l0 : Nat → ByteArray → Int → Int → Option (Int)
 | 0, _, _, _ => none
 | k + 1, x0, x3, x4 => if x4 < (x0.size : Int) then (if 0 ≤ x4 then (vernierref01_Number.l0 k x0 (IntKind.u64.wrap ((IntKind.u64.wrap (2 * x3)) + (((bt x0 x4) - 48) % 256))) (wrap64 (x4 + 1))) else (none)) else (some x3)
def vernierref01_Number.f (k : Nat) (a0 : ByteArray) : Option (Int) := vernierref01_Number.l0 k a0 0 0
theorem vernierref01_Number.mono_l : ∀ k, (∀ y0 y1 y2, LeO (vernierref01_Number.l0 k y0 y1 y2) (vernierref01_Number.l0 (k + 1) y0 y1 y2))
 | 0 => fun _ _ _ r h => by simp [vernierref01_Number.l0] at h
 | k + 1 => by
  have ih0 := vernierref01_Number.mono_l k
  ·intro y0 y1 y2
   unfold vernierref01_Number.l0
   repeat' first
   | (with_reducible exact ih0 _ _ _)
   | (with_reducible exact LeO.refl _)
   | (with_reducible exact LeO.none _)
   | (with_reducible refine LeO.ite ?_ ?_)
   | (with_reducible refine LeO.bind ?_ (fun _ => ?_))
   | exact ih0 _ _ _
   | exact LeO.none _
   | refine LeO.ite ?_ ?_
   | refine LeO.bind ?_ (fun _ => ?_)
theorem vernierref01_Number.mono : ∀ a0 k, LeO (vernierref01_Number.f k a0) (vernierref01_Number.f (k + 1) a0) := by
 intro a0 k
 have ih0 := vernierref01_Number.mono_l k
 unfold vernierref01_Number.f
 repeat' first
   | (with_reducible exact ih0 _ _ _)
   | (with_reducible exact LeO.refl _)
   | (with_reducible exact LeO.none _)
   | (with_reducible refine LeO.ite ?_ ?_)
   | (with_reducible refine LeO.bind ?_ (fun _ => ?_))
   | exact ih0 _ _ _
   | exact LeO.none _
   | refine LeO.ite ?_ ?_
   | refine LeO.bind ?_ (fun _ => ?_)
set_option maxHeartbeats 8000000 in
set_option maxRecDepth 100000 in
theorem vernierref01_Number.calls (k : Nat) (a0 : ByteArray) (r : Int) (w : World) (h : vernierref01_Number.f k a0 = some r) :
  Calls Try.prog 35 #[.string a0] w fun e w' => e = .returned (.int .u64 r) ∧ Drawn0 w w' := by
 have H : (vernierref01_Number.l0 k a0 0 0) = some r := h
 clear h
 have H' := Aside0.mk H
 clear H
 go_enter Try.func35, Try.ntmps35
 go_wp2
 go_loopg [3, 4] k (fun kq v3 v4 w' => ∃ (x3_1 : Int) (x4_1 : Int), v3 = .int .u64 x3_1 ∧ v4 = .int .i64 x4_1 ∧ Aside0 (vernierref01_Number.l0 kq a0 x3_1 x4_1 = some r) ∧ Aside0 (kq ≤ k) ∧ Drawn0 w w')
 case atStart => exact ⟨(0), (0), (by first | rfl | (simp; done) | (simp [*]; done)), (by first | rfl | (simp; done) | (simp [*]; done)), H', ⟨Nat.le_refl _⟩, by repeat (first | exact Drawn0.refl _ | apply Drawn0.step)⟩
 case round =>
  clear H'
  obtain ⟨x3_1, x4_1, rfl, rfl, HA, HK1, ⟨m1, rfl⟩⟩ := hrel
  cases gk with
  | zero => exact absurd HA.out (by simp [vernierref01_Number.l0])
  | succ k1 =>
   have H := HA.out
   clear HA
   simp only [vernierref01_Number.l0] at H
   by_cases c2 : x4_1 < (a0.size : Int)
   ·rw [if_pos c2] at H
    have c2b0 : decide (x4_1 < (a0.size : Int)) = true := decide_eq_true c2
    clear c2
    by_cases c3 : 0 ≤ x4_1
    ·rw [if_pos c3] at H
     have c3b0 : decide (0 ≤ x4_1) = true := decide_eq_true c3
     clear c3
     have H' := Aside0.mk H
     clear H
     have p4 : 0 ≤ (x4_1 : Int) := of_decide_eq_true (by first | (with_reducible assumption) | assumption)
     have q4 : x4_1 < (a0.size : Int) := of_decide_eq_true (by first | (with_reducible assumption) | assumption)
     have hx4 := bt_at a0 x4_1
     replace p4 := eq_true p4
     replace q4 := eq_true q4
     go_wp2
     go_roundg k1
     case measure => have := HK1.out; omega
     case rel => exact ⟨(IntKind.u64.wrap ((IntKind.u64.wrap (2 * x3_1)) + (((bt a0 x4_1) - 48) % 256))), (wrap64 (x4_1 + 1)), (by first | rfl | (simp; done) | (simp [*]; done)), (by first | rfl | (simp; done) | (simp [*]; done)), H', ⟨by have := HK1.out; omega⟩, by repeat (first | exact Drawn0.refl _ | apply Drawn0.step)⟩
    ·rw [if_neg c3] at H
     exact absurd H (by simp)
   ·rw [if_neg c2] at H
    have c2b0 : decide (x4_1 < (a0.size : Int)) = false := decide_eq_false c2
    clear c2
    obtain rfl := Option.some.inj H
    go_wp2
    go_ret
    exact ⟨by first | rfl | (simp; done) | (simp [*]; done), by repeat (first | exact Drawn0.refl _ | apply Drawn0.step)⟩
end Go.Proofs.Ytfegofnplcmacaa.PAll
namespace Go.Proofs.Ytfegofnplcmacaa.V
open Go Go.RowKit Go.Proofs.YtfegofnplcmacaaW.PrintWords Go.Proofs.YtfegofnplcmacaaW.PrintLast Go.Proofs.YtfegofnplcmacaaW.PrintMore Go.Proofs.Ytfegofnplcmacaa.PAll
set_option linter.unusedVariables false
set_option linter.unusedSimpArgs false
def numL (l : List UInt8) : Nat := l.foldl (fun x b => 2 * x + (b.toNat - 48)) 0
def okL (l : List UInt8) : Prop := ∀ b ∈ l, b.toNat = 48 ∨ b.toNat = 49
theorem numL_acc (l : List UInt8) : ∀ x, l.foldl (fun x b => 2 * x + (b.toNat - 48)) x = x * 2 ^ l.length + numL l := by
  induction l with
  | nil => intro x; simp [numL]
  | cons b l ih =>
    intro x
    simp only [List.foldl_cons, List.length_cons, numL]
    rw [ih, ih (2 * 0 + (b.toNat - 48)), Nat.pow_succ]
    generalize 2 ^ l.length = z
    generalize numL l = y
    generalize b.toNat - 48 = w
    grind
theorem numL_append (a b : List UInt8) : numL (a ++ b) = numL a * 2 ^ b.length + numL b := by
  unfold numL
  rw [List.foldl_append, numL_acc]
  rfl
theorem okL_append {a b : List UInt8} (ha : okL a) (hb : okL b) : okL (a ++ b) := fun x hx => (List.mem_append.mp hx).elim (ha x) (hb x)
structure BT (s : ByteArray) (L X : Nat) : Prop where
  ok : okL s.data.toList
  size : s.size = L
  num : numL s.data.toList = X
theorem lenB (s : ByteArray) : s.data.toList.length = s.size := Array.length_toList
theorem BT.len {s : ByteArray} {L X : Nat} (h : BT s L X) : s.data.toList.length = L := by rw [← h.size]; exact lenB s
theorem BT.append {s t : ByteArray} {L M X Y : Nat} (h : BT s L X) (k : BT t M Y) : BT (s ++ t) (L + M) (X * 2 ^ M + Y) := by
  refine ⟨?_, ?_, ?_⟩
  · rw [ByteArray.data_append, Array.toList_append]; exact okL_append h.ok k.ok
  · rw [ByteArray.size_append, h.size, k.size]
  · rw [ByteArray.data_append, Array.toList_append, numL_append, h.num, k.num, k.len]
theorem BT.nil : BT ByteArray.empty 0 0 := ⟨by intro b hb; simp at hb, rfl, rfl⟩
structure BN (l : List Int) (L X : Nat) : Prop where
  len : l.length = L
  bt : BT (strOfNums l) L X
theorem BN.nil : BN [] 0 0 := ⟨rfl, ⟨by intro b hb; simp [strOfNums_data] at hb, rfl, rfl⟩⟩
theorem BN.snoc {l : List Int} {L X : Nat} (h : BN l L X) (b : Nat) (hb : b < 2) : BN (l ++ [48 + (b : Int)]) (L + 1) (2 * X + b) := by
  have e : (strOfNums (l ++ [48 + (b : Int)])).data.toList = (strOfNums l).data.toList ++ [UInt8.ofNat (48 + b)] := by
    rw [strOfNums_data, strOfNums_data, List.map_append]
    have : (48 + (b : Int)).toNat = 48 + b := by omega
    simp [this]
  have hv : (UInt8.ofNat (48 + b)).toNat = 48 + b := by
    rw [UInt8.toNat_ofNat']; omega
  refine ⟨by simp [h.len], ⟨?_, ?_, ?_⟩⟩
  · rw [e]
    refine okL_append h.bt.ok ?_
    intro x hx
    simp only [List.mem_singleton] at hx
    subst hx; rw [hv]; omega
  · rw [strOfNums_size]; simp [h.len]
  · rw [e, numL_append, h.bt.num]
    have : numL [UInt8.ofNat (48 + b)] = b := by unfold numL; simp only [List.foldl_cons, List.foldl_nil]; rw [hv]; omega
    rw [this]; simp; omega
theorem tmod2 (n : Nat) : Int.tmod (n : Int) 2 = ((n % 2 : Nat) : Int) := by
  rw [Int.tmod_eq_emod_of_nonneg (by omega)]; omega
end Go.Proofs.Ytfegofnplcmacaa.V
namespace Go.Proofs.Ytfegofnplcmacaa.PAll
open Go.RowKit Go.Proofs.YtfegofnplcmacaaW.PrintWords Go.Proofs.YtfegofnplcmacaaW.PrintLast Go.Proofs.YtfegofnplcmacaaW.PrintMore
attribute [local go_sem] max2_int min2_int max_two min_two max_three min_three max_four min_four
set_option linter.unusedVariables false
set_option linter.unusedSimpArgs false
def vernierref05_Is.f (a0 : Int) : Option (Bool) := if a0 = 8 then (some true) else (if a0 = 16 then (some true) else (if a0 = 32 then (some true) else (some (a0 == 64))))
set_option maxHeartbeats 8000000 in
set_option maxRecDepth 100000 in
theorem vernierref05_Is.calls (a0 : Int) (r : Bool) (w : World) (h : vernierref05_Is.f a0 = some r) :
  Calls Try.prog 17 #[.int .i64 a0] w fun e w' => e = .returned (.bool r) ∧ Drawn0 w w' := by
 have H : (if a0 = 8 then (some true) else (if a0 = 16 then (some true) else (if a0 = 32 then (some true) else (some (a0 == 64))))) = some r := h
 clear h
 by_cases c2 : a0 = 8
 ·rw [if_pos c2] at H
  have c2b0 : (a0 == 8) = true := beq_iff_eq.mpr c2
  have c2b1 : (a0 != 8) = false := bne_eq_false_iff_eq.mpr c2
  clear c2
  obtain rfl := Option.some.inj H
  go_enter Try.func17, Try.ntmps17
  go_wp2
  go_ret
  exact ⟨by first | rfl | (simp; done) | (simp [*]; done), by repeat (first | exact Drawn0.refl _ | apply Drawn0.step)⟩
 ·rw [if_neg c2] at H
  have c2b0 : (a0 == 8) = false := beq_eq_false_iff_ne.mpr c2
  have c2b1 : (a0 != 8) = true := bne_iff_ne.mpr c2
  by_cases c3 : a0 = 16
  ·rw [if_pos c3] at H
   have c3b0 : (a0 == 16) = true := beq_iff_eq.mpr c3
   have c3b1 : (a0 != 16) = false := bne_eq_false_iff_eq.mpr c3
   clear c3
   obtain rfl := Option.some.inj H
   go_enter Try.func17, Try.ntmps17
   go_wp2
   go_ret
   exact ⟨by first | rfl | (simp; done) | (simp [*]; done), by repeat (first | exact Drawn0.refl _ | apply Drawn0.step)⟩
  ·rw [if_neg c3] at H
   have c3b0 : (a0 == 16) = false := beq_eq_false_iff_ne.mpr c3
   have c3b1 : (a0 != 16) = true := bne_iff_ne.mpr c3
   by_cases c4 : a0 = 32
   ·rw [if_pos c4] at H
    have c4b0 : (a0 == 32) = true := beq_iff_eq.mpr c4
    have c4b1 : (a0 != 32) = false := bne_eq_false_iff_eq.mpr c4
    clear c4
    obtain rfl := Option.some.inj H
    go_enter Try.func17, Try.ntmps17
    go_wp2
    go_ret
    exact ⟨by first | rfl | (simp; done) | (simp [*]; done), by repeat (first | exact Drawn0.refl _ | apply Drawn0.step)⟩
   ·rw [if_neg c4] at H
    have c4b0 : (a0 == 32) = false := beq_eq_false_iff_ne.mpr c4
    have c4b1 : (a0 != 32) = true := bne_iff_ne.mpr c4
    obtain rfl := Option.some.inj H
    go_enter Try.func17, Try.ntmps17
    go_wp2
    go_ret
    exact ⟨by first | rfl | (simp; done) | (simp [*]; done), by repeat (first | exact Drawn0.refl _ | apply Drawn0.step)⟩
end Go.Proofs.Ytfegofnplcmacaa.PAll
namespace Go.Proofs.Ytfegofnplcmacaa.PAll
open Go.RowKit Go.Proofs.YtfegofnplcmacaaW.PrintWords Go.Proofs.YtfegofnplcmacaaW.PrintLast Go.Proofs.YtfegofnplcmacaaW.PrintMore
attribute [local go_sem] max2_int min2_int max_two min_two max_three min_three max_four min_four
set_option linter.unusedVariables false
set_option linter.unusedSimpArgs false
def vernierref06_regime.f (a0 : Int) : Option (Int) := if (wrap64 (4 * (wrap64 (Int.tdiv a0 4)))) > a0 then (some (wrap64 ((wrap64 (Int.tdiv a0 4)) - 1))) else (some (wrap64 (Int.tdiv a0 4)))
set_option maxHeartbeats 8000000 in
set_option maxRecDepth 100000 in
theorem vernierref06_regime.calls (a0 : Int) (r : Int) (w : World) (h : vernierref06_regime.f a0 = some r) :
  Calls Try.prog 56 #[.int .i64 a0] w fun e w' => e = .returned (.int .i64 r) ∧ Drawn0 w w' := by
 have H : (if (wrap64 (4 * (wrap64 (Int.tdiv a0 4)))) > a0 then (some (wrap64 ((wrap64 (Int.tdiv a0 4)) - 1))) else (some (wrap64 (Int.tdiv a0 4)))) = some r := h
 clear h
 by_cases c2 : (wrap64 (4 * (wrap64 (Int.tdiv a0 4)))) > a0
 ·rw [if_pos c2] at H
  have c2b0 : decide (a0 < (wrap64 (4 * (wrap64 (Int.tdiv a0 4))))) = true := decide_eq_true c2
  clear c2
  obtain rfl := Option.some.inj H
  go_enter Try.func56, Try.ntmps56
  go_wp2
  go_ret
  exact ⟨by first | rfl | (simp; done) | (simp [*]; done), by repeat (first | exact Drawn0.refl _ | apply Drawn0.step)⟩
 ·rw [if_neg c2] at H
  have c2b0 : decide (a0 < (wrap64 (4 * (wrap64 (Int.tdiv a0 4))))) = false := decide_eq_false c2
  clear c2
  obtain rfl := Option.some.inj H
  go_enter Try.func56, Try.ntmps56
  go_wp2
  go_ret
  exact ⟨by first | rfl | (simp; done) | (simp [*]; done), by repeat (first | exact Drawn0.refl _ | apply Drawn0.step)⟩
end Go.Proofs.Ytfegofnplcmacaa.PAll
namespace Go.Proofs.Ytfegofnplcmacaa.PAll
open Go.RowKit Go.Proofs.YtfegofnplcmacaaW.PrintWords Go.Proofs.YtfegofnplcmacaaW.PrintLast Go.Proofs.YtfegofnplcmacaaW.PrintMore
attribute [local go_sem] max2_int min2_int max_two min_two max_three min_three max_four min_four
set_option linter.unusedVariables false
set_option linter.unusedSimpArgs false
mutual
def vernierref06_Head.l0 : Nat → Int → Int → List Int → Int → Option (ByteArray)
 | 0, _, _, _, _ => none
 | k + 1, x0, x3, x4, x5 => if x5 ≤ x3 then (if x4.length < 140737488355328 then (vernierref06_Head.l0 k x0 x3 (x4 ++ [49]) (wrap64 (x5 + 1))) else (none)) else (vernierref06_Head.l1 k x0 x3 x4 0)
def vernierref06_Head.l1 : Nat → Int → Int → List Int → Int → Option (ByteArray)
 | 0, _, _, _, _ => none
 | k + 1, x0, x3, x4, x6 => if x6 > x3 then (if x4.length < 140737488355328 then (vernierref06_Head.l1 k x0 x3 (x4 ++ [48]) (wrap64 (x6 - 1))) else (none)) else (if x3 ≥ 0 then (if x4.length < 140737488355328 then ((some (x4 ++ [48] : List Int)).bind fun y210 => ((vernierref01_Text.f k (IntKind.u64.wrap (wrap64 (x0 - (wrap64 (4 * x3))))) 2).bind fun t213 => (if (strOfNums y210).size + t213.size ≤ 9223372036854775807 then (some ((strOfNums y210) ++ t213)) else (none)))) else (none)) else (if x4.length < 140737488355328 then ((some (x4 ++ [49] : List Int)).bind fun y214 => ((vernierref01_Text.f k (IntKind.u64.wrap (wrap64 (x0 - (wrap64 (4 * x3))))) 2).bind fun t217 => (if (strOfNums y214).size + t217.size ≤ 9223372036854775807 then (some ((strOfNums y214) ++ t217)) else (none)))) else (none)))
end
def vernierref06_Head.f (k : Nat) (a0 : Int) : Option (ByteArray) := (vernierref06_regime.f a0).bind fun t203 => (vernierref06_Head.l0 k a0 t203 ([] : List Int) 0)
theorem vernierref06_Head.mono_l : ∀ k, (∀ y0 y1 y2 y3, LeO (vernierref06_Head.l0 k y0 y1 y2 y3) (vernierref06_Head.l0 (k + 1) y0 y1 y2 y3)) ∧ (∀ y0 y1 y2 y3, LeO (vernierref06_Head.l1 k y0 y1 y2 y3) (vernierref06_Head.l1 (k + 1) y0 y1 y2 y3))
 | 0 => ⟨fun _ _ _ _ r h => by simp [vernierref06_Head.l0] at h, fun _ _ _ _ r h => by simp [vernierref06_Head.l1] at h⟩
 | k + 1 => by
  obtain ⟨ih0, ih1⟩ := vernierref06_Head.mono_l k
  refine ⟨?_, ?_⟩
  ·intro y0 y1 y2 y3
   unfold vernierref06_Head.l0
   repeat' first
   | (with_reducible exact ih0 _ _ _ _)
   | (with_reducible exact ih1 _ _ _ _)
   | (with_reducible exact vernierref01_Text.mono _ _ _)
   | (with_reducible exact LeO.refl _)
   | (with_reducible exact LeO.none _)
   | (with_reducible refine LeO.ite ?_ ?_)
   | (with_reducible refine LeO.bind ?_ (fun _ => ?_))
   | exact ih0 _ _ _ _
   | exact ih1 _ _ _ _
   | exact vernierref01_Text.mono _ _ _
   | exact LeO.none _
   | refine LeO.ite ?_ ?_
   | refine LeO.bind ?_ (fun _ => ?_)
  ·intro y0 y1 y2 y3
   unfold vernierref06_Head.l1
   repeat' first
   | (with_reducible exact ih0 _ _ _ _)
   | (with_reducible exact ih1 _ _ _ _)
   | (with_reducible exact vernierref01_Text.mono _ _ _)
   | (with_reducible exact LeO.refl _)
   | (with_reducible exact LeO.none _)
   | (with_reducible refine LeO.ite ?_ ?_)
   | (with_reducible refine LeO.bind ?_ (fun _ => ?_))
   | exact ih0 _ _ _ _
   | exact ih1 _ _ _ _
   | exact vernierref01_Text.mono _ _ _
   | exact LeO.none _
   | refine LeO.ite ?_ ?_
   | refine LeO.bind ?_ (fun _ => ?_)
theorem vernierref06_Head.mono : ∀ a0 k, LeO (vernierref06_Head.f k a0) (vernierref06_Head.f (k + 1) a0) := by
 intro a0 k
 obtain ⟨ih0, ih1⟩ := vernierref06_Head.mono_l k
 unfold vernierref06_Head.f
 repeat' first
   | (with_reducible exact ih0 _ _ _ _)
   | (with_reducible exact ih1 _ _ _ _)
   | (with_reducible exact vernierref01_Text.mono _ _ _)
   | (with_reducible exact LeO.refl _)
   | (with_reducible exact LeO.none _)
   | (with_reducible refine LeO.ite ?_ ?_)
   | (with_reducible refine LeO.bind ?_ (fun _ => ?_))
   | exact ih0 _ _ _ _
   | exact ih1 _ _ _ _
   | exact vernierref01_Text.mono _ _ _
   | exact LeO.none _
   | refine LeO.ite ?_ ?_
   | refine LeO.bind ?_ (fun _ => ?_)
def vernierref06_Head.T14 : Bool × List (List Nat × List Nat) := (true, [([], []), ([0], [0]), ([], []), ([], []), ([3], [3]), ([2, 4], [2, 4]), ([5], [5]), ([6], [6]), ([1, 7], [1, 7]), ([8, 7, 0, 1, 2, 3, 4, 5, 6, 7, 8], [8])])
def vernierref06_Head.B14 : List Nat := [0, 1, 0, 0, 8, 28, 60, 124, 255, 511]
theorem vernierref06_Head.tab14 : rtab .any (opsOf Try.f34 14) = vernierref06_Head.T14 := by kernel_rfl
theorem vernierref06_Head.bits14 : waitsOk vernierref06_Head.T14.2 vernierref06_Head.B14 = true := by kernel_rfl
set_option maxHeartbeats 8000000 in
set_option maxRecDepth 100000 in
theorem vernierref06_Head.calls (k : Nat) (a0 : Int) (r : ByteArray) (w : World) (h : vernierref06_Head.f k a0 = some r) :
  Calls Try.prog 34 #[.int .i64 a0] w fun e w' => e = .returned (.string r) ∧ Below w.heap.size w w' := by
 have HB := Aside0.mk (Below.refl w.heap.size w)
 have H : ((vernierref06_regime.f a0).bind fun t203 => (vernierref06_Head.l0 k a0 t203 ([] : List Int) 0)) = some r := h
 clear h
 replace H := Option.bind_eq_some_iff.mp H
 obtain ⟨t203, A20, H⟩ := H
 replace H : (vernierref06_Head.l0 k a0 t203 ([] : List Int) 0) = some r := H
 have A2 := Aside0.mk A20
 clear A20
 have H' := Aside0.mk H
 clear H
 go_enter Try.func34, Try.ntmps34
 go_wp2_with (first | ((with_reducible refine gate_callee (f := 56) rfl ?_); refine goesL_ (some 8) rfl rfl Try.func56 (by kernel_rfl) rfl #[.int .i64 a0] rfl z5_ ?_; (with_reducible refine (vernierref06_regime.calls a0 t203 _ A2.out).mono ?_); rintro e w' ⟨rfl, ⟨nd, rfl⟩⟩; refine ⟨_, rfl, ?_⟩))
 go_loopg [4, 5] k (fun kq v4 v5 w' => ∃ (x4_1 : List Int) (x5_1 : Int), v5 = .int .i64 x5_1 ∧ Aside0 (vernierref06_Head.l0 kq a0 t203 x4_1 x5_1 = some r) ∧ Aside0 (kq ≤ k) ∧ Aside0 (Kd.R (Kd.int .u8) 5 w' w.heap.size (fun _ => True) v4 x4_1) ∧ Aside0 (Below w.heap.size w w'))
 case atStart => exact ⟨(([] : List Int)), (0), (by first | rfl | (simp; done) | (simp [*]; done)), H', ⟨Nat.le_refl _⟩, ⟨by first | exact Kd.R_nil _ _ _ _ _ | exact Kd.N_nil _ _ _ _ _ | exact Kd.V_nil _ _ _ _ _ | exact Kd.Q_nil _ _ _ _ _ | exact Kd.S_nil _ _ _ _ _⟩, ⟨by repeat (first | (with_reducible first | exact HB.out | apply below_alloc | apply pw_below_drewN | apply below_drew1) | exact HB.out)⟩⟩
 case round =>
  clear H'
  try clear p2
  obtain ⟨x4_1, x5_1, rfl, HA, HK1, HO_4, HB⟩ := hrel
  cases gk with
  | zero => exact absurd HA.out (by simp [vernierref06_Head.l0])
  | succ k1 =>
   have H := HA.out
   clear HA
   simp only [vernierref06_Head.l0] at H
   by_cases c3 : x5_1 ≤ t203
   ·rw [if_pos c3] at H
    have c3b0 : decide (x5_1 ≤ t203) = true := decide_eq_true c3
    clear c3
    by_cases c4 : x4_1.length < 140737488355328
    ·rw [if_pos c4] at H
     have LMc4 := Aside0.mk c4
     clear c4
     obtain ⟨y204, hy204⟩ : ∃ y_ : List Int, y_ = (x4_1 ++ [49]) := ⟨_, rfl⟩
     replace H : (vernierref06_Head.l0 k1 a0 t203 y204 (wrap64 (x5_1 + 1))) = some r := by first | (rw [hy204]; with_reducible exact H) | (have H2_ := (Option.bind_some _ _).symm.trans H; rw [hy204]; with_reducible exact H2_) | (have H2_ := (Option.bind_some _ _).symm.trans H; with_reducible exact H2_) | with_reducible exact H | (rw [hy204]; exact H) | exact H
     have Ny204 := Aside0.mk hy204
     clear hy204
     have H' := Aside0.mk H
     clear H
     go_wp2_with (first | ((with_reducible refine gate_builtin (b := .append) (xs := #[.tmp 14, .tmp 15]) rfl ?_); at_builtin; refine Kd.R_append (Kd.int .u8) (w0 := w) w.heap.size rfl (.tmp 14) (.tmp 15) 97 5 (.int .u8 0) 1 rfl Try.underlying97 info5 rfl (by decide) (by omega) u4 x4_1 49 [.int .u8 49] (fun _ => True) (fun _ => False) rfl rfl ?aP (fun _ hk => hk.elim) ?aF ?aO ?aB ?aS ?aL ?_; (case aP => exact rfl); (case aB => exact (z3_ HB.out)); (case aF => exact (fun _ _ => trivial)); (case aO => exact (by (with_reducible repeat (first | apply Kd.R_alloc | apply Kd.R_drewN | apply Kd.R_drew)); exact HO_4.out)); (case aS => exact (below_size (z3_ HB.out))); (case aL => have := LMc4.out; omega); intro v205 w5 ho hb hg hat; rw [← Ny204.out] at ho; have n0_ := Aside0.mk (hb); have n1_ := Aside0.mk (ho); clear HB; clear HO_4; have HB := n0_; have HO206 := n1_; clear n0_ n1_; clear ho hb hg hat))
     go_roundg k1
     case measure => have := HK1.out; omega
     case rel => exact ⟨(y204), (wrap64 (x5_1 + 1)), (by first | rfl | (simp; done) | (simp [*]; done)), H', ⟨by have := HK1.out; omega⟩, ⟨by (with_reducible repeat (first | apply Kd.R_alloc | apply Kd.R_drewN | apply Kd.R_drew)); exact HO206.out⟩, ⟨by repeat (first | (with_reducible first | exact HB.out | apply below_alloc | apply pw_below_drewN | apply below_drew1) | exact HB.out)⟩⟩
    ·rw [if_neg c4] at H
     exact absurd H (by simp)
   ·rw [if_neg c3] at H
    have c3b0 : decide (x5_1 ≤ t203) = false := decide_eq_false c3
    clear c3
    have H' := Aside0.mk H
    clear H
    go_wp2
    go_loopg [4, 6] k1 (fun kq v4 v6 w' => ∃ (x4_2 : List Int) (x6_2 : Int), v6 = .int .i64 x6_2 ∧ Aside0 (vernierref06_Head.l1 kq a0 t203 x4_2 x6_2 = some r) ∧ Aside0 (kq ≤ k1) ∧ Aside0 (Kd.R (Kd.int .u8) 5 w' w.heap.size (fun _ => True) v4 x4_2) ∧ Aside0 (Below w.heap.size w w'))
    case atStart => exact ⟨(x4_1), (0), (by first | rfl | (simp; done) | (simp [*]; done)), H', ⟨Nat.le_refl _⟩, ⟨by (with_reducible repeat (first | apply Kd.R_alloc | apply Kd.R_drewN | apply Kd.R_drew)); exact HO_4.out⟩, ⟨by repeat (first | (with_reducible first | exact HB.out | apply below_alloc | apply pw_below_drewN | apply below_drew1) | exact HB.out)⟩⟩
    case round =>
     clear H'
     try clear p2
     try clear c3
     try clear c3b0
     try clear c4
     try clear c5
     try clear p2
     obtain ⟨x4_2, x6_2, rfl, HA, HK2, HO_4, HB⟩ := hrel
     cases gk with
     | zero => exact absurd HA.out (by simp [vernierref06_Head.l1])
     | succ k2 =>
      have H := HA.out
      clear HA
      simp only [vernierref06_Head.l1] at H
      by_cases c6 : x6_2 > t203
      ·rw [if_pos c6] at H
       have c6b0 : decide (t203 < x6_2) = true := decide_eq_true c6
       clear c6
       by_cases c7 : x4_2.length < 140737488355328
       ·rw [if_pos c7] at H
        have LMc7 := Aside0.mk c7
        clear c7
        obtain ⟨y207, hy207⟩ : ∃ y_ : List Int, y_ = (x4_2 ++ [48]) := ⟨_, rfl⟩
        replace H : (vernierref06_Head.l1 k2 a0 t203 y207 (wrap64 (x6_2 - 1))) = some r := by first | (rw [hy207]; with_reducible exact H) | (have H2_ := (Option.bind_some _ _).symm.trans H; rw [hy207]; with_reducible exact H2_) | (have H2_ := (Option.bind_some _ _).symm.trans H; with_reducible exact H2_) | with_reducible exact H | (rw [hy207]; exact H) | exact H
        have Ny207 := Aside0.mk hy207
        clear hy207
        have H' := Aside0.mk H
        clear H
        go_wp2_with (first | ((with_reducible refine gate_builtin (b := .append) (xs := #[.tmp 22, .tmp 23]) rfl ?_); at_builtin; refine Kd.R_append (Kd.int .u8) (w0 := w) w.heap.size rfl (.tmp 22) (.tmp 23) 97 5 (.int .u8 0) 1 rfl Try.underlying97 info5 rfl (by decide) (by omega) u4 x4_2 48 [.int .u8 48] (fun _ => True) (fun _ => False) rfl rfl ?aP (fun _ hk => hk.elim) ?aF ?aO ?aB ?aS ?aL ?_; (case aP => exact rfl); (case aB => exact (z3_ HB.out)); (case aF => exact (fun _ _ => trivial)); (case aO => exact (by (with_reducible repeat (first | apply Kd.R_alloc | apply Kd.R_drewN | apply Kd.R_drew)); exact HO_4.out)); (case aS => exact (below_size (z3_ HB.out))); (case aL => have := LMc7.out; omega); intro v208 w8 ho hb hg hat; rw [← Ny207.out] at ho; have n0_ := Aside0.mk (hb); have n1_ := Aside0.mk (ho); clear HB; clear HO_4; have HB := n0_; have HO209 := n1_; clear n0_ n1_; clear ho hb hg hat))
        go_roundg k2
        case measure => have := HK1.out; have := HK2.out; omega
        case rel => exact ⟨(y207), (wrap64 (x6_2 - 1)), (by first | rfl | (simp; done) | (simp [*]; done)), H', ⟨by have := HK1.out; have := HK2.out; omega⟩, ⟨by (with_reducible repeat (first | apply Kd.R_alloc | apply Kd.R_drewN | apply Kd.R_drew)); exact HO209.out⟩, ⟨by repeat (first | (with_reducible first | exact HB.out | apply below_alloc | apply pw_below_drewN | apply below_drew1) | exact HB.out)⟩⟩
       ·rw [if_neg c7] at H
        exact absurd H (by simp)
      ·rw [if_neg c6] at H
       have c6b0 : decide (t203 < x6_2) = false := decide_eq_false c6
       clear c6
       by_cases c9 : t203 ≥ 0
       ·rw [if_pos c9] at H
        have c9b0 : decide (0 ≤ t203) = true := decide_eq_true c9
        clear c9
        by_cases c10 : x4_2.length < 140737488355328
        ·rw [if_pos c10] at H
         have LMc10 := Aside0.mk c10
         clear c10
         obtain ⟨y210, hy210⟩ : ∃ y_ : List Int, y_ = (x4_2 ++ [48]) := ⟨_, rfl⟩
         replace H : ((vernierref01_Text.f k2 (IntKind.u64.wrap (wrap64 (a0 - (wrap64 (4 * t203))))) 2).bind fun t213 => (if (strOfNums y210).size + t213.size ≤ 9223372036854775807 then (some ((strOfNums y210) ++ t213)) else (none))) = some r := by first | (rw [hy210]; with_reducible exact H) | (have H2_ := (Option.bind_some _ _).symm.trans H; rw [hy210]; with_reducible exact H2_) | (have H2_ := (Option.bind_some _ _).symm.trans H; with_reducible exact H2_) | with_reducible exact H | (rw [hy210]; exact H) | exact H
         have Ny210 := Aside0.mk hy210
         clear hy210
         replace H := Option.bind_eq_some_iff.mp H
         obtain ⟨t213, A110, H⟩ := H
         replace H : (if (strOfNums y210).size + t213.size ≤ 9223372036854775807 then (some ((strOfNums y210) ++ t213)) else (none)) = some r := H
         have A11 := Aside0.mk A110
         clear A110
         by_cases c12 : (strOfNums y210).size + t213.size ≤ 9223372036854775807
         ·rw [if_pos c12] at H
          have c12b0 := eq_true c12
          have c12b1 : decide ((strOfNums y210).size + t213.size ≤ 9223372036854775807) = true := decide_eq_true c12
          try have c12b2 : (9223372036854775807 < (strOfNums y210).size + t213.size) = False := eq_false (Nat.not_lt.2 c12)
          obtain rfl := Option.some.inj H
          try go_wp2_with (first | ((with_reducible refine gate_builtin (b := .append) (xs := #[.tmp 27, .tmp 28]) rfl ?_); at_builtin; refine Kd.R_append (Kd.int .u8) (w0 := w) w.heap.size rfl (.tmp 27) (.tmp 28) 97 5 (.int .u8 0) 1 rfl Try.underlying97 info5 rfl (by decide) (by omega) u4 x4_2 48 [.int .u8 48] (fun _ => True) (fun _ => False) rfl rfl ?aP (fun _ hk => hk.elim) ?aF ?aO ?aB ?aS ?aL ?_; (case aP => exact rfl); (case aB => exact (z3_ HB.out)); (case aF => exact (fun _ _ => trivial)); (case aO => exact (by (with_reducible repeat (first | apply Kd.R_alloc | apply Kd.R_drewN | apply Kd.R_drew)); exact HO_4.out)); (case aS => exact (below_size (z3_ HB.out))); (case aL => have := LMc10.out; omega); intro v211 w13 ho hb hg hat; rw [← Ny210.out] at ho; have n0_ := Aside0.mk (hb); have n1_ := Aside0.mk (ho); clear HB; clear HO_4; have HB := n0_; have HO212 := n1_; clear n0_ n1_; clear ho hb hg hat))
          have n0_ := Aside0.mk (Kd.R_drew HO212.out)
          have n1_ := Aside0.mk (below_drew1 HB.out)
          clear HO212
          clear HB
          have HO212 := n0_
          have HB := n1_
          clear n0_ n1_
          refine start_ (n := 10) (S := fun w' => (convert 97 9 v211).run Try.prog w' = .ok (.string (strOfNums y210)) w') (ds := []) #[false, false, false, false, false, false, false, false, false, false] (by kernel_rfl) rfl rfl (own_string (P := Try.prog) Try.underlying97 Try.underlying5 Try.underlying9 (Kd.own_of_R HO212.out)) (fun hHeld => ?_); refine with_tabW vernierref06_Head.tab14 vernierref06_Head.bits14 (fun HT_ HW_ => ?_)
          generalize w13.drew = w14 at HO212 HB hHeld ⊢
          refine pure_ (i := 0) (N := some 33) (v := ?_) (a' := ?_) #[true, false, false, false, false, false, false, false, false, false] rfl rfl (any_of HT_.out (by kernel_rfl)) (fun _ _ _ h => h) (Or.inl ⟨by rfl, ?_⟩) ?_ ?_
          rotate_left
          ·intro w'
           go_simp
           with_reducible rfl
          rotate_left
          ·simp only [Act.put, List.setIfInBounds_toArray, List.set_cons_zero, List.set_cons_succ, i64_w, i32_w]
           rfl
          refine take_ (i := 1) (N := some 34) (v := ?_) (a' := ?_) #[true, true, false, false, false, false, false, false, false, false] rfl rfl (take_ofW HT_.out HW_.out (by kernel_rfl)) (fun _ _ _ h => h) (Or.inl ⟨by rfl, ?_⟩) hHeld ?_ ?_
          rotate_left
          ·intro w' s0
           go_simp
           with_reducible rfl
          rotate_left
          ·simp only [Act.put, List.setIfInBounds_toArray, List.set_cons_zero, List.set_cons_succ, i64_w, i32_w]
           rfl
          refine pure_ (i := 2) (N := some 35) (v := ?_) (a' := ?_) #[true, true, true, false, false, false, false, false, false, false] rfl rfl (any_of HT_.out (by kernel_rfl)) (fun _ _ _ h => h) (Or.inl ⟨by rfl, ?_⟩) ?_ ?_
          rotate_left
          ·intro w'
           go_simp
           with_reducible rfl
          rotate_left
          ·simp only [Act.put, List.setIfInBounds_toArray, List.set_cons_zero, List.set_cons_succ, i64_w, i32_w]
           rfl
          refine pure_ (i := 3) (N := some 36) (v := ?_) (a' := ?_) #[true, true, true, true, false, false, false, false, false, false] rfl rfl (any_of HT_.out (by kernel_rfl)) (fun _ _ _ h => h) (Or.inl ⟨by rfl, ?_⟩) ?_ ?_
          rotate_left
          ·intro w'
           go_simp
           with_reducible rfl
          rotate_left
          ·simp only [Act.put, List.setIfInBounds_toArray, List.set_cons_zero, List.set_cons_succ, i64_w, i32_w]
           rfl
          refine pure_ (i := 4) (N := some 37) (v := ?_) (a' := ?_) #[true, true, true, true, true, false, false, false, false, false] rfl rfl (any_of HT_.out (by kernel_rfl)) (fun _ _ _ h => h) (Or.inl ⟨by rfl, ?_⟩) ?_ ?_
          rotate_left
          ·intro w'
           go_simp
           with_reducible rfl
          rotate_left
          ·simp only [Act.put, List.setIfInBounds_toArray, List.set_cons_zero, List.set_cons_succ, i64_w, i32_w]
           rfl
          refine pure_ (i := 5) (N := some 38) (v := ?_) (a' := ?_) #[true, true, true, true, true, true, false, false, false, false] rfl rfl (any_of HT_.out (by kernel_rfl)) (fun _ _ _ h => h) (Or.inl ⟨by rfl, ?_⟩) ?_ ?_
          rotate_left
          ·intro w'
           go_simp
           with_reducible rfl
          rotate_left
          ·simp only [Act.put, List.setIfInBounds_toArray, List.set_cons_zero, List.set_cons_succ, i64_w, i32_w]
           rfl
          refine pure_ (i := 6) (N := some 39) (v := ?_) (a' := ?_) #[true, true, true, true, true, true, true, false, false, false] rfl rfl (any_of HT_.out (by kernel_rfl)) (fun _ _ _ h => h) (Or.inl ⟨by rfl, ?_⟩) ?_ ?_
          rotate_left
          ·intro w'
           go_simp
           with_reducible rfl
          rotate_left
          ·simp only [Act.put, List.setIfInBounds_toArray, List.set_cons_zero, List.set_cons_succ, i64_w, i32_w]
           rfl
          refine one_ (i := 7) (N := some 40) #[true, true, true, true, true, true, true, true, false, false] rfl rfl (one_of HT_.out (by kernel_rfl)) (by decide) (fun K hK => ?_)
          refine goes_ Try.func32 (by kernel_rfl) rfl #[.int .u64 (IntKind.u64.wrap (wrap64 (a0 - (wrap64 (4 * t203))))), .int .i64 2] (by rfl) rfl rfl z5_ ?_
          with_reducible refine (vernierref01_Text.calls k2 (IntKind.u64.wrap (wrap64 (a0 - (wrap64 (4 * t203))))) 2 t213 _ A11.out).mono ?_
          rintro e w16 ⟨rfl, hb⟩
          refine ⟨_, rfl, ?_⟩
          have n0_ := Aside0.mk (Kd.R_below (by (with_reducible repeat (first | apply Kd.R_alloc | apply Kd.R_drewN | apply Kd.R_drew)); exact HO212.out) hb)
          have n1_ := Aside0.mk (below_step (z3_ HB.out) hb)
          clear HO212
          clear HB
          have HO212 := n0_
          have HB := n1_
          clear n0_ n1_
          (try clear hb)
          (try clear hb2)
          (try clear hk)
          (try clear hi)
          refine hK.out _ _ (own_string (P := Try.prog) Try.underlying97 Try.underlying5 Try.underlying9 (Kd.own_of_R HO212.out)) (fun hHeld => ?_)
          clear hK K
          refine norm_ (a' := ?_) ?_ ?_
          rotate_left
          ·show Act.put _ (some 40) _ = _
           simp only [Act.put, List.setIfInBounds_toArray, List.set_cons_zero, List.set_cons_succ, i64_w, i32_w]
           rfl
          refine pure_ (i := 8) (N := some 41) (v := ?_) (a' := ?_) #[true, true, true, true, true, true, true, true, true, false] rfl rfl (any_of HT_.out (by kernel_rfl)) (fun _ _ _ h => h) (Or.inl ⟨by rfl, ?_⟩) ?_ ?_
          rotate_left
          ·intro w'
           go_simp
           with_reducible rfl
          rotate_left
          ·simp only [Act.put, List.setIfInBounds_toArray, List.set_cons_zero, List.set_cons_succ, i64_w, i32_w]
           rfl
          refine pure_ (i := 9) (N := some 2) (v := ?_) (a' := ?_) #[true, true, true, true, true, true, true, true, true, true] rfl rfl (any_of HT_.out (by kernel_rfl)) (fun _ _ _ h => h) (Or.inl ⟨by rfl, ?_⟩) ?_ ?_
          rotate_left
          ·intro w'
           go_simp
           with_reducible rfl
          rotate_left
          ·simp only [Act.put, List.setIfInBounds_toArray, List.set_cons_zero, List.set_cons_succ, i64_w, i32_w]
           rfl
          refine done_ (done_of HT_.out (by kernel_rfl)) ?_
          try go_wp2
          go_ret
          exact ⟨by first | rfl | (simp [errW_none, errW_some] <;> rfl) | (simp [*, errW_none, errW_some] <;> rfl), by repeat (first | (with_reducible first | exact HB.out | apply below_alloc | apply pw_below_drewN | apply below_drew1) | exact HB.out)⟩
         ·rw [if_neg c12] at H
          exact absurd H (by simp)
        ·rw [if_neg c10] at H
         exact absurd H (by simp)
       ·rw [if_neg c9] at H
        have c9b0 : decide (0 ≤ t203) = false := decide_eq_false c9
        clear c9
        by_cases c18 : x4_2.length < 140737488355328
        ·rw [if_pos c18] at H
         have LMc18 := Aside0.mk c18
         clear c18
         obtain ⟨y214, hy214⟩ : ∃ y_ : List Int, y_ = (x4_2 ++ [49]) := ⟨_, rfl⟩
         replace H : ((vernierref01_Text.f k2 (IntKind.u64.wrap (wrap64 (a0 - (wrap64 (4 * t203))))) 2).bind fun t217 => (if (strOfNums y214).size + t217.size ≤ 9223372036854775807 then (some ((strOfNums y214) ++ t217)) else (none))) = some r := by first | (rw [hy214]; with_reducible exact H) | (have H2_ := (Option.bind_some _ _).symm.trans H; rw [hy214]; with_reducible exact H2_) | (have H2_ := (Option.bind_some _ _).symm.trans H; with_reducible exact H2_) | with_reducible exact H | (rw [hy214]; exact H) | exact H
         have Ny214 := Aside0.mk hy214
         clear hy214
         replace H := Option.bind_eq_some_iff.mp H
         obtain ⟨t217, A190, H⟩ := H
         replace H : (if (strOfNums y214).size + t217.size ≤ 9223372036854775807 then (some ((strOfNums y214) ++ t217)) else (none)) = some r := H
         have A19 := Aside0.mk A190
         clear A190
         by_cases c20 : (strOfNums y214).size + t217.size ≤ 9223372036854775807
         ·rw [if_pos c20] at H
          have c20b0 := eq_true c20
          have c20b1 : decide ((strOfNums y214).size + t217.size ≤ 9223372036854775807) = true := decide_eq_true c20
          try have c20b2 : (9223372036854775807 < (strOfNums y214).size + t217.size) = False := eq_false (Nat.not_lt.2 c20)
          obtain rfl := Option.some.inj H
          try go_wp2_with (first | ((with_reducible refine gate_builtin (b := .append) (xs := #[.tmp 30, .tmp 31]) rfl ?_); at_builtin; refine Kd.R_append (Kd.int .u8) (w0 := w) w.heap.size rfl (.tmp 30) (.tmp 31) 97 5 (.int .u8 0) 1 rfl Try.underlying97 info5 rfl (by decide) (by omega) u4 x4_2 49 [.int .u8 49] (fun _ => True) (fun _ => False) rfl rfl ?aP (fun _ hk => hk.elim) ?aF ?aO ?aB ?aS ?aL ?_; (case aP => exact rfl); (case aB => exact (z3_ HB.out)); (case aF => exact (fun _ _ => trivial)); (case aO => exact (by (with_reducible repeat (first | apply Kd.R_alloc | apply Kd.R_drewN | apply Kd.R_drew)); exact HO_4.out)); (case aS => exact (below_size (z3_ HB.out))); (case aL => have := LMc18.out; omega); intro v215 w21 ho hb hg hat; rw [← Ny214.out] at ho; have n0_ := Aside0.mk (hb); have n1_ := Aside0.mk (ho); clear HB; clear HO_4; have HB := n0_; have HO216 := n1_; clear n0_ n1_; clear ho hb hg hat))
          have n0_ := Aside0.mk (Kd.R_drew HO216.out)
          have n1_ := Aside0.mk (below_drew1 HB.out)
          clear HO216
          clear HB
          have HO216 := n0_
          have HB := n1_
          clear n0_ n1_
          refine start_ (n := 10) (S := fun w' => (convert 97 9 v215).run Try.prog w' = .ok (.string (strOfNums y214)) w') (ds := []) #[false, false, false, false, false, false, false, false, false, false] (by kernel_rfl) rfl rfl (own_string (P := Try.prog) Try.underlying97 Try.underlying5 Try.underlying9 (Kd.own_of_R HO216.out)) (fun hHeld => ?_); refine with_tabW vernierref06_Head.tab14 vernierref06_Head.bits14 (fun HT_ HW_ => ?_)
          generalize w21.drew = w22 at HO216 HB hHeld ⊢
          refine pure_ (i := 0) (N := some 33) (v := ?_) (a' := ?_) #[true, false, false, false, false, false, false, false, false, false] rfl rfl (any_of HT_.out (by kernel_rfl)) (fun _ _ _ h => h) (Or.inl ⟨by rfl, ?_⟩) ?_ ?_
          rotate_left
          ·intro w'
           go_simp
           with_reducible rfl
          rotate_left
          ·simp only [Act.put, List.setIfInBounds_toArray, List.set_cons_zero, List.set_cons_succ, i64_w, i32_w]
           rfl
          refine take_ (i := 1) (N := some 34) (v := ?_) (a' := ?_) #[true, true, false, false, false, false, false, false, false, false] rfl rfl (take_ofW HT_.out HW_.out (by kernel_rfl)) (fun _ _ _ h => h) (Or.inl ⟨by rfl, ?_⟩) hHeld ?_ ?_
          rotate_left
          ·intro w' s0
           go_simp
           with_reducible rfl
          rotate_left
          ·simp only [Act.put, List.setIfInBounds_toArray, List.set_cons_zero, List.set_cons_succ, i64_w, i32_w]
           rfl
          refine pure_ (i := 2) (N := some 35) (v := ?_) (a' := ?_) #[true, true, true, false, false, false, false, false, false, false] rfl rfl (any_of HT_.out (by kernel_rfl)) (fun _ _ _ h => h) (Or.inl ⟨by rfl, ?_⟩) ?_ ?_
          rotate_left
          ·intro w'
           go_simp
           with_reducible rfl
          rotate_left
          ·simp only [Act.put, List.setIfInBounds_toArray, List.set_cons_zero, List.set_cons_succ, i64_w, i32_w]
           rfl
          refine pure_ (i := 3) (N := some 36) (v := ?_) (a' := ?_) #[true, true, true, true, false, false, false, false, false, false] rfl rfl (any_of HT_.out (by kernel_rfl)) (fun _ _ _ h => h) (Or.inl ⟨by rfl, ?_⟩) ?_ ?_
          rotate_left
          ·intro w'
           go_simp
           with_reducible rfl
          rotate_left
          ·simp only [Act.put, List.setIfInBounds_toArray, List.set_cons_zero, List.set_cons_succ, i64_w, i32_w]
           rfl
          refine pure_ (i := 4) (N := some 37) (v := ?_) (a' := ?_) #[true, true, true, true, true, false, false, false, false, false] rfl rfl (any_of HT_.out (by kernel_rfl)) (fun _ _ _ h => h) (Or.inl ⟨by rfl, ?_⟩) ?_ ?_
          rotate_left
          ·intro w'
           go_simp
           with_reducible rfl
          rotate_left
          ·simp only [Act.put, List.setIfInBounds_toArray, List.set_cons_zero, List.set_cons_succ, i64_w, i32_w]
           rfl
          refine pure_ (i := 5) (N := some 38) (v := ?_) (a' := ?_) #[true, true, true, true, true, true, false, false, false, false] rfl rfl (any_of HT_.out (by kernel_rfl)) (fun _ _ _ h => h) (Or.inl ⟨by rfl, ?_⟩) ?_ ?_
          rotate_left
          ·intro w'
           go_simp
           with_reducible rfl
          rotate_left
          ·simp only [Act.put, List.setIfInBounds_toArray, List.set_cons_zero, List.set_cons_succ, i64_w, i32_w]
           rfl
          refine pure_ (i := 6) (N := some 39) (v := ?_) (a' := ?_) #[true, true, true, true, true, true, true, false, false, false] rfl rfl (any_of HT_.out (by kernel_rfl)) (fun _ _ _ h => h) (Or.inl ⟨by rfl, ?_⟩) ?_ ?_
          rotate_left
          ·intro w'
           go_simp
           with_reducible rfl
          rotate_left
          ·simp only [Act.put, List.setIfInBounds_toArray, List.set_cons_zero, List.set_cons_succ, i64_w, i32_w]
           rfl
          refine one_ (i := 7) (N := some 40) #[true, true, true, true, true, true, true, true, false, false] rfl rfl (one_of HT_.out (by kernel_rfl)) (by decide) (fun K hK => ?_)
          refine goes_ Try.func32 (by kernel_rfl) rfl #[.int .u64 (IntKind.u64.wrap (wrap64 (a0 - (wrap64 (4 * t203))))), .int .i64 2] (by rfl) rfl rfl z5_ ?_
          with_reducible refine (vernierref01_Text.calls k2 (IntKind.u64.wrap (wrap64 (a0 - (wrap64 (4 * t203))))) 2 t217 _ A19.out).mono ?_
          rintro e w24 ⟨rfl, hb⟩
          refine ⟨_, rfl, ?_⟩
          have n0_ := Aside0.mk (Kd.R_below (by (with_reducible repeat (first | apply Kd.R_alloc | apply Kd.R_drewN | apply Kd.R_drew)); exact HO216.out) hb)
          have n1_ := Aside0.mk (below_step (z3_ HB.out) hb)
          clear HO216
          clear HB
          have HO216 := n0_
          have HB := n1_
          clear n0_ n1_
          (try clear hb)
          (try clear hb2)
          (try clear hk)
          (try clear hi)
          refine hK.out _ _ (own_string (P := Try.prog) Try.underlying97 Try.underlying5 Try.underlying9 (Kd.own_of_R HO216.out)) (fun hHeld => ?_)
          clear hK K
          refine norm_ (a' := ?_) ?_ ?_
          rotate_left
          ·show Act.put _ (some 40) _ = _
           simp only [Act.put, List.setIfInBounds_toArray, List.set_cons_zero, List.set_cons_succ, i64_w, i32_w]
           rfl
          refine pure_ (i := 8) (N := some 41) (v := ?_) (a' := ?_) #[true, true, true, true, true, true, true, true, true, false] rfl rfl (any_of HT_.out (by kernel_rfl)) (fun _ _ _ h => h) (Or.inl ⟨by rfl, ?_⟩) ?_ ?_
          rotate_left
          ·intro w'
           go_simp
           with_reducible rfl
          rotate_left
          ·simp only [Act.put, List.setIfInBounds_toArray, List.set_cons_zero, List.set_cons_succ, i64_w, i32_w]
           rfl
          refine pure_ (i := 9) (N := some 2) (v := ?_) (a' := ?_) #[true, true, true, true, true, true, true, true, true, true] rfl rfl (any_of HT_.out (by kernel_rfl)) (fun _ _ _ h => h) (Or.inl ⟨by rfl, ?_⟩) ?_ ?_
          rotate_left
          ·intro w'
           go_simp
           with_reducible rfl
          rotate_left
          ·simp only [Act.put, List.setIfInBounds_toArray, List.set_cons_zero, List.set_cons_succ, i64_w, i32_w]
           rfl
          refine done_ (done_of HT_.out (by kernel_rfl)) ?_
          try go_wp2
          go_ret
          exact ⟨by first | rfl | (simp [errW_none, errW_some] <;> rfl) | (simp [*, errW_none, errW_some] <;> rfl), by repeat (first | (with_reducible first | exact HB.out | apply below_alloc | apply pw_below_drewN | apply below_drew1) | exact HB.out)⟩
         ·rw [if_neg c20] at H
          exact absurd H (by simp)
        ·rw [if_neg c18] at H
         exact absurd H (by simp)
end Go.Proofs.Ytfegofnplcmacaa.PAll
namespace Go.Proofs.Ytfegofnplcmacaa.PAll
open Go.RowKit Go.Proofs.YtfegofnplcmacaaW.PrintWords Go.Proofs.YtfegofnplcmacaaW.PrintLast Go.Proofs.YtfegofnplcmacaaW.PrintMore
attribute [local go_sem] max2_int min2_int max_two min_two max_three min_three max_four min_four
set_option linter.unusedVariables false
set_option linter.unusedSimpArgs false
mutual
def vernierref07_left.j0 : Nat → ByteArray → Bool → Option (Int)
 | 0, _, _ => none
 | k + 1, x0, x1 => if 1 ≤ (x0.size : Int) then ((vernierref07_some.f k (x0.extract 1 x0.size)).bind fun t218 => (if 0 < (x0.size : Int) then (if (bt x0 0) = 49 then (if t218 = true then (vernierref07_left.j1 k x0 x1 t218 true) else (vernierref07_left.j1 k x0 x1 t218 x1)) else (vernierref07_left.j1 k x0 x1 t218 false)) else (none))) else (none)
def vernierref07_left.j1 : Nat → ByteArray → Bool → Bool → Bool → Option (Int)
 | 0, _, _, _, _ => none
 | k + 1, x0, x1, x5, x11 => if x11 = true then (some 3) else (if 0 < (x0.size : Int) then (if (bt x0 0) = 49 then (some 2) else (if x5 = true then (some 1) else (if x1 = true then (some 1) else (some 0)))) else (none))
end
def vernierref07_left.f (k : Nat) (a0 : ByteArray) (a1 : Bool) : Option (Int) := if a0.toList = ([] : List UInt8) then (vernierref07_left.j0 k (⟨#[48]⟩ : ByteArray) a1) else (vernierref07_left.j0 k a0 a1)
theorem vernierref07_left.mono_l : ∀ k, (∀ y0 y1, LeO (vernierref07_left.j0 k y0 y1) (vernierref07_left.j0 (k + 1) y0 y1)) ∧ (∀ y0 y1 y2 y3, LeO (vernierref07_left.j1 k y0 y1 y2 y3) (vernierref07_left.j1 (k + 1) y0 y1 y2 y3))
 | 0 => ⟨fun _ _ r h => by simp [vernierref07_left.j0] at h, fun _ _ _ _ r h => by simp [vernierref07_left.j1] at h⟩
 | k + 1 => by
  obtain ⟨ih0, ih1⟩ := vernierref07_left.mono_l k
  refine ⟨?_, ?_⟩
  ·intro y0 y1
   unfold vernierref07_left.j0
   repeat' first
   | (with_reducible exact ih0 _ _)
   | (with_reducible exact ih1 _ _ _ _)
   | (with_reducible exact vernierref07_some.mono _ _)
   | (with_reducible exact LeO.refl _)
   | (with_reducible exact LeO.none _)
   | (with_reducible refine LeO.ite ?_ ?_)
   | (with_reducible refine LeO.bind ?_ (fun _ => ?_))
   | exact ih0 _ _
   | exact ih1 _ _ _ _
   | exact vernierref07_some.mono _ _
   | exact LeO.none _
   | refine LeO.ite ?_ ?_
   | refine LeO.bind ?_ (fun _ => ?_)
  ·intro y0 y1 y2 y3
   unfold vernierref07_left.j1
   repeat' first
   | (with_reducible exact ih0 _ _)
   | (with_reducible exact ih1 _ _ _ _)
   | (with_reducible exact vernierref07_some.mono _ _)
   | (with_reducible exact LeO.refl _)
   | (with_reducible exact LeO.none _)
   | (with_reducible refine LeO.ite ?_ ?_)
   | (with_reducible refine LeO.bind ?_ (fun _ => ?_))
   | exact ih0 _ _
   | exact ih1 _ _ _ _
   | exact vernierref07_some.mono _ _
   | exact LeO.none _
   | refine LeO.ite ?_ ?_
   | refine LeO.bind ?_ (fun _ => ?_)
theorem vernierref07_left.mono : ∀ a0 a1 k, LeO (vernierref07_left.f k a0 a1) (vernierref07_left.f (k + 1) a0 a1) := by
 intro a0 a1 k
 obtain ⟨ih0, ih1⟩ := vernierref07_left.mono_l k
 unfold vernierref07_left.f
 repeat' first
   | (with_reducible exact ih0 _ _)
   | (with_reducible exact ih1 _ _ _ _)
   | (with_reducible exact vernierref07_some.mono _ _)
   | (with_reducible exact LeO.refl _)
   | (with_reducible exact LeO.none _)
   | (with_reducible refine LeO.ite ?_ ?_)
   | (with_reducible refine LeO.bind ?_ (fun _ => ?_))
   | exact ih0 _ _
   | exact ih1 _ _ _ _
   | exact vernierref07_some.mono _ _
   | exact LeO.none _
   | refine LeO.ite ?_ ?_
   | refine LeO.bind ?_ (fun _ => ?_)
set_option maxHeartbeats 8000000 in
set_option maxRecDepth 100000 in
theorem vernierref07_left.calls (k : Nat) (a0 : ByteArray) (a1 : Bool) (r : Int) (w : World) (h : vernierref07_left.f k a0 a1 = some r) :
  Calls Try.prog 36 #[.string a0, .bool a1] w fun e w' => e = .returned (.int .i64 r) ∧ Drawn0 w w' := by
 have H : (if a0.toList = ([] : List UInt8) then (vernierref07_left.j0 k (⟨#[48]⟩ : ByteArray) a1) else (vernierref07_left.j0 k a0 a1)) = some r := h
 clear h
 have HC3 := Aside0.mk H
 clear H
 go_enter Try.func36, Try.ntmps36
 go_upto_if 7 with (fail)
 go_cut [0] (fun v0 wc => ∃ (kq : Nat) (x0_2 : ByteArray), v0 = .string x0_2 ∧ Aside0 (vernierref07_left.j0 kq x0_2 a1 = some r) ∧ Aside0 (kq ≤ k) ∧ Drawn0 w wc)
 case first =>
  have H := HC3.out
  clear HC3
  by_cases c4 : a0.toList = ([] : List UInt8)
  ·rw [if_pos c4] at H
   have c4b0 : a0.toList.isEmpty = true := by first | simpa using c4 | simp [c4]
   have c4b1 : (a0.toList == ([] : List UInt8)) = true := beq_iff_eq.mpr c4
   have c4b2 : (a0.toList != ([] : List UInt8)) = false := bne_eq_false_iff_eq.mpr c4
   clear c4
   (first | rw [c4b0] | (simp only [i64_w, i32_w]; rw [c4b0]) | skip)
   have H' := Aside0.mk H
   clear H
   go_wp2
   go_meet
   case rel => exact ⟨_, ((⟨#[48]⟩ : ByteArray)), (by first | rfl | (simp; done) | (simp [*]; done)), H', ⟨by first | omega | exact Nat.le_refl _⟩, by repeat (first | exact Drawn0.refl _ | apply Drawn0.step)⟩
  ·rw [if_neg c4] at H
   have c4b0 : a0.toList.isEmpty = false := by first | simpa using c4 | simp [c4]
   have c4b1 : (a0.toList == ([] : List UInt8)) = false := beq_eq_false_iff_ne.mpr c4
   have c4b2 : (a0.toList != ([] : List UInt8)) = true := bne_iff_ne.mpr c4
   (first | rw [c4b0] | (simp only [i64_w, i32_w]; rw [c4b0]) | skip)
   have H' := Aside0.mk H
   clear H
   go_wp2
   go_meet
   case rel => exact ⟨_, (a0), (by first | rfl | (simp; done) | (simp [*]; done)), H', ⟨by first | omega | exact Nat.le_refl _⟩, by repeat (first | exact Drawn0.refl _ | apply Drawn0.step)⟩
 case rest =>
  clear HC3
  try clear p2
  try clear c3
  try clear c4
  try clear c4b0
  try clear c4b1
  try clear c4b2
  obtain ⟨kq, x0_2, rfl, HA, HJ2, ⟨mc2, rfl⟩⟩ := hcut
  cases kq with
  | zero => exact absurd HA.out (by simp [vernierref07_left.j0])
  | succ kj2 =>
   have H := HA.out
   clear HA
   simp only [vernierref07_left.j0] at H
   by_cases c5 : 1 ≤ (x0_2.size : Int)
   ·rw [if_pos c5] at H
    have c5b0 := eq_true c5
    have c5b1 : decide (1 ≤ (x0_2.size : Int)) = true := decide_eq_true c5
    clear c5
    replace H := Option.bind_eq_some_iff.mp H
    obtain ⟨t218, A60, H⟩ := H
    replace H : (if 0 < (x0_2.size : Int) then (if (bt x0_2 0) = 49 then (if t218 = true then (vernierref07_left.j1 kj2 x0_2 a1 t218 true) else (vernierref07_left.j1 kj2 x0_2 a1 t218 a1)) else (vernierref07_left.j1 kj2 x0_2 a1 t218 false)) else (none)) = some r := H
    have A6 := Aside0.mk A60
    clear A60
    have HC7 := Aside0.mk H
    clear H
    go_upto_region 4 with (first | ((with_reducible refine gate_callee (f := 33) rfl ?_); refine goesL_ (some 10) rfl rfl Try.func33 (by kernel_rfl) rfl #[.string (x0_2.extract 1 x0_2.size)] rfl z5_ ?_; (with_reducible refine (vernierref07_some.calls kj2 (x0_2.extract 1 x0_2.size) t218 _ A6.out).mono ?_); rintro e w' ⟨rfl, ⟨nd, rfl⟩⟩; refine ⟨_, rfl, ?_⟩))
    (try simp only [Act.put, List.setIfInBounds_toArray, List.set_cons_zero, List.set_cons_succ])
    go_cut [11] (fun v11 wc => ∃ (kq : Nat) (x11_6 : Bool), v11 = .bool x11_6 ∧ Aside0 (vernierref07_left.j1 kq x0_2 a1 t218 x11_6 = some r) ∧ Aside0 (kq ≤ kj2) ∧ Drawn0 w wc)
    case first =>
     have H := HC7.out
     clear HC7
     by_cases c8 : 0 < (x0_2.size : Int)
     ·rw [if_pos c8] at H
      have c8b0 : decide (0 < (x0_2.size : Int)) = true := decide_eq_true c8
      have c8b1 : decide (0 < x0_2.size) = true := decide_eq_true (by omega)
      clear c8
      (first | rw [c8b0] | (simp only [i64_w, i32_w]; rw [c8b0]) | skip)
      by_cases c10 : (bt x0_2 0) = 49
      ·rw [if_pos c10] at H
       have c10b0 : ((bt x0_2 0) == 49) = true := beq_iff_eq.mpr c10
       have c10b1 : ((bt x0_2 0) != 49) = false := bne_eq_false_iff_eq.mpr c10
       clear c10
       by_cases c11 : t218 = true
       ·subst c11
        have H1 : (vernierref07_left.j1 kj2 x0_2 a1 true true) = some r := by rw [if_pos rfl] at H; exact H
        clear H
        have H := H1
        clear H1
        have H' := Aside0.mk H
        clear H
        have p9 : 0 ≤ (0 : Int) := (by omega)
        have q9 : 0 < x0_2.size := (by have : (0 : Int) < (x0_2.size : Int) := of_decide_eq_true (by first | (with_reducible assumption) | assumption); omega)
        have hx9 : ∀ h : 0 < x0_2.size, ((x0_2[0]'h).toNat : Int) = bt x0_2 0 := bt_at x0_2 0
        clear p9
        have qi9 : (0 < (x0_2.size : Int)) = True := eq_true (of_decide_eq_true (by first | (with_reducible assumption) | assumption))
        replace q9 := eq_true q9
        go_wp2
        go_meet
        case rel => exact ⟨_, (true), (by first | rfl | (simp; done) | (simp [*]; done)), H', ⟨by have := HJ2.out; first | omega | exact Nat.le_refl _⟩, by repeat (first | exact Drawn0.refl _ | apply Drawn0.step)⟩
       ·replace c11 := Bool.eq_false_iff.mpr c11
        subst c11
        have H1 : (vernierref07_left.j1 kj2 x0_2 a1 false a1) = some r := by rw [if_neg (show ¬ (false = true) by decide)] at H; exact H
        clear H
        have H := H1
        clear H1
        have H' := Aside0.mk H
        clear H
        have p9 : 0 ≤ (0 : Int) := (by omega)
        have q9 : 0 < x0_2.size := (by have : (0 : Int) < (x0_2.size : Int) := of_decide_eq_true (by first | (with_reducible assumption) | assumption); omega)
        have hx9 : ∀ h : 0 < x0_2.size, ((x0_2[0]'h).toNat : Int) = bt x0_2 0 := bt_at x0_2 0
        clear p9
        have qi9 : (0 < (x0_2.size : Int)) = True := eq_true (of_decide_eq_true (by first | (with_reducible assumption) | assumption))
        replace q9 := eq_true q9
        go_wp2
        go_meet
        case rel => exact ⟨_, (a1), (by first | rfl | (simp; done) | (simp [*]; done)), H', ⟨by have := HJ2.out; first | omega | exact Nat.le_refl _⟩, by repeat (first | exact Drawn0.refl _ | apply Drawn0.step)⟩
      ·rw [if_neg c10] at H
       have c10b0 : ((bt x0_2 0) == 49) = false := beq_eq_false_iff_ne.mpr c10
       have c10b1 : ((bt x0_2 0) != 49) = true := bne_iff_ne.mpr c10
       have H' := Aside0.mk H
       clear H
       have p9 : 0 ≤ (0 : Int) := (by omega)
       have q9 : 0 < x0_2.size := (by have : (0 : Int) < (x0_2.size : Int) := of_decide_eq_true (by first | (with_reducible assumption) | assumption); omega)
       have hx9 : ∀ h : 0 < x0_2.size, ((x0_2[0]'h).toNat : Int) = bt x0_2 0 := bt_at x0_2 0
       clear p9
       have qi9 : (0 < (x0_2.size : Int)) = True := eq_true (of_decide_eq_true (by first | (with_reducible assumption) | assumption))
       replace q9 := eq_true q9
       go_wp2
       go_meet
       case rel => exact ⟨_, (false), (by first | rfl | (simp; done) | (simp [*]; done)), H', ⟨by have := HJ2.out; first | omega | exact Nat.le_refl _⟩, by repeat (first | exact Drawn0.refl _ | apply Drawn0.step)⟩
     ·rw [if_neg c8] at H
      exact absurd H (by simp)
    case rest =>
     clear HC7
     try clear c1
     try clear c2
     try clear p2
     try clear c3
     try clear c4
     try clear c4b0
     try clear c4b1
     try clear c4b2
     try clear c5
     try clear c5b0
     try clear c5b1
     try clear c8
     try clear c8b0
     try clear c8b1
     try clear p9
     try clear q9
     try clear hx9
     try clear qi9
     try clear c10
     try clear c10b0
     try clear c10b1
     try clear c11
     try clear p2
     try clear p9
     try clear q9
     obtain ⟨kq, x11_6, rfl, HA, HJ6, ⟨mc6, rfl⟩⟩ := hcut
     cases kq with
     | zero => exact absurd HA.out (by simp [vernierref07_left.j1])
     | succ kj6 =>
      have H := HA.out
      clear HA
      simp only [vernierref07_left.j1] at H
      by_cases c12 : x11_6 = true
      ·subst c12
       have H1 : (some 3) = some r := by rw [if_pos rfl] at H; exact H
       clear H
       have H := H1
       clear H1
       obtain rfl := Option.some.inj H
       go_wp2
       go_ret
       exact ⟨by first | rfl | (simp; done) | (simp [*]; done), by repeat (first | exact Drawn0.refl _ | apply Drawn0.step)⟩
      ·replace c12 := Bool.eq_false_iff.mpr c12
       subst c12
       have H1 : (if 0 < (x0_2.size : Int) then (if (bt x0_2 0) = 49 then (some 2) else (if t218 = true then (some 1) else (if a1 = true then (some 1) else (some 0)))) else (none)) = some r := by rw [if_neg (show ¬ (false = true) by decide)] at H; exact H
       clear H
       have H := H1
       clear H1
       by_cases c13 : 0 < (x0_2.size : Int)
       ·rw [if_pos c13] at H
        have c13b0 : decide (0 < (x0_2.size : Int)) = true := decide_eq_true c13
        have c13b1 : decide (0 < x0_2.size) = true := decide_eq_true (by omega)
        clear c13
        by_cases c15 : (bt x0_2 0) = 49
        ·rw [if_pos c15] at H
         have c15b0 : ((bt x0_2 0) == 49) = true := beq_iff_eq.mpr c15
         have c15b1 : ((bt x0_2 0) != 49) = false := bne_eq_false_iff_eq.mpr c15
         clear c15
         obtain rfl := Option.some.inj H
         have p14 : 0 ≤ (0 : Int) := (by omega)
         have q14 : 0 < x0_2.size := (by have : (0 : Int) < (x0_2.size : Int) := of_decide_eq_true (by first | (with_reducible assumption) | assumption); omega)
         have hx14 : ∀ h : 0 < x0_2.size, ((x0_2[0]'h).toNat : Int) = bt x0_2 0 := bt_at x0_2 0
         clear p14
         have qi14 : (0 < (x0_2.size : Int)) = True := eq_true (of_decide_eq_true (by first | (with_reducible assumption) | assumption))
         replace q14 := eq_true q14
         go_wp2
         go_ret
         exact ⟨by first | rfl | (simp; done) | (simp [*]; done), by repeat (first | exact Drawn0.refl _ | apply Drawn0.step)⟩
        ·rw [if_neg c15] at H
         have c15b0 : ((bt x0_2 0) == 49) = false := beq_eq_false_iff_ne.mpr c15
         have c15b1 : ((bt x0_2 0) != 49) = true := bne_iff_ne.mpr c15
         by_cases c16 : t218 = true
         ·subst c16
          have H1 : (some 1) = some r := by rw [if_pos rfl] at H; exact H
          clear H
          have H := H1
          clear H1
          obtain rfl := Option.some.inj H
          have p14 : 0 ≤ (0 : Int) := (by omega)
          have q14 : 0 < x0_2.size := (by have : (0 : Int) < (x0_2.size : Int) := of_decide_eq_true (by first | (with_reducible assumption) | assumption); omega)
          have hx14 : ∀ h : 0 < x0_2.size, ((x0_2[0]'h).toNat : Int) = bt x0_2 0 := bt_at x0_2 0
          clear p14
          have qi14 : (0 < (x0_2.size : Int)) = True := eq_true (of_decide_eq_true (by first | (with_reducible assumption) | assumption))
          replace q14 := eq_true q14
          go_wp2
          go_ret
          exact ⟨by first | rfl | (simp; done) | (simp [*]; done), by repeat (first | exact Drawn0.refl _ | apply Drawn0.step)⟩
         ·replace c16 := Bool.eq_false_iff.mpr c16
          subst c16
          have H1 : (if a1 = true then (some 1) else (some 0)) = some r := by rw [if_neg (show ¬ (false = true) by decide)] at H; exact H
          clear H
          have H := H1
          clear H1
          by_cases c17 : a1 = true
          ·subst c17
           have H1 : (some 1) = some r := by rw [if_pos rfl] at H; exact H
           clear H
           have H := H1
           clear H1
           obtain rfl := Option.some.inj H
           have p14 : 0 ≤ (0 : Int) := (by omega)
           have q14 : 0 < x0_2.size := (by have : (0 : Int) < (x0_2.size : Int) := of_decide_eq_true (by first | (with_reducible assumption) | assumption); omega)
           have hx14 : ∀ h : 0 < x0_2.size, ((x0_2[0]'h).toNat : Int) = bt x0_2 0 := bt_at x0_2 0
           clear p14
           have qi14 : (0 < (x0_2.size : Int)) = True := eq_true (of_decide_eq_true (by first | (with_reducible assumption) | assumption))
           replace q14 := eq_true q14
           go_wp2
           go_ret
           exact ⟨by first | rfl | (simp; done) | (simp [*]; done), by repeat (first | exact Drawn0.refl _ | apply Drawn0.step)⟩
          ·replace c17 := Bool.eq_false_iff.mpr c17
           subst c17
           have H1 : (some 0) = some r := by rw [if_neg (show ¬ (false = true) by decide)] at H; exact H
           clear H
           have H := H1
           clear H1
           obtain rfl := Option.some.inj H
           have p14 : 0 ≤ (0 : Int) := (by omega)
           have q14 : 0 < x0_2.size := (by have : (0 : Int) < (x0_2.size : Int) := of_decide_eq_true (by first | (with_reducible assumption) | assumption); omega)
           have hx14 : ∀ h : 0 < x0_2.size, ((x0_2[0]'h).toNat : Int) = bt x0_2 0 := bt_at x0_2 0
           clear p14
           have qi14 : (0 < (x0_2.size : Int)) = True := eq_true (of_decide_eq_true (by first | (with_reducible assumption) | assumption))
           replace q14 := eq_true q14
           go_wp2
           go_ret
           exact ⟨by first | rfl | (simp; done) | (simp [*]; done), by repeat (first | exact Drawn0.refl _ | apply Drawn0.step)⟩
       ·rw [if_neg c13] at H
        exact absurd H (by simp)
   ·rw [if_neg c5] at H
    exact absurd H (by simp)
end Go.Proofs.Ytfegofnplcmacaa.PAll
namespace Go.Proofs.Ytfegofnplcmacaa.PAll
open Go.RowKit Go.Proofs.YtfegofnplcmacaaW.PrintWords Go.Proofs.YtfegofnplcmacaaW.PrintLast Go.Proofs.YtfegofnplcmacaaW.PrintMore
attribute [local go_sem] max2_int min2_int max_two min_two max_three min_three max_four min_four
set_option linter.unusedVariables false
set_option linter.unusedSimpArgs false
mutual
def vernierref07_Cut.j0 : Nat → Int → ByteArray → Bool → Int → Bool → Int → Int → Int → Bool → Option (Int × Int × Int)
 | 0, _, _, _, _, _, _, _, _, _ => none
 | k + 1, x0, x10, x11, x220000, x220001, x220002, x220003, x220004, x220005 => if x220002 ≥ (wrap64 ((wrap64 (4 * x0)) - 8)) then ((vernierref05_Power.f k (wrap64 (x0 - 1))).bind fun t226 => (some (IntKind.u64.wrap (t226 - 1), 0, 0))) else (if x220002 < (wrap64 (-(wrap64 ((wrap64 (4 * x0)) - 8)))) then (vernierref07_Cut.j1 k x0 x10 true x220000 x220001 x220002 x220003 x220004 x220005) else (if x220002 = (wrap64 (-(wrap64 ((wrap64 (4 * x0)) - 8)))) then (vernierref07_Cut.j1 k x0 x10 x11 x220000 x220001 x220002 x220003 x220004 x220005) else (vernierref07_Cut.j1 k x0 x10 false x220000 x220001 x220002 x220003 x220004 x220005)))
def vernierref07_Cut.j1 : Nat → Int → ByteArray → Bool → Int → Bool → Int → Int → Int → Bool → Option (Int × Int × Int)
 | 0, _, _, _, _, _, _, _, _, _ => none
 | k + 1, x0, x10, x73, x220000, x220001, x220002, x220003, x220004, x220005 => if x73 = true then (some (1, 0, 0)) else ((vernierref06_Head.f k x220002).bind fun t227 => (if t227.size + x10.size ≤ 9223372036854775807 then (if 0 ≤ (wrap64 (x0 - 1)) then (if (wrap64 (x0 - 1)) ≤ ((t227 ++ x10).size : Int) then ((vernierref01_Number.f k ((t227 ++ x10).extract 0 ((wrap64 (x0 - 1)) : Int).toNat)).bind fun t228 => ((vernierref07_left.f k ((t227 ++ x10).extract ((wrap64 (x0 - 1)) : Int).toNat (t227 ++ x10).size) x220005).bind fun t229 => (some (t228, t229, 0)))) else (none)) else (none)) else (none)))
end
def vernierref07_Cut.f (k : Nat) (a0 : Int) (a1_0 : Int) (a1_1 : Bool) (a1_2 : Int) (a1_3 : Int) (a1_4 : Int) (a1_5 : Bool) : Option (Int × Int × Int) := (vernierref05_Is.f a0).bind fun t220 => ((vernierref07_Sound.f a1_0 a1_1 a1_2 a1_3 a1_4 a1_5).bind fun t221 => (if t220 = true then (if t221 = true then (if a1_0 = 1 then ((vernierref01_Text.f k a1_3 64).bind fun t223 => (if 1 ≤ (t223.size : Int) then ((vernierref01_Text.f k a1_4 64).bind fun t224 => (if (t223.extract 1 t223.size).size + t224.size ≤ 9223372036854775807 then (if a1_5 = true then (vernierref07_Cut.j0 k a0 ((t223.extract 1 t223.size) ++ t224) false a1_0 a1_1 a1_2 a1_3 a1_4 a1_5) else ((vernierref07_some.f k ((t223.extract 1 t223.size) ++ t224)).bind fun t225 => (vernierref07_Cut.j0 k a0 ((t223.extract 1 t223.size) ++ t224) (!t225) a1_0 a1_1 a1_2 a1_3 a1_4 a1_5))) else (none))) else (none))) else (if a1_0 = 2 then ((vernierref05_Power.f k (wrap64 (a0 - 1))).bind fun t222 => (some (t222, 0, 0))) else (some (0, 0, 0)))) else (some (0, 0, 1))) else (some (0, 0, 2))))
theorem vernierref07_Cut.mono_l : ∀ k, (∀ y0 y1 y2 y3 y4 y5 y6 y7 y8, LeO (vernierref07_Cut.j0 k y0 y1 y2 y3 y4 y5 y6 y7 y8) (vernierref07_Cut.j0 (k + 1) y0 y1 y2 y3 y4 y5 y6 y7 y8)) ∧ (∀ y0 y1 y2 y3 y4 y5 y6 y7 y8, LeO (vernierref07_Cut.j1 k y0 y1 y2 y3 y4 y5 y6 y7 y8) (vernierref07_Cut.j1 (k + 1) y0 y1 y2 y3 y4 y5 y6 y7 y8))
 | 0 => ⟨fun _ _ _ _ _ _ _ _ _ r h => by simp [vernierref07_Cut.j0] at h, fun _ _ _ _ _ _ _ _ _ r h => by simp [vernierref07_Cut.j1] at h⟩
 | k + 1 => by
  obtain ⟨ih0, ih1⟩ := vernierref07_Cut.mono_l k
  refine ⟨?_, ?_⟩
  ·intro y0 y1 y2 y3 y4 y5 y6 y7 y8
   unfold vernierref07_Cut.j0
   repeat' first
   | (with_reducible exact ih0 _ _ _ _ _ _ _ _ _)
   | (with_reducible exact ih1 _ _ _ _ _ _ _ _ _)
   | (with_reducible exact vernierref01_Number.mono _ _)
   | (with_reducible exact vernierref01_Text.mono _ _ _)
   | (with_reducible exact vernierref05_Power.mono _ _)
   | (with_reducible exact vernierref06_Head.mono _ _)
   | (with_reducible exact vernierref07_left.mono _ _ _)
   | (with_reducible exact vernierref07_some.mono _ _)
   | (with_reducible exact LeO.refl _)
   | (with_reducible exact LeO.none _)
   | (with_reducible refine LeO.ite ?_ ?_)
   | (with_reducible refine LeO.bind ?_ (fun _ => ?_))
   | exact ih0 _ _ _ _ _ _ _ _ _
   | exact ih1 _ _ _ _ _ _ _ _ _
   | exact vernierref01_Number.mono _ _
   | exact vernierref01_Text.mono _ _ _
   | exact vernierref05_Power.mono _ _
   | exact vernierref06_Head.mono _ _
   | exact vernierref07_left.mono _ _ _
   | exact vernierref07_some.mono _ _
   | exact LeO.none _
   | refine LeO.ite ?_ ?_
   | refine LeO.bind ?_ (fun _ => ?_)
  ·intro y0 y1 y2 y3 y4 y5 y6 y7 y8
   unfold vernierref07_Cut.j1
   repeat' first
   | (with_reducible exact ih0 _ _ _ _ _ _ _ _ _)
   | (with_reducible exact ih1 _ _ _ _ _ _ _ _ _)
   | (with_reducible exact vernierref01_Number.mono _ _)
   | (with_reducible exact vernierref01_Text.mono _ _ _)
   | (with_reducible exact vernierref05_Power.mono _ _)
   | (with_reducible exact vernierref06_Head.mono _ _)
   | (with_reducible exact vernierref07_left.mono _ _ _)
   | (with_reducible exact vernierref07_some.mono _ _)
   | (with_reducible exact LeO.refl _)
   | (with_reducible exact LeO.none _)
   | (with_reducible refine LeO.ite ?_ ?_)
   | (with_reducible refine LeO.bind ?_ (fun _ => ?_))
   | exact ih0 _ _ _ _ _ _ _ _ _
   | exact ih1 _ _ _ _ _ _ _ _ _
   | exact vernierref01_Number.mono _ _
   | exact vernierref01_Text.mono _ _ _
   | exact vernierref05_Power.mono _ _
   | exact vernierref06_Head.mono _ _
   | exact vernierref07_left.mono _ _ _
   | exact vernierref07_some.mono _ _
   | exact LeO.none _
   | refine LeO.ite ?_ ?_
   | refine LeO.bind ?_ (fun _ => ?_)
theorem vernierref07_Cut.mono : ∀ a0 a1 a2 a3 a4 a5 a6 k, LeO (vernierref07_Cut.f k a0 a1 a2 a3 a4 a5 a6) (vernierref07_Cut.f (k + 1) a0 a1 a2 a3 a4 a5 a6) := by
 intro a0 a1 a2 a3 a4 a5 a6 k
 obtain ⟨ih0, ih1⟩ := vernierref07_Cut.mono_l k
 unfold vernierref07_Cut.f
 repeat' first
   | (with_reducible exact ih0 _ _ _ _ _ _ _ _ _)
   | (with_reducible exact ih1 _ _ _ _ _ _ _ _ _)
   | (with_reducible exact vernierref01_Number.mono _ _)
   | (with_reducible exact vernierref01_Text.mono _ _ _)
   | (with_reducible exact vernierref05_Power.mono _ _)
   | (with_reducible exact vernierref06_Head.mono _ _)
   | (with_reducible exact vernierref07_left.mono _ _ _)
   | (with_reducible exact vernierref07_some.mono _ _)
   | (with_reducible exact LeO.refl _)
   | (with_reducible exact LeO.none _)
   | (with_reducible refine LeO.ite ?_ ?_)
   | (with_reducible refine LeO.bind ?_ (fun _ => ?_))
   | exact ih0 _ _ _ _ _ _ _ _ _
   | exact ih1 _ _ _ _ _ _ _ _ _
   | exact vernierref01_Number.mono _ _
   | exact vernierref01_Text.mono _ _ _
   | exact vernierref05_Power.mono _ _
   | exact vernierref06_Head.mono _ _
   | exact vernierref07_left.mono _ _ _
   | exact vernierref07_some.mono _ _
   | exact LeO.none _
   | refine LeO.ite ?_ ?_
   | refine LeO.bind ?_ (fun _ => ?_)
def vernierref07_Cut.T12 : Bool × List (List Nat × List Nat) := (true, [([], []), ([0], [0]), ([1], [1]), ([2], [2]), ([], []), ([4], [4]), ([5, 2], [5]), ([3, 6], [3, 6]), ([7, 6, 0, 1, 2, 3, 4, 5, 6, 7], [7])])
def vernierref07_Cut.B12 : List Nat := [0, 1, 3, 7, 0, 16, 55, 127, 255]
theorem vernierref07_Cut.tab12 : rtab .any (opsOf Try.f12 12) = vernierref07_Cut.T12 := by kernel_rfl
theorem vernierref07_Cut.bits12 : waitsOk vernierref07_Cut.T12.2 vernierref07_Cut.B12 = true := by kernel_rfl
def vernierref07_Cut.T20 : Bool × List (List Nat × List Nat) := (true, [([], []), ([], []), ([1], [1]), ([0, 2], [0, 2]), ([3], [3]), ([], []), ([], []), ([6], [6]), ([5, 7], [5, 7]), ([], []), ([9], [9]), ([8, 10, 4], [8, 10]), ([4, 11, 0, 1, 2, 3, 4], [4]), ([11, 12, 0, 1, 2, 3, 4, 5, 6, 7, 8, 9, 10, 11, 12], [11]), ([13, 0, 1, 2, 3, 4, 5, 6, 7, 8, 9, 10, 11, 12, 13], [])])
def vernierref07_Cut.B20 : List Nat := [0, 0, 2, 7, 15, 0, 0, 64, 224, 0, 512, 2047, 4095, 8191, 16383]
theorem vernierref07_Cut.tab20 : rtab .any (opsOf Try.f12 20) = vernierref07_Cut.T20 := by kernel_rfl
theorem vernierref07_Cut.bits20 : waitsOk vernierref07_Cut.T20.2 vernierref07_Cut.B20 = true := by kernel_rfl
set_option maxHeartbeats 8000000 in
set_option maxRecDepth 100000 in
theorem vernierref07_Cut.calls (k : Nat) (a0 : Int) (a1_0 : Int) (a1_1 : Bool) (a1_2 : Int) (a1_3 : Int) (a1_4 : Int) (a1_5 : Bool) (r1 : Int) (r2 : Int) (r3 : Int) (w : World) (h : vernierref07_Cut.f k a0 a1_0 a1_1 a1_2 a1_3 a1_4 a1_5 = some (r1, r2, r3)) :
  Calls Try.prog 12 #[.int .i64 a0, .agg #[.int .i64 a1_0, .bool a1_1, .int .i64 a1_2, .int .u64 a1_3, .int .u64 a1_4, .bool a1_5]] w fun e w' => e = .returned (.tuple #[.int .u64 r1, .int .i64 r2, .int .i64 r3]) ∧ Below w.heap.size w w' := by
 have hu24 := Try.underlying24
 have HB := Aside0.mk (Below.refl w.heap.size w)
 have H : ((vernierref05_Is.f a0).bind fun t220 => ((vernierref07_Sound.f a1_0 a1_1 a1_2 a1_3 a1_4 a1_5).bind fun t221 => (if t220 = true then (if t221 = true then (if a1_0 = 1 then ((vernierref01_Text.f k a1_3 64).bind fun t223 => (if 1 ≤ (t223.size : Int) then ((vernierref01_Text.f k a1_4 64).bind fun t224 => (if (t223.extract 1 t223.size).size + t224.size ≤ 9223372036854775807 then (if a1_5 = true then (vernierref07_Cut.j0 k a0 ((t223.extract 1 t223.size) ++ t224) false a1_0 a1_1 a1_2 a1_3 a1_4 a1_5) else ((vernierref07_some.f k ((t223.extract 1 t223.size) ++ t224)).bind fun t225 => (vernierref07_Cut.j0 k a0 ((t223.extract 1 t223.size) ++ t224) (!t225) a1_0 a1_1 a1_2 a1_3 a1_4 a1_5))) else (none))) else (none))) else (if a1_0 = 2 then ((vernierref05_Power.f k (wrap64 (a0 - 1))).bind fun t222 => (some (t222, 0, 0))) else (some (0, 0, 0)))) else (some (0, 0, 1))) else (some (0, 0, 2))))) = some (r1, r2, r3) := h
 clear h
 replace H := Option.bind_eq_some_iff.mp H
 obtain ⟨t220, A30, H⟩ := H
 replace H : ((vernierref07_Sound.f a1_0 a1_1 a1_2 a1_3 a1_4 a1_5).bind fun t221 => (if t220 = true then (if t221 = true then (if a1_0 = 1 then ((vernierref01_Text.f k a1_3 64).bind fun t223 => (if 1 ≤ (t223.size : Int) then ((vernierref01_Text.f k a1_4 64).bind fun t224 => (if (t223.extract 1 t223.size).size + t224.size ≤ 9223372036854775807 then (if a1_5 = true then (vernierref07_Cut.j0 k a0 ((t223.extract 1 t223.size) ++ t224) false a1_0 a1_1 a1_2 a1_3 a1_4 a1_5) else ((vernierref07_some.f k ((t223.extract 1 t223.size) ++ t224)).bind fun t225 => (vernierref07_Cut.j0 k a0 ((t223.extract 1 t223.size) ++ t224) (!t225) a1_0 a1_1 a1_2 a1_3 a1_4 a1_5))) else (none))) else (none))) else (if a1_0 = 2 then ((vernierref05_Power.f k (wrap64 (a0 - 1))).bind fun t222 => (some (t222, 0, 0))) else (some (0, 0, 0)))) else (some (0, 0, 1))) else (some (0, 0, 2)))) = some (r1, r2, r3) := H
 have A3 := Aside0.mk A30
 clear A30
 replace H := Option.bind_eq_some_iff.mp H
 obtain ⟨t221, A40, H⟩ := H
 replace H : (if t220 = true then (if t221 = true then (if a1_0 = 1 then ((vernierref01_Text.f k a1_3 64).bind fun t223 => (if 1 ≤ (t223.size : Int) then ((vernierref01_Text.f k a1_4 64).bind fun t224 => (if (t223.extract 1 t223.size).size + t224.size ≤ 9223372036854775807 then (if a1_5 = true then (vernierref07_Cut.j0 k a0 ((t223.extract 1 t223.size) ++ t224) false a1_0 a1_1 a1_2 a1_3 a1_4 a1_5) else ((vernierref07_some.f k ((t223.extract 1 t223.size) ++ t224)).bind fun t225 => (vernierref07_Cut.j0 k a0 ((t223.extract 1 t223.size) ++ t224) (!t225) a1_0 a1_1 a1_2 a1_3 a1_4 a1_5))) else (none))) else (none))) else (if a1_0 = 2 then ((vernierref05_Power.f k (wrap64 (a0 - 1))).bind fun t222 => (some (t222, 0, 0))) else (some (0, 0, 0)))) else (some (0, 0, 1))) else (some (0, 0, 2))) = some (r1, r2, r3) := H
 have A4 := Aside0.mk A40
 clear A40
 by_cases c5 : t220 = true
 ·subst c5
  have H1 : (if t221 = true then (if a1_0 = 1 then ((vernierref01_Text.f k a1_3 64).bind fun t223 => (if 1 ≤ (t223.size : Int) then ((vernierref01_Text.f k a1_4 64).bind fun t224 => (if (t223.extract 1 t223.size).size + t224.size ≤ 9223372036854775807 then (if a1_5 = true then (vernierref07_Cut.j0 k a0 ((t223.extract 1 t223.size) ++ t224) false a1_0 a1_1 a1_2 a1_3 a1_4 a1_5) else ((vernierref07_some.f k ((t223.extract 1 t223.size) ++ t224)).bind fun t225 => (vernierref07_Cut.j0 k a0 ((t223.extract 1 t223.size) ++ t224) (!t225) a1_0 a1_1 a1_2 a1_3 a1_4 a1_5))) else (none))) else (none))) else (if a1_0 = 2 then ((vernierref05_Power.f k (wrap64 (a0 - 1))).bind fun t222 => (some (t222, 0, 0))) else (some (0, 0, 0)))) else (some (0, 0, 1))) = some (r1, r2, r3) := by rw [if_pos rfl] at H; exact H
  clear H
  have H := H1
  clear H1
  by_cases c6 : t221 = true
  ·subst c6
   have H1 : (if a1_0 = 1 then ((vernierref01_Text.f k a1_3 64).bind fun t223 => (if 1 ≤ (t223.size : Int) then ((vernierref01_Text.f k a1_4 64).bind fun t224 => (if (t223.extract 1 t223.size).size + t224.size ≤ 9223372036854775807 then (if a1_5 = true then (vernierref07_Cut.j0 k a0 ((t223.extract 1 t223.size) ++ t224) false a1_0 a1_1 a1_2 a1_3 a1_4 a1_5) else ((vernierref07_some.f k ((t223.extract 1 t223.size) ++ t224)).bind fun t225 => (vernierref07_Cut.j0 k a0 ((t223.extract 1 t223.size) ++ t224) (!t225) a1_0 a1_1 a1_2 a1_3 a1_4 a1_5))) else (none))) else (none))) else (if a1_0 = 2 then ((vernierref05_Power.f k (wrap64 (a0 - 1))).bind fun t222 => (some (t222, 0, 0))) else (some (0, 0, 0)))) = some (r1, r2, r3) := by rw [if_pos rfl] at H; exact H
   clear H
   have H := H1
   clear H1
   by_cases c7 : a1_0 = 1
   ·rw [if_pos c7] at H
    have c7b0 : (a1_0 == 1) = true := beq_iff_eq.mpr c7
    have c7b1 : (a1_0 != 1) = false := bne_eq_false_iff_eq.mpr c7
    clear c7
    replace H := Option.bind_eq_some_iff.mp H
    obtain ⟨t223, A80, H⟩ := H
    replace H : (if 1 ≤ (t223.size : Int) then ((vernierref01_Text.f k a1_4 64).bind fun t224 => (if (t223.extract 1 t223.size).size + t224.size ≤ 9223372036854775807 then (if a1_5 = true then (vernierref07_Cut.j0 k a0 ((t223.extract 1 t223.size) ++ t224) false a1_0 a1_1 a1_2 a1_3 a1_4 a1_5) else ((vernierref07_some.f k ((t223.extract 1 t223.size) ++ t224)).bind fun t225 => (vernierref07_Cut.j0 k a0 ((t223.extract 1 t223.size) ++ t224) (!t225) a1_0 a1_1 a1_2 a1_3 a1_4 a1_5))) else (none))) else (none)) = some (r1, r2, r3) := H
    have A8 := Aside0.mk A80
    clear A80
    by_cases c9 : 1 ≤ (t223.size : Int)
    ·rw [if_pos c9] at H
     have c9b0 := eq_true c9
     have c9b1 : decide (1 ≤ (t223.size : Int)) = true := decide_eq_true c9
     clear c9
     replace H := Option.bind_eq_some_iff.mp H
     obtain ⟨t224, A100, H⟩ := H
     replace H : (if (t223.extract 1 t223.size).size + t224.size ≤ 9223372036854775807 then (if a1_5 = true then (vernierref07_Cut.j0 k a0 ((t223.extract 1 t223.size) ++ t224) false a1_0 a1_1 a1_2 a1_3 a1_4 a1_5) else ((vernierref07_some.f k ((t223.extract 1 t223.size) ++ t224)).bind fun t225 => (vernierref07_Cut.j0 k a0 ((t223.extract 1 t223.size) ++ t224) (!t225) a1_0 a1_1 a1_2 a1_3 a1_4 a1_5))) else (none)) = some (r1, r2, r3) := H
     have A10 := Aside0.mk A100
     clear A100
     by_cases c11 : (t223.extract 1 t223.size).size + t224.size ≤ 9223372036854775807
     ·rw [if_pos c11] at H
      have c11b0 := eq_true c11
      have c11b1 : decide ((t223.extract 1 t223.size).size + t224.size ≤ 9223372036854775807) = true := decide_eq_true c11
      try have c11b2 : (9223372036854775807 < (t223.extract 1 t223.size).size + t224.size) = False := eq_false (Nat.not_lt.2 c11)
      (try (have c11e0 := c11b0; simp only [ByteArray.size_extract, Nat.min_self, Nat.sub_zero] at c11e0))
      (try (have c11e1 := c11b1; simp only [ByteArray.size_extract, Nat.min_self, Nat.sub_zero] at c11e1))
      (try (have c11e2 := c11b2; simp only [ByteArray.size_extract, Nat.min_self, Nat.sub_zero] at c11e2))
      obtain ⟨ji12, hji12⟩ : ∃ j_ : ByteArray, ((t223.extract 1 t223.size) ++ t224) = j_ := ⟨_, rfl⟩
      replace H : (if a1_5 = true then (vernierref07_Cut.j0 k a0 ji12 false a1_0 a1_1 a1_2 a1_3 a1_4 a1_5) else ((vernierref07_some.f k (ji12)).bind fun t225 => (vernierref07_Cut.j0 k a0 ji12 (!t225) a1_0 a1_1 a1_2 a1_3 a1_4 a1_5))) = some (r1, r2, r3) := by first | (rw [hji12] at H; exact H) | (simp only [hji12] at H ⊢; exact H)
      (try rw [hji12] at A3)
      (try rw [hji12] at A4)
      (try rw [hji12] at A8)
      (try rw [hji12] at A10)
      have HC13 := Aside0.mk H
      clear H
      go_enter Try.func12, Try.ntmps12
      try go_wp2_with (first | ((with_reducible refine gate_dst (N := 3) rfl ?_); refine box_event ?hg (N := 3) ?hd (cs := #[.int .i64 a1_0, .bool a1_1, .int .i64 a1_2, .int .u64 a1_3, .int .u64 a1_4, .bool a1_5]) (t := 24) ?hr ?_; (case hd => rfl); (case hg => rfl); (case hr => first | (go_simp; done) | (go_simp; rfl)); intro gb219 hg w14 hbox hb; have n0_ := Aside0.mk (below_step (z3_ HB.out) hb); have n1_ := Aside0.mk (hbox); have n2_ := Aside0.mk ((by rw [hg]; exact (below_size (z3_ HB.out)) : w.heap.size ≤ gb219)); have n3_ := Aside0.mk ((by rw [hg]; exact (below_size (z3_ HB.out)) : w.heap.size ≤ gb219)); clear HB; have HB := n0_; have BK219 := n1_; have GW219 := n2_; have GE219 := n3_; clear n0_ n1_ n2_ n3_; clear hb hbox hg) | ((with_reducible refine gate_callee (f := 17) rfl ?_); refine goesL_ (some 15) rfl rfl Try.func17 (by kernel_rfl) rfl #[.int .i64 a0] rfl z5_ ?_; (with_reducible refine (vernierref05_Is.calls a0 true _ A3.out).mono ?_); rintro e w' ⟨rfl, ⟨nd, rfl⟩⟩; refine ⟨_, rfl, ?_⟩; have hcz15_0 := z4_ BK219.out 0 (.int .i64 a1_0) rfl; have hcz15_1 := z4_ BK219.out 1 (.bool a1_1) rfl; have hcz15_2 := z4_ BK219.out 2 (.int .i64 a1_2) rfl; have hcz15_3 := z4_ BK219.out 3 (.int .u64 a1_3) rfl; have hcz15_4 := z4_ BK219.out 4 (.int .u64 a1_4) rfl; have hcz15_5 := z4_ BK219.out 5 (.bool a1_5) rfl; have hfz15_0 := blk_frozen BK219.out 0; have hfz15_1 := blk_frozen BK219.out 1; have hfz15_2 := blk_frozen BK219.out 2; have hfz15_3 := blk_frozen BK219.out 3; have hfz15_4 := blk_frozen BK219.out 4; have hfz15_5 := blk_frozen BK219.out 5) | ((with_reducible refine gate_callee (f := 16) rfl ?_); refine goesL_ (some 17) rfl rfl Try.func16 (by kernel_rfl) rfl #[.agg #[.int .i64 a1_0, .bool a1_1, .int .i64 a1_2, .int .u64 a1_3, .int .u64 a1_4, .bool a1_5]] rfl z5_ ?_; (with_reducible refine (vernierref07_Sound.calls a1_0 a1_1 a1_2 a1_3 a1_4 a1_5 true _ A4.out).mono ?_); rintro e w16 ⟨rfl, hb⟩; refine ⟨_, rfl, ?_⟩; have n0_ := Aside0.mk (blk_below (g := gb219) (z1_ BK219.out) hb); have n1_ := Aside0.mk (below_step (z3_ HB.out) hb); clear BK219; clear HB; have BK219 := n0_; have HB := n1_; clear n0_ n1_; (try clear hb); (try clear hb2); (try clear hk); (try clear hi); have hcz17_0 := z4_ BK219.out 0 (.int .i64 a1_0) rfl; have hcz17_1 := z4_ BK219.out 1 (.bool a1_1) rfl; have hcz17_2 := z4_ BK219.out 2 (.int .i64 a1_2) rfl; have hcz17_3 := z4_ BK219.out 3 (.int .u64 a1_3) rfl; have hcz17_4 := z4_ BK219.out 4 (.int .u64 a1_4) rfl; have hcz17_5 := z4_ BK219.out 5 (.bool a1_5) rfl; have hfz17_0 := blk_frozen BK219.out 0; have hfz17_1 := blk_frozen BK219.out 1; have hfz17_2 := blk_frozen BK219.out 2; have hfz17_3 := blk_frozen BK219.out 3; have hfz17_4 := blk_frozen BK219.out 4; have hfz17_5 := blk_frozen BK219.out 5))
      have n0_ := Aside0.mk (blk_drew BK219.out)
      have n1_ := Aside0.mk (below_drew1 HB.out)
      clear BK219
      clear HB
      have BK219 := n0_
      have HB := n1_
      clear n0_ n1_
      refine start_ (n := 9) (S := fun w' => w'.cell? ⟨gb219, 0, none⟩ = some (.int .i64 a1_0) ∧ w'.cell? ⟨gb219, 1, none⟩ = some (.bool a1_1) ∧ w'.cell? ⟨gb219, 2, none⟩ = some (.int .i64 a1_2) ∧ w'.cell? ⟨gb219, 3, none⟩ = some (.int .u64 a1_3) ∧ w'.cell? ⟨gb219, 4, none⟩ = some (.int .u64 a1_4) ∧ w'.cell? ⟨gb219, 5, none⟩ = some (.bool a1_5)) (ds := []) #[false, false, false, false, false, false, false, false, false] (by kernel_rfl) rfl rfl ⟨(blk_cell BK219.out 0).trans rfl, (blk_cell BK219.out 1).trans rfl, (blk_cell BK219.out 2).trans rfl, (blk_cell BK219.out 3).trans rfl, (blk_cell BK219.out 4).trans rfl, (blk_cell BK219.out 5).trans rfl⟩ (fun hHeld => ?_); refine with_tabW vernierref07_Cut.tab12 vernierref07_Cut.bits12 (fun HT_ HW_ => ?_)
      generalize w16.drew = w18 at BK219 HB hHeld ⊢
      refine pure_ (i := 0) (N := some 32) (v := ?_) (a' := ?_) #[true, false, false, false, false, false, false, false, false] rfl rfl (any_of HT_.out (by kernel_rfl)) (fun _ _ _ h => h) (Or.inl ⟨by rfl, ?_⟩) ?_ ?_
      rotate_left
      ·intro w'
       go_simp
       with_reducible rfl
      rotate_left
      ·simp only [Act.put, List.setIfInBounds_toArray, List.set_cons_zero, List.set_cons_succ, i64_w, i32_w]
       rfl
      refine pure_ (i := 4) (N := some 36) (v := ?_) (a' := ?_) #[true, false, false, false, true, false, false, false, false] rfl rfl (any_of HT_.out (by kernel_rfl)) (fun _ _ _ h => h) (Or.inl ⟨by rfl, ?_⟩) ?_ ?_
      rotate_left
      ·intro w'
       go_simp
       with_reducible rfl
      rotate_left
      ·simp only [Act.put, List.setIfInBounds_toArray, List.set_cons_zero, List.set_cons_succ, i64_w, i32_w]
       rfl
      refine take_ (i := 1) (N := some 33) (v := ?_) (a' := ?_) #[true, true, false, false, true, false, false, false, false] rfl rfl (take_ofW HT_.out HW_.out (by kernel_rfl)) (fun _ _ _ h => h) (Or.inl ⟨by rfl, ?_⟩) hHeld ?_ ?_
      rotate_left
      ·rintro w' ⟨s0, s1, s2, s3, s4, s5⟩
       go_simp
       with_reducible rfl
      rotate_left
      ·simp only [Act.put, List.setIfInBounds_toArray, List.set_cons_zero, List.set_cons_succ, i64_w, i32_w]
       rfl
      refine take_ (i := 5) (N := some 37) (v := ?_) (a' := ?_) #[true, true, false, false, true, true, false, false, false] rfl rfl (take_ofW HT_.out HW_.out (by kernel_rfl)) (fun _ _ _ h => h) (Or.inl ⟨by rfl, ?_⟩) hHeld ?_ ?_
      rotate_left
      ·rintro w' ⟨s0, s1, s2, s3, s4, s5⟩
       go_simp
       with_reducible rfl
      rotate_left
      ·simp only [Act.put, List.setIfInBounds_toArray, List.set_cons_zero, List.set_cons_succ, i64_w, i32_w]
       rfl
      refine one_ (i := 2) (N := some 34) #[true, true, true, false, true, true, false, false, false] rfl rfl (one_of HT_.out (by kernel_rfl)) (by decide) (fun K hK => ?_)
      refine goes_ Try.func32 (by kernel_rfl) rfl #[.int .u64 a1_3, .int .i64 64] (by rfl) rfl rfl z5_ ?_
      with_reducible refine (vernierref01_Text.calls k a1_3 64 t223 _ A8.out).mono ?_
      rintro e w19 ⟨rfl, hb⟩
      refine ⟨_, rfl, ?_⟩
      have n0_ := Aside0.mk (blk_below (g := gb219) (z1_ BK219.out) hb)
      have n1_ := Aside0.mk (below_step (z3_ HB.out) hb)
      clear BK219
      clear HB
      have BK219 := n0_
      have HB := n1_
      clear n0_ n1_
      (try clear hb)
      (try clear hb2)
      (try clear hk)
      (try clear hi)
      refine hK.out _ _ ⟨(blk_cell BK219.out 0).trans rfl, (blk_cell BK219.out 1).trans rfl, (blk_cell BK219.out 2).trans rfl, (blk_cell BK219.out 3).trans rfl, (blk_cell BK219.out 4).trans rfl, (blk_cell BK219.out 5).trans rfl⟩ (fun hHeld => ?_)
      clear hK K
      refine norm_ (a' := ?_) ?_ ?_
      rotate_left
      ·show Act.put _ (some 34) _ = _
       simp only [Act.put, List.setIfInBounds_toArray, List.set_cons_zero, List.set_cons_succ, i64_w, i32_w]
       rfl
      refine pure_ (i := 3) (N := some 35) (v := ?_) (a' := ?_) #[true, true, true, true, true, true, false, false, false] rfl rfl (any_of HT_.out (by kernel_rfl)) (fun _ _ _ h => h) (Or.inl ⟨by rfl, ?_⟩) ?_ ?_
      rotate_left
      ·intro w'
       go_simp
       with_reducible rfl
      rotate_left
      ·simp only [Act.put, List.setIfInBounds_toArray, List.set_cons_zero, List.set_cons_succ, i64_w, i32_w]
       rfl
      refine one_ (i := 6) (N := some 38) #[true, true, true, true, true, true, true, false, false] rfl rfl (one_of HT_.out (by kernel_rfl)) (by decide) (fun K hK => ?_)
      refine goes_ Try.func32 (by kernel_rfl) rfl #[.int .u64 a1_4, .int .i64 64] (by rfl) rfl rfl z5_ ?_
      with_reducible refine (vernierref01_Text.calls k a1_4 64 t224 _ A10.out).mono ?_
      rintro e w20 ⟨rfl, hb⟩
      refine ⟨_, rfl, ?_⟩
      have n0_ := Aside0.mk (blk_below (g := gb219) (z1_ BK219.out) hb)
      have n1_ := Aside0.mk (below_step (z3_ HB.out) hb)
      clear BK219
      clear HB
      have BK219 := n0_
      have HB := n1_
      clear n0_ n1_
      (try clear hb)
      (try clear hb2)
      (try clear hk)
      (try clear hi)
      refine hK.out _ _ ⟨(blk_cell BK219.out 0).trans rfl, (blk_cell BK219.out 1).trans rfl, (blk_cell BK219.out 2).trans rfl, (blk_cell BK219.out 3).trans rfl, (blk_cell BK219.out 4).trans rfl, (blk_cell BK219.out 5).trans rfl⟩ (fun hHeld => ?_)
      clear hK K
      refine norm_ (a' := ?_) ?_ ?_
      rotate_left
      ·show Act.put _ (some 38) _ = _
       simp only [Act.put, List.setIfInBounds_toArray, List.set_cons_zero, List.set_cons_succ, i64_w, i32_w]
       rfl
      refine pure_ (i := 7) (N := some 39) (v := ?_) (a' := ?_) #[true, true, true, true, true, true, true, true, false] rfl rfl (any_of HT_.out (by kernel_rfl)) (fun _ _ _ h => h) (Or.inl ⟨by rfl, ?_⟩) ?_ ?_
      rotate_left
      ·intro w'
       go_simp
       with_reducible rfl
      rotate_left
      ·simp only [Act.put, List.setIfInBounds_toArray, List.set_cons_zero, List.set_cons_succ, i64_w, i32_w]
       rfl
      refine pure_ (i := 8) (N := some 10) (v := ?_) (a' := ?_) #[true, true, true, true, true, true, true, true, true] rfl rfl (any_of HT_.out (by kernel_rfl)) (fun _ _ _ h => h) (Or.inl ⟨by rfl, ?_⟩) ?_ ?_
      rotate_left
      ·intro w'
       go_simp
       with_reducible rfl
      rotate_left
      ·simp only [Act.put, List.setIfInBounds_toArray, List.set_cons_zero, List.set_cons_succ, i64_w, i32_w]
       rfl
      refine done_ (done_of HT_.out (by kernel_rfl)) ?_
      go_upto_region 13 with (fail)
      go_cut [11] (fun v11 wc => ∃ (kq : Nat) (x11_12 : Bool), v11 = .bool x11_12 ∧ Aside0 (vernierref07_Cut.j0 kq a0 ji12 x11_12 a1_0 a1_1 a1_2 a1_3 a1_4 a1_5 = some (r1, r2, r3)) ∧ Aside0 (kq ≤ k) ∧ Aside0 (wc.heap[gb219]? = some (.cells #[.int .i64 a1_0, .bool a1_1, .int .i64 a1_2, .int .u64 a1_3, .int .u64 a1_4, .bool a1_5] 24 (0, 0))) ∧ Aside0 (Below w.heap.size w wc))
      case first =>
       have H := HC13.out
       clear HC13
       by_cases c21 : a1_5 = true
       ·subst c21
        have H1 : (vernierref07_Cut.j0 k a0 ji12 false a1_0 a1_1 a1_2 a1_3 a1_4 true) = some (r1, r2, r3) := by rw [if_pos rfl] at H; exact H
        clear H
        have H := H1
        clear H1
        have H' := Aside0.mk H
        clear H
        have hcz22_0 := z4_ BK219.out 0 (.int .i64 a1_0) rfl
        have hcz22_1 := z4_ BK219.out 1 (.bool a1_1) rfl
        have hcz22_2 := z4_ BK219.out 2 (.int .i64 a1_2) rfl
        have hcz22_3 := z4_ BK219.out 3 (.int .u64 a1_3) rfl
        have hcz22_4 := z4_ BK219.out 4 (.int .u64 a1_4) rfl
        have hcz22_5 := z4_ BK219.out 5 (.bool true) rfl
        have hfz22_0 := blk_frozen BK219.out 0
        have hfz22_1 := blk_frozen BK219.out 1
        have hfz22_2 := blk_frozen BK219.out 2
        have hfz22_3 := blk_frozen BK219.out 3
        have hfz22_4 := blk_frozen BK219.out 4
        have hfz22_5 := blk_frozen BK219.out 5
        go_wp2
        go_meet
        case rel => exact ⟨_, (false), (by first | rfl | (simp; done) | (simp [*]; done)), H', ⟨by first | omega | exact Nat.le_refl _⟩, ⟨by refine z2_ ?_; exact BK219.out⟩, ⟨by repeat (first | (with_reducible first | exact HB.out | apply below_alloc | apply pw_below_drewN | apply below_drew1 | refine below_set ?_ GE219.out) | exact HB.out)⟩⟩
       ·replace c21 := Bool.eq_false_iff.mpr c21
        subst c21
        have H1 : ((vernierref07_some.f k (ji12)).bind fun t225 => (vernierref07_Cut.j0 k a0 ji12 (!t225) a1_0 a1_1 a1_2 a1_3 a1_4 false)) = some (r1, r2, r3) := by rw [if_neg (show ¬ (false = true) by decide)] at H; exact H
        clear H
        have H := H1
        clear H1
        replace H := Option.bind_eq_some_iff.mp H
        obtain ⟨t225, A230, H⟩ := H
        replace H : (vernierref07_Cut.j0 k a0 ji12 (!t225) a1_0 a1_1 a1_2 a1_3 a1_4 false) = some (r1, r2, r3) := H
        have A23 := Aside0.mk A230
        clear A230
        have H' := Aside0.mk H
        clear H
        have hcz24_0 := z4_ BK219.out 0 (.int .i64 a1_0) rfl
        have hcz24_1 := z4_ BK219.out 1 (.bool a1_1) rfl
        have hcz24_2 := z4_ BK219.out 2 (.int .i64 a1_2) rfl
        have hcz24_3 := z4_ BK219.out 3 (.int .u64 a1_3) rfl
        have hcz24_4 := z4_ BK219.out 4 (.int .u64 a1_4) rfl
        have hcz24_5 := z4_ BK219.out 5 (.bool false) rfl
        have hfz24_0 := blk_frozen BK219.out 0
        have hfz24_1 := blk_frozen BK219.out 1
        have hfz24_2 := blk_frozen BK219.out 2
        have hfz24_3 := blk_frozen BK219.out 3
        have hfz24_4 := blk_frozen BK219.out 4
        have hfz24_5 := blk_frozen BK219.out 5
        go_wp2_with (first | (go_at_call 33; (with_reducible refine (vernierref07_some.calls k ji12 t225 _ A23.out).mono ?_); rintro e w' ⟨rfl, ⟨nd, rfl⟩⟩))
        go_meet
        case rel => exact ⟨_, (!t225), (by first | rfl | (simp; done) | (simp [*]; done)), H', ⟨by first | omega | exact Nat.le_refl _⟩, ⟨by refine z2_ ?_; exact BK219.out⟩, ⟨by repeat (first | (with_reducible first | exact HB.out | apply below_alloc | apply pw_below_drewN | apply below_drew1 | refine below_set ?_ GE219.out) | exact HB.out)⟩⟩
      case rest =>
       clear HC13
       try clear c1
       try clear c2
       try clear p2
       try clear c3
       try clear c5
       try clear c6
       try clear p6
       try clear c7
       try clear c7b0
       try clear c7b1
       try clear c9
       try clear c9b0
       try clear c9b1
       try clear c11
       try clear c11b0
       try clear c11b1
       try clear c11b2
       try clear c12
       try clear c16
       try clear c17
       try clear c21
       try clear hcz15_0
       try clear hcz15_1
       try clear hcz15_2
       try clear hcz15_3
       try clear hcz15_4
       try clear hcz15_5
       try clear hcz17_0
       try clear hcz17_1
       try clear hcz17_2
       try clear hcz17_3
       try clear hcz17_4
       try clear hcz17_5
       try clear hcz22_0
       try clear hcz22_1
       try clear hcz22_2
       try clear hcz22_3
       try clear hcz22_4
       try clear hcz22_5
       try clear hcz24_0
       try clear hcz24_1
       try clear hcz24_2
       try clear hcz24_3
       try clear hcz24_4
       try clear hcz24_5
       try clear hfz15_0
       try clear hfz15_1
       try clear hfz15_2
       try clear hfz15_3
       try clear hfz15_4
       try clear hfz15_5
       try clear hfz17_0
       try clear hfz17_1
       try clear hfz17_2
       try clear hfz17_3
       try clear hfz17_4
       try clear hfz17_5
       try clear hfz22_0
       try clear hfz22_1
       try clear hfz22_2
       try clear hfz22_3
       try clear hfz22_4
       try clear hfz22_5
       try clear hfz24_0
       try clear hfz24_1
       try clear hfz24_2
       try clear hfz24_3
       try clear hfz24_4
       try clear hfz24_5
       obtain ⟨kq, x11_12, rfl, HA, HJ12, BK219, HB⟩ := hcut
       cases kq with
       | zero => exact absurd HA.out (by simp [vernierref07_Cut.j0])
       | succ kj12 =>
        have H := HA.out
        clear HA
        simp only [vernierref07_Cut.j0] at H
        by_cases c25 : a1_2 ≥ (wrap64 ((wrap64 (4 * a0)) - 8))
        ·rw [if_pos c25] at H
         have c25b0 : decide ((wrap64 ((wrap64 (4 * a0)) - 8)) ≤ a1_2) = true := decide_eq_true c25
         clear c25
         replace H := Option.bind_eq_some_iff.mp H
         obtain ⟨t226, A260, H⟩ := H
         replace H : (some (IntKind.u64.wrap (t226 - 1), 0, 0)) = some (r1, r2, r3) := H
         have A26 := Aside0.mk A260
         clear A260
         simp only [Option.some.injEq, Prod.mk.injEq] at H
         obtain ⟨rfl, rfl, rfl⟩ := H
         have hcz27_0 := z4_ BK219.out 0 (.int .i64 a1_0) rfl
         have hcz27_1 := z4_ BK219.out 1 (.bool a1_1) rfl
         have hcz27_2 := z4_ BK219.out 2 (.int .i64 a1_2) rfl
         have hcz27_3 := z4_ BK219.out 3 (.int .u64 a1_3) rfl
         have hcz27_4 := z4_ BK219.out 4 (.int .u64 a1_4) rfl
         have hcz27_5 := z4_ BK219.out 5 (.bool a1_5) rfl
         have hfz27_0 := blk_frozen BK219.out 0
         have hfz27_1 := blk_frozen BK219.out 1
         have hfz27_2 := blk_frozen BK219.out 2
         have hfz27_3 := blk_frozen BK219.out 3
         have hfz27_4 := blk_frozen BK219.out 4
         have hfz27_5 := blk_frozen BK219.out 5
         go_wp2_with (first | ((with_reducible refine gate_callee (f := 26) rfl ?_); refine goesL_ (some 57) rfl rfl Try.func26 (by kernel_rfl) rfl #[.int .i64 (wrap64 (a0 - 1))] rfl z5_ ?_; (with_reducible refine (vernierref05_Power.calls kj12 (wrap64 (a0 - 1)) t226 _ A26.out).mono ?_); rintro e w' ⟨rfl, ⟨nd, rfl⟩⟩; refine ⟨_, rfl, ?_⟩))
         go_ret3
         exact ⟨by first | rfl | (simp [errW_none, errW_some] <;> rfl) | (simp only [← hji12]; first | rfl | (simp [errW_none, errW_some] <;> rfl)) | (simp [*, errW_none, errW_some] <;> rfl), by repeat (first | (with_reducible first | exact HB.out | apply below_alloc | apply pw_below_drewN | apply below_drew1 | refine below_set ?_ GE219.out) | exact HB.out)⟩
        ·rw [if_neg c25] at H
         have c25b0 : decide ((wrap64 ((wrap64 (4 * a0)) - 8)) ≤ a1_2) = false := decide_eq_false c25
         clear c25
         have HC28 := Aside0.mk H
         clear H
         have hcz29_0 := z4_ BK219.out 0 (.int .i64 a1_0) rfl
         have hcz29_1 := z4_ BK219.out 1 (.bool a1_1) rfl
         have hcz29_2 := z4_ BK219.out 2 (.int .i64 a1_2) rfl
         have hcz29_3 := z4_ BK219.out 3 (.int .u64 a1_3) rfl
         have hcz29_4 := z4_ BK219.out 4 (.int .u64 a1_4) rfl
         have hcz29_5 := z4_ BK219.out 5 (.bool a1_5) rfl
         have hfz29_0 := blk_frozen BK219.out 0
         have hfz29_1 := blk_frozen BK219.out 1
         have hfz29_2 := blk_frozen BK219.out 2
         have hfz29_3 := blk_frozen BK219.out 3
         have hfz29_4 := blk_frozen BK219.out 4
         have hfz29_5 := blk_frozen BK219.out 5
         go_upto_region 17 with (fail)
         go_cut [73] (fun v73 wc => ∃ (kq : Nat) (x73_27 : Bool), v73 = .bool x73_27 ∧ Aside0 (vernierref07_Cut.j1 kq a0 ji12 x73_27 a1_0 a1_1 a1_2 a1_3 a1_4 a1_5 = some (r1, r2, r3)) ∧ Aside0 (kq ≤ kj12) ∧ Aside0 (wc.heap[gb219]? = some (.cells #[.int .i64 a1_0, .bool a1_1, .int .i64 a1_2, .int .u64 a1_3, .int .u64 a1_4, .bool a1_5] 24 (0, 0))) ∧ Aside0 (Below w.heap.size w wc))
         case first =>
          have H := HC28.out
          clear HC28
          by_cases c30 : a1_2 < (wrap64 (-(wrap64 ((wrap64 (4 * a0)) - 8))))
          ·rw [if_pos c30] at H
           have c30b0 : decide (a1_2 < (wrap64 (-(wrap64 ((wrap64 (4 * a0)) - 8))))) = true := decide_eq_true c30
           clear c30
           (first | rw [c30b0] | (simp only [i64_w, i32_w]; rw [c30b0]) | skip)
           have H' := Aside0.mk H
           clear H
           have hcz31_0 := z4_ BK219.out 0 (.int .i64 a1_0) rfl
           have hcz31_1 := z4_ BK219.out 1 (.bool a1_1) rfl
           have hcz31_2 := z4_ BK219.out 2 (.int .i64 a1_2) rfl
           have hcz31_3 := z4_ BK219.out 3 (.int .u64 a1_3) rfl
           have hcz31_4 := z4_ BK219.out 4 (.int .u64 a1_4) rfl
           have hcz31_5 := z4_ BK219.out 5 (.bool a1_5) rfl
           have hfz31_0 := blk_frozen BK219.out 0
           have hfz31_1 := blk_frozen BK219.out 1
           have hfz31_2 := blk_frozen BK219.out 2
           have hfz31_3 := blk_frozen BK219.out 3
           have hfz31_4 := blk_frozen BK219.out 4
           have hfz31_5 := blk_frozen BK219.out 5
           go_wp2
           go_meet
           case rel => exact ⟨_, (true), (by first | rfl | (simp; done) | (simp [*]; done)), H', ⟨by have := HJ12.out; first | omega | exact Nat.le_refl _⟩, ⟨by refine z2_ ?_; exact BK219.out⟩, ⟨by repeat (first | (with_reducible first | exact HB.out | apply below_alloc | apply pw_below_drewN | apply below_drew1 | refine below_set ?_ GE219.out) | exact HB.out)⟩⟩
          ·rw [if_neg c30] at H
           have c30b0 : decide (a1_2 < (wrap64 (-(wrap64 ((wrap64 (4 * a0)) - 8))))) = false := decide_eq_false c30
           clear c30
           (first | rw [c30b0] | (simp only [i64_w, i32_w]; rw [c30b0]) | skip)
           by_cases c32 : a1_2 = (wrap64 (-(wrap64 ((wrap64 (4 * a0)) - 8))))
           ·rw [if_pos c32] at H
            have c32b0 : (a1_2 == (wrap64 (-(wrap64 ((wrap64 (4 * a0)) - 8))))) = true := beq_iff_eq.mpr c32
            have c32b1 : (a1_2 != (wrap64 (-(wrap64 ((wrap64 (4 * a0)) - 8))))) = false := bne_eq_false_iff_eq.mpr c32
            clear c32
            have H' := Aside0.mk H
            clear H
            have hcz33_0 := z4_ BK219.out 0 (.int .i64 a1_0) rfl
            have hcz33_1 := z4_ BK219.out 1 (.bool a1_1) rfl
            have hcz33_2 := z4_ BK219.out 2 (.int .i64 a1_2) rfl
            have hcz33_3 := z4_ BK219.out 3 (.int .u64 a1_3) rfl
            have hcz33_4 := z4_ BK219.out 4 (.int .u64 a1_4) rfl
            have hcz33_5 := z4_ BK219.out 5 (.bool a1_5) rfl
            have hfz33_0 := blk_frozen BK219.out 0
            have hfz33_1 := blk_frozen BK219.out 1
            have hfz33_2 := blk_frozen BK219.out 2
            have hfz33_3 := blk_frozen BK219.out 3
            have hfz33_4 := blk_frozen BK219.out 4
            have hfz33_5 := blk_frozen BK219.out 5
            go_wp2
            go_meet
            case rel => exact ⟨_, (x11_12), (by first | rfl | (simp; done) | (simp [*]; done)), H', ⟨by have := HJ12.out; first | omega | exact Nat.le_refl _⟩, ⟨by refine z2_ ?_; exact BK219.out⟩, ⟨by repeat (first | (with_reducible first | exact HB.out | apply below_alloc | apply pw_below_drewN | apply below_drew1 | refine below_set ?_ GE219.out) | exact HB.out)⟩⟩
           ·rw [if_neg c32] at H
            have c32b0 : (a1_2 == (wrap64 (-(wrap64 ((wrap64 (4 * a0)) - 8))))) = false := beq_eq_false_iff_ne.mpr c32
            have c32b1 : (a1_2 != (wrap64 (-(wrap64 ((wrap64 (4 * a0)) - 8))))) = true := bne_iff_ne.mpr c32
            have H' := Aside0.mk H
            clear H
            have hcz34_0 := z4_ BK219.out 0 (.int .i64 a1_0) rfl
            have hcz34_1 := z4_ BK219.out 1 (.bool a1_1) rfl
            have hcz34_2 := z4_ BK219.out 2 (.int .i64 a1_2) rfl
            have hcz34_3 := z4_ BK219.out 3 (.int .u64 a1_3) rfl
            have hcz34_4 := z4_ BK219.out 4 (.int .u64 a1_4) rfl
            have hcz34_5 := z4_ BK219.out 5 (.bool a1_5) rfl
            have hfz34_0 := blk_frozen BK219.out 0
            have hfz34_1 := blk_frozen BK219.out 1
            have hfz34_2 := blk_frozen BK219.out 2
            have hfz34_3 := blk_frozen BK219.out 3
            have hfz34_4 := blk_frozen BK219.out 4
            have hfz34_5 := blk_frozen BK219.out 5
            go_wp2
            go_meet
            case rel => exact ⟨_, (false), (by first | rfl | (simp; done) | (simp [*]; done)), H', ⟨by have := HJ12.out; first | omega | exact Nat.le_refl _⟩, ⟨by refine z2_ ?_; exact BK219.out⟩, ⟨by repeat (first | (with_reducible first | exact HB.out | apply below_alloc | apply pw_below_drewN | apply below_drew1 | refine below_set ?_ GE219.out) | exact HB.out)⟩⟩
         case rest =>
          clear HC28
          try clear c1
          try clear c2
          try clear p2
          try clear c3
          try clear c5
          try clear c6
          try clear p6
          try clear c7
          try clear c7b0
          try clear c7b1
          try clear c9
          try clear c9b0
          try clear c9b1
          try clear c11
          try clear c11b0
          try clear c11b1
          try clear c11b2
          try clear c12
          try clear c16
          try clear c17
          try clear c21
          try clear c25
          try clear c25b0
          try clear c26
          try clear c30
          try clear c30b0
          try clear c32
          try clear c32b0
          try clear c32b1
          try clear hcz15_0
          try clear hcz15_1
          try clear hcz15_2
          try clear hcz15_3
          try clear hcz15_4
          try clear hcz15_5
          try clear hcz17_0
          try clear hcz17_1
          try clear hcz17_2
          try clear hcz17_3
          try clear hcz17_4
          try clear hcz17_5
          try clear hcz22_0
          try clear hcz22_1
          try clear hcz22_2
          try clear hcz22_3
          try clear hcz22_4
          try clear hcz22_5
          try clear hcz24_0
          try clear hcz24_1
          try clear hcz24_2
          try clear hcz24_3
          try clear hcz24_4
          try clear hcz24_5
          try clear hcz27_0
          try clear hcz27_1
          try clear hcz27_2
          try clear hcz27_3
          try clear hcz27_4
          try clear hcz27_5
          try clear hcz29_0
          try clear hcz29_1
          try clear hcz29_2
          try clear hcz29_3
          try clear hcz29_4
          try clear hcz29_5
          try clear hcz31_0
          try clear hcz31_1
          try clear hcz31_2
          try clear hcz31_3
          try clear hcz31_4
          try clear hcz31_5
          try clear hcz33_0
          try clear hcz33_1
          try clear hcz33_2
          try clear hcz33_3
          try clear hcz33_4
          try clear hcz33_5
          try clear hcz34_0
          try clear hcz34_1
          try clear hcz34_2
          try clear hcz34_3
          try clear hcz34_4
          try clear hcz34_5
          try clear hfz15_0
          try clear hfz15_1
          try clear hfz15_2
          try clear hfz15_3
          try clear hfz15_4
          try clear hfz15_5
          try clear hfz17_0
          try clear hfz17_1
          try clear hfz17_2
          try clear hfz17_3
          try clear hfz17_4
          try clear hfz17_5
          try clear hfz22_0
          try clear hfz22_1
          try clear hfz22_2
          try clear hfz22_3
          try clear hfz22_4
          try clear hfz22_5
          try clear hfz24_0
          try clear hfz24_1
          try clear hfz24_2
          try clear hfz24_3
          try clear hfz24_4
          try clear hfz24_5
          try clear hfz27_0
          try clear hfz27_1
          try clear hfz27_2
          try clear hfz27_3
          try clear hfz27_4
          try clear hfz27_5
          try clear hfz29_0
          try clear hfz29_1
          try clear hfz29_2
          try clear hfz29_3
          try clear hfz29_4
          try clear hfz29_5
          try clear hfz31_0
          try clear hfz31_1
          try clear hfz31_2
          try clear hfz31_3
          try clear hfz31_4
          try clear hfz31_5
          try clear hfz33_0
          try clear hfz33_1
          try clear hfz33_2
          try clear hfz33_3
          try clear hfz33_4
          try clear hfz33_5
          try clear hfz34_0
          try clear hfz34_1
          try clear hfz34_2
          try clear hfz34_3
          try clear hfz34_4
          try clear hfz34_5
          try clear p2
          try clear p6
          obtain ⟨kq, x73_27, rfl, HA, HJ27, BK219, HB⟩ := hcut
          cases kq with
          | zero => exact absurd HA.out (by simp [vernierref07_Cut.j1])
          | succ kj27 =>
           have H := HA.out
           clear HA
           simp only [vernierref07_Cut.j1] at H
           by_cases c35 : x73_27 = true
           ·subst c35
            have H1 : (some (1, 0, 0)) = some (r1, r2, r3) := by rw [if_pos rfl] at H; exact H
            clear H
            have H := H1
            clear H1
            simp only [Option.some.injEq, Prod.mk.injEq] at H
            obtain ⟨rfl, rfl, rfl⟩ := H
            go_wp2
            go_ret3
            exact ⟨by first | rfl | (simp [errW_none, errW_some] <;> rfl) | (simp only [← hji12]; first | rfl | (simp [errW_none, errW_some] <;> rfl)) | (simp [*, errW_none, errW_some] <;> rfl), by repeat (first | (with_reducible first | exact HB.out | apply below_alloc | apply pw_below_drewN | apply below_drew1 | refine below_set ?_ GE219.out) | exact HB.out)⟩
           ·replace c35 := Bool.eq_false_iff.mpr c35
            subst c35
            have H1 : ((vernierref06_Head.f kj27 a1_2).bind fun t227 => (if t227.size + ji12.size ≤ 9223372036854775807 then (if 0 ≤ (wrap64 (a0 - 1)) then (if (wrap64 (a0 - 1)) ≤ ((t227 ++ ji12).size : Int) then ((vernierref01_Number.f kj27 ((t227 ++ ji12).extract 0 ((wrap64 (a0 - 1)) : Int).toNat)).bind fun t228 => ((vernierref07_left.f kj27 ((t227 ++ ji12).extract ((wrap64 (a0 - 1)) : Int).toNat (t227 ++ ji12).size) a1_5).bind fun t229 => (some (t228, t229, 0)))) else (none)) else (none)) else (none))) = some (r1, r2, r3) := by rw [if_neg (show ¬ (false = true) by decide)] at H; exact H
            clear H
            have H := H1
            clear H1
            replace H := Option.bind_eq_some_iff.mp H
            obtain ⟨t227, A360, H⟩ := H
            replace H : (if t227.size + ji12.size ≤ 9223372036854775807 then (if 0 ≤ (wrap64 (a0 - 1)) then (if (wrap64 (a0 - 1)) ≤ ((t227 ++ ji12).size : Int) then ((vernierref01_Number.f kj27 ((t227 ++ ji12).extract 0 ((wrap64 (a0 - 1)) : Int).toNat)).bind fun t228 => ((vernierref07_left.f kj27 ((t227 ++ ji12).extract ((wrap64 (a0 - 1)) : Int).toNat (t227 ++ ji12).size) a1_5).bind fun t229 => (some (t228, t229, 0)))) else (none)) else (none)) else (none)) = some (r1, r2, r3) := H
            have A36 := Aside0.mk A360
            clear A360
            by_cases c37 : t227.size + ji12.size ≤ 9223372036854775807
            ·rw [if_pos c37] at H
             have c37b0 := eq_true c37
             have c37b1 : decide (t227.size + ji12.size ≤ 9223372036854775807) = true := decide_eq_true c37
             try have c37b2 : (9223372036854775807 < t227.size + ji12.size) = False := eq_false (Nat.not_lt.2 c37)
             obtain ⟨ji38, hji38⟩ : ∃ j_ : ByteArray, (t227 ++ ji12) = j_ := ⟨_, rfl⟩
             replace H : (if 0 ≤ (wrap64 (a0 - 1)) then (if (wrap64 (a0 - 1)) ≤ ((ji38).size : Int) then ((vernierref01_Number.f kj27 ((ji38).extract 0 ((wrap64 (a0 - 1)) : Int).toNat)).bind fun t228 => ((vernierref07_left.f kj27 ((ji38).extract ((wrap64 (a0 - 1)) : Int).toNat (ji38).size) a1_5).bind fun t229 => (some (t228, t229, 0)))) else (none)) else (none)) = some (r1, r2, r3) := by first | (rw [hji38] at H; exact H) | (simp only [hji38] at H ⊢; exact H)
             (try rw [hji38] at A36)
             obtain ⟨ji39, hji39⟩ : ∃ j_ : Int, (wrap64 (a0 - 1)) = j_ := ⟨_, rfl⟩
             replace H : (if 0 ≤ (ji39) then (if (ji39) ≤ ((ji38).size : Int) then ((vernierref01_Number.f kj27 ((ji38).extract 0 ((ji39) : Int).toNat)).bind fun t228 => ((vernierref07_left.f kj27 ((ji38).extract ((ji39) : Int).toNat (ji38).size) a1_5).bind fun t229 => (some (t228, t229, 0)))) else (none)) else (none)) = some (r1, r2, r3) := by first | (rw [hji39] at H; exact H) | (simp only [hji39] at H ⊢; exact H)
             (try rw [hji39] at A36)
             have hji39w : (IntKind.i64.wrap (a0 - 1)) = ji39 := (i64_w _).trans hji39
             by_cases c40 : 0 ≤ (ji39)
             ·rw [if_pos c40] at H
              have c40b0 := eq_true c40
              have c40b1 : decide (0 ≤ (ji39)) = true := decide_eq_true c40
              clear c40
              by_cases c41 : (ji39) ≤ ((ji38).size : Int)
              ·rw [if_pos c41] at H
               have c41b0 := eq_true c41
               have c41b1 : decide ((ji39) ≤ ((ji38).size : Int)) = true := decide_eq_true c41
               clear c41
               replace H := Option.bind_eq_some_iff.mp H
               obtain ⟨t228, A420, H⟩ := H
               replace H : ((vernierref07_left.f kj27 ((ji38).extract ((ji39) : Int).toNat (ji38).size) a1_5).bind fun t229 => (some (t228, t229, 0))) = some (r1, r2, r3) := H
               have A42 := Aside0.mk A420
               clear A420
               have c43b0 := eq_true (of_decide_eq_true (by first | (with_reducible assumption) | assumption) : 0 ≤ (ji39))
               have c44b0 := eq_true (of_decide_eq_true (by first | (with_reducible assumption) | assumption) : (ji39) ≤ ((ji38).size : Int))
               replace H := Option.bind_eq_some_iff.mp H
               obtain ⟨t229, A450, H⟩ := H
               replace H : (some (t228, t229, 0)) = some (r1, r2, r3) := H
               have A45 := Aside0.mk A450
               clear A450
               simp only [Option.some.injEq, Prod.mk.injEq] at H
               obtain ⟨rfl, rfl, rfl⟩ := H
               have hcz46_0 := z4_ BK219.out 0 (.int .i64 a1_0) rfl
               have hcz46_1 := z4_ BK219.out 1 (.bool a1_1) rfl
               have hcz46_2 := z4_ BK219.out 2 (.int .i64 a1_2) rfl
               have hcz46_3 := z4_ BK219.out 3 (.int .u64 a1_3) rfl
               have hcz46_4 := z4_ BK219.out 4 (.int .u64 a1_4) rfl
               have hcz46_5 := z4_ BK219.out 5 (.bool a1_5) rfl
               have hfz46_0 := blk_frozen BK219.out 0
               have hfz46_1 := blk_frozen BK219.out 1
               have hfz46_2 := blk_frozen BK219.out 2
               have hfz46_3 := blk_frozen BK219.out 3
               have hfz46_4 := blk_frozen BK219.out 4
               have hfz46_5 := blk_frozen BK219.out 5
               try go_wp2_with (first | ((with_reducible refine gate_callee (f := 34) rfl ?_); refine goesL_ (some 76) rfl rfl Try.func34 (by kernel_rfl) rfl #[.int .i64 a1_2] rfl z5_ ?_; (with_reducible refine (vernierref06_Head.calls kj27 a1_2 t227 _ A36.out).mono ?_); rintro e w47 ⟨rfl, hb⟩; refine ⟨_, rfl, ?_⟩; have n0_ := Aside0.mk (blk_below (g := gb219) (z1_ BK219.out) hb); have n1_ := Aside0.mk (below_step (z3_ HB.out) hb); clear BK219; clear HB; have BK219 := n0_; have HB := n1_; clear n0_ n1_; (try clear hb); (try clear hb2); (try clear hk); (try clear hi)))
               have n0_ := Aside0.mk (blk_drew BK219.out)
               have n1_ := Aside0.mk (below_drew1 HB.out)
               clear BK219
               clear HB
               have BK219 := n0_
               have HB := n1_
               clear n0_ n1_
               refine start_ (n := 15) (S := fun w' => w'.cell? ⟨gb219, 0, none⟩ = some (.int .i64 a1_0) ∧ w'.cell? ⟨gb219, 1, none⟩ = some (.bool a1_1) ∧ w'.cell? ⟨gb219, 2, none⟩ = some (.int .i64 a1_2) ∧ w'.cell? ⟨gb219, 3, none⟩ = some (.int .u64 a1_3) ∧ w'.cell? ⟨gb219, 4, none⟩ = some (.int .u64 a1_4) ∧ w'.cell? ⟨gb219, 5, none⟩ = some (.bool a1_5)) (ds := []) #[false, false, false, false, false, false, false, false, false, false, false, false, false, false, false] (by kernel_rfl) rfl rfl ⟨(blk_cell BK219.out 0).trans rfl, (blk_cell BK219.out 1).trans rfl, (blk_cell BK219.out 2).trans rfl, (blk_cell BK219.out 3).trans rfl, (blk_cell BK219.out 4).trans rfl, (blk_cell BK219.out 5).trans rfl⟩ (fun hHeld => ?_); refine with_tabW vernierref07_Cut.tab20 vernierref07_Cut.bits20 (fun HT_ HW_ => ?_)
               generalize w47.drew = w48 at BK219 HB hHeld ⊢
               refine pure_ (i := 0) (N := some 79) (v := ?_) (a' := ?_) #[true, false, false, false, false, false, false, false, false, false, false, false, false, false, false] rfl rfl (any_of HT_.out (by kernel_rfl)) (fun _ _ _ h => h) (Or.inl ⟨by rfl, ?_⟩) ?_ ?_
               rotate_left
               ·intro w'
                go_simp
                with_reducible rfl
               rotate_left
               ·simp only [Act.put, List.setIfInBounds_toArray, List.set_cons_zero, List.set_cons_succ, i64_w, i32_w]
                rfl
               refine pure_ (i := 1) (N := some 80) (v := ?_) (a' := ?_) #[true, true, false, false, false, false, false, false, false, false, false, false, false, false, false] rfl rfl (any_of HT_.out (by kernel_rfl)) (fun _ _ _ h => h) (Or.inl ⟨by rfl, ?_⟩) ?_ ?_
               rotate_left
               ·intro w'
                go_simp
                with_reducible rfl
               rotate_left
               ·simp only [Act.put, List.setIfInBounds_toArray, List.set_cons_zero, List.set_cons_succ, i64_w, i32_w]
                rfl
               refine pure_ (i := 2) (N := some 81) (v := ?_) (a' := ?_) #[true, true, true, false, false, false, false, false, false, false, false, false, false, false, false] rfl rfl (any_of HT_.out (by kernel_rfl)) (fun _ _ _ h => h) (Or.inl ⟨by rfl, ?_⟩) ?_ ?_
               rotate_left
               ·intro w'
                go_simp
                with_reducible rfl
               rotate_left
               ·simp only [Act.put, List.setIfInBounds_toArray, List.set_cons_zero, List.set_cons_succ, i64_w, i32_w]
                rfl
               refine pure_ (i := 3) (N := some 82) (v := ?_) (a' := ?_) #[true, true, true, true, false, false, false, false, false, false, false, false, false, false, false] rfl rfl (any_of HT_.out (by kernel_rfl)) (fun _ _ _ h => h) (Or.inl ⟨by rfl, ?_⟩) ?_ ?_
               rotate_left
               ·intro w'
                go_simp
                with_reducible rfl
               rotate_left
               ·simp only [Act.put, List.setIfInBounds_toArray, List.set_cons_zero, List.set_cons_succ, i64_w, i32_w]
                rfl
               refine pure_ (i := 5) (N := some 84) (v := ?_) (a' := ?_) #[true, true, true, true, false, true, false, false, false, false, false, false, false, false, false] rfl rfl (any_of HT_.out (by kernel_rfl)) (fun _ _ _ h => h) (Or.inl ⟨by rfl, ?_⟩) ?_ ?_
               rotate_left
               ·intro w'
                go_simp
                with_reducible rfl
               rotate_left
               ·simp only [Act.put, List.setIfInBounds_toArray, List.set_cons_zero, List.set_cons_succ, i64_w, i32_w]
                rfl
               refine pure_ (i := 6) (N := some 85) (v := ?_) (a' := ?_) #[true, true, true, true, false, true, true, false, false, false, false, false, false, false, false] rfl rfl (any_of HT_.out (by kernel_rfl)) (fun _ _ _ h => h) (Or.inl ⟨by rfl, ?_⟩) ?_ ?_
               rotate_left
               ·intro w'
                go_simp
                with_reducible rfl
               rotate_left
               ·simp only [Act.put, List.setIfInBounds_toArray, List.set_cons_zero, List.set_cons_succ, i64_w, i32_w]
                rfl
               refine pure_ (i := 7) (N := some 86) (v := ?_) (a' := ?_) #[true, true, true, true, false, true, true, true, false, false, false, false, false, false, false] rfl rfl (any_of HT_.out (by kernel_rfl)) (fun _ _ _ h => h) (Or.inl ⟨by rfl, ?_⟩) ?_ ?_
               rotate_left
               ·intro w'
                go_simp
                with_reducible rfl
               rotate_left
               ·simp only [Act.put, List.setIfInBounds_toArray, List.set_cons_zero, List.set_cons_succ, i64_w, i32_w]
                rfl
               refine pure_ (i := 8) (N := some 87) (v := ?_) (a' := ?_) #[true, true, true, true, false, true, true, true, true, false, false, false, false, false, false] rfl rfl (any_of HT_.out (by kernel_rfl)) (fun _ _ _ h => h) (Or.inl ⟨by rfl, ?_⟩) ?_ ?_
               rotate_left
               ·intro w'
                go_simp
                with_reducible rfl
               rotate_left
               ·simp only [Act.put, List.setIfInBounds_toArray, List.set_cons_zero, List.set_cons_succ, i64_w, i32_w]
                rfl
               refine pure_ (i := 9) (N := some 88) (v := ?_) (a' := ?_) #[true, true, true, true, false, true, true, true, true, true, false, false, false, false, false] rfl rfl (any_of HT_.out (by kernel_rfl)) (fun _ _ _ h => h) (Or.inl ⟨by rfl, ?_⟩) ?_ ?_
               rotate_left
               ·intro w'
                go_simp
                with_reducible rfl
               rotate_left
               ·simp only [Act.put, List.setIfInBounds_toArray, List.set_cons_zero, List.set_cons_succ, i64_w, i32_w]
                rfl
               refine take_ (i := 10) (N := some 89) (v := ?_) (a' := ?_) #[true, true, true, true, false, true, true, true, true, true, true, false, false, false, false] rfl rfl (take_ofW HT_.out HW_.out (by kernel_rfl)) (fun _ _ _ h => h) (Or.inl ⟨by rfl, ?_⟩) hHeld ?_ ?_
               rotate_left
               ·rintro w' ⟨s0, s1, s2, s3, s4, s5⟩
                go_simp
                with_reducible rfl
               rotate_left
               ·simp only [Act.put, List.setIfInBounds_toArray, List.set_cons_zero, List.set_cons_succ, i64_w, i32_w]
                rfl
               refine one_ (i := 4) (N := some 83) #[true, true, true, true, true, true, true, true, true, true, true, false, false, false, false] rfl rfl (one_of HT_.out (by kernel_rfl)) (by decide) (fun K hK => ?_)
               refine goes_ Try.func35 (by kernel_rfl) rfl #[.string ((ji38).extract 0 ((ji39) : Int).toNat)] (by rfl) rfl rfl (by (try simp only [List.map_toArray, List.map_cons, List.map_nil]); first | done | (simp only [hji38, hji39]; rfl) | rfl | (simp only [List.length_drop, List.length_take]; rfl)) ?_
               with_reducible refine (vernierref01_Number.calls kj27 ((ji38).extract 0 ((ji39) : Int).toNat) t228 _ A42.out).mono ?_
               rintro e w' ⟨rfl, ⟨nd, rfl⟩⟩
               refine ⟨_, rfl, ?_⟩
               refine hK.out _ _ ⟨(blk_cell BK219.out 0).trans rfl, (blk_cell BK219.out 1).trans rfl, (blk_cell BK219.out 2).trans rfl, (blk_cell BK219.out 3).trans rfl, (blk_cell BK219.out 4).trans rfl, (blk_cell BK219.out 5).trans rfl⟩ (fun hHeld => ?_)
               clear hK K
               refine norm_ (a' := ?_) ?_ ?_
               rotate_left
               ·show Act.put _ (some 83) _ = _
                simp only [Act.put, List.setIfInBounds_toArray, List.set_cons_zero, List.set_cons_succ, i64_w, i32_w]
                rfl
               refine one_ (i := 11) (N := some 90) #[true, true, true, true, true, true, true, true, true, true, true, true, false, false, false] rfl rfl (one_of HT_.out (by kernel_rfl)) (by decide) (fun K hK => ?_)
               refine goes_ Try.func36 (by kernel_rfl) rfl #[.string ((ji38).extract ((ji39) : Int).toNat (ji38).size), .bool a1_5] (by rfl) rfl rfl (by (try simp only [List.map_toArray, List.map_cons, List.map_nil]); first | done | (simp only [hji38, hji39]; rfl) | rfl | (simp only [List.length_drop, List.length_take]; rfl)) ?_
               with_reducible refine (vernierref07_left.calls kj27 ((ji38).extract ((ji39) : Int).toNat (ji38).size) a1_5 t229 _ A45.out).mono ?_
               rintro e w' ⟨rfl, ⟨nd, rfl⟩⟩
               refine ⟨_, rfl, ?_⟩
               refine hK.out _ _ ⟨(blk_cell BK219.out 0).trans rfl, (blk_cell BK219.out 1).trans rfl, (blk_cell BK219.out 2).trans rfl, (blk_cell BK219.out 3).trans rfl, (blk_cell BK219.out 4).trans rfl, (blk_cell BK219.out 5).trans rfl⟩ (fun hHeld => ?_)
               clear hK K
               refine norm_ (a' := ?_) ?_ ?_
               rotate_left
               ·show Act.put _ (some 90) _ = _
                simp only [Act.put, List.setIfInBounds_toArray, List.set_cons_zero, List.set_cons_succ, i64_w, i32_w]
                rfl
               refine pure_ (i := 12) (N := some 4) (v := ?_) (a' := ?_) #[true, true, true, true, true, true, true, true, true, true, true, true, true, false, false] rfl rfl (any_of HT_.out (by kernel_rfl)) (fun _ _ _ h => h) (Or.inl ⟨by rfl, ?_⟩) ?_ ?_
               rotate_left
               ·intro w'
                go_simp
                with_reducible rfl
               rotate_left
               ·simp only [Act.put, List.setIfInBounds_toArray, List.set_cons_zero, List.set_cons_succ, i64_w, i32_w]
                rfl
               refine pure_ (i := 13) (N := some 5) (v := ?_) (a' := ?_) #[true, true, true, true, true, true, true, true, true, true, true, true, true, true, false] rfl rfl (any_of HT_.out (by kernel_rfl)) (fun _ _ _ h => h) (Or.inl ⟨by rfl, ?_⟩) ?_ ?_
               rotate_left
               ·intro w'
                go_simp
                with_reducible rfl
               rotate_left
               ·simp only [Act.put, List.setIfInBounds_toArray, List.set_cons_zero, List.set_cons_succ, i64_w, i32_w]
                rfl
               refine pure_ (i := 14) (N := some 6) (v := ?_) (a' := ?_) #[true, true, true, true, true, true, true, true, true, true, true, true, true, true, true] rfl rfl (any_of HT_.out (by kernel_rfl)) (fun _ _ _ h => h) (Or.inl ⟨by rfl, ?_⟩) ?_ ?_
               rotate_left
               ·intro w'
                go_simp
                with_reducible rfl
               rotate_left
               ·simp only [Act.put, List.setIfInBounds_toArray, List.set_cons_zero, List.set_cons_succ, i64_w, i32_w]
                rfl
               refine done_ (done_of HT_.out (by kernel_rfl)) ?_
               try go_wp2
               go_ret3
               exact ⟨by first | rfl | (simp [errW_none, errW_some] <;> rfl) | (simp only [← hji12, ← hji38, ← hji39]; first | rfl | (simp [errW_none, errW_some] <;> rfl)) | (simp [*, errW_none, errW_some] <;> rfl), by repeat (first | (with_reducible first | exact HB.out | apply below_alloc | apply pw_below_drewN | apply below_drew1 | refine below_set ?_ GE219.out) | exact HB.out)⟩
              ·rw [if_neg c41] at H
               exact absurd H (by simp)
             ·rw [if_neg c40] at H
              exact absurd H (by simp)
            ·rw [if_neg c37] at H
             exact absurd H (by simp)
     ·rw [if_neg c11] at H
      exact absurd H (by simp)
    ·rw [if_neg c9] at H
     exact absurd H (by simp)
   ·rw [if_neg c7] at H
    have c7b0 : (a1_0 == 1) = false := beq_eq_false_iff_ne.mpr c7
    have c7b1 : (a1_0 != 1) = true := bne_iff_ne.mpr c7
    by_cases c49 : a1_0 = 2
    ·rw [if_pos c49] at H
     have c49b0 : (a1_0 == 2) = true := beq_iff_eq.mpr c49
     have c49b1 : (a1_0 != 2) = false := bne_eq_false_iff_eq.mpr c49
     clear c49
     replace H := Option.bind_eq_some_iff.mp H
     obtain ⟨t222, A500, H⟩ := H
     replace H : (some (t222, 0, 0)) = some (r1, r2, r3) := H
     have A50 := Aside0.mk A500
     clear A500
     simp only [Option.some.injEq, Prod.mk.injEq] at H
     obtain ⟨rfl, rfl, rfl⟩ := H
     go_enter Try.func12, Try.ntmps12
     go_wp2_with (first | ((with_reducible refine gate_dst (N := 3) rfl ?_); refine box_event ?hg (N := 3) ?hd (cs := #[.int .i64 a1_0, .bool a1_1, .int .i64 a1_2, .int .u64 a1_3, .int .u64 a1_4, .bool a1_5]) (t := 24) ?hr ?_; (case hd => rfl); (case hg => rfl); (case hr => first | (go_simp; done) | (go_simp; rfl)); intro gb219 hg w51 hbox hb; have n0_ := Aside0.mk (below_step (z3_ HB.out) hb); have n1_ := Aside0.mk (hbox); have n2_ := Aside0.mk ((by rw [hg]; exact (below_size (z3_ HB.out)) : w.heap.size ≤ gb219)); have n3_ := Aside0.mk ((by rw [hg]; exact (below_size (z3_ HB.out)) : w.heap.size ≤ gb219)); clear HB; have HB := n0_; have BK219 := n1_; have GW219 := n2_; have GE219 := n3_; clear n0_ n1_ n2_ n3_; clear hb hbox hg) | ((with_reducible refine gate_callee (f := 17) rfl ?_); refine goesL_ (some 15) rfl rfl Try.func17 (by kernel_rfl) rfl #[.int .i64 a0] rfl z5_ ?_; (with_reducible refine (vernierref05_Is.calls a0 true _ A3.out).mono ?_); rintro e w' ⟨rfl, ⟨nd, rfl⟩⟩; refine ⟨_, rfl, ?_⟩; have hcz52_0 := z4_ BK219.out 0 (.int .i64 a1_0) rfl; have hcz52_1 := z4_ BK219.out 1 (.bool a1_1) rfl; have hcz52_2 := z4_ BK219.out 2 (.int .i64 a1_2) rfl; have hcz52_3 := z4_ BK219.out 3 (.int .u64 a1_3) rfl; have hcz52_4 := z4_ BK219.out 4 (.int .u64 a1_4) rfl; have hcz52_5 := z4_ BK219.out 5 (.bool a1_5) rfl; have hfz52_0 := blk_frozen BK219.out 0; have hfz52_1 := blk_frozen BK219.out 1; have hfz52_2 := blk_frozen BK219.out 2; have hfz52_3 := blk_frozen BK219.out 3; have hfz52_4 := blk_frozen BK219.out 4; have hfz52_5 := blk_frozen BK219.out 5) | ((with_reducible refine gate_callee (f := 16) rfl ?_); refine goesL_ (some 17) rfl rfl Try.func16 (by kernel_rfl) rfl #[.agg #[.int .i64 a1_0, .bool a1_1, .int .i64 a1_2, .int .u64 a1_3, .int .u64 a1_4, .bool a1_5]] rfl z5_ ?_; (with_reducible refine (vernierref07_Sound.calls a1_0 a1_1 a1_2 a1_3 a1_4 a1_5 true _ A4.out).mono ?_); rintro e w53 ⟨rfl, hb⟩; refine ⟨_, rfl, ?_⟩; have n0_ := Aside0.mk (blk_below (g := gb219) (z1_ BK219.out) hb); have n1_ := Aside0.mk (below_step (z3_ HB.out) hb); clear BK219; clear HB; have BK219 := n0_; have HB := n1_; clear n0_ n1_; (try clear hb); (try clear hb2); (try clear hk); (try clear hi); have hcz54_0 := z4_ BK219.out 0 (.int .i64 a1_0) rfl; have hcz54_1 := z4_ BK219.out 1 (.bool a1_1) rfl; have hcz54_2 := z4_ BK219.out 2 (.int .i64 a1_2) rfl; have hcz54_3 := z4_ BK219.out 3 (.int .u64 a1_3) rfl; have hcz54_4 := z4_ BK219.out 4 (.int .u64 a1_4) rfl; have hcz54_5 := z4_ BK219.out 5 (.bool a1_5) rfl; have hfz54_0 := blk_frozen BK219.out 0; have hfz54_1 := blk_frozen BK219.out 1; have hfz54_2 := blk_frozen BK219.out 2; have hfz54_3 := blk_frozen BK219.out 3; have hfz54_4 := blk_frozen BK219.out 4; have hfz54_5 := blk_frozen BK219.out 5) | ((with_reducible refine gate_callee (f := 26) rfl ?_); refine goesL_ (some 30) rfl rfl Try.func26 (by kernel_rfl) rfl #[.int .i64 (wrap64 (a0 - 1))] rfl z5_ ?_; (with_reducible refine (vernierref05_Power.calls k (wrap64 (a0 - 1)) t222 _ A50.out).mono ?_); rintro e w' ⟨rfl, ⟨nd, rfl⟩⟩; refine ⟨_, rfl, ?_⟩))
     go_ret3
     exact ⟨by first | rfl | (simp [errW_none, errW_some] <;> rfl) | (simp [*, errW_none, errW_some] <;> rfl), by repeat (first | (with_reducible first | exact HB.out | apply below_alloc | apply pw_below_drewN | apply below_drew1 | refine below_set ?_ GE219.out) | exact HB.out)⟩
    ·rw [if_neg c49] at H
     have c49b0 : (a1_0 == 2) = false := beq_eq_false_iff_ne.mpr c49
     have c49b1 : (a1_0 != 2) = true := bne_iff_ne.mpr c49
     simp only [Option.some.injEq, Prod.mk.injEq] at H
     obtain ⟨rfl, rfl, rfl⟩ := H
     go_enter Try.func12, Try.ntmps12
     go_wp2_with (first | ((with_reducible refine gate_dst (N := 3) rfl ?_); refine box_event ?hg (N := 3) ?hd (cs := #[.int .i64 a1_0, .bool a1_1, .int .i64 a1_2, .int .u64 a1_3, .int .u64 a1_4, .bool a1_5]) (t := 24) ?hr ?_; (case hd => rfl); (case hg => rfl); (case hr => first | (go_simp; done) | (go_simp; rfl)); intro gb219 hg w55 hbox hb; have n0_ := Aside0.mk (below_step (z3_ HB.out) hb); have n1_ := Aside0.mk (hbox); have n2_ := Aside0.mk ((by rw [hg]; exact (below_size (z3_ HB.out)) : w.heap.size ≤ gb219)); have n3_ := Aside0.mk ((by rw [hg]; exact (below_size (z3_ HB.out)) : w.heap.size ≤ gb219)); clear HB; have HB := n0_; have BK219 := n1_; have GW219 := n2_; have GE219 := n3_; clear n0_ n1_ n2_ n3_; clear hb hbox hg) | ((with_reducible refine gate_callee (f := 17) rfl ?_); refine goesL_ (some 15) rfl rfl Try.func17 (by kernel_rfl) rfl #[.int .i64 a0] rfl z5_ ?_; (with_reducible refine (vernierref05_Is.calls a0 true _ A3.out).mono ?_); rintro e w' ⟨rfl, ⟨nd, rfl⟩⟩; refine ⟨_, rfl, ?_⟩; have hcz56_0 := z4_ BK219.out 0 (.int .i64 a1_0) rfl; have hcz56_1 := z4_ BK219.out 1 (.bool a1_1) rfl; have hcz56_2 := z4_ BK219.out 2 (.int .i64 a1_2) rfl; have hcz56_3 := z4_ BK219.out 3 (.int .u64 a1_3) rfl; have hcz56_4 := z4_ BK219.out 4 (.int .u64 a1_4) rfl; have hcz56_5 := z4_ BK219.out 5 (.bool a1_5) rfl; have hfz56_0 := blk_frozen BK219.out 0; have hfz56_1 := blk_frozen BK219.out 1; have hfz56_2 := blk_frozen BK219.out 2; have hfz56_3 := blk_frozen BK219.out 3; have hfz56_4 := blk_frozen BK219.out 4; have hfz56_5 := blk_frozen BK219.out 5) | ((with_reducible refine gate_callee (f := 16) rfl ?_); refine goesL_ (some 17) rfl rfl Try.func16 (by kernel_rfl) rfl #[.agg #[.int .i64 a1_0, .bool a1_1, .int .i64 a1_2, .int .u64 a1_3, .int .u64 a1_4, .bool a1_5]] rfl z5_ ?_; (with_reducible refine (vernierref07_Sound.calls a1_0 a1_1 a1_2 a1_3 a1_4 a1_5 true _ A4.out).mono ?_); rintro e w57 ⟨rfl, hb⟩; refine ⟨_, rfl, ?_⟩; have n0_ := Aside0.mk (blk_below (g := gb219) (z1_ BK219.out) hb); have n1_ := Aside0.mk (below_step (z3_ HB.out) hb); clear BK219; clear HB; have BK219 := n0_; have HB := n1_; clear n0_ n1_; (try clear hb); (try clear hb2); (try clear hk); (try clear hi); have hcz58_0 := z4_ BK219.out 0 (.int .i64 a1_0) rfl; have hcz58_1 := z4_ BK219.out 1 (.bool a1_1) rfl; have hcz58_2 := z4_ BK219.out 2 (.int .i64 a1_2) rfl; have hcz58_3 := z4_ BK219.out 3 (.int .u64 a1_3) rfl; have hcz58_4 := z4_ BK219.out 4 (.int .u64 a1_4) rfl; have hcz58_5 := z4_ BK219.out 5 (.bool a1_5) rfl; have hfz58_0 := blk_frozen BK219.out 0; have hfz58_1 := blk_frozen BK219.out 1; have hfz58_2 := blk_frozen BK219.out 2; have hfz58_3 := blk_frozen BK219.out 3; have hfz58_4 := blk_frozen BK219.out 4; have hfz58_5 := blk_frozen BK219.out 5))
     go_ret3
     exact ⟨by first | rfl | (simp [errW_none, errW_some] <;> rfl) | (simp [*, errW_none, errW_some] <;> rfl), by repeat (first | (with_reducible first | exact HB.out | apply below_alloc | apply pw_below_drewN | apply below_drew1 | refine below_set ?_ GE219.out) | exact HB.out)⟩
  ·replace c6 := Bool.eq_false_iff.mpr c6
   subst c6
   have H1 : (some (0, 0, 1)) = some (r1, r2, r3) := by rw [if_neg (show ¬ (false = true) by decide)] at H; exact H
   clear H
   have H := H1
   clear H1
   simp only [Option.some.injEq, Prod.mk.injEq] at H
   obtain ⟨rfl, rfl, rfl⟩ := H
   go_enter Try.func12, Try.ntmps12
   go_wp2_with (first | ((with_reducible refine gate_dst (N := 3) rfl ?_); refine box_event ?hg (N := 3) ?hd (cs := #[.int .i64 a1_0, .bool a1_1, .int .i64 a1_2, .int .u64 a1_3, .int .u64 a1_4, .bool a1_5]) (t := 24) ?hr ?_; (case hd => rfl); (case hg => rfl); (case hr => first | (go_simp; done) | (go_simp; rfl)); intro gb219 hg w59 hbox hb; have n0_ := Aside0.mk (below_step (z3_ HB.out) hb); have n1_ := Aside0.mk (hbox); have n2_ := Aside0.mk ((by rw [hg]; exact (below_size (z3_ HB.out)) : w.heap.size ≤ gb219)); have n3_ := Aside0.mk ((by rw [hg]; exact (below_size (z3_ HB.out)) : w.heap.size ≤ gb219)); clear HB; have HB := n0_; have BK219 := n1_; have GW219 := n2_; have GE219 := n3_; clear n0_ n1_ n2_ n3_; clear hb hbox hg) | ((with_reducible refine gate_callee (f := 17) rfl ?_); refine goesL_ (some 15) rfl rfl Try.func17 (by kernel_rfl) rfl #[.int .i64 a0] rfl z5_ ?_; (with_reducible refine (vernierref05_Is.calls a0 true _ A3.out).mono ?_); rintro e w' ⟨rfl, ⟨nd, rfl⟩⟩; refine ⟨_, rfl, ?_⟩; have hcz60_0 := z4_ BK219.out 0 (.int .i64 a1_0) rfl; have hcz60_1 := z4_ BK219.out 1 (.bool a1_1) rfl; have hcz60_2 := z4_ BK219.out 2 (.int .i64 a1_2) rfl; have hcz60_3 := z4_ BK219.out 3 (.int .u64 a1_3) rfl; have hcz60_4 := z4_ BK219.out 4 (.int .u64 a1_4) rfl; have hcz60_5 := z4_ BK219.out 5 (.bool a1_5) rfl; have hfz60_0 := blk_frozen BK219.out 0; have hfz60_1 := blk_frozen BK219.out 1; have hfz60_2 := blk_frozen BK219.out 2; have hfz60_3 := blk_frozen BK219.out 3; have hfz60_4 := blk_frozen BK219.out 4; have hfz60_5 := blk_frozen BK219.out 5) | ((with_reducible refine gate_callee (f := 16) rfl ?_); refine goesL_ (some 17) rfl rfl Try.func16 (by kernel_rfl) rfl #[.agg #[.int .i64 a1_0, .bool a1_1, .int .i64 a1_2, .int .u64 a1_3, .int .u64 a1_4, .bool a1_5]] rfl z5_ ?_; (with_reducible refine (vernierref07_Sound.calls a1_0 a1_1 a1_2 a1_3 a1_4 a1_5 false _ A4.out).mono ?_); rintro e w61 ⟨rfl, hb⟩; refine ⟨_, rfl, ?_⟩; have n0_ := Aside0.mk (blk_below (g := gb219) (z1_ BK219.out) hb); have n1_ := Aside0.mk (below_step (z3_ HB.out) hb); clear BK219; clear HB; have BK219 := n0_; have HB := n1_; clear n0_ n1_; (try clear hb); (try clear hb2); (try clear hk); (try clear hi)))
   go_ret3
   exact ⟨by first | rfl | (simp [errW_none, errW_some] <;> rfl) | (simp [*, errW_none, errW_some] <;> rfl), by repeat (first | (with_reducible first | exact HB.out | apply below_alloc | apply pw_below_drewN | apply below_drew1 | refine below_set ?_ GE219.out) | exact HB.out)⟩
 ·replace c5 := Bool.eq_false_iff.mpr c5
  subst c5
  have H1 : (some (0, 0, 2)) = some (r1, r2, r3) := by rw [if_neg (show ¬ (false = true) by decide)] at H; exact H
  clear H
  have H := H1
  clear H1
  simp only [Option.some.injEq, Prod.mk.injEq] at H
  obtain ⟨rfl, rfl, rfl⟩ := H
  go_enter Try.func12, Try.ntmps12
  go_wp2_with (first | ((with_reducible refine gate_dst (N := 3) rfl ?_); refine box_event ?hg (N := 3) ?hd (cs := #[.int .i64 a1_0, .bool a1_1, .int .i64 a1_2, .int .u64 a1_3, .int .u64 a1_4, .bool a1_5]) (t := 24) ?hr ?_; (case hd => rfl); (case hg => rfl); (case hr => first | (go_simp; done) | (go_simp; rfl)); intro gb219 hg w62 hbox hb; have n0_ := Aside0.mk (below_step (z3_ HB.out) hb); have n1_ := Aside0.mk (hbox); have n2_ := Aside0.mk ((by rw [hg]; exact (below_size (z3_ HB.out)) : w.heap.size ≤ gb219)); have n3_ := Aside0.mk ((by rw [hg]; exact (below_size (z3_ HB.out)) : w.heap.size ≤ gb219)); clear HB; have HB := n0_; have BK219 := n1_; have GW219 := n2_; have GE219 := n3_; clear n0_ n1_ n2_ n3_; clear hb hbox hg) | ((with_reducible refine gate_callee (f := 17) rfl ?_); refine goesL_ (some 15) rfl rfl Try.func17 (by kernel_rfl) rfl #[.int .i64 a0] rfl z5_ ?_; (with_reducible refine (vernierref05_Is.calls a0 false _ A3.out).mono ?_); rintro e w' ⟨rfl, ⟨nd, rfl⟩⟩; refine ⟨_, rfl, ?_⟩; have hcz63_0 := z4_ BK219.out 0 (.int .i64 a1_0) rfl; have hcz63_1 := z4_ BK219.out 1 (.bool a1_1) rfl; have hcz63_2 := z4_ BK219.out 2 (.int .i64 a1_2) rfl; have hcz63_3 := z4_ BK219.out 3 (.int .u64 a1_3) rfl; have hcz63_4 := z4_ BK219.out 4 (.int .u64 a1_4) rfl; have hcz63_5 := z4_ BK219.out 5 (.bool a1_5) rfl; have hfz63_0 := blk_frozen BK219.out 0; have hfz63_1 := blk_frozen BK219.out 1; have hfz63_2 := blk_frozen BK219.out 2; have hfz63_3 := blk_frozen BK219.out 3; have hfz63_4 := blk_frozen BK219.out 4; have hfz63_5 := blk_frozen BK219.out 5) | ((with_reducible refine gate_callee (f := 16) rfl ?_); refine goesL_ (some 17) rfl rfl Try.func16 (by kernel_rfl) rfl #[.agg #[.int .i64 a1_0, .bool a1_1, .int .i64 a1_2, .int .u64 a1_3, .int .u64 a1_4, .bool a1_5]] rfl z5_ ?_; (with_reducible refine (vernierref07_Sound.calls a1_0 a1_1 a1_2 a1_3 a1_4 a1_5 t221 _ A4.out).mono ?_); rintro e w64 ⟨rfl, hb⟩; refine ⟨_, rfl, ?_⟩; have n0_ := Aside0.mk (blk_below (g := gb219) (z1_ BK219.out) hb); have n1_ := Aside0.mk (below_step (z3_ HB.out) hb); clear BK219; clear HB; have BK219 := n0_; have HB := n1_; clear n0_ n1_; (try clear hb); (try clear hb2); (try clear hk); (try clear hi)))
  go_ret3
  exact ⟨by first | rfl | (simp [errW_none, errW_some] <;> rfl) | (simp [*, errW_none, errW_some] <;> rfl), by repeat (first | (with_reducible first | exact HB.out | apply below_alloc | apply pw_below_drewN | apply below_drew1 | refine below_set ?_ GE219.out) | exact HB.out)⟩
end Go.Proofs.Ytfegofnplcmacaa.PAll
namespace Go.Proofs.Ytfegofnplcmacaa.PAll
open Go.RowKit Go.Proofs.YtfegofnplcmacaaW.PrintWords Go.Proofs.YtfegofnplcmacaaW.PrintLast Go.Proofs.YtfegofnplcmacaaW.PrintMore
attribute [local go_sem] max2_int min2_int max_two min_two max_three min_three max_four min_four
set_option linter.unusedVariables false
set_option linter.unusedSimpArgs false
def vernierref05_Fold.f (k : Nat) (a0 : Int) (a1 : Int) : Option (Int × Int) := (vernierref05_Is.f a0).bind fun t242 => (if t242 = true then ((vernierref01_Text.f k a1 a0).bind fun t243 => ((vernierref01_Number.f k t243).bind fun t244 => (some (t244, 0)))) else (some (0, 2)))
theorem vernierref05_Fold.mono : ∀ a0 a1 k, LeO (vernierref05_Fold.f k a0 a1) (vernierref05_Fold.f (k + 1) a0 a1) := by
 intro a0 a1 k
 unfold vernierref05_Fold.f
 repeat' first
   | (with_reducible exact vernierref01_Number.mono _ _)
   | (with_reducible exact vernierref01_Text.mono _ _ _)
   | (with_reducible exact LeO.refl _)
   | (with_reducible exact LeO.none _)
   | (with_reducible refine LeO.ite ?_ ?_)
   | (with_reducible refine LeO.bind ?_ (fun _ => ?_))
   | exact vernierref01_Number.mono _ _
   | exact vernierref01_Text.mono _ _ _
   | exact LeO.none _
   | refine LeO.ite ?_ ?_
   | refine LeO.bind ?_ (fun _ => ?_)
set_option maxHeartbeats 8000000 in
set_option maxRecDepth 100000 in
theorem vernierref05_Fold.calls (k : Nat) (a0 : Int) (a1 : Int) (r1 : Int) (r2 : Int) (w : World) (h : vernierref05_Fold.f k a0 a1 = some (r1, r2)) :
  Calls Try.prog 51 #[.int .i64 a0, .int .u64 a1] w fun e w' => e = .returned (.tuple #[.int .u64 r1, .int .i64 r2]) ∧ Below w.heap.size w w' := by
 have HB := Aside0.mk (Below.refl w.heap.size w)
 have H : ((vernierref05_Is.f a0).bind fun t242 => (if t242 = true then ((vernierref01_Text.f k a1 a0).bind fun t243 => ((vernierref01_Number.f k t243).bind fun t244 => (some (t244, 0)))) else (some (0, 2)))) = some (r1, r2) := h
 clear h
 replace H := Option.bind_eq_some_iff.mp H
 obtain ⟨t242, A30, H⟩ := H
 replace H : (if t242 = true then ((vernierref01_Text.f k a1 a0).bind fun t243 => ((vernierref01_Number.f k t243).bind fun t244 => (some (t244, 0)))) else (some (0, 2))) = some (r1, r2) := H
 have A3 := Aside0.mk A30
 clear A30
 by_cases c4 : t242 = true
 ·subst c4
  have H1 : ((vernierref01_Text.f k a1 a0).bind fun t243 => ((vernierref01_Number.f k t243).bind fun t244 => (some (t244, 0)))) = some (r1, r2) := by rw [if_pos rfl] at H; exact H
  clear H
  have H := H1
  clear H1
  replace H := Option.bind_eq_some_iff.mp H
  obtain ⟨t243, A50, H⟩ := H
  replace H : ((vernierref01_Number.f k t243).bind fun t244 => (some (t244, 0))) = some (r1, r2) := H
  have A5 := Aside0.mk A50
  clear A50
  replace H := Option.bind_eq_some_iff.mp H
  obtain ⟨t244, A60, H⟩ := H
  replace H : (some (t244, 0)) = some (r1, r2) := H
  have A6 := Aside0.mk A60
  clear A60
  simp only [Option.some.injEq, Prod.mk.injEq] at H
  obtain ⟨rfl, rfl⟩ := H
  go_enter Try.func51, Try.ntmps51
  go_wp2_with (first | ((with_reducible refine gate_callee (f := 17) rfl ?_); refine goesL_ (some 8) rfl rfl Try.func17 (by kernel_rfl) rfl #[.int .i64 a0] rfl z5_ ?_; (with_reducible refine (vernierref05_Is.calls a0 true _ A3.out).mono ?_); rintro e w' ⟨rfl, ⟨nd, rfl⟩⟩; refine ⟨_, rfl, ?_⟩) | ((with_reducible refine gate_callee (f := 32) rfl ?_); refine goesL_ (some 13) rfl rfl Try.func32 (by kernel_rfl) rfl #[.int .u64 a1, .int .i64 a0] rfl z5_ ?_; (with_reducible refine (vernierref01_Text.calls k a1 a0 t243 _ A5.out).mono ?_); rintro e w7 ⟨rfl, hb⟩; refine ⟨_, rfl, ?_⟩; have n0_ := Aside0.mk (below_step (z3_ HB.out) hb); clear HB; have HB := n0_; clear n0_; (try clear hb); (try clear hb2); (try clear hk); (try clear hi)) | ((with_reducible refine gate_callee (f := 35) rfl ?_); refine goesL_ (some 14) rfl rfl Try.func35 (by kernel_rfl) rfl #[.string t243] rfl z5_ ?_; (with_reducible refine (vernierref01_Number.calls k t243 t244 _ A6.out).mono ?_); rintro e w' ⟨rfl, ⟨nd, rfl⟩⟩; refine ⟨_, rfl, ?_⟩))
  go_ret2
  exact ⟨by first | rfl | (simp [errW_none, errW_some] <;> rfl) | (simp [*, errW_none, errW_some] <;> rfl), by repeat (first | (with_reducible first | exact HB.out | apply below_alloc | apply pw_below_drewN | apply below_drew1) | exact HB.out)⟩
 ·replace c4 := Bool.eq_false_iff.mpr c4
  subst c4
  have H1 : (some (0, 2)) = some (r1, r2) := by rw [if_neg (show ¬ (false = true) by decide)] at H; exact H
  clear H
  have H := H1
  clear H1
  simp only [Option.some.injEq, Prod.mk.injEq] at H
  obtain ⟨rfl, rfl⟩ := H
  go_enter Try.func51, Try.ntmps51
  go_wp2_with (first | ((with_reducible refine gate_callee (f := 17) rfl ?_); refine goesL_ (some 8) rfl rfl Try.func17 (by kernel_rfl) rfl #[.int .i64 a0] rfl z5_ ?_; (with_reducible refine (vernierref05_Is.calls a0 false _ A3.out).mono ?_); rintro e w' ⟨rfl, ⟨nd, rfl⟩⟩; refine ⟨_, rfl, ?_⟩))
  go_ret2
  exact ⟨by first | rfl | (simp [errW_none, errW_some] <;> rfl) | (simp [*, errW_none, errW_some] <;> rfl), by repeat (first | (with_reducible first | exact HB.out | apply below_alloc | apply pw_below_drewN | apply below_drew1) | exact HB.out)⟩
end Go.Proofs.Ytfegofnplcmacaa.PAll
namespace Go.Proofs.Ytfegofnplcmacaa.PAll
open Go.RowKit Go.Proofs.YtfegofnplcmacaaW.PrintWords Go.Proofs.YtfegofnplcmacaaW.PrintLast Go.Proofs.YtfegofnplcmacaaW.PrintMore
attribute [local go_sem] max2_int min2_int max_two min_two max_three min_three max_four min_four
set_option linter.unusedVariables false
set_option linter.unusedSimpArgs false
def vernierref06_Fold.f (k : Nat) (a0 : Int) (a1 : Int) : Option (Int) := (vernierref05_Fold.f k a0 a1).bind fun bt245 => (some bt245.1)
theorem vernierref06_Fold.mono : ∀ a0 a1 k, LeO (vernierref06_Fold.f k a0 a1) (vernierref06_Fold.f (k + 1) a0 a1) := by
 intro a0 a1 k
 unfold vernierref06_Fold.f
 repeat' first
   | (with_reducible exact vernierref05_Fold.mono _ _ _)
   | (with_reducible exact LeO.refl _)
   | (with_reducible exact LeO.none _)
   | (with_reducible refine LeO.ite ?_ ?_)
   | (with_reducible refine LeO.bind ?_ (fun _ => ?_))
   | exact vernierref05_Fold.mono _ _ _
   | exact LeO.none _
   | refine LeO.ite ?_ ?_
   | refine LeO.bind ?_ (fun _ => ?_)
set_option maxHeartbeats 8000000 in
set_option maxRecDepth 100000 in
theorem vernierref06_Fold.calls (k : Nat) (a0 : Int) (a1 : Int) (r : Int) (w : World) (h : vernierref06_Fold.f k a0 a1 = some r) :
  Calls Try.prog 25 #[.int .i64 a0, .int .u64 a1] w fun e w' => e = .returned (.int .u64 r) ∧ Below w.heap.size w w' := by
 have HB := Aside0.mk (Below.refl w.heap.size w)
 have H : ((vernierref05_Fold.f k a0 a1).bind fun bt245 => (some bt245.1)) = some r := h
 clear h
 replace H := Option.bind_eq_some_iff.mp H
 obtain ⟨⟨t245, t246⟩, A30, H⟩ := H
 replace H : (some t245) = some r := H
 have A3 := Aside0.mk A30
 clear A30
 obtain rfl := Option.some.inj H
 go_enter Try.func25, Try.ntmps25
 go_wp2_with (first | ((with_reducible refine gate_callee (f := 51) rfl ?_); refine goesL_ (some 10) rfl rfl Try.func51 (by kernel_rfl) rfl #[.int .i64 a0, .int .u64 a1] rfl z5_ ?_; (with_reducible refine (vernierref05_Fold.calls k a0 a1 t245 t246 _ A3.out).mono ?_); rintro e w4 ⟨rfl, hb⟩; refine ⟨_, rfl, ?_⟩; have n0_ := Aside0.mk (below_step (z3_ HB.out) hb); clear HB; have HB := n0_; clear n0_; (try clear hb); (try clear hb2); (try clear hk); (try clear hi)))
 go_ret
 exact ⟨by first | rfl | (simp [errW_none, errW_some] <;> rfl) | (simp [*, errW_none, errW_some] <;> rfl), by repeat (first | (with_reducible first | exact HB.out | apply below_alloc | apply pw_below_drewN | apply below_drew1) | exact HB.out)⟩
end Go.Proofs.Ytfegofnplcmacaa.PAll
namespace Go.Proofs.Ytfegofnplcmacaa.PAll
open Go.RowKit Go.Proofs.YtfegofnplcmacaaW.PrintWords Go.Proofs.YtfegofnplcmacaaW.PrintLast Go.Proofs.YtfegofnplcmacaaW.PrintMore
attribute [local go_sem] max2_int min2_int max_two min_two max_three min_three max_four min_four
set_option linter.unusedVariables false
set_option linter.unusedSimpArgs false
def vernierref06_Neg.f (k : Nat) (a0 : Int) (a1 : Int) : Option (Int) := (vernierref06_Fold.f k a0 (IntKind.u64.wrap (-a1))).bind fun t247 => (some t247)
theorem vernierref06_Neg.mono : ∀ a0 a1 k, LeO (vernierref06_Neg.f k a0 a1) (vernierref06_Neg.f (k + 1) a0 a1) := by
 intro a0 a1 k
 unfold vernierref06_Neg.f
 repeat' first
   | (with_reducible exact vernierref06_Fold.mono _ _ _)
   | (with_reducible exact LeO.refl _)
   | (with_reducible exact LeO.none _)
   | (with_reducible refine LeO.ite ?_ ?_)
   | (with_reducible refine LeO.bind ?_ (fun _ => ?_))
   | exact vernierref06_Fold.mono _ _ _
   | exact LeO.none _
   | refine LeO.ite ?_ ?_
   | refine LeO.bind ?_ (fun _ => ?_)
set_option maxHeartbeats 8000000 in
set_option maxRecDepth 100000 in
theorem vernierref06_Neg.calls (k : Nat) (a0 : Int) (a1 : Int) (r : Int) (w : World) (h : vernierref06_Neg.f k a0 a1 = some r) :
  Calls Try.prog 39 #[.int .i64 a0, .int .u64 a1] w fun e w' => e = .returned (.int .u64 r) ∧ Below w.heap.size w w' := by
 have HB := Aside0.mk (Below.refl w.heap.size w)
 have H : ((vernierref06_Fold.f k a0 (IntKind.u64.wrap (-a1))).bind fun t247 => (some t247)) = some r := h
 clear h
 replace H := Option.bind_eq_some_iff.mp H
 obtain ⟨t247, A30, H⟩ := H
 replace H : (some t247) = some r := H
 have A3 := Aside0.mk A30
 clear A30
 obtain rfl := Option.some.inj H
 go_enter Try.func39, Try.ntmps39
 go_wp2_with (first | ((with_reducible refine gate_callee (f := 25) rfl ?_); refine goesL_ (some 8) rfl rfl Try.func25 (by kernel_rfl) rfl #[.int .i64 a0, .int .u64 (IntKind.u64.wrap (-a1))] rfl z5_ ?_; (with_reducible refine (vernierref06_Fold.calls k a0 (IntKind.u64.wrap (-a1)) t247 _ A3.out).mono ?_); rintro e w4 ⟨rfl, hb⟩; refine ⟨_, rfl, ?_⟩; have n0_ := Aside0.mk (below_step (z3_ HB.out) hb); clear HB; have HB := n0_; clear n0_; (try clear hb); (try clear hb2); (try clear hk); (try clear hi)))
 go_ret
 exact ⟨by first | rfl | (simp [errW_none, errW_some] <;> rfl) | (simp [*, errW_none, errW_some] <;> rfl), by repeat (first | (with_reducible first | exact HB.out | apply below_alloc | apply pw_below_drewN | apply below_drew1) | exact HB.out)⟩
end Go.Proofs.Ytfegofnplcmacaa.PAll
namespace Go.Proofs.Ytfegofnplcmacaa.PAll
open Go.RowKit Go.Proofs.YtfegofnplcmacaaW.PrintWords Go.Proofs.YtfegofnplcmacaaW.PrintLast Go.Proofs.YtfegofnplcmacaaW.PrintMore
attribute [local go_sem] max2_int min2_int max_two min_two max_three min_three max_four min_four
set_option linter.unusedVariables false
set_option linter.unusedSimpArgs false
def vernierref07_Rounds.j0 : Nat → Int → Int → Bool → Int → Bool → Int → Int → Int → Bool → Option (Int × Int)
 | 0, _, _, _, _, _, _, _, _, _ => none
 | k + 1, x0, x6, x29, x249000, x249001, x249002, x249003, x249004, x249005 => if x29 = true then (if x249001 = true then ((vernierref06_Neg.f k x0 (IntKind.u64.wrap (x6 + 1))).bind fun t252 => (some (t252, 0))) else (some (IntKind.u64.wrap (x6 + 1), 0))) else (if x249001 = true then ((vernierref06_Neg.f k x0 x6).bind fun t253 => (some (t253, 0))) else (some (x6, 0)))
def vernierref07_Rounds.f (k : Nat) (a0 : Int) (a1_0 : Int) (a1_1 : Bool) (a1_2 : Int) (a1_3 : Int) (a1_4 : Int) (a1_5 : Bool) : Option (Int × Int) := (vernierref07_Cut.f k a0 a1_0 a1_1 a1_2 a1_3 a1_4 a1_5).bind fun bt249 => (if bt249.2.2 = 0 then (if bt249.2.1 = 3 then (vernierref07_Rounds.j0 k a0 bt249.1 true a1_0 a1_1 a1_2 a1_3 a1_4 a1_5) else (if bt249.2.1 = 2 then (vernierref07_Rounds.j0 k a0 bt249.1 ((Int.tmod bt249.1 2) == 1) a1_0 a1_1 a1_2 a1_3 a1_4 a1_5) else (vernierref07_Rounds.j0 k a0 bt249.1 false a1_0 a1_1 a1_2 a1_3 a1_4 a1_5))) else (some (0, bt249.2.2)))
theorem vernierref07_Rounds.mono_l : ∀ k, (∀ y0 y1 y2 y3 y4 y5 y6 y7 y8, LeO (vernierref07_Rounds.j0 k y0 y1 y2 y3 y4 y5 y6 y7 y8) (vernierref07_Rounds.j0 (k + 1) y0 y1 y2 y3 y4 y5 y6 y7 y8))
 | 0 => fun _ _ _ _ _ _ _ _ _ r h => by simp [vernierref07_Rounds.j0] at h
 | k + 1 => by
  have ih0 := vernierref07_Rounds.mono_l k
  ·intro y0 y1 y2 y3 y4 y5 y6 y7 y8
   unfold vernierref07_Rounds.j0
   repeat' first
   | (with_reducible exact ih0 _ _ _ _ _ _ _ _ _)
   | (with_reducible exact vernierref06_Neg.mono _ _ _)
   | (with_reducible exact vernierref07_Cut.mono _ _ _ _ _ _ _ _)
   | (with_reducible exact LeO.refl _)
   | (with_reducible exact LeO.none _)
   | (with_reducible refine LeO.ite ?_ ?_)
   | (with_reducible refine LeO.bind ?_ (fun _ => ?_))
   | exact ih0 _ _ _ _ _ _ _ _ _
   | exact vernierref06_Neg.mono _ _ _
   | exact vernierref07_Cut.mono _ _ _ _ _ _ _ _
   | exact LeO.none _
   | refine LeO.ite ?_ ?_
   | refine LeO.bind ?_ (fun _ => ?_)
theorem vernierref07_Rounds.mono : ∀ a0 a1 a2 a3 a4 a5 a6 k, LeO (vernierref07_Rounds.f k a0 a1 a2 a3 a4 a5 a6) (vernierref07_Rounds.f (k + 1) a0 a1 a2 a3 a4 a5 a6) := by
 intro a0 a1 a2 a3 a4 a5 a6 k
 have ih0 := vernierref07_Rounds.mono_l k
 unfold vernierref07_Rounds.f
 repeat' first
   | (with_reducible exact ih0 _ _ _ _ _ _ _ _ _)
   | (with_reducible exact vernierref06_Neg.mono _ _ _)
   | (with_reducible exact vernierref07_Cut.mono _ _ _ _ _ _ _ _)
   | (with_reducible exact LeO.refl _)
   | (with_reducible exact LeO.none _)
   | (with_reducible refine LeO.ite ?_ ?_)
   | (with_reducible refine LeO.bind ?_ (fun _ => ?_))
   | exact ih0 _ _ _ _ _ _ _ _ _
   | exact vernierref06_Neg.mono _ _ _
   | exact vernierref07_Cut.mono _ _ _ _ _ _ _ _
   | exact LeO.none _
   | refine LeO.ite ?_ ?_
   | refine LeO.bind ?_ (fun _ => ?_)
set_option maxHeartbeats 8000000 in
set_option maxRecDepth 100000 in
theorem vernierref07_Rounds.calls (k : Nat) (a0 : Int) (a1_0 : Int) (a1_1 : Bool) (a1_2 : Int) (a1_3 : Int) (a1_4 : Int) (a1_5 : Bool) (r1 : Int) (r2 : Int) (w : World) (h : vernierref07_Rounds.f k a0 a1_0 a1_1 a1_2 a1_3 a1_4 a1_5 = some (r1, r2)) :
  Calls Try.prog 15 #[.int .i64 a0, .agg #[.int .i64 a1_0, .bool a1_1, .int .i64 a1_2, .int .u64 a1_3, .int .u64 a1_4, .bool a1_5]] w fun e w' => e = .returned (.tuple #[.int .u64 r1, .int .i64 r2]) ∧ Below w.heap.size w w' := by
 have hu24 := Try.underlying24
 have HB := Aside0.mk (Below.refl w.heap.size w)
 have H : ((vernierref07_Cut.f k a0 a1_0 a1_1 a1_2 a1_3 a1_4 a1_5).bind fun bt249 => (if bt249.2.2 = 0 then (if bt249.2.1 = 3 then (vernierref07_Rounds.j0 k a0 bt249.1 true a1_0 a1_1 a1_2 a1_3 a1_4 a1_5) else (if bt249.2.1 = 2 then (vernierref07_Rounds.j0 k a0 bt249.1 ((Int.tmod bt249.1 2) == 1) a1_0 a1_1 a1_2 a1_3 a1_4 a1_5) else (vernierref07_Rounds.j0 k a0 bt249.1 false a1_0 a1_1 a1_2 a1_3 a1_4 a1_5))) else (some (0, bt249.2.2)))) = some (r1, r2) := h
 clear h
 replace H := Option.bind_eq_some_iff.mp H
 obtain ⟨⟨t249, t250, t251⟩, A30, H⟩ := H
 replace H : (if t251 = 0 then (if t250 = 3 then (vernierref07_Rounds.j0 k a0 t249 true a1_0 a1_1 a1_2 a1_3 a1_4 a1_5) else (if t250 = 2 then (vernierref07_Rounds.j0 k a0 t249 ((Int.tmod t249 2) == 1) a1_0 a1_1 a1_2 a1_3 a1_4 a1_5) else (vernierref07_Rounds.j0 k a0 t249 false a1_0 a1_1 a1_2 a1_3 a1_4 a1_5))) else (some (0, t251))) = some (r1, r2) := H
 have A3 := Aside0.mk A30
 clear A30
 by_cases c4 : t251 = 0
 ·rw [if_pos c4] at H
  have c4b0 : (t251 == 0) = true := beq_iff_eq.mpr c4
  have c4b1 : (t251 != 0) = false := bne_eq_false_iff_eq.mpr c4
  clear c4
  have HC5 := Aside0.mk H
  clear H
  go_enter Try.func15, Try.ntmps15
  go_upto_region 4 with (first | ((with_reducible refine gate_dst (N := 3) rfl ?_); refine box_event ?hg (N := 3) ?hd (cs := #[.int .i64 a1_0, .bool a1_1, .int .i64 a1_2, .int .u64 a1_3, .int .u64 a1_4, .bool a1_5]) (t := 24) ?hr ?_; (case hd => rfl); (case hg => rfl); (case hr => first | (go_simp; done) | (go_simp; rfl)); intro gb248 hg w6 hbox hb; have n0_ := Aside0.mk (below_step (z3_ HB.out) hb); have n1_ := Aside0.mk (hbox); have n2_ := Aside0.mk ((by rw [hg]; exact (below_size (z3_ HB.out)) : w.heap.size ≤ gb248)); have n3_ := Aside0.mk ((by rw [hg]; exact (below_size (z3_ HB.out)) : w.heap.size ≤ gb248)); clear HB; have HB := n0_; have BK248 := n1_; have GW248 := n2_; have GE248 := n3_; clear n0_ n1_ n2_ n3_; clear hb hbox hg; have hcz7_0 := z4_ BK248.out 0 (.int .i64 a1_0) rfl; have hcz7_1 := z4_ BK248.out 1 (.bool a1_1) rfl; have hcz7_2 := z4_ BK248.out 2 (.int .i64 a1_2) rfl; have hcz7_3 := z4_ BK248.out 3 (.int .u64 a1_3) rfl; have hcz7_4 := z4_ BK248.out 4 (.int .u64 a1_4) rfl; have hcz7_5 := z4_ BK248.out 5 (.bool a1_5) rfl; have hfz7_0 := blk_frozen BK248.out 0; have hfz7_1 := blk_frozen BK248.out 1; have hfz7_2 := blk_frozen BK248.out 2; have hfz7_3 := blk_frozen BK248.out 3; have hfz7_4 := blk_frozen BK248.out 4; have hfz7_5 := blk_frozen BK248.out 5) | ((with_reducible refine gate_callee (f := 12) rfl ?_); refine goesL_ (some 12) rfl rfl Try.func12 (by kernel_rfl) rfl #[.int .i64 a0, .agg #[.int .i64 a1_0, .bool a1_1, .int .i64 a1_2, .int .u64 a1_3, .int .u64 a1_4, .bool a1_5]] rfl z5_ ?_; (with_reducible refine (vernierref07_Cut.calls k a0 a1_0 a1_1 a1_2 a1_3 a1_4 a1_5 t249 t250 t251 _ A3.out).mono ?_); rintro e w8 ⟨rfl, hb⟩; refine ⟨_, rfl, ?_⟩; have n0_ := Aside0.mk (blk_below (g := gb248) (z1_ BK248.out) hb); have n1_ := Aside0.mk (below_step (z3_ HB.out) hb); clear BK248; clear HB; have BK248 := n0_; have HB := n1_; clear n0_ n1_; (try clear hb); (try clear hb2); (try clear hk); (try clear hi)))
  (try simp only [Act.put, List.setIfInBounds_toArray, List.set_cons_zero, List.set_cons_succ])
  go_cut [29] (fun v29 wc => ∃ (kq : Nat) (x29_4 : Bool), v29 = .bool x29_4 ∧ Aside0 (vernierref07_Rounds.j0 kq a0 t249 x29_4 a1_0 a1_1 a1_2 a1_3 a1_4 a1_5 = some (r1, r2)) ∧ Aside0 (kq ≤ k) ∧ Aside0 (wc.heap[gb248]? = some (.cells #[.int .i64 a1_0, .bool a1_1, .int .i64 a1_2, .int .u64 a1_3, .int .u64 a1_4, .bool a1_5] 24 (0, 0))) ∧ Aside0 (Below w.heap.size w wc))
  case first =>
   have H := HC5.out
   clear HC5
   by_cases c9 : t250 = 3
   ·rw [if_pos c9] at H
    have c9b0 : (t250 == 3) = true := beq_iff_eq.mpr c9
    have c9b1 : (t250 != 3) = false := bne_eq_false_iff_eq.mpr c9
    clear c9
    (first | rw [c9b0] | (simp only [i64_w, i32_w]; rw [c9b0]) | skip)
    have H' := Aside0.mk H
    clear H
    go_wp2
    go_meet
    case rel => exact ⟨_, (true), (by first | rfl | (simp; done) | (simp [*]; done)), H', ⟨by first | omega | exact Nat.le_refl _⟩, ⟨by refine z2_ ?_; exact BK248.out⟩, ⟨by repeat (first | (with_reducible first | exact HB.out | apply below_alloc | apply pw_below_drewN | apply below_drew1 | refine below_set ?_ GE248.out) | exact HB.out)⟩⟩
   ·rw [if_neg c9] at H
    have c9b0 : (t250 == 3) = false := beq_eq_false_iff_ne.mpr c9
    have c9b1 : (t250 != 3) = true := bne_iff_ne.mpr c9
    (first | rw [c9b0] | (simp only [i64_w, i32_w]; rw [c9b0]) | skip)
    by_cases c10 : t250 = 2
    ·rw [if_pos c10] at H
     have c10b0 : (t250 == 2) = true := beq_iff_eq.mpr c10
     have c10b1 : (t250 != 2) = false := bne_eq_false_iff_eq.mpr c10
     clear c10
     have H' := Aside0.mk H
     clear H
     go_wp2
     go_meet
     case rel => exact ⟨_, (((Int.tmod t249 2) == 1)), (by first | rfl | (simp; done) | (simp [*]; done)), H', ⟨by first | omega | exact Nat.le_refl _⟩, ⟨by refine z2_ ?_; exact BK248.out⟩, ⟨by repeat (first | (with_reducible first | exact HB.out | apply below_alloc | apply pw_below_drewN | apply below_drew1 | refine below_set ?_ GE248.out) | exact HB.out)⟩⟩
    ·rw [if_neg c10] at H
     have c10b0 : (t250 == 2) = false := beq_eq_false_iff_ne.mpr c10
     have c10b1 : (t250 != 2) = true := bne_iff_ne.mpr c10
     have H' := Aside0.mk H
     clear H
     go_wp2
     go_meet
     case rel => exact ⟨_, (false), (by first | rfl | (simp; done) | (simp [*]; done)), H', ⟨by first | omega | exact Nat.le_refl _⟩, ⟨by refine z2_ ?_; exact BK248.out⟩, ⟨by repeat (first | (with_reducible first | exact HB.out | apply below_alloc | apply pw_below_drewN | apply below_drew1 | refine below_set ?_ GE248.out) | exact HB.out)⟩⟩
  case rest =>
   clear HC5
   try clear c1
   try clear p2
   try clear c4
   try clear c4b0
   try clear c4b1
   try clear c9
   try clear c9b0
   try clear c9b1
   try clear c10
   try clear c10b0
   try clear c10b1
   try clear hcz7_0
   try clear hcz7_1
   try clear hcz7_2
   try clear hcz7_3
   try clear hcz7_4
   try clear hcz7_5
   try clear hfz7_0
   try clear hfz7_1
   try clear hfz7_2
   try clear hfz7_3
   try clear hfz7_4
   try clear hfz7_5
   obtain ⟨kq, x29_4, rfl, HA, HJ4, BK248, HB⟩ := hcut
   cases kq with
   | zero => exact absurd HA.out (by simp [vernierref07_Rounds.j0])
   | succ kj4 =>
    have H := HA.out
    clear HA
    simp only [vernierref07_Rounds.j0] at H
    by_cases c11 : x29_4 = true
    ·subst c11
     have H1 : (if a1_1 = true then ((vernierref06_Neg.f kj4 a0 (IntKind.u64.wrap (t249 + 1))).bind fun t252 => (some (t252, 0))) else (some (IntKind.u64.wrap (t249 + 1), 0))) = some (r1, r2) := by rw [if_pos rfl] at H; exact H
     clear H
     have H := H1
     clear H1
     by_cases c12 : a1_1 = true
     ·subst c12
      have H1 : ((vernierref06_Neg.f kj4 a0 (IntKind.u64.wrap (t249 + 1))).bind fun t252 => (some (t252, 0))) = some (r1, r2) := by rw [if_pos rfl] at H; exact H
      clear H
      have H := H1
      clear H1
      replace H := Option.bind_eq_some_iff.mp H
      obtain ⟨t252, A130, H⟩ := H
      replace H : (some (t252, 0)) = some (r1, r2) := H
      have A13 := Aside0.mk A130
      clear A130
      simp only [Option.some.injEq, Prod.mk.injEq] at H
      obtain ⟨rfl, rfl⟩ := H
      have hcz14_0 := z4_ BK248.out 0 (.int .i64 a1_0) rfl
      have hcz14_1 := z4_ BK248.out 1 (.bool true) rfl
      have hcz14_2 := z4_ BK248.out 2 (.int .i64 a1_2) rfl
      have hcz14_3 := z4_ BK248.out 3 (.int .u64 a1_3) rfl
      have hcz14_4 := z4_ BK248.out 4 (.int .u64 a1_4) rfl
      have hcz14_5 := z4_ BK248.out 5 (.bool a1_5) rfl
      have hfz14_0 := blk_frozen BK248.out 0
      have hfz14_1 := blk_frozen BK248.out 1
      have hfz14_2 := blk_frozen BK248.out 2
      have hfz14_3 := blk_frozen BK248.out 3
      have hfz14_4 := blk_frozen BK248.out 4
      have hfz14_5 := blk_frozen BK248.out 5
      go_wp2_with (first | ((with_reducible refine gate_callee (f := 39) rfl ?_); refine goesL_ (some 36) rfl rfl Try.func39 (by kernel_rfl) rfl #[.int .i64 a0, .int .u64 (IntKind.u64.wrap (t249 + 1))] rfl z5_ ?_; (with_reducible refine (vernierref06_Neg.calls kj4 a0 (IntKind.u64.wrap (t249 + 1)) t252 _ A13.out).mono ?_); rintro e w15 ⟨rfl, hb⟩; refine ⟨_, rfl, ?_⟩; have n0_ := Aside0.mk (blk_below (g := gb248) (z1_ BK248.out) hb); have n1_ := Aside0.mk (below_step (z3_ HB.out) hb); clear BK248; clear HB; have BK248 := n0_; have HB := n1_; clear n0_ n1_; (try clear hb); (try clear hb2); (try clear hk); (try clear hi)))
      go_ret2
      exact ⟨by first | rfl | (simp [errW_none, errW_some] <;> rfl) | (simp [*, errW_none, errW_some] <;> rfl), by repeat (first | (with_reducible first | exact HB.out | apply below_alloc | apply pw_below_drewN | apply below_drew1 | refine below_set ?_ GE248.out) | exact HB.out)⟩
     ·replace c12 := Bool.eq_false_iff.mpr c12
      subst c12
      have H1 : (some (IntKind.u64.wrap (t249 + 1), 0)) = some (r1, r2) := by rw [if_neg (show ¬ (false = true) by decide)] at H; exact H
      clear H
      have H := H1
      clear H1
      simp only [Option.some.injEq, Prod.mk.injEq] at H
      obtain ⟨rfl, rfl⟩ := H
      have hcz16_0 := z4_ BK248.out 0 (.int .i64 a1_0) rfl
      have hcz16_1 := z4_ BK248.out 1 (.bool false) rfl
      have hcz16_2 := z4_ BK248.out 2 (.int .i64 a1_2) rfl
      have hcz16_3 := z4_ BK248.out 3 (.int .u64 a1_3) rfl
      have hcz16_4 := z4_ BK248.out 4 (.int .u64 a1_4) rfl
      have hcz16_5 := z4_ BK248.out 5 (.bool a1_5) rfl
      have hfz16_0 := blk_frozen BK248.out 0
      have hfz16_1 := blk_frozen BK248.out 1
      have hfz16_2 := blk_frozen BK248.out 2
      have hfz16_3 := blk_frozen BK248.out 3
      have hfz16_4 := blk_frozen BK248.out 4
      have hfz16_5 := blk_frozen BK248.out 5
      go_wp2
      go_ret2
      exact ⟨by first | rfl | (simp [errW_none, errW_some] <;> rfl) | (simp [*, errW_none, errW_some] <;> rfl), by repeat (first | (with_reducible first | exact HB.out | apply below_alloc | apply pw_below_drewN | apply below_drew1 | refine below_set ?_ GE248.out) | exact HB.out)⟩
    ·replace c11 := Bool.eq_false_iff.mpr c11
     subst c11
     have H1 : (if a1_1 = true then ((vernierref06_Neg.f kj4 a0 t249).bind fun t253 => (some (t253, 0))) else (some (t249, 0))) = some (r1, r2) := by rw [if_neg (show ¬ (false = true) by decide)] at H; exact H
     clear H
     have H := H1
     clear H1
     by_cases c17 : a1_1 = true
     ·subst c17
      have H1 : ((vernierref06_Neg.f kj4 a0 t249).bind fun t253 => (some (t253, 0))) = some (r1, r2) := by rw [if_pos rfl] at H; exact H
      clear H
      have H := H1
      clear H1
      replace H := Option.bind_eq_some_iff.mp H
      obtain ⟨t253, A180, H⟩ := H
      replace H : (some (t253, 0)) = some (r1, r2) := H
      have A18 := Aside0.mk A180
      clear A180
      simp only [Option.some.injEq, Prod.mk.injEq] at H
      obtain ⟨rfl, rfl⟩ := H
      have hcz19_0 := z4_ BK248.out 0 (.int .i64 a1_0) rfl
      have hcz19_1 := z4_ BK248.out 1 (.bool true) rfl
      have hcz19_2 := z4_ BK248.out 2 (.int .i64 a1_2) rfl
      have hcz19_3 := z4_ BK248.out 3 (.int .u64 a1_3) rfl
      have hcz19_4 := z4_ BK248.out 4 (.int .u64 a1_4) rfl
      have hcz19_5 := z4_ BK248.out 5 (.bool a1_5) rfl
      have hfz19_0 := blk_frozen BK248.out 0
      have hfz19_1 := blk_frozen BK248.out 1
      have hfz19_2 := blk_frozen BK248.out 2
      have hfz19_3 := blk_frozen BK248.out 3
      have hfz19_4 := blk_frozen BK248.out 4
      have hfz19_5 := blk_frozen BK248.out 5
      go_wp2_with (first | ((with_reducible refine gate_callee (f := 39) rfl ?_); refine goesL_ (some 36) rfl rfl Try.func39 (by kernel_rfl) rfl #[.int .i64 a0, .int .u64 t249] rfl z5_ ?_; (with_reducible refine (vernierref06_Neg.calls kj4 a0 t249 t253 _ A18.out).mono ?_); rintro e w20 ⟨rfl, hb⟩; refine ⟨_, rfl, ?_⟩; have n0_ := Aside0.mk (blk_below (g := gb248) (z1_ BK248.out) hb); have n1_ := Aside0.mk (below_step (z3_ HB.out) hb); clear BK248; clear HB; have BK248 := n0_; have HB := n1_; clear n0_ n1_; (try clear hb); (try clear hb2); (try clear hk); (try clear hi)))
      go_ret2
      exact ⟨by first | rfl | (simp [errW_none, errW_some] <;> rfl) | (simp [*, errW_none, errW_some] <;> rfl), by repeat (first | (with_reducible first | exact HB.out | apply below_alloc | apply pw_below_drewN | apply below_drew1 | refine below_set ?_ GE248.out) | exact HB.out)⟩
     ·replace c17 := Bool.eq_false_iff.mpr c17
      subst c17
      have H1 : (some (t249, 0)) = some (r1, r2) := by rw [if_neg (show ¬ (false = true) by decide)] at H; exact H
      clear H
      have H := H1
      clear H1
      simp only [Option.some.injEq, Prod.mk.injEq] at H
      obtain ⟨rfl, rfl⟩ := H
      have hcz21_0 := z4_ BK248.out 0 (.int .i64 a1_0) rfl
      have hcz21_1 := z4_ BK248.out 1 (.bool false) rfl
      have hcz21_2 := z4_ BK248.out 2 (.int .i64 a1_2) rfl
      have hcz21_3 := z4_ BK248.out 3 (.int .u64 a1_3) rfl
      have hcz21_4 := z4_ BK248.out 4 (.int .u64 a1_4) rfl
      have hcz21_5 := z4_ BK248.out 5 (.bool a1_5) rfl
      have hfz21_0 := blk_frozen BK248.out 0
      have hfz21_1 := blk_frozen BK248.out 1
      have hfz21_2 := blk_frozen BK248.out 2
      have hfz21_3 := blk_frozen BK248.out 3
      have hfz21_4 := blk_frozen BK248.out 4
      have hfz21_5 := blk_frozen BK248.out 5
      go_wp2
      go_ret2
      exact ⟨by first | rfl | (simp [errW_none, errW_some] <;> rfl) | (simp [*, errW_none, errW_some] <;> rfl), by repeat (first | (with_reducible first | exact HB.out | apply below_alloc | apply pw_below_drewN | apply below_drew1 | refine below_set ?_ GE248.out) | exact HB.out)⟩
 ·rw [if_neg c4] at H
  have c4b0 : (t251 == 0) = false := beq_eq_false_iff_ne.mpr c4
  have c4b1 : (t251 != 0) = true := bne_iff_ne.mpr c4
  simp only [Option.some.injEq, Prod.mk.injEq] at H
  obtain ⟨rfl, rfl⟩ := H
  go_enter Try.func15, Try.ntmps15
  go_wp2_with (first | ((with_reducible refine gate_dst (N := 3) rfl ?_); refine box_event ?hg (N := 3) ?hd (cs := #[.int .i64 a1_0, .bool a1_1, .int .i64 a1_2, .int .u64 a1_3, .int .u64 a1_4, .bool a1_5]) (t := 24) ?hr ?_; (case hd => rfl); (case hg => rfl); (case hr => first | (go_simp; done) | (go_simp; rfl)); intro gb248 hg w22 hbox hb; have n0_ := Aside0.mk (below_step (z3_ HB.out) hb); have n1_ := Aside0.mk (hbox); have n2_ := Aside0.mk ((by rw [hg]; exact (below_size (z3_ HB.out)) : w.heap.size ≤ gb248)); have n3_ := Aside0.mk ((by rw [hg]; exact (below_size (z3_ HB.out)) : w.heap.size ≤ gb248)); clear HB; have HB := n0_; have BK248 := n1_; have GW248 := n2_; have GE248 := n3_; clear n0_ n1_ n2_ n3_; clear hb hbox hg; have hcz23_0 := z4_ BK248.out 0 (.int .i64 a1_0) rfl; have hcz23_1 := z4_ BK248.out 1 (.bool a1_1) rfl; have hcz23_2 := z4_ BK248.out 2 (.int .i64 a1_2) rfl; have hcz23_3 := z4_ BK248.out 3 (.int .u64 a1_3) rfl; have hcz23_4 := z4_ BK248.out 4 (.int .u64 a1_4) rfl; have hcz23_5 := z4_ BK248.out 5 (.bool a1_5) rfl; have hfz23_0 := blk_frozen BK248.out 0; have hfz23_1 := blk_frozen BK248.out 1; have hfz23_2 := blk_frozen BK248.out 2; have hfz23_3 := blk_frozen BK248.out 3; have hfz23_4 := blk_frozen BK248.out 4; have hfz23_5 := blk_frozen BK248.out 5) | ((with_reducible refine gate_callee (f := 12) rfl ?_); refine goesL_ (some 12) rfl rfl Try.func12 (by kernel_rfl) rfl #[.int .i64 a0, .agg #[.int .i64 a1_0, .bool a1_1, .int .i64 a1_2, .int .u64 a1_3, .int .u64 a1_4, .bool a1_5]] rfl z5_ ?_; (with_reducible refine (vernierref07_Cut.calls k a0 a1_0 a1_1 a1_2 a1_3 a1_4 a1_5 t249 t250 t251 _ A3.out).mono ?_); rintro e w24 ⟨rfl, hb⟩; refine ⟨_, rfl, ?_⟩; have n0_ := Aside0.mk (blk_below (g := gb248) (z1_ BK248.out) hb); have n1_ := Aside0.mk (below_step (z3_ HB.out) hb); clear BK248; clear HB; have BK248 := n0_; have HB := n1_; clear n0_ n1_; (try clear hb); (try clear hb2); (try clear hk); (try clear hi)))
  go_ret2
  exact ⟨by first | rfl | (simp [errW_none, errW_some] <;> rfl) | (simp [*, errW_none, errW_some] <;> rfl), by repeat (first | (with_reducible first | exact HB.out | apply below_alloc | apply pw_below_drewN | apply below_drew1 | refine below_set ?_ GE248.out) | exact HB.out)⟩
end Go.Proofs.Ytfegofnplcmacaa.PAll
namespace Go.Proofs.Ytfegofnplcmacaa.PAll
open Go.RowKit Go.Proofs.YtfegofnplcmacaaW.PrintWords Go.Proofs.YtfegofnplcmacaaW.PrintLast Go.Proofs.YtfegofnplcmacaaW.PrintMore
attribute [local go_sem] max2_int min2_int max_two min_two max_three min_three max_four min_four
set_option linter.unusedVariables false
set_option linter.unusedSimpArgs false
mutual
def vernierref01_Extend.j0 : Nat → Int → Int → Bool → Option (Int × Int)
 | 0, _, _, _ => none
 | k + 1, x0, x1, x14 => if x14 = true then (some (0, 1)) else ((vernierref01_Text.f k x0 x1).bind fun t266 => (if 0 < (t266.size : Int) then (if (bt t266 0) = 49 then (vernierref01_Extend.j1 k x1 t266 (-1)) else (vernierref01_Extend.j1 k x1 t266 0)) else (none)))
def vernierref01_Extend.j1 : Nat → Int → ByteArray → Int → Option (Int × Int)
 | 0, _, _, _ => none
 | k + 1, x1, x6, x7 => vernierref01_Extend.l0 k x1 x6 x7 1
def vernierref01_Extend.l0 : Nat → Int → ByteArray → Int → Int → Option (Int × Int)
 | 0, _, _, _, _ => none
 | k + 1, x1, x6, x7, x8 => if x8 < x1 then (if 0 ≤ x8 then (if x8 < (x6.size : Int) then (vernierref01_Extend.l0 k x1 x6 (wrap64 ((wrap64 (2 * x7)) + (((bt x6 x8) - 48) % 256))) (wrap64 (x8 + 1))) else (none)) else (none)) else (some (x7, 0))
end
def vernierref01_Extend.f (k : Nat) (a0 : Int) (a1 : Int) : Option (Int × Int) := if a1 < 1 then (vernierref01_Extend.j0 k a0 a1 true) else (vernierref01_Extend.j0 k a0 a1 (decide (a1 > 64)))
theorem vernierref01_Extend.mono_l : ∀ k, (∀ y0 y1 y2, LeO (vernierref01_Extend.j0 k y0 y1 y2) (vernierref01_Extend.j0 (k + 1) y0 y1 y2)) ∧ (∀ y0 y1 y2, LeO (vernierref01_Extend.j1 k y0 y1 y2) (vernierref01_Extend.j1 (k + 1) y0 y1 y2)) ∧ (∀ y0 y1 y2 y3, LeO (vernierref01_Extend.l0 k y0 y1 y2 y3) (vernierref01_Extend.l0 (k + 1) y0 y1 y2 y3))
 | 0 => ⟨fun _ _ _ r h => by simp [vernierref01_Extend.j0] at h, fun _ _ _ r h => by simp [vernierref01_Extend.j1] at h, fun _ _ _ _ r h => by simp [vernierref01_Extend.l0] at h⟩
 | k + 1 => by
  obtain ⟨ih0, ih1, ih2⟩ := vernierref01_Extend.mono_l k
  refine ⟨?_, ?_, ?_⟩
  ·intro y0 y1 y2
   unfold vernierref01_Extend.j0
   repeat' first
   | (with_reducible exact ih0 _ _ _)
   | (with_reducible exact ih1 _ _ _)
   | (with_reducible exact ih2 _ _ _ _)
   | (with_reducible exact vernierref01_Text.mono _ _ _)
   | (with_reducible exact LeO.refl _)
   | (with_reducible exact LeO.none _)
   | (with_reducible refine LeO.ite ?_ ?_)
   | (with_reducible refine LeO.bind ?_ (fun _ => ?_))
   | exact ih0 _ _ _
   | exact ih1 _ _ _
   | exact ih2 _ _ _ _
   | exact vernierref01_Text.mono _ _ _
   | exact LeO.none _
   | refine LeO.ite ?_ ?_
   | refine LeO.bind ?_ (fun _ => ?_)
  ·intro y0 y1 y2
   unfold vernierref01_Extend.j1
   repeat' first
   | (with_reducible exact ih0 _ _ _)
   | (with_reducible exact ih1 _ _ _)
   | (with_reducible exact ih2 _ _ _ _)
   | (with_reducible exact vernierref01_Text.mono _ _ _)
   | (with_reducible exact LeO.refl _)
   | (with_reducible exact LeO.none _)
   | (with_reducible refine LeO.ite ?_ ?_)
   | (with_reducible refine LeO.bind ?_ (fun _ => ?_))
   | exact ih0 _ _ _
   | exact ih1 _ _ _
   | exact ih2 _ _ _ _
   | exact vernierref01_Text.mono _ _ _
   | exact LeO.none _
   | refine LeO.ite ?_ ?_
   | refine LeO.bind ?_ (fun _ => ?_)
  ·intro y0 y1 y2 y3
   unfold vernierref01_Extend.l0
   repeat' first
   | (with_reducible exact ih0 _ _ _)
   | (with_reducible exact ih1 _ _ _)
   | (with_reducible exact ih2 _ _ _ _)
   | (with_reducible exact vernierref01_Text.mono _ _ _)
   | (with_reducible exact LeO.refl _)
   | (with_reducible exact LeO.none _)
   | (with_reducible refine LeO.ite ?_ ?_)
   | (with_reducible refine LeO.bind ?_ (fun _ => ?_))
   | exact ih0 _ _ _
   | exact ih1 _ _ _
   | exact ih2 _ _ _ _
   | exact vernierref01_Text.mono _ _ _
   | exact LeO.none _
   | refine LeO.ite ?_ ?_
   | refine LeO.bind ?_ (fun _ => ?_)
theorem vernierref01_Extend.mono : ∀ a0 a1 k, LeO (vernierref01_Extend.f k a0 a1) (vernierref01_Extend.f (k + 1) a0 a1) := by
 intro a0 a1 k
 obtain ⟨ih0, ih1, ih2⟩ := vernierref01_Extend.mono_l k
 unfold vernierref01_Extend.f
 repeat' first
   | (with_reducible exact ih0 _ _ _)
   | (with_reducible exact ih1 _ _ _)
   | (with_reducible exact ih2 _ _ _ _)
   | (with_reducible exact vernierref01_Text.mono _ _ _)
   | (with_reducible exact LeO.refl _)
   | (with_reducible exact LeO.none _)
   | (with_reducible refine LeO.ite ?_ ?_)
   | (with_reducible refine LeO.bind ?_ (fun _ => ?_))
   | exact ih0 _ _ _
   | exact ih1 _ _ _
   | exact ih2 _ _ _ _
   | exact vernierref01_Text.mono _ _ _
   | exact LeO.none _
   | refine LeO.ite ?_ ?_
   | refine LeO.bind ?_ (fun _ => ?_)
set_option maxHeartbeats 8000000 in
set_option maxRecDepth 100000 in
theorem vernierref01_Extend.calls (k : Nat) (a0 : Int) (a1 : Int) (r1 : Int) (r2 : Int) (w : World) (h : vernierref01_Extend.f k a0 a1 = some (r1, r2)) :
  Calls Try.prog 58 #[.int .u64 a0, .int .i64 a1] w fun e w' => e = .returned (.tuple #[.int .i64 r1, .int .i64 r2]) ∧ Below w.heap.size w w' := by
 have HB := Aside0.mk (Below.refl w.heap.size w)
 have H : (if a1 < 1 then (vernierref01_Extend.j0 k a0 a1 true) else (vernierref01_Extend.j0 k a0 a1 (decide (a1 > 64)))) = some (r1, r2) := h
 clear h
 have HC3 := Aside0.mk H
 clear H
 go_enter Try.func58, Try.ntmps58
 go_upto_region 1 with (fail)
 go_cut [14] (fun v14 wc => ∃ (kq : Nat) (x14_2 : Bool), v14 = .bool x14_2 ∧ Aside0 (vernierref01_Extend.j0 kq a0 a1 x14_2 = some (r1, r2)) ∧ Aside0 (kq ≤ k) ∧ Aside0 (Below w.heap.size w wc))
 case first =>
  have H := HC3.out
  clear HC3
  by_cases c4 : a1 < 1
  ·rw [if_pos c4] at H
   have c4b0 : decide (a1 < 1) = true := decide_eq_true c4
   clear c4
   (first | rw [c4b0] | (simp only [i64_w, i32_w]; rw [c4b0]) | skip)
   have H' := Aside0.mk H
   clear H
   go_wp2
   go_meet
   case rel => exact ⟨_, (true), (by first | rfl | (simp; done) | (simp [*]; done)), H', ⟨by first | omega | exact Nat.le_refl _⟩, ⟨by repeat (first | (with_reducible first | exact HB.out | apply below_alloc | apply pw_below_drewN | apply below_drew1) | exact HB.out)⟩⟩
  ·rw [if_neg c4] at H
   have c4b0 : decide (a1 < 1) = false := decide_eq_false c4
   clear c4
   (first | rw [c4b0] | (simp only [i64_w, i32_w]; rw [c4b0]) | skip)
   have H' := Aside0.mk H
   clear H
   go_wp2
   go_meet
   case rel => exact ⟨_, (decide (a1 > 64)), (by first | rfl | (simp; done) | (simp [*]; done)), H', ⟨by first | omega | exact Nat.le_refl _⟩, ⟨by repeat (first | (with_reducible first | exact HB.out | apply below_alloc | apply pw_below_drewN | apply below_drew1) | exact HB.out)⟩⟩
 case rest =>
  clear HC3
  try clear p2
  try clear c4
  try clear c4b0
  obtain ⟨kq, x14_2, rfl, HA, HJ2, HB⟩ := hcut
  cases kq with
  | zero => exact absurd HA.out (by simp [vernierref01_Extend.j0])
  | succ kj2 =>
   have H := HA.out
   clear HA
   simp only [vernierref01_Extend.j0] at H
   by_cases c5 : x14_2 = true
   ·subst c5
    have H1 : (some (0, 1)) = some (r1, r2) := by rw [if_pos rfl] at H; exact H
    clear H
    have H := H1
    clear H1
    simp only [Option.some.injEq, Prod.mk.injEq] at H
    obtain ⟨rfl, rfl⟩ := H
    go_wp2
    go_ret2
    exact ⟨by first | rfl | (simp [errW_none, errW_some] <;> rfl) | (simp [*, errW_none, errW_some] <;> rfl), by repeat (first | (with_reducible first | exact HB.out | apply below_alloc | apply pw_below_drewN | apply below_drew1) | exact HB.out)⟩
   ·replace c5 := Bool.eq_false_iff.mpr c5
    subst c5
    have H1 : ((vernierref01_Text.f kj2 a0 a1).bind fun t266 => (if 0 < (t266.size : Int) then (if (bt t266 0) = 49 then (vernierref01_Extend.j1 kj2 a1 t266 (-1)) else (vernierref01_Extend.j1 kj2 a1 t266 0)) else (none))) = some (r1, r2) := by rw [if_neg (show ¬ (false = true) by decide)] at H; exact H
    clear H
    have H := H1
    clear H1
    replace H := Option.bind_eq_some_iff.mp H
    obtain ⟨t266, A60, H⟩ := H
    replace H : (if 0 < (t266.size : Int) then (if (bt t266 0) = 49 then (vernierref01_Extend.j1 kj2 a1 t266 (-1)) else (vernierref01_Extend.j1 kj2 a1 t266 0)) else (none)) = some (r1, r2) := H
    have A6 := Aside0.mk A60
    clear A60
    by_cases c7 : 0 < (t266.size : Int)
    ·rw [if_pos c7] at H
     have c7b0 : decide (0 < (t266.size : Int)) = true := decide_eq_true c7
     have c7b1 : decide (0 < t266.size) = true := decide_eq_true (by omega)
     clear c7
     have HC9 := Aside0.mk H
     clear H
     go_upto_if 20 with (first | ((with_reducible refine gate_callee (f := 32) rfl ?_); refine goesL_ (some 17) rfl rfl Try.func32 (by kernel_rfl) rfl #[.int .u64 a0, .int .i64 a1] rfl z5_ ?_; (with_reducible refine (vernierref01_Text.calls kj2 a0 a1 t266 _ A6.out).mono ?_); rintro e w10 ⟨rfl, hb⟩; refine ⟨_, rfl, ?_⟩; have n0_ := Aside0.mk (below_step (z3_ HB.out) hb); clear HB; have HB := n0_; clear n0_; (try clear hb); (try clear hb2); (try clear hk); (try clear hi); have p8 : 0 ≤ (0 : Int) := (by omega); have q8 : 0 < t266.size := (by have : (0 : Int) < (t266.size : Int) := of_decide_eq_true (by first | (with_reducible assumption) | assumption); omega); have hx8 : ∀ h : 0 < t266.size, ((t266[0]'h).toNat : Int) = bt t266 0 := bt_at t266 0; clear p8; have qi8 : (0 < (t266.size : Int)) = True := eq_true (of_decide_eq_true (by first | (with_reducible assumption) | assumption)); replace q8 := eq_true q8))
     (try simp only [Act.put, List.setIfInBounds_toArray, List.set_cons_zero, List.set_cons_succ])
     go_cut [7] (fun v7 wc => ∃ (kq : Nat) (x7_8 : Int), v7 = .int .i64 x7_8 ∧ Aside0 (vernierref01_Extend.j1 kq a1 t266 x7_8 = some (r1, r2)) ∧ Aside0 (kq ≤ kj2) ∧ Aside0 (Below w.heap.size w wc))
     case first =>
      have H := HC9.out
      clear HC9
      by_cases c11 : (bt t266 0) = 49
      ·rw [if_pos c11] at H
       have c11b0 : ((bt t266 0) == 49) = true := beq_iff_eq.mpr c11
       have c11b1 : ((bt t266 0) != 49) = false := bne_eq_false_iff_eq.mpr c11
       clear c11
       (first | rw [c11b0] | (simp only [i64_w, i32_w]; rw [c11b0]) | skip)
       have H' := Aside0.mk H
       clear H
       go_wp2
       go_meet
       case rel => exact ⟨_, ((-1)), (by first | rfl | (simp; done) | (simp [*]; done)), H', ⟨by have := HJ2.out; first | omega | exact Nat.le_refl _⟩, ⟨by repeat (first | (with_reducible first | exact HB.out | apply below_alloc | apply pw_below_drewN | apply below_drew1) | exact HB.out)⟩⟩
      ·rw [if_neg c11] at H
       have c11b0 : ((bt t266 0) == 49) = false := beq_eq_false_iff_ne.mpr c11
       have c11b1 : ((bt t266 0) != 49) = true := bne_iff_ne.mpr c11
       (first | rw [c11b0] | (simp only [i64_w, i32_w]; rw [c11b0]) | skip)
       have H' := Aside0.mk H
       clear H
       go_wp2
       go_meet
       case rel => exact ⟨_, (0), (by first | rfl | (simp; done) | (simp [*]; done)), H', ⟨by have := HJ2.out; first | omega | exact Nat.le_refl _⟩, ⟨by repeat (first | (with_reducible first | exact HB.out | apply below_alloc | apply pw_below_drewN | apply below_drew1) | exact HB.out)⟩⟩
     case rest =>
      clear HC9
      try clear c1
      try clear p2
      try clear c3
      try clear c4
      try clear c4b0
      try clear c5
      try clear c7
      try clear c7b0
      try clear c7b1
      try clear p8
      try clear q8
      try clear hx8
      try clear qi8
      try clear c11
      try clear c11b0
      try clear c11b1
      try clear p2
      try clear p8
      try clear q8
      obtain ⟨kq, x7_8, rfl, HA, HJ8, HB⟩ := hcut
      cases kq with
      | zero => exact absurd HA.out (by simp [vernierref01_Extend.j1])
      | succ kj8 =>
       have H := HA.out
       clear HA
       simp only [vernierref01_Extend.j1] at H
       have H' := Aside0.mk H
       clear H
       go_wp2
       go_loopg [7, 8] kj8 (fun kq v7 v8 w' => ∃ (x7_3 : Int) (x8_3 : Int), v7 = .int .i64 x7_3 ∧ v8 = .int .i64 x8_3 ∧ Aside0 (vernierref01_Extend.l0 kq a1 t266 x7_3 x8_3 = some (r1, r2)) ∧ Aside0 (kq ≤ kj8) ∧ Aside0 (Below w.heap.size w w'))
       case atStart => exact ⟨(x7_8), (1), (by first | rfl | (simp; done) | (simp [*]; done)), (by first | rfl | (simp; done) | (simp [*]; done)), H', ⟨Nat.le_refl _⟩, ⟨by repeat (first | (with_reducible first | exact HB.out | apply below_alloc | apply pw_below_drewN | apply below_drew1) | exact HB.out)⟩⟩
       case round =>
        clear H'
        try clear c1
        try clear p2
        try clear c3
        try clear c4
        try clear c4b0
        try clear c5
        try clear c7
        try clear c7b0
        try clear c7b1
        try clear p8
        try clear q8
        try clear hx8
        try clear qi8
        try clear c11
        try clear c11b0
        try clear c11b1
        try clear p2
        try clear p8
        try clear q8
        obtain ⟨x7_3, x8_3, rfl, rfl, HA, HK3, HB⟩ := hrel
        cases gk with
        | zero => exact absurd HA.out (by simp [vernierref01_Extend.l0])
        | succ k3 =>
         have H := HA.out
         clear HA
         simp only [vernierref01_Extend.l0] at H
         by_cases c12 : x8_3 < a1
         ·rw [if_pos c12] at H
          have c12b0 : decide (x8_3 < a1) = true := decide_eq_true c12
          clear c12
          by_cases c13 : 0 ≤ x8_3
          ·rw [if_pos c13] at H
           have c13b0 : decide (0 ≤ x8_3) = true := decide_eq_true c13
           clear c13
           by_cases c14 : x8_3 < (t266.size : Int)
           ·rw [if_pos c14] at H
            have c14b0 : decide (x8_3 < (t266.size : Int)) = true := decide_eq_true c14
            clear c14
            have H' := Aside0.mk H
            clear H
            have p15 : 0 ≤ (x8_3 : Int) := of_decide_eq_true (by first | (with_reducible assumption) | assumption)
            have q15 : x8_3 < (t266.size : Int) := of_decide_eq_true (by first | (with_reducible assumption) | assumption)
            have hx15 := bt_at t266 x8_3
            replace p15 := eq_true p15
            replace q15 := eq_true q15
            go_wp2
            go_roundg k3
            case measure => have := HJ2.out; have := HJ8.out; have := HK3.out; omega
            case rel => exact ⟨(wrap64 ((wrap64 (2 * x7_3)) + (((bt t266 x8_3) - 48) % 256))), (wrap64 (x8_3 + 1)), (by first | rfl | (simp; done) | (simp [*]; done)), (by first | rfl | (simp; done) | (simp [*]; done)), H', ⟨by have := HJ2.out; have := HJ8.out; have := HK3.out; omega⟩, ⟨by repeat (first | (with_reducible first | exact HB.out | apply below_alloc | apply pw_below_drewN | apply below_drew1) | exact HB.out)⟩⟩
           ·rw [if_neg c14] at H
            exact absurd H (by simp)
          ·rw [if_neg c13] at H
           exact absurd H (by simp)
         ·rw [if_neg c12] at H
          have c12b0 : decide (x8_3 < a1) = false := decide_eq_false c12
          clear c12
          simp only [Option.some.injEq, Prod.mk.injEq] at H
          obtain ⟨rfl, rfl⟩ := H
          go_wp2
          go_ret2
          exact ⟨by first | rfl | (simp [errW_none, errW_some] <;> rfl) | (simp [*, errW_none, errW_some] <;> rfl), by repeat (first | (with_reducible first | exact HB.out | apply below_alloc | apply pw_below_drewN | apply below_drew1) | exact HB.out)⟩
    ·rw [if_neg c7] at H
     exact absurd H (by simp)
end Go.Proofs.Ytfegofnplcmacaa.PAll
namespace Go.Proofs.Ytfegofnplcmacaa.PAll
open Go.RowKit Go.Proofs.YtfegofnplcmacaaW.PrintWords Go.Proofs.YtfegofnplcmacaaW.PrintLast Go.Proofs.YtfegofnplcmacaaW.PrintMore
attribute [local go_sem] max2_int min2_int max_two min_two max_three min_three max_four min_four
set_option linter.unusedVariables false
set_option linter.unusedSimpArgs false
def vernierref05_Rank.f (k : Nat) (a0 : Int) (a1 : Int) : Option (Int × Int) := (vernierref05_Is.f a0).bind fun t267 => (if t267 = true then ((vernierref01_Extend.f k a1 a0).bind fun bt268 => (some (bt268.1, 0))) else (some (0, 2)))
theorem vernierref05_Rank.mono : ∀ a0 a1 k, LeO (vernierref05_Rank.f k a0 a1) (vernierref05_Rank.f (k + 1) a0 a1) := by
 intro a0 a1 k
 unfold vernierref05_Rank.f
 repeat' first
   | (with_reducible exact vernierref01_Extend.mono _ _ _)
   | (with_reducible exact LeO.refl _)
   | (with_reducible exact LeO.none _)
   | (with_reducible refine LeO.ite ?_ ?_)
   | (with_reducible refine LeO.bind ?_ (fun _ => ?_))
   | exact vernierref01_Extend.mono _ _ _
   | exact LeO.none _
   | refine LeO.ite ?_ ?_
   | refine LeO.bind ?_ (fun _ => ?_)
set_option maxHeartbeats 8000000 in
set_option maxRecDepth 100000 in
theorem vernierref05_Rank.calls (k : Nat) (a0 : Int) (a1 : Int) (r1 : Int) (r2 : Int) (w : World) (h : vernierref05_Rank.f k a0 a1 = some (r1, r2)) :
  Calls Try.prog 41 #[.int .i64 a0, .int .u64 a1] w fun e w' => e = .returned (.tuple #[.int .i64 r1, .int .i64 r2]) ∧ Below w.heap.size w w' := by
 have HB := Aside0.mk (Below.refl w.heap.size w)
 have H : ((vernierref05_Is.f a0).bind fun t267 => (if t267 = true then ((vernierref01_Extend.f k a1 a0).bind fun bt268 => (some (bt268.1, 0))) else (some (0, 2)))) = some (r1, r2) := h
 clear h
 replace H := Option.bind_eq_some_iff.mp H
 obtain ⟨t267, A30, H⟩ := H
 replace H : (if t267 = true then ((vernierref01_Extend.f k a1 a0).bind fun bt268 => (some (bt268.1, 0))) else (some (0, 2))) = some (r1, r2) := H
 have A3 := Aside0.mk A30
 clear A30
 by_cases c4 : t267 = true
 ·subst c4
  have H1 : ((vernierref01_Extend.f k a1 a0).bind fun bt268 => (some (bt268.1, 0))) = some (r1, r2) := by rw [if_pos rfl] at H; exact H
  clear H
  have H := H1
  clear H1
  replace H := Option.bind_eq_some_iff.mp H
  obtain ⟨⟨t268, t269⟩, A50, H⟩ := H
  replace H : (some (t268, 0)) = some (r1, r2) := H
  have A5 := Aside0.mk A50
  clear A50
  simp only [Option.some.injEq, Prod.mk.injEq] at H
  obtain ⟨rfl, rfl⟩ := H
  go_enter Try.func41, Try.ntmps41
  go_wp2_with (first | ((with_reducible refine gate_callee (f := 17) rfl ?_); refine goesL_ (some 10) rfl rfl Try.func17 (by kernel_rfl) rfl #[.int .i64 a0] rfl z5_ ?_; (with_reducible refine (vernierref05_Is.calls a0 true _ A3.out).mono ?_); rintro e w' ⟨rfl, ⟨nd, rfl⟩⟩; refine ⟨_, rfl, ?_⟩) | ((with_reducible refine gate_callee (f := 58) rfl ?_); refine goesL_ (some 16) rfl rfl Try.func58 (by kernel_rfl) rfl #[.int .u64 a1, .int .i64 a0] rfl z5_ ?_; (with_reducible refine (vernierref01_Extend.calls k a1 a0 t268 t269 _ A5.out).mono ?_); rintro e w6 ⟨rfl, hb⟩; refine ⟨_, rfl, ?_⟩; have n0_ := Aside0.mk (below_step (z3_ HB.out) hb); clear HB; have HB := n0_; clear n0_; (try clear hb); (try clear hb2); (try clear hk); (try clear hi)))
  go_ret2
  exact ⟨by first | rfl | (simp [errW_none, errW_some] <;> rfl) | (simp [*, errW_none, errW_some] <;> rfl), by repeat (first | (with_reducible first | exact HB.out | apply below_alloc | apply pw_below_drewN | apply below_drew1) | exact HB.out)⟩
 ·replace c4 := Bool.eq_false_iff.mpr c4
  subst c4
  have H1 : (some (0, 2)) = some (r1, r2) := by rw [if_neg (show ¬ (false = true) by decide)] at H; exact H
  clear H
  have H := H1
  clear H1
  simp only [Option.some.injEq, Prod.mk.injEq] at H
  obtain ⟨rfl, rfl⟩ := H
  go_enter Try.func41, Try.ntmps41
  go_wp2_with (first | ((with_reducible refine gate_callee (f := 17) rfl ?_); refine goesL_ (some 10) rfl rfl Try.func17 (by kernel_rfl) rfl #[.int .i64 a0] rfl z5_ ?_; (with_reducible refine (vernierref05_Is.calls a0 false _ A3.out).mono ?_); rintro e w' ⟨rfl, ⟨nd, rfl⟩⟩; refine ⟨_, rfl, ?_⟩))
  go_ret2
  exact ⟨by first | rfl | (simp [errW_none, errW_some] <;> rfl) | (simp [*, errW_none, errW_some] <;> rfl), by repeat (first | (with_reducible first | exact HB.out | apply below_alloc | apply pw_below_drewN | apply below_drew1) | exact HB.out)⟩
end Go.Proofs.Ytfegofnplcmacaa.PAll
namespace Go.Proofs.Ytfegofnplcmacaa.V
open Go Go.RowKit Go.Proofs.YtfegofnplcmacaaW.PrintWords Go.Proofs.YtfegofnplcmacaaW.PrintLast Go.Proofs.YtfegofnplcmacaaW.PrintMore Go.Proofs.Ytfegofnplcmacaa.PAll
set_option linter.unusedVariables false
set_option linter.unusedSimpArgs false
def runO (m w : Nat) : Bool := decide (2 ^ (m - 1) ≤ w)
def runL (m w : Nat) : Nat := if runO m w then m - bl (2 ^ m - 1 - w) else m - bl w
def dL1 (m w : Nat) : Nat := m - runL m w - 1
def dEb (m w : Nat) : Nat := min (dL1 m w) 2
def dLf (m w : Nat) : Nat := dL1 m w - dEb m w
def decK (m w : Nat) : Int := if runO m w then (runL m w : Int) - 1 else -(runL m w : Int)
def decEx (m w : Nat) : Nat := w / 2 ^ dLf m w % 2 ^ dEb m w * 2 ^ (2 - dEb m w)
def decS (m w : Nat) : Int := 4 * decK m w + (decEx m w : Int)
def decFr (m w : Nat) : Nat := 2 ^ 63 + w % 2 ^ dLf m w * 2 ^ (63 - dLf m w)
theorem run_ones {m w : Nat} (h1 : 1 ≤ m) (hw : w < 2 ^ m) (ho : 2 ^ (m - 1) ≤ w) :
    ∃ r l A t, runL m w = r ∧ dL1 m w = l ∧ 1 ≤ r ∧ r ≤ m ∧ l = m - r - 1 ∧ w = A * 2 ^ l + t ∧ t < 2 ^ l ∧ ((r < m ∧ A = 2 * (2 ^ r - 1)) ∨ (r = m ∧ l = 0 ∧ A = 2 ^ m - 1 ∧ t = 0)) := by
  have e : runL m w = m - bl (2 ^ m - 1 - w) := by unfold runL runO; rw [if_pos (by simpa using ho)]
  have hm : (2 : Nat) ^ m = 2 * 2 ^ (m - 1) := by rw [show m = m - 1 + 1 by omega, Nat.pow_succ]; simp; omega
  have hz : 2 ^ m - 1 - w < 2 ^ (m - 1) := by omega
  have hb := bl_le_of_lt hz
  by_cases h0 : 2 ^ m - 1 - w = 0
  · rw [h0, bl_zero, Nat.sub_zero] at e
    refine ⟨m, 0, w, 0, e, by unfold dL1; rw [e]; omega, h1, Nat.le_refl _, by omega, by simp, by decide, .inr ⟨rfl, rfl, by omega, rfl⟩⟩
  · have b1 := bl_pos (x := 2 ^ m - 1 - w) (by omega)
    have b2 := bl_le (x := 2 ^ m - 1 - w) (by omega)
    have b3 := bl_lt (2 ^ m - 1 - w)
    generalize bl (2 ^ m - 1 - w) = b at *
    have e1 : dL1 m w = b - 1 := by unfold dL1; rw [e]; omega
    have q1 : (2 : Nat) ^ b = 2 * 2 ^ (b - 1) := by rw [show b = b - 1 + 1 by omega, Nat.pow_succ]; simp; omega
    have q2 : (2 : Nat) ^ m = 2 ^ (m - b) * 2 ^ b := by rw [← Nat.pow_add]; exact pow_congr (by omega)
    have p1 := two_pos (m - b)
    obtain ⟨a, ha⟩ : ∃ a, 2 ^ (m - b) = a + 1 := ⟨2 ^ (m - b) - 1, by omega⟩
    have q3 : 2 * (2 ^ (m - b) - 1) * 2 ^ (b - 1) = 2 ^ m - 2 ^ b := by
      rw [q2, ha, q1, Nat.add_sub_cancel, Nat.add_mul]
      have : 2 * a * 2 ^ (b - 1) = a * (2 * 2 ^ (b - 1)) := by grind
      omega
    have q4 : 2 ^ b ≤ 2 ^ m := pow_le (by omega)
    refine ⟨m - b, b - 1, 2 * (2 ^ (m - b) - 1), w - 2 * (2 ^ (m - b) - 1) * 2 ^ (b - 1), e, e1, by omega, by omega, by omega, ?_, ?_, .inl ⟨by omega, rfl⟩⟩
    · rw [q3]; omega
    · rw [q3]; omega
theorem run_noughts {m w : Nat} (h1 : 1 ≤ m) (hw0 : 0 < w) (ho : ¬ 2 ^ (m - 1) ≤ w) :
    ∃ r l t, runL m w = r ∧ dL1 m w = l ∧ 1 ≤ r ∧ r < m ∧ l = m - r - 1 ∧ w = 1 * 2 ^ l + t ∧ t < 2 ^ l := by
  have e : runL m w = m - bl w := by unfold runL runO; rw [if_neg (by simpa using ho)]
  have hb := bl_le_of_lt (show w < 2 ^ (m - 1) by omega)
  have b1 := bl_pos hw0
  have b2 := bl_le hw0
  have b3 := bl_lt w
  generalize bl w = b at *
  have q1 : (2 : Nat) ^ b = 2 * 2 ^ (b - 1) := by rw [show b = b - 1 + 1 by omega, Nat.pow_succ]; simp; omega
  exact ⟨m - b, b - 1, w - 2 ^ (b - 1), e, by unfold dL1; rw [e]; omega, by omega, by omega, by omega, by omega, by omega⟩
theorem tail_parts {m w l A t : Nat} (hl : dL1 m w = l) (hw : w = A * 2 ^ l + t) (ht : t < 2 ^ l) :
    t = w / 2 ^ dLf m w % 2 ^ dEb m w * 2 ^ dLf m w + w % 2 ^ dLf m w ∧ dEb m w + dLf m w = l ∧ dEb m w ≤ 2 ∧ (0 < dLf m w → dEb m w = 2) := by
  have hs : dEb m w + dLf m w = l := by unfold dLf dEb; omega
  refine ⟨?_, hs, by unfold dEb; omega, by unfold dLf dEb; omega⟩
  have h : w % 2 ^ l = t := by rw [hw, Nat.add_comm, Nat.add_mul_mod_self_right, Nat.mod_eq_of_lt ht]
  rw [← hs, Nat.add_comm, Nat.pow_add, Nat.mod_mul] at h
  have := Nat.mul_comm (2 ^ dLf m w) (w / 2 ^ dLf m w % 2 ^ dEb m w)
  omega
theorem tail_sig {m r l t eb lf er fr : Nat} (hm : m ≤ 63) (hr : r < m) (hl : l = m - r - 1) (ht : t = er * 2 ^ lf + fr) (hs : eb + lf = l) (he : eb ≤ 2) (hlf : 0 < lf → eb = 2) (hfr : fr < 2 ^ lf) :
    (er * 2 ^ (2 - eb) * 2 ^ 127 + fr * 2 ^ (63 - lf) * 2 ^ 64) * 2 ^ (70 - r) = t * 2 ^ (200 - m) := by
  rw [ht, Nat.add_mul, Nat.add_mul]
  have a1 : er * 2 ^ (2 - eb) * 2 ^ 127 * 2 ^ (70 - r) = er * 2 ^ lf * 2 ^ (200 - m) := by
    rw [Nat.mul_assoc, Nat.mul_assoc, ← Nat.pow_add, ← Nat.pow_add, Nat.mul_assoc, ← Nat.pow_add]
    rw [show 2 - eb + (127 + (70 - r)) = lf + (200 - m) by omega]
  have a2 : fr * 2 ^ (63 - lf) * 2 ^ 64 * 2 ^ (70 - r) = fr * 2 ^ (200 - m) := by
    by_cases h0 : lf = 0
    · subst h0
      have : fr = 0 := by simpa using hfr
      simp [this]
    · have := hlf (by omega)
      rw [Nat.mul_assoc, Nat.mul_assoc, ← Nat.pow_add, ← Nat.pow_add]
      rw [show 63 - lf + (64 + (70 - r)) = 200 - m by omega]
  rw [a1, a2]
theorem fr_back {m w : Nat} : (decFr m w - 2 ^ 63) * 2 ^ 64 = w % 2 ^ dLf m w * 2 ^ (63 - dLf m w) * 2 ^ 64 := by
  unfold decFr; rw [Nat.add_sub_cancel_left]
theorem decEx_lt {m w : Nat} : decEx m w < 4 := by
  unfold decEx
  have h1 := Nat.mod_lt (w / 2 ^ dLf m w) (two_pos (dEb m w))
  have he : dEb m w ≤ 2 := by unfold dEb; omega
  have : 2 ^ dEb m w * 2 ^ (2 - dEb m w) = 2 ^ 2 := pow_split he
  have := Nat.mul_lt_mul_of_pos_right h1 (two_pos (2 - dEb m w))
  omega
theorem decFr_range {m w : Nat} (h : dLf m w ≤ 63) : 2 ^ 63 ≤ decFr m w ∧ decFr m w < 2 ^ 64 := by
  unfold decFr
  have h1 := Nat.mod_lt w (two_pos (dLf m w))
  have h2 : 2 ^ dLf m w * 2 ^ (63 - dLf m w) = 2 ^ 63 := pow_split h
  have h3 := Nat.mul_lt_mul_of_pos_right h1 (two_pos (63 - dLf m w))
  rw [h2] at h3
  rw [p63] at *
  rw [p64]
  omega
theorem dec_sig {m w : Nat} (h1 : 7 ≤ m) (hm : m ≤ 63) (hw0 : 0 < w) (hw : w < 2 ^ m) :
    sig (decS m w) ((decFr m w - 2 ^ 63) * 2 ^ 64) = w * 2 ^ (200 - m) ∧ -(4 * (m : Int) - 4) ≤ decS m w ∧ decS m w ≤ 4 * (m : Int) - 4 ∧ 1 ≤ runL m w ∧ runL m w ≤ m := by
  have he := decEx_lt (m := m) (w := w)
  by_cases ho : 2 ^ (m - 1) ≤ w
  · obtain ⟨r, l, A, t, e1, e2, r1, r2, hl, hA, ht, hc⟩ := run_ones (by omega) hw ho
    obtain ⟨t1, t2, t3, t4⟩ := tail_parts e2 hA ht
    have hk : decK m w = ((r - 1 : Nat) : Int) := by unfold decK runO; rw [if_pos (by simpa using ho), e1]; omega
    have hs : decS m w = 4 * ((r - 1 : Nat) : Int) + ((decEx m w : Nat) : Int) := by unfold decS; rw [hk]
    have hfr := Nat.mod_lt w (two_pos (dLf m w))
    rcases hc with ⟨c1, c2⟩ | ⟨c1, c2, c3, c4⟩
    · refine ⟨?_, by omega, by omega, by omega, by omega⟩
      rw [sig_pos_eq hs he, fr_back, show 69 - (r - 1) = 70 - r by omega, show r - 1 + 1 = r by omega]
      have k := tail_sig hm c1 hl t1 t2 t3 t4 hfr
      have e3 : (2 ^ r - 1) * 2 ^ 130 * 2 ^ (70 - r) = A * 2 ^ l * 2 ^ (200 - m) := by
        rw [c2, Nat.mul_assoc, Nat.mul_comm 2, Nat.mul_assoc (2 ^ r - 1), Nat.mul_assoc (2 ^ r - 1)]
        congr 1
        have : (2 : Nat) * 2 ^ l * 2 ^ (200 - m) = 2 ^ (1 + l + (200 - m)) := by rw [Nat.pow_add, Nat.pow_add, Nat.pow_one]
        rw [this, ← Nat.pow_add]
        exact pow_congr (by omega)
      have e4 : w * 2 ^ (200 - m) = A * 2 ^ l * 2 ^ (200 - m) + t * 2 ^ (200 - m) := by
        rw [← Nat.add_mul, ← hA]
      rw [e4, ← k, ← e3, Nat.add_assoc, Nat.add_mul]
      rfl
    · have hlf : dLf m w = 0 ∧ dEb m w = 0 := by omega
      have hex : decEx m w = 0 := by unfold decEx; rw [hlf.2, Nat.pow_zero, Nat.mod_one, Nat.zero_mul]
      refine ⟨?_, by omega, by omega, by omega, by omega⟩
      rw [sig_pos_eq hs he, fr_back, hlf.1, hex, show 69 - (r - 1) = 70 - m by omega, show r - 1 + 1 = m by omega]
      simp only [Nat.pow_zero, Nat.mod_one, Nat.zero_mul, Nat.add_zero]
      have : w = 2 ^ m - 1 := by rw [hA, c2, c4, c3]; simp
      rw [this, Nat.mul_assoc, ← Nat.pow_add]
      congr 1
      exact pow_congr (by omega)
  · obtain ⟨r, l, t, e1, e2, r1, r2, hl, hA, ht⟩ := run_noughts (by omega) hw0 ho
    obtain ⟨t1, t2, t3, t4⟩ := tail_parts e2 hA ht
    have hk : decK m w = -(r : Int) := by unfold decK runO; rw [if_neg (by simpa using ho), e1]
    have hs : decS m w = -(4 * (r : Int)) + ((decEx m w : Nat) : Int) := by unfold decS; rw [hk]; omega
    have hfr := Nat.mod_lt w (two_pos (dLf m w))
    have k := tail_sig hm r2 hl t1 t2 t3 t4 hfr
    refine ⟨?_, by omega, by omega, by omega, by omega⟩
    rw [sig_neg_eq hs (by omega) he, fr_back]
    have e3 : 2 ^ 129 * 2 ^ (70 - r) = 1 * 2 ^ l * 2 ^ (200 - m) := by
      rw [Nat.one_mul, ← Nat.pow_add, ← Nat.pow_add]
      exact pow_congr (by omega)
    have e4 : w * 2 ^ (200 - m) = 1 * 2 ^ l * 2 ^ (200 - m) + t * 2 ^ (200 - m) := by
      rw [← Nat.add_mul, ← hA]
    rw [e4, ← k, ← e3, Nat.add_assoc, Nat.add_mul]
    rfl
theorem mn_min (a b : Nat) : mn (a : Int) (b : Int) = ((min a b : Nat) : Int) := by unfold mn; split <;> omega
theorem mx_zero (a : Int) : mx a 0 = ((a.toNat : Nat) : Int) := by unfold mx; split <;> omega
theorem lead_field_eq {a n : Nat} (h : a + n ≤ 64) : lead_field.f (a : Int) (n : Int) = some true := by
  unfold lead_field.f
  rw [if_pos (by omega), if_pos (by omega), if_pos (by omega), w64 (by omega) (by omega), decide_eq_true (by omega)]
theorem lead_Field_eq {x a n : Nat} (hx : x < 18446744073709551616) (h : a + n ≤ 64) : lead_Field.f (x : Int) (a : Int) (n : Int) = some (((x / 2 ^ a % 2 ^ n : Nat) : Int), none) := by
  unfold lead_Field.f
  rw [lead_field_eq h, Option.bind_some, if_pos rfl, if_pos (by omega), lead_ones_eq (by omega), Option.bind_some, shr_nat x a (by omega), and_mask _ _ (Nat.lt_of_le_of_lt (Nat.div_le_self _ _) hx) (by omega)]
theorem Len64_eq {x : Nat} (hx : x < 18446744073709551616) : bits_Len64.f (x : Int) = some ((bl x : Nat) : Int) := by
  unfold bits_Len64.f
  rw [if_pos ⟨by omega, by omega⟩, Int.toNat_natCast, bitLen_bl (by rw [p64]; exact hx)]
theorem Lead0_eq {x : Nat} (hx : x < 18446744073709551616) : bits_LeadingZeros64.f (x : Int) = some ((64 - bl x : Nat) : Int) := by
  have hb : bl x ≤ 64 := bl_le_of_lt (by rw [p64]; exact hx)
  unfold bits_LeadingZeros64.f
  rw [Len64_eq hx, Option.bind_some, w64 (by omega) (by omega)]
  congr 1; omega
theorem bl_add {z c k : Nat} (hz : 0 < z) (hc : c < 2 ^ k) : bl (z * 2 ^ k + c) = bl z + k := by
  have h1 := bl_le hz
  have h2 := bl_lt z
  have h0 := bl_pos hz
  refine bl_unique (by omega) ?_ ?_
  · rw [show bl z + k - 1 = bl z - 1 + k by omega, Nat.pow_add]
    exact Nat.le_trans (Nat.mul_le_mul_right _ h1) (Nat.le_add_right _ _)
  · rw [Nat.pow_add]
    have := Nat.mul_le_mul_right (2 ^ k) (show z + 1 ≤ 2 ^ bl z by omega)
    rw [Nat.add_mul] at this; omega
theorem lead_Run_eq {x m w : Nat} (h1 : 1 ≤ m) (hm : m ≤ 63) (hx : x < 18446744073709551616) (hw : x % 2 ^ m = w) (hw0 : 0 < w) :
    Ev (fun k => lead_Run.f k (x : Int) (m : Int)) (runO m w, ((runL m w : Nat) : Int), none) := by
  have hwl : w < 2 ^ m := by rw [← hw]; exact Nat.mod_lt _ (two_pos m)
  unfold lead_Run.f
  simp only [if_neg (show ¬ (m : Int) < 1 by omega), decide_eq_false (show ¬ (m : Int) > 64 by omega)]
  refine evs ?_
  have e1 : wrap64 (64 - (m : Int)) = ((64 - m : Nat) : Int) := by rw [w64 (by omega) (by omega)]; omega
  have hs : (2 : Nat) ^ m * 2 ^ (64 - m) = 18446744073709551616 := by rw [pow_split (by omega), p64]
  have e2 : shl .u64 (x : Int) ((64 - m : Nat) : Int) = ((w * 2 ^ (64 - m) : Nat) : Int) := by
    rw [shl_nat x _ (by omega), ← hs, Nat.mul_mod_mul_right, hw]
  simp only [lead_Run.j0, Bool.false_eq_true, if_false, e1, if_pos (show (0 : Int) ≤ ((64 - m : Nat) : Int) by omega), e2]
  clear e1 e2
  have hp := two_pos (64 - m)
  have hlt : w * 2 ^ (64 - m) < 18446744073709551616 := by rw [← hs]; exact Nat.mul_lt_mul_of_pos_right hwl hp
  have h63 : 2 ^ (m - 1) * 2 ^ (64 - m) = 9223372036854775808 := by rw [← Nat.pow_add, ← p63]; exact pow_congr (by omega)
  have htop : 2 ^ (m - 1) ≤ w ↔ 9223372036854775808 ≤ w * 2 ^ (64 - m) := by
    rw [← h63]
    exact ⟨fun h => Nat.mul_le_mul_right _ h, fun h => Nat.le_of_mul_le_mul_right h hp⟩
  have hbw := bl_le_of_lt hwl
  by_cases ho : 2 ^ (m - 1) ≤ w
  · have eo : runO m w = true := by unfold runO; simpa using ho
    have h9 := htop.mp ho
    have el : runL m w = m - bl (2 ^ m - 1 - w) := by unfold runL; rw [if_pos eo]
    generalize hu : w * 2 ^ (64 - m) = u at *
    simp only [if_pos (show ((u : Nat) : Int) / 9223372036854775808 = 1 by omega), show (((u : Nat) : Int) / 9223372036854775808 == 1) = true by rw [beq_iff_eq]; omega, xor_all u hlt, Lead0_eq (show 18446744073709551615 - u < 18446744073709551616 by omega), Option.bind_some, eo]
    refine evn ?_
    have e3 : 18446744073709551615 - u = (2 ^ m - 1 - w) * 2 ^ (64 - m) + (2 ^ (64 - m) - 1) := by
      have hm1 : 1 ≤ 2 ^ m := two_pos m
      obtain ⟨z, hz⟩ : ∃ z, 2 ^ m = z + w + 1 := ⟨2 ^ m - 1 - w, by omega⟩
      have : 2 ^ m - 1 - w = z := by omega
      rw [this]
      rw [hz, Nat.add_mul, Nat.add_mul, hu, Nat.one_mul] at hs
      omega
    have hbl : bl (18446744073709551615 - u) = bl (2 ^ m - 1 - w) + (64 - m) := by
      rw [e3]
      by_cases h0 : 2 ^ m - 1 - w = 0
      · rw [h0, Nat.zero_mul, Nat.zero_add, bl_zero, Nat.zero_add]
        refine bl_unique (by omega) ?_ (by omega)
        have : (2 : Nat) ^ (64 - m) = 2 * 2 ^ (64 - m - 1) := by rw [show 64 - m = 64 - m - 1 + 1 by omega, Nat.pow_succ]; simp; omega
        have := two_pos (64 - m - 1)
        omega
      · exact bl_add (by omega) (by omega)
    have hb2 : bl (2 ^ m - 1 - w) ≤ m := bl_le_of_lt (by omega)
    rw [hbl, el]
    rw [mn_min]
    congr 3
    omega
  · have eo : runO m w = false := by unfold runO; simpa using ho
    have h9 : ¬ 9223372036854775808 ≤ w * 2 ^ (64 - m) := fun h => ho (htop.mpr h)
    have el : runL m w = m - bl w := by unfold runL; rw [eo]; rfl
    have hbl := bl_mul_pow (64 - m) hw0
    generalize hu : w * 2 ^ (64 - m) = u at *
    simp only [if_neg (show ¬ ((u : Nat) : Int) / 9223372036854775808 = 1 by omega), show (((u : Nat) : Int) / 9223372036854775808 == 1) = false by rw [beq_eq_false_iff_ne]; omega, Lead0_eq hlt, Option.bind_some, eo]
    refine evn ?_
    rw [hbl, el]
    rw [mn_min]
    congr 3
    omega
theorem shape_Kind_eq {n x : Nat} (h : isW (n : Int) = true) (hx : x < 18446744073709551616) : shape_Kind.f (n : Int) (x : Int) = some (if x % 2 ^ n = 0 then 0 else if x % 2 ^ n = 2 ^ (n - 1) then 2 else 1, none) := by
  obtain ⟨b64, b8⟩ := pow64 h
  have hp : (2 : Nat) ^ (n - 1) < 18446744073709551616 := by rw [← p64]; exact pow_lt (by omega)
  have e1 : wrap64 ((n : Int) - 1) = ((n - 1 : Nat) : Int) := by rw [w64 (by omega) (by omega)]; omega
  have e2 : shl .u64 1 ((n - 1 : Nat) : Int) = ((2 ^ (n - 1) : Nat) : Int) := by
    have := shl_nat 1 (n - 1) (by omega)
    rw [Nat.one_mul, Nat.mod_eq_of_lt hp] at this
    exact this
  unfold shape_Kind.f
  rw [shape_Fold_eq h hx, Option.bind_some]
  simp only [Option.isNone_none, if_true, e1, e2, if_pos (show (0 : Int) ≤ ((n - 1 : Nat) : Int) by omega)]
  generalize x % 2 ^ n = y
  by_cases h0 : y = 0
  · rw [if_pos (by omega), if_pos h0]
  · rw [if_neg (by omega), if_neg h0]
    by_cases h1 : y = 2 ^ (n - 1)
    · rw [if_pos (by omega), if_pos h1]
    · rw [if_neg (by omega), if_neg h1]
theorem rank_shift {z k : Nat} (n : Nat) (hn : n + k = 64) (h1 : 1 ≤ n) (hz : z < 2 ^ n) : wrap64 ((z * 2 ^ k : Nat) : Int) / 2 ^ k = rkN n z := by
  have hp := two_pos k
  have e : (2 : Nat) ^ n * 2 ^ k = 18446744073709551616 := by rw [← Nat.pow_add, hn, p64]
  have e1 : (2 : Nat) ^ (n - 1) * 2 ^ k = 9223372036854775808 := by rw [← Nat.pow_add, ← p63]; exact pow_congr (by omega)
  have hlt : z * 2 ^ k < 18446744073709551616 := by rw [← e]; exact Nat.mul_lt_mul_of_pos_right hz hp
  rw [pow_cast]
  unfold rkN
  by_cases h : 2 ^ (n - 1) ≤ z
  · have h9 : 9223372036854775808 ≤ z * 2 ^ k := by rw [← e1]; exact Nat.mul_le_mul_right _ h
    rw [if_pos h]
    have w : wrap64 ((z * 2 ^ k : Nat) : Int) = ((z : Int) - ((2 ^ n : Nat) : Int)) * ((2 ^ k : Nat) : Int) := by
      have : ((z : Int) - ((2 ^ n : Nat) : Int)) * ((2 ^ k : Nat) : Int) = ((z * 2 ^ k : Nat) : Int) - ((2 ^ n * 2 ^ k : Nat) : Int) := by
        rw [Int.sub_mul, Int.natCast_mul, Int.natCast_mul]
      rw [this, e]
      generalize z * 2 ^ k = u at *
      unfold wrap64; omega
    rw [w]
    exact Int.mul_ediv_cancel _ (by generalize 2 ^ k = q at *; omega)
  · have h9 : z * 2 ^ k < 9223372036854775808 := by rw [← e1]; exact Nat.mul_lt_mul_of_pos_right (by omega) hp
    rw [if_neg h, w64 (by omega) (by omega), Int.natCast_mul]
    exact Int.mul_ediv_cancel _ (by generalize 2 ^ k = q at *; omega)
theorem lead_Extend_eq {n x : Nat} (h1 : 1 ≤ n) (hn : n ≤ 64) (hx : x < 18446744073709551616) : lead_Extend.f (x : Int) (n : Int) = some (rkN n (x % 2 ^ n), none) := by
  unfold lead_Extend.f
  have e1 : wrap64 (64 - (n : Int)) = ((64 - n : Nat) : Int) := by rw [w64 (by omega) (by omega)]; omega
  have hs : (2 : Nat) ^ n * 2 ^ (64 - n) = 18446744073709551616 := by rw [pow_split (by omega), p64]
  have e2 : shl .u64 (x : Int) ((64 - n : Nat) : Int) = ((x % 2 ^ n * 2 ^ (64 - n) : Nat) : Int) := by
    rw [shl_nat x _ (by omega), ← hs, Nat.mul_mod_mul_right]
  rw [if_neg (by omega), if_neg (by omega), e1, if_pos (by omega), e2]
  have e3 : ∀ y : Int, shr .i64 y ((64 - n : Nat) : Int) = y / 2 ^ (64 - n) := fun y => by
    unfold shr
    rw [Int.toNat_natCast, Nat.min_eq_left (by simp [IntKind.bits])]
  rw [e3, rank_shift n (by omega) h1 (Nat.mod_lt _ (two_pos n))]
theorem shape_Rank_eq {n x : Nat} (h : isW (n : Int) = true) (hx : x < 18446744073709551616) : shape_Rank.f (n : Int) (x : Int) = some (rkN n (x % 2 ^ n), none) := by
  obtain ⟨b64, b8⟩ := pow64 h
  unfold shape_Rank.f
  rw [shape_is_eq, Option.bind_some, if_pos h, lead_Extend_eq (by omega) b64 hx]; rfl
def magN (n x : Nat) : Nat := if 2 ^ (n - 1) < x then 2 ^ n - x else x
theorem two_halves {n : Nat} (h : 1 ≤ n) : (2 : Nat) ^ n = 2 * 2 ^ (n - 1) := by
  rw [show n = n - 1 + 1 by omega, Nat.pow_succ]; simp; omega
theorem magN_bounds {n x : Nat} (h1 : 1 ≤ n) (hx : x < 2 ^ n) (h0 : x ≠ 0) (h2 : x ≠ 2 ^ (n - 1)) : 0 < magN n x ∧ magN n x < 2 ^ (n - 1) := by
  have e := two_halves h1
  unfold magN
  split <;> omega
theorem neg_mod {n p : Nat} (h1 : 1 ≤ n) (hn : n ≤ 64) (hp : p < 18446744073709551616) (h2 : 2 ^ (n - 1) < p % 2 ^ n) : (18446744073709551616 - p) % 18446744073709551616 % 2 ^ (n - 1) = 2 ^ n - p % 2 ^ n := by
  have e := two_halves h1
  have s : (18446744073709551616 : Nat) = 2 ^ n * 2 ^ (64 - n) := by rw [pow_split hn, p64]
  have hl := Nat.mod_lt p (two_pos n)
  have hd := Nat.div_add_mod p (2 ^ n)
  have hq : p / 2 ^ n < 2 ^ (64 - n) := by rw [Nat.div_lt_iff_lt_mul (two_pos n), Nat.mul_comm, ← s]; exact hp
  have hpp : 0 < p := by
    rcases Nat.eq_zero_or_pos p with h | h
    · rw [h, Nat.zero_mod] at h2; omega
    · exact h
  rw [Nat.mod_eq_of_lt (show 18446744073709551616 - p < 18446744073709551616 by omega)]
  generalize p % 2 ^ n = y at *
  generalize p / 2 ^ n = q at *
  obtain ⟨c, hc⟩ : ∃ c, 2 ^ (64 - n) = q + c + 1 := ⟨2 ^ (64 - n) - q - 1, by omega⟩
  have e2 : 18446744073709551616 - p = (2 ^ n - y) + 2 ^ (n - 1) * (2 * c) := by
    have : 2 ^ n * (q + c + 1) = 2 ^ n * q + 2 ^ (n - 1) * (2 * c) + 2 ^ n := by rw [e]; grind
    rw [s, hc, this, ← hd]
    omega
  rw [e2, Nat.add_mul_mod_self_left, Nat.mod_eq_of_lt (by omega)]
def splE (ng : Bool) (m w : Nat) : Bool × Bool × Int × Int × Int × Int × Int × Int × Option Int :=
  (ng, runO m w, ((runL m w : Nat) : Int), decK m w, ((dEb m w : Nat) : Int), ((decEx m w : Nat) : Int), ((dLf m w : Nat) : Int), ((w % 2 ^ dLf m w : Nat) : Int), none)
theorem Split_j1 {n x w : Nat} {ng : Bool} (h : isW (n : Int) = true) (hx : x < 18446744073709551616) (hw : x % 2 ^ (n - 1) = w) (hw0 : 0 < w) :
    Ev (fun k => codec_Split.j1 k (n : Int) (x : Int) ng false 0 0 0 0 0 0) (splE ng (n - 1) w) := by
  obtain ⟨b64, b8⟩ := pow64 h
  have hwl : w < 2 ^ (n - 1) := by rw [← hw]; exact Nat.mod_lt _ (two_pos (n - 1))
  obtain ⟨m, rfl⟩ : ∃ m, n = m + 1 := ⟨n - 1, by omega⟩
  rw [Nat.add_sub_cancel] at *
  obtain ⟨_, _, _, r1, r2⟩ := dec_sig (m := m) (w := w) (by omega) (by omega) hw0 hwl
  have em : wrap64 (((m + 1 : Nat) : Int) - 1) = (m : Int) := by rw [w64 (by omega) (by omega)]; omega
  have hd1 : dL1 m w ≤ m := by unfold dL1; omega
  have hd2 : dEb m w ≤ dL1 m w := by unfold dEb; omega
  have hd3 : dEb m w ≤ 2 := by unfold dEb; omega
  have hlf : dLf m w + dEb m w ≤ 64 := by unfold dLf; omega
  have hlf0 : dLf m w ≤ 64 := by omega
  have hlm : dLf m w + dEb m w ≤ m := by unfold dLf; omega
  have hlm2 : dLf m w ≤ m := by omega
  have el1 : mx (wrap64 (wrap64 ((m : Int) - ((runL m w : Nat) : Int)) - 1)) 0 = ((dL1 m w : Nat) : Int) := by
    clear em
    rw [w64 (n := (m : Int) - ((runL m w : Nat) : Int)) (by omega) (by omega), w64 (by omega) (by omega), mx_zero]
    unfold dL1; congr 1; omega
  have eeb : mn ((dL1 m w : Nat) : Int) 2 = ((dEb m w : Nat) : Int) := by
    have := mn_min (dL1 m w) 2
    exact this
  have elf : wrap64 (((dL1 m w : Nat) : Int) - ((dEb m w : Nat) : Int)) = ((dLf m w : Nat) : Int) := by
    clear em el1 eeb
    rw [w64 (by omega) (by omega)]; unfold dLf; omega
  have f1 := lead_Field_eq (x := x) (a := dLf m w) (n := dEb m w) hx hlf
  have f2 : lead_Field.f (x : Int) 0 ((dLf m w : Nat) : Int) = _ := lead_Field_eq (x := x) (a := 0) (n := dLf m w) hx (by rw [Nat.zero_add]; exact hlf0)
  have g1 : x / 2 ^ dLf m w % 2 ^ dEb m w = w / 2 ^ dLf m w % 2 ^ dEb m w := by
    rw [← Nat.mod_mul_right_div_self x, ← Nat.mod_mul_right_div_self w, ← Nat.pow_add, ← hw, mod_pow_le (by rw [hw]; exact hlm), hw]
  have g2 : x / 2 ^ 0 % 2 ^ dLf m w = w % 2 ^ dLf m w := by
    rw [Nat.pow_zero, Nat.div_one, ← mod_pow_le (a := x) hlm2, hw]
  rw [g1] at f1
  rw [g2] at f2
  have hex : shl .i64 (wrap64 ((w / 2 ^ dLf m w % 2 ^ dEb m w : Nat) : Int)) (2 - ((dEb m w : Nat) : Int)) = ((decEx m w : Nat) : Int) := by
    clear em el1 eeb elf f1 f2 g1 g2
    have hl := Nat.mod_lt (w / 2 ^ dLf m w) (two_pos (dEb m w))
    have hl2 : (2 : Nat) ^ dEb m w ≤ 2 ^ 2 := pow_le hd3
    have hx4 := decEx_lt (m := m) (w := w)
    unfold decEx at *
    have e3 : (2 : Int) - ((dEb m w : Nat) : Int) = ((2 - dEb m w : Nat) : Int) := by omega
    rw [e3]
    generalize w / 2 ^ dLf m w % 2 ^ dEb m w = u at *
    rw [w64 (by omega) (by omega)]
    unfold shl
    rw [Int.toNat_natCast, Nat.min_eq_left (by simp [IntKind.bits]; omega), pow_cast, ← Int.natCast_mul]
    generalize u * 2 ^ (2 - dEb m w) = v at *
    simp [IntKind.wrap, IntKind.bits, IntKind.signed]
    omega
  have er1 : runO m w = true → wrap64 (((runL m w : Nat) : Int) - 1) = decK m w := fun ho => by
    clear em el1 eeb elf f1 f2 g1 g2 hex
    unfold decK; rw [if_pos ho, w64 (by omega) (by omega)]
  have er2 : runO m w = false → wrap64 (-((runL m w : Nat) : Int)) = decK m w := fun ho => by
    clear em el1 eeb elf f1 f2 g1 g2 hex
    unfold decK; rw [ho, w64 (by omega) (by omega)]; rfl
  refine evs ?_
  simp only [codec_Split.j1, em]
  have hm1 : 1 ≤ m := by clear em el1 eeb elf f1 f2 g1 g2 hex er1 er2; omega
  have hm2 : m ≤ 63 := by clear em el1 eeb elf f1 f2 g1 g2 hex er1 er2; omega
  refine Ev.bind (lead_Run_eq hm1 hm2 hx hw hw0) ?_
  refine evn ?_
  simp only [el1, eeb, elf, f1, f2, Option.bind_some, hex]
  unfold splE
  cases ho : runO m w
  · simp [er2 ho]
  · simp [er1 ho]
theorem Split_real {n p : Nat} (h : isW (n : Int) = true) (hp : p < 18446744073709551616) (h0 : p % 2 ^ n ≠ 0) (h1 : p % 2 ^ n ≠ 2 ^ (n - 1)) :
    Ev (fun k => codec_Split.f k (n : Int) (p : Int)) (splE (decide (2 ^ (n - 1) < p % 2 ^ n)) (n - 1) (magN n (p % 2 ^ n))) := by
  obtain ⟨b64, b8⟩ := pow64 h
  have hm := magN_bounds (n := n) (by omega) (Nat.mod_lt p (two_pos n)) h0 h1
  have hl := Nat.mod_lt p (two_pos n)
  have e := two_halves (n := n) (by omega)
  unfold codec_Split.f
  simp only [shape_Kind_eq h hp, if_neg h0, if_neg h1, Option.bind_some, Option.isNone_none, if_true]
  refine evs ?_
  simp only [codec_Split.j0, show ((1 : Int) != 1) = false from rfl, Bool.false_eq_true, if_false, shape_Rank_eq h hp, Option.bind_some]
  by_cases hs : 2 ^ (n - 1) < p % 2 ^ n
  · have hr : rkN n (p % 2 ^ n) < 0 := by unfold rkN; rw [if_pos (by omega)]; omega
    simp only [if_pos hr, neg_wrap hp, decide_eq_true hs]
    refine Split_j1 h (Nat.mod_lt _ (by decide)) ?_ hm.1
    rw [neg_mod (by omega) b64 hp hs]
    unfold magN; rw [if_pos hs]
  · have hr : ¬ rkN n (p % 2 ^ n) < 0 := by unfold rkN; rw [if_neg (by omega)]; omega
    simp only [if_neg hr, decide_eq_false hs]
    refine Split_j1 h hp ?_ hm.1
    have : magN n (p % 2 ^ n) = p % 2 ^ n := by unfold magN; rw [if_neg hs]
    rw [this, ← mod_pow_le (a := p) (show n - 1 ≤ n by omega), Nat.mod_eq_of_lt (by omega)]
def decE (n x : Nat) : Int × Bool × Int × Int × Option Int :=
  if x = 0 then (0, false, 0, 0, none) else if x = 2 ^ (n - 1) then (2, false, 0, 0, none)
  else (1, decide (2 ^ (n - 1) < x), decS (n - 1) (magN n x), ((decFr (n - 1) (magN n x) : Nat) : Int), none)
theorem Decode_eq {n p : Nat} (h : isW (n : Int) = true) (hp : p < 18446744073709551616) : Ev (fun k => codec_Decode.f k (n : Int) (p : Int)) (decE n (p % 2 ^ n)) := by
  obtain ⟨b64, b8⟩ := pow64 h
  unfold codec_Decode.f decE
  simp only [shape_Kind_eq h hp, Option.bind_some, Option.isNone_none, if_true]
  by_cases h0 : p % 2 ^ n = 0
  · simp only [if_pos h0]
    exact Ev.now _
  · simp only [if_neg h0]
    by_cases h1 : p % 2 ^ n = 2 ^ (n - 1)
    · simp only [if_pos h1]
      exact Ev.now _
    · simp only [if_neg h1, if_true]
      refine Ev.bind (Split_real h hp h0 h1) ?_
      have hm := magN_bounds (n := n) (by omega) (Nat.mod_lt p (two_pos n)) h0 h1
      generalize hg : magN n (p % 2 ^ n) = w at *
      obtain ⟨m, rfl⟩ : ∃ m, n = m + 1 := ⟨n - 1, by omega⟩
      rw [Nat.add_sub_cancel] at *
      obtain ⟨_, s1, s2, r1, r2⟩ := dec_sig (m := m) (w := w) (by omega) (by omega) hm.1 hm.2
      have hx4 := decEx_lt (m := m) (w := w)
      have hlf : dLf m w ≤ 63 := by unfold dLf dL1; omega
      have hfr := decFr_range hlf
      have ew : wrap64 (63 - ((dLf m w : Nat) : Int)) = ((63 - dLf m w : Nat) : Int) := by rw [w64 (by omega) (by omega)]; omega
      have es : wrap64 (wrap64 (4 * decK m w) + ((decEx m w : Nat) : Int)) = decS m w := by
        clear ew
        unfold decS at *
        rw [w64 (n := 4 * decK m w) (by omega) (by omega), w64 (by omega) (by omega)]
      have ef : Go.bits .or .u64 9223372036854775808 (shl .u64 ((w % 2 ^ dLf m w : Nat) : Int) ((63 - dLf m w : Nat) : Int)) = ((decFr m w : Nat) : Int) := by
        clear ew es
        have hl := Nat.mod_lt w (two_pos (dLf m w))
        have hb : w % 2 ^ dLf m w * 2 ^ (63 - dLf m w) < 2 ^ 63 := by
          have h2 : 2 ^ dLf m w * 2 ^ (63 - dLf m w) = 2 ^ 63 := pow_split hlf
          rw [← h2]; exact Nat.mul_lt_mul_of_pos_right hl (two_pos _)
        have hb' := hb
        rw [p63] at hb'
        rw [shl_nat _ _ (by omega), Nat.mod_eq_of_lt (by omega)]
        have := or_add 9223372036854775808 (w % 2 ^ dLf m w * 2 ^ (63 - dLf m w)) 63 (by decide) (by decide) hb (by omega)
        unfold decFr
        rw [p63]
        exact this
      refine evn ?_
      unfold splE
      simp only [ew, es, ef, if_pos (show (0 : Int) ≤ ((63 - dLf m w : Nat) : Int) by clear ew es ef; omega)]
end Go.Proofs.Ytfegofnplcmacaa.V
