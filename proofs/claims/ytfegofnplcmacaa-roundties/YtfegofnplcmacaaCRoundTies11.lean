-- Written by a program of this session out of its own texts (wip/tools/link.py).
import Derived.ArgAppend
import Derived.Below
import Derived.BigQuiet
import Derived.Deep.AppendLies
import Derived.Deep.CutBlock
import Derived.Deep.DeepCutAuto
import Derived.Deep.Draws
import Derived.Deep.LoopGhost
import Derived.Deep.OwnRows
import Derived.Deep.QuietTactic
import Derived.Deep.RegionHeld3
import Derived.KernelRfl
import Derived.LaidEql
import Derived.Laws.BitsLemmas
import Derived.Laws.BytesArg
import Derived.Laws.IdiomCopy
import Derived.Laws.MakeOwn
import Derived.Laws.OwnMore
import Derived.Laws.Rows
import Derived.Laws.Slices
import Derived.Laws.StructEq
import Derived.Lib.AppendStr
import Derived.Lib.BitFns
import Derived.Lib.ConvBytes
import Derived.Lib.Slices
import Derived.Lib.Small
import Derived.Lib.Strings
import Derived.Lib.Walk
import Derived.Maps.AppendAt
import Derived.OrdersHeld
import Derived.OwnWalk
import Derived.RowKit
import Derived.RowKit3
import Derived.Tactics
import Derived.Test.YtfegofnplcmacaaProg
import Derived.WalkKit
import Derived.WideLaws
import Derived.Test.YtfegofnplcmacaaCRoundTies9
import Derived.Test.YtfegofnplcmacaaCRoundTies10
namespace Go.Proofs.Ytfegofnplcmacaa.PAll
open Go.RowKit Go.Proofs.YtfegofnplcmacaaW.PrintWords Go.Proofs.YtfegofnplcmacaaW.PrintLast Go.Proofs.YtfegofnplcmacaaW.PrintMore
attribute [local go_sem] max2_int min2_int max_two min_two max_three min_three max_four min_four
set_option linter.unusedVariables false
set_option linter.unusedSimpArgs false
def round_Of.f (k : Nat) (a0_0 : Int) (a0_1 : Bool) (a0_2 : Int) (a0_3 : Int) : Option (Int × Bool × Int × Int × Int × Bool × Option Int) := (round_sound.f k a0_0 a0_1 a0_2 a0_3 0 false).bind fun t290 => (if t290 = true then (if a0_2 < (-1073741824) then (some (0, false, 0, 0, 0, false, some 1)) else (if a0_2 > 1073741824 then (some (0, false, 0, 0, 0, false, some 1)) else (some (a0_0, a0_1, a0_2, a0_3, 0, false, none)))) else (some (0, false, 0, 0, 0, false, some 1)))
theorem round_Of.mono : ∀ a0 a1 a2 a3 k, LeO (round_Of.f k a0 a1 a2 a3) (round_Of.f (k + 1) a0 a1 a2 a3) := by
 intro a0 a1 a2 a3 k
 unfold round_Of.f
 repeat' first
   | (with_reducible exact round_sound.mono _ _ _ _ _ _ _)
   | (with_reducible exact LeO.refl _)
   | (with_reducible exact LeO.none _)
   | (with_reducible refine LeO.ite ?_ ?_)
   | (with_reducible refine LeO.bind ?_ (fun _ => ?_))
   | exact round_sound.mono _ _ _ _ _ _ _
   | exact LeO.none _
   | refine LeO.ite ?_ ?_
   | refine LeO.bind ?_ (fun _ => ?_)
set_option maxHeartbeats 8000000 in
set_option maxRecDepth 100000 in
theorem round_Of.calls (k : Nat) (a0_0 : Int) (a0_1 : Bool) (a0_2 : Int) (a0_3 : Int) (r1 : Int) (r2 : Bool) (r3 : Int) (r4 : Int) (r5 : Int) (r6 : Bool) (r7 : Option Int) (w : World) (h : round_Of.f k a0_0 a0_1 a0_2 a0_3 = some (r1, r2, r3, r4, r5, r6, r7)) :
  Calls Try.prog 20 #[.agg #[.int .i64 a0_0, .bool a0_1, .int .i64 a0_2, .int .u64 a0_3]] w fun e w' => e = .returned (.tuple #[.agg #[.int .i64 r1, .bool r2, .int .i64 r3, .int .u64 r4, .int .u64 r5, .bool r6], errW r7]) ∧ Below w.heap.size w w' := by
 have hu44 := Try.underlying44
 have hu24 := Try.underlying24
 have hu27 := Try.underlying27
 have hu55 := Try.underlying55
 have HB := Aside0.mk (Below.refl w.heap.size w)
 have H : ((round_sound.f k a0_0 a0_1 a0_2 a0_3 0 false).bind fun t290 => (if t290 = true then (if a0_2 < (-1073741824) then (some (0, false, 0, 0, 0, false, some 1)) else (if a0_2 > 1073741824 then (some (0, false, 0, 0, 0, false, some 1)) else (some (a0_0, a0_1, a0_2, a0_3, 0, false, none)))) else (some (0, false, 0, 0, 0, false, some 1)))) = some (r1, r2, r3, r4, r5, r6, r7) := h
 clear h
 replace H := Option.bind_eq_some_iff.mp H
 obtain ⟨t290, A20, H⟩ := H
 replace H : (if t290 = true then (if a0_2 < (-1073741824) then (some (0, false, 0, 0, 0, false, some 1)) else (if a0_2 > 1073741824 then (some (0, false, 0, 0, 0, false, some 1)) else (some (a0_0, a0_1, a0_2, a0_3, 0, false, none)))) else (some (0, false, 0, 0, 0, false, some 1))) = some (r1, r2, r3, r4, r5, r6, r7) := H
 have A2 := Aside0.mk A20
 clear A20
 by_cases c3 : t290 = true
 ·subst c3
  have H1 : (if a0_2 < (-1073741824) then (some (0, false, 0, 0, 0, false, some 1)) else (if a0_2 > 1073741824 then (some (0, false, 0, 0, 0, false, some 1)) else (some (a0_0, a0_1, a0_2, a0_3, 0, false, none)))) = some (r1, r2, r3, r4, r5, r6, r7) := by rw [if_pos rfl] at H; exact H
  clear H
  have H := H1
  clear H1
  by_cases c4 : a0_2 < (-1073741824)
  ·rw [if_pos c4] at H
   have c4b0 : decide (a0_2 < (-1073741824)) = true := decide_eq_true c4
   clear c4
   simp only [Option.some.injEq, Prod.mk.injEq] at H
   obtain ⟨rfl, rfl, rfl, rfl, rfl, rfl, rfl⟩ := H
   go_enter Try.func20, Try.ntmps20
   go_wp2_with (first | ((with_reducible refine gate_dst (N := 1) rfl ?_); refine box_event ?hg (N := 1) ?hd (cs := #[.int .i64 a0_0, .bool a0_1, .int .i64 a0_2, .int .u64 a0_3]) (t := 44) ?hr ?_; (case hd => rfl); (case hg => rfl); (case hr => first | (go_simp; done) | (go_simp; rfl)); intro gb287 hg w5 hbox hb; have n0_ := Aside0.mk (below_step (z3_ HB.out) hb); have n1_ := Aside0.mk (hbox); have n2_ := Aside0.mk ((by rw [hg]; exact (below_size (z3_ HB.out)) : w.heap.size ≤ gb287)); have n3_ := Aside0.mk ((by rw [hg]; exact (below_size (z3_ HB.out)) : w.heap.size ≤ gb287)); clear HB; have HB := n0_; have BK287 := n1_; have GW287 := n2_; have GE287 := n3_; clear n0_ n1_ n2_ n3_; clear hb hbox hg) | ((with_reducible refine gate_dst (N := 2) rfl ?_); refine box_event ?hg (N := 2) ?hd (cs := #[.int .i64 0, .bool false, .int .i64 0, .int .u64 0, .int .u64 0, .bool false]) (t := 24) ?hr ?_; (case hd => rfl); (case hg => rfl); (case hr => first | (go_simp; done) | (go_simp; rfl)); intro gb288 hg w6 hbox hb; have n0_ := Aside0.mk (blk_below (g := gb287) (z1_ BK287.out) hb); have n1_ := Aside0.mk (below_step (z3_ HB.out) hb); have n2_ := Aside0.mk (hbox); have n3_ := Aside0.mk ((by rw [hg]; exact (below_size (z3_ HB.out)) : w.heap.size ≤ gb288)); have n4_ := Aside0.mk ((by rw [hg]; exact (below_size (z3_ HB.out)) : w.heap.size ≤ gb288)); have n5_ := Aside0.mk ((by rw [hg]; exact Nat.ne_of_lt (blk_lt (g := gb287) (o := .cells #[.int .i64 a0_0, .bool a0_1, .int .i64 a0_2, .int .u64 a0_3] 44 (0, 0)) (z1_ BK287.out)) : gb287 ≠ gb288)); have n6_ := Aside0.mk ((by rw [hg]; exact Nat.ne_of_gt (blk_lt (g := gb287) (o := .cells #[.int .i64 a0_0, .bool a0_1, .int .i64 a0_2, .int .u64 a0_3] 44 (0, 0)) (z1_ BK287.out)) : gb288 ≠ gb287)); clear BK287; clear HB; have BK287 := n0_; have HB := n1_; have BK288 := n2_; have GW288 := n3_; have GE288 := n4_; have NB287_288 := n5_; have NB288_287 := n6_; clear n0_ n1_ n2_ n3_ n4_ n5_ n6_; clear hb hbox hg; have hnb7 := NB287_288.out; have hnc7 := NB288_287.out; have hcz8_0 := z4_ BK287.out 0 (.int .i64 a0_0) rfl; have hcz8_1 := z4_ BK287.out 1 (.bool a0_1) rfl; have hcz8_2 := z4_ BK287.out 2 (.int .i64 a0_2) rfl; have hcz8_3 := z4_ BK287.out 3 (.int .u64 a0_3) rfl; have hfz8_0 := blk_frozen BK287.out 0; have hfz8_1 := blk_frozen BK287.out 1; have hfz8_2 := blk_frozen BK287.out 2; have hfz8_3 := blk_frozen BK287.out 3) | ((with_reducible refine gate_dst (N := 4) rfl ?_); refine box_event ?hg (N := 4) ?hd (cs := #[.int .i64 0, .bool false, .int .i64 0, .int .u64 0, .int .u64 0, .bool false]) (t := 24) ?hr ?_; (case hd => rfl); (case hg => rfl); (case hr => first | (go_simp; done) | (go_simp; rfl)); intro gb289 hg w9 hbox hb; have n0_ := Aside0.mk (blk_below (g := gb287) (z1_ BK287.out) hb); have n1_ := Aside0.mk (blk_below (g := gb288) (z1_ BK288.out) hb); have n2_ := Aside0.mk (below_step (z3_ HB.out) hb); have n3_ := Aside0.mk (hbox); have n4_ := Aside0.mk ((by rw [hg]; exact (below_size (z3_ HB.out)) : w.heap.size ≤ gb289)); have n5_ := Aside0.mk ((by rw [hg]; exact (below_size (z3_ HB.out)) : w.heap.size ≤ gb289)); have n6_ := Aside0.mk ((by rw [hg]; exact Nat.ne_of_lt (blk_lt (g := gb287) (o := .cells #[.int .i64 a0_0, .bool a0_1, .int .i64 a0_2, .int .u64 a0_3] 44 (0, 0)) (z1_ BK287.out)) : gb287 ≠ gb289)); have n7_ := Aside0.mk ((by rw [hg]; exact Nat.ne_of_gt (blk_lt (g := gb287) (o := .cells #[.int .i64 a0_0, .bool a0_1, .int .i64 a0_2, .int .u64 a0_3] 44 (0, 0)) (z1_ BK287.out)) : gb289 ≠ gb287)); have n8_ := Aside0.mk ((by rw [hg]; exact Nat.ne_of_lt (blk_lt (g := gb288) (o := .cells #[.int .i64 0, .bool false, .int .i64 0, .int .u64 0, .int .u64 0, .bool false] 24 (0, 0)) (z1_ BK288.out)) : gb288 ≠ gb289)); have n9_ := Aside0.mk ((by rw [hg]; exact Nat.ne_of_gt (blk_lt (g := gb288) (o := .cells #[.int .i64 0, .bool false, .int .i64 0, .int .u64 0, .int .u64 0, .bool false] 24 (0, 0)) (z1_ BK288.out)) : gb289 ≠ gb288)); clear BK287; clear BK288; clear HB; have BK287 := n0_; have BK288 := n1_; have HB := n2_; have BK289 := n3_; have GW289 := n4_; have GE289 := n5_; have NB287_289 := n6_; have NB289_287 := n7_; have NB288_289 := n8_; have NB289_288 := n9_; clear n0_ n1_ n2_ n3_ n4_ n5_ n6_ n7_ n8_ n9_; clear hb hbox hg; have hnb10 := NB289_287.out; have hnc10 := NB287_289.out; have hnb11 := NB289_288.out; have hnc11 := NB288_289.out; have hcz12_0 := z4_ BK289.out 0 (.int .i64 0) rfl; have hcz12_1 := z4_ BK289.out 1 (.bool false) rfl; have hcz12_2 := z4_ BK289.out 2 (.int .i64 0) rfl; have hcz12_3 := z4_ BK289.out 3 (.int .u64 0) rfl; have hcz12_4 := z4_ BK289.out 4 (.int .u64 0) rfl; have hcz12_5 := z4_ BK289.out 5 (.bool false) rfl; have hfz12_0 := blk_frozen BK289.out 0; have hfz12_1 := blk_frozen BK289.out 1; have hfz12_2 := blk_frozen BK289.out 2; have hfz12_3 := blk_frozen BK289.out 3; have hfz12_4 := blk_frozen BK289.out 4; have hfz12_5 := blk_frozen BK289.out 5) | ((with_reducible refine gate_callee (f := 28) rfl ?_); refine goesL_ (some 15) rfl rfl Try.func28 (by kernel_rfl) rfl #[.agg #[.int .i64 a0_0, .bool a0_1, .int .i64 a0_2, .int .u64 a0_3, .int .u64 0, .bool false]] rfl z5_ ?_; (with_reducible refine (round_sound.calls k a0_0 a0_1 a0_2 a0_3 0 false true _ A2.out).mono ?_); rintro e w13 ⟨rfl, hb⟩; refine ⟨_, rfl, ?_⟩; have n0_ := Aside0.mk (blk_below (g := gb287) (o := .cells #[.int .i64 a0_0, .bool a0_1, .int .i64 a0_2, .int .u64 a0_3] 44 (0, 0)) (by refine z2_ ?_; refine blk_far ?_ NB287_289.out _; refine z2_ ?_; refine blk_far ?_ NB287_289.out _; refine z2_ ?_; refine blk_far ?_ NB287_289.out _; refine z2_ ?_; refine blk_far ?_ NB287_289.out _; refine z2_ ?_; refine blk_far ?_ NB287_289.out _; refine z2_ ?_; refine blk_far ?_ NB287_289.out _; refine z2_ ?_; exact BK287.out) hb); have n1_ := Aside0.mk (blk_below (g := gb288) (o := .cells #[.int .i64 0, .bool false, .int .i64 0, .int .u64 0, .int .u64 0, .bool false] 24 (0, 0)) (by refine z2_ ?_; refine blk_far ?_ NB288_289.out _; refine z2_ ?_; refine blk_far ?_ NB288_289.out _; refine z2_ ?_; refine blk_far ?_ NB288_289.out _; refine z2_ ?_; refine blk_far ?_ NB288_289.out _; refine z2_ ?_; refine blk_far ?_ NB288_289.out _; refine z2_ ?_; refine blk_far ?_ NB288_289.out _; refine z2_ ?_; exact BK288.out) hb); have n2_ := Aside0.mk (blk_below (g := gb289) (o := .cells #[.int .i64 a0_0, .bool a0_1, .int .i64 a0_2, .int .u64 a0_3, .int .u64 0, .bool false] 24 (0, 0)) (by refine z2_ ?_; refine blk_put (cs := #[.int .i64 a0_0, .bool a0_1, .int .i64 a0_2, .int .u64 a0_3, .int .u64 0, .bool false]) ?_ 5 _ rfl; refine z2_ ?_; refine blk_put (cs := #[.int .i64 a0_0, .bool a0_1, .int .i64 a0_2, .int .u64 a0_3, .int .u64 0, .bool false]) ?_ 4 _ rfl; refine z2_ ?_; refine blk_put (cs := #[.int .i64 a0_0, .bool a0_1, .int .i64 a0_2, .int .u64 0, .int .u64 0, .bool false]) ?_ 3 _ rfl; refine z2_ ?_; refine blk_put (cs := #[.int .i64 a0_0, .bool a0_1, .int .i64 0, .int .u64 0, .int .u64 0, .bool false]) ?_ 2 _ rfl; refine z2_ ?_; refine blk_put (cs := #[.int .i64 a0_0, .bool false, .int .i64 0, .int .u64 0, .int .u64 0, .bool false]) ?_ 1 _ rfl; refine z2_ ?_; refine blk_put (cs := #[.int .i64 0, .bool false, .int .i64 0, .int .u64 0, .int .u64 0, .bool false]) ?_ 0 _ rfl; refine z2_ ?_; exact BK289.out) hb); have n3_ := Aside0.mk (below_step (z3_ HB.out) hb); clear BK287; clear BK288; clear BK289; clear HB; have BK287 := n0_; have BK288 := n1_; have BK289 := n2_; have HB := n3_; clear n0_ n1_ n2_ n3_; (try clear hb); (try clear hb2); (try clear hk); (try clear hi); have hcz14_0 := z4_ BK287.out 0 (.int .i64 a0_0) rfl; have hcz14_1 := z4_ BK287.out 1 (.bool a0_1) rfl; have hcz14_2 := z4_ BK287.out 2 (.int .i64 a0_2) rfl; have hcz14_3 := z4_ BK287.out 3 (.int .u64 a0_3) rfl; have hfz14_0 := blk_frozen BK287.out 0; have hfz14_1 := blk_frozen BK287.out 1; have hfz14_2 := blk_frozen BK287.out 2; have hfz14_3 := blk_frozen BK287.out 3; have hcz15_0 := z4_ BK288.out 0 (.int .i64 0) rfl; have hcz15_1 := z4_ BK288.out 1 (.bool false) rfl; have hcz15_2 := z4_ BK288.out 2 (.int .i64 0) rfl; have hcz15_3 := z4_ BK288.out 3 (.int .u64 0) rfl; have hcz15_4 := z4_ BK288.out 4 (.int .u64 0) rfl; have hcz15_5 := z4_ BK288.out 5 (.bool false) rfl; have hfz15_0 := blk_frozen BK288.out 0; have hfz15_1 := blk_frozen BK288.out 1; have hfz15_2 := blk_frozen BK288.out 2; have hfz15_3 := blk_frozen BK288.out 3; have hfz15_4 := blk_frozen BK288.out 4; have hfz15_5 := blk_frozen BK288.out 5))
   refine bodyPost_ret (results_ct rfl _ _ gb288 24 #[.int .i64 0, .bool false, .int .i64 0, .int .u64 0, .int .u64 0, .bool false] (0, 0) _ rfl (by refine z2_ ?_; refine blk_put (cs := #[.int .i64 0, .bool false, .int .i64 0, .int .u64 0, .int .u64 0, .bool false]) ?_ 5 _ rfl; refine z2_ ?_; refine blk_put (cs := #[.int .i64 0, .bool false, .int .i64 0, .int .u64 0, .int .u64 0, .bool false]) ?_ 4 _ rfl; refine z2_ ?_; refine blk_put (cs := #[.int .i64 0, .bool false, .int .i64 0, .int .u64 0, .int .u64 0, .bool false]) ?_ 3 _ rfl; refine z2_ ?_; refine blk_put (cs := #[.int .i64 0, .bool false, .int .i64 0, .int .u64 0, .int .u64 0, .bool false]) ?_ 2 _ rfl; refine z2_ ?_; refine blk_put (cs := #[.int .i64 0, .bool false, .int .i64 0, .int .u64 0, .int .u64 0, .bool false]) ?_ 1 _ rfl; refine z2_ ?_; refine blk_put (cs := #[.int .i64 0, .bool false, .int .i64 0, .int .u64 0, .int .u64 0, .bool false]) ?_ 0 _ rfl; refine z2_ ?_; exact BK288.out) Try.underlying24 rfl (by kernel_rfl)) rfl ?_
   exact ⟨by first | rfl | (simp [errW_none, errW_some] <;> rfl) | (simp [*, errW_none, errW_some] <;> rfl), by repeat (first | (with_reducible first | exact HB.out | apply below_alloc | apply pw_below_drewN | apply below_drew1 | refine below_set ?_ GE287.out | refine below_set ?_ GE288.out | refine below_set ?_ GE289.out) | exact HB.out)⟩
  ·rw [if_neg c4] at H
   have c4b0 : decide (a0_2 < (-1073741824)) = false := decide_eq_false c4
   clear c4
   by_cases c16 : a0_2 > 1073741824
   ·rw [if_pos c16] at H
    have c16b0 : decide (1073741824 < a0_2) = true := decide_eq_true c16
    clear c16
    simp only [Option.some.injEq, Prod.mk.injEq] at H
    obtain ⟨rfl, rfl, rfl, rfl, rfl, rfl, rfl⟩ := H
    go_enter Try.func20, Try.ntmps20
    go_wp2_with (first | ((with_reducible refine gate_dst (N := 1) rfl ?_); refine box_event ?hg (N := 1) ?hd (cs := #[.int .i64 a0_0, .bool a0_1, .int .i64 a0_2, .int .u64 a0_3]) (t := 44) ?hr ?_; (case hd => rfl); (case hg => rfl); (case hr => first | (go_simp; done) | (go_simp; rfl)); intro gb287 hg w17 hbox hb; have n0_ := Aside0.mk (below_step (z3_ HB.out) hb); have n1_ := Aside0.mk (hbox); have n2_ := Aside0.mk ((by rw [hg]; exact (below_size (z3_ HB.out)) : w.heap.size ≤ gb287)); have n3_ := Aside0.mk ((by rw [hg]; exact (below_size (z3_ HB.out)) : w.heap.size ≤ gb287)); clear HB; have HB := n0_; have BK287 := n1_; have GW287 := n2_; have GE287 := n3_; clear n0_ n1_ n2_ n3_; clear hb hbox hg) | ((with_reducible refine gate_dst (N := 2) rfl ?_); refine box_event ?hg (N := 2) ?hd (cs := #[.int .i64 0, .bool false, .int .i64 0, .int .u64 0, .int .u64 0, .bool false]) (t := 24) ?hr ?_; (case hd => rfl); (case hg => rfl); (case hr => first | (go_simp; done) | (go_simp; rfl)); intro gb288 hg w18 hbox hb; have n0_ := Aside0.mk (blk_below (g := gb287) (z1_ BK287.out) hb); have n1_ := Aside0.mk (below_step (z3_ HB.out) hb); have n2_ := Aside0.mk (hbox); have n3_ := Aside0.mk ((by rw [hg]; exact (below_size (z3_ HB.out)) : w.heap.size ≤ gb288)); have n4_ := Aside0.mk ((by rw [hg]; exact (below_size (z3_ HB.out)) : w.heap.size ≤ gb288)); have n5_ := Aside0.mk ((by rw [hg]; exact Nat.ne_of_lt (blk_lt (g := gb287) (o := .cells #[.int .i64 a0_0, .bool a0_1, .int .i64 a0_2, .int .u64 a0_3] 44 (0, 0)) (z1_ BK287.out)) : gb287 ≠ gb288)); have n6_ := Aside0.mk ((by rw [hg]; exact Nat.ne_of_gt (blk_lt (g := gb287) (o := .cells #[.int .i64 a0_0, .bool a0_1, .int .i64 a0_2, .int .u64 a0_3] 44 (0, 0)) (z1_ BK287.out)) : gb288 ≠ gb287)); clear BK287; clear HB; have BK287 := n0_; have HB := n1_; have BK288 := n2_; have GW288 := n3_; have GE288 := n4_; have NB287_288 := n5_; have NB288_287 := n6_; clear n0_ n1_ n2_ n3_ n4_ n5_ n6_; clear hb hbox hg; have hnb19 := NB287_288.out; have hnc19 := NB288_287.out; have hcz20_0 := z4_ BK287.out 0 (.int .i64 a0_0) rfl; have hcz20_1 := z4_ BK287.out 1 (.bool a0_1) rfl; have hcz20_2 := z4_ BK287.out 2 (.int .i64 a0_2) rfl; have hcz20_3 := z4_ BK287.out 3 (.int .u64 a0_3) rfl; have hfz20_0 := blk_frozen BK287.out 0; have hfz20_1 := blk_frozen BK287.out 1; have hfz20_2 := blk_frozen BK287.out 2; have hfz20_3 := blk_frozen BK287.out 3) | ((with_reducible refine gate_dst (N := 4) rfl ?_); refine box_event ?hg (N := 4) ?hd (cs := #[.int .i64 0, .bool false, .int .i64 0, .int .u64 0, .int .u64 0, .bool false]) (t := 24) ?hr ?_; (case hd => rfl); (case hg => rfl); (case hr => first | (go_simp; done) | (go_simp; rfl)); intro gb289 hg w21 hbox hb; have n0_ := Aside0.mk (blk_below (g := gb287) (z1_ BK287.out) hb); have n1_ := Aside0.mk (blk_below (g := gb288) (z1_ BK288.out) hb); have n2_ := Aside0.mk (below_step (z3_ HB.out) hb); have n3_ := Aside0.mk (hbox); have n4_ := Aside0.mk ((by rw [hg]; exact (below_size (z3_ HB.out)) : w.heap.size ≤ gb289)); have n5_ := Aside0.mk ((by rw [hg]; exact (below_size (z3_ HB.out)) : w.heap.size ≤ gb289)); have n6_ := Aside0.mk ((by rw [hg]; exact Nat.ne_of_lt (blk_lt (g := gb287) (o := .cells #[.int .i64 a0_0, .bool a0_1, .int .i64 a0_2, .int .u64 a0_3] 44 (0, 0)) (z1_ BK287.out)) : gb287 ≠ gb289)); have n7_ := Aside0.mk ((by rw [hg]; exact Nat.ne_of_gt (blk_lt (g := gb287) (o := .cells #[.int .i64 a0_0, .bool a0_1, .int .i64 a0_2, .int .u64 a0_3] 44 (0, 0)) (z1_ BK287.out)) : gb289 ≠ gb287)); have n8_ := Aside0.mk ((by rw [hg]; exact Nat.ne_of_lt (blk_lt (g := gb288) (o := .cells #[.int .i64 0, .bool false, .int .i64 0, .int .u64 0, .int .u64 0, .bool false] 24 (0, 0)) (z1_ BK288.out)) : gb288 ≠ gb289)); have n9_ := Aside0.mk ((by rw [hg]; exact Nat.ne_of_gt (blk_lt (g := gb288) (o := .cells #[.int .i64 0, .bool false, .int .i64 0, .int .u64 0, .int .u64 0, .bool false] 24 (0, 0)) (z1_ BK288.out)) : gb289 ≠ gb288)); clear BK287; clear BK288; clear HB; have BK287 := n0_; have BK288 := n1_; have HB := n2_; have BK289 := n3_; have GW289 := n4_; have GE289 := n5_; have NB287_289 := n6_; have NB289_287 := n7_; have NB288_289 := n8_; have NB289_288 := n9_; clear n0_ n1_ n2_ n3_ n4_ n5_ n6_ n7_ n8_ n9_; clear hb hbox hg; have hnb22 := NB289_287.out; have hnc22 := NB287_289.out; have hnb23 := NB289_288.out; have hnc23 := NB288_289.out; have hcz24_0 := z4_ BK289.out 0 (.int .i64 0) rfl; have hcz24_1 := z4_ BK289.out 1 (.bool false) rfl; have hcz24_2 := z4_ BK289.out 2 (.int .i64 0) rfl; have hcz24_3 := z4_ BK289.out 3 (.int .u64 0) rfl; have hcz24_4 := z4_ BK289.out 4 (.int .u64 0) rfl; have hcz24_5 := z4_ BK289.out 5 (.bool false) rfl; have hfz24_0 := blk_frozen BK289.out 0; have hfz24_1 := blk_frozen BK289.out 1; have hfz24_2 := blk_frozen BK289.out 2; have hfz24_3 := blk_frozen BK289.out 3; have hfz24_4 := blk_frozen BK289.out 4; have hfz24_5 := blk_frozen BK289.out 5) | ((with_reducible refine gate_callee (f := 28) rfl ?_); refine goesL_ (some 15) rfl rfl Try.func28 (by kernel_rfl) rfl #[.agg #[.int .i64 a0_0, .bool a0_1, .int .i64 a0_2, .int .u64 a0_3, .int .u64 0, .bool false]] rfl z5_ ?_; (with_reducible refine (round_sound.calls k a0_0 a0_1 a0_2 a0_3 0 false true _ A2.out).mono ?_); rintro e w25 ⟨rfl, hb⟩; refine ⟨_, rfl, ?_⟩; have n0_ := Aside0.mk (blk_below (g := gb287) (o := .cells #[.int .i64 a0_0, .bool a0_1, .int .i64 a0_2, .int .u64 a0_3] 44 (0, 0)) (by refine z2_ ?_; refine blk_far ?_ NB287_289.out _; refine z2_ ?_; refine blk_far ?_ NB287_289.out _; refine z2_ ?_; refine blk_far ?_ NB287_289.out _; refine z2_ ?_; refine blk_far ?_ NB287_289.out _; refine z2_ ?_; refine blk_far ?_ NB287_289.out _; refine z2_ ?_; refine blk_far ?_ NB287_289.out _; refine z2_ ?_; exact BK287.out) hb); have n1_ := Aside0.mk (blk_below (g := gb288) (o := .cells #[.int .i64 0, .bool false, .int .i64 0, .int .u64 0, .int .u64 0, .bool false] 24 (0, 0)) (by refine z2_ ?_; refine blk_far ?_ NB288_289.out _; refine z2_ ?_; refine blk_far ?_ NB288_289.out _; refine z2_ ?_; refine blk_far ?_ NB288_289.out _; refine z2_ ?_; refine blk_far ?_ NB288_289.out _; refine z2_ ?_; refine blk_far ?_ NB288_289.out _; refine z2_ ?_; refine blk_far ?_ NB288_289.out _; refine z2_ ?_; exact BK288.out) hb); have n2_ := Aside0.mk (blk_below (g := gb289) (o := .cells #[.int .i64 a0_0, .bool a0_1, .int .i64 a0_2, .int .u64 a0_3, .int .u64 0, .bool false] 24 (0, 0)) (by refine z2_ ?_; refine blk_put (cs := #[.int .i64 a0_0, .bool a0_1, .int .i64 a0_2, .int .u64 a0_3, .int .u64 0, .bool false]) ?_ 5 _ rfl; refine z2_ ?_; refine blk_put (cs := #[.int .i64 a0_0, .bool a0_1, .int .i64 a0_2, .int .u64 a0_3, .int .u64 0, .bool false]) ?_ 4 _ rfl; refine z2_ ?_; refine blk_put (cs := #[.int .i64 a0_0, .bool a0_1, .int .i64 a0_2, .int .u64 0, .int .u64 0, .bool false]) ?_ 3 _ rfl; refine z2_ ?_; refine blk_put (cs := #[.int .i64 a0_0, .bool a0_1, .int .i64 0, .int .u64 0, .int .u64 0, .bool false]) ?_ 2 _ rfl; refine z2_ ?_; refine blk_put (cs := #[.int .i64 a0_0, .bool false, .int .i64 0, .int .u64 0, .int .u64 0, .bool false]) ?_ 1 _ rfl; refine z2_ ?_; refine blk_put (cs := #[.int .i64 0, .bool false, .int .i64 0, .int .u64 0, .int .u64 0, .bool false]) ?_ 0 _ rfl; refine z2_ ?_; exact BK289.out) hb); have n3_ := Aside0.mk (below_step (z3_ HB.out) hb); clear BK287; clear BK288; clear BK289; clear HB; have BK287 := n0_; have BK288 := n1_; have BK289 := n2_; have HB := n3_; clear n0_ n1_ n2_ n3_; (try clear hb); (try clear hb2); (try clear hk); (try clear hi); have hcz26_0 := z4_ BK287.out 0 (.int .i64 a0_0) rfl; have hcz26_1 := z4_ BK287.out 1 (.bool a0_1) rfl; have hcz26_2 := z4_ BK287.out 2 (.int .i64 a0_2) rfl; have hcz26_3 := z4_ BK287.out 3 (.int .u64 a0_3) rfl; have hfz26_0 := blk_frozen BK287.out 0; have hfz26_1 := blk_frozen BK287.out 1; have hfz26_2 := blk_frozen BK287.out 2; have hfz26_3 := blk_frozen BK287.out 3; have hcz27_0 := z4_ BK288.out 0 (.int .i64 0) rfl; have hcz27_1 := z4_ BK288.out 1 (.bool false) rfl; have hcz27_2 := z4_ BK288.out 2 (.int .i64 0) rfl; have hcz27_3 := z4_ BK288.out 3 (.int .u64 0) rfl; have hcz27_4 := z4_ BK288.out 4 (.int .u64 0) rfl; have hcz27_5 := z4_ BK288.out 5 (.bool false) rfl; have hfz27_0 := blk_frozen BK288.out 0; have hfz27_1 := blk_frozen BK288.out 1; have hfz27_2 := blk_frozen BK288.out 2; have hfz27_3 := blk_frozen BK288.out 3; have hfz27_4 := blk_frozen BK288.out 4; have hfz27_5 := blk_frozen BK288.out 5))
    refine bodyPost_ret (results_ct rfl _ _ gb288 24 #[.int .i64 0, .bool false, .int .i64 0, .int .u64 0, .int .u64 0, .bool false] (0, 0) _ rfl (by refine z2_ ?_; refine blk_put (cs := #[.int .i64 0, .bool false, .int .i64 0, .int .u64 0, .int .u64 0, .bool false]) ?_ 5 _ rfl; refine z2_ ?_; refine blk_put (cs := #[.int .i64 0, .bool false, .int .i64 0, .int .u64 0, .int .u64 0, .bool false]) ?_ 4 _ rfl; refine z2_ ?_; refine blk_put (cs := #[.int .i64 0, .bool false, .int .i64 0, .int .u64 0, .int .u64 0, .bool false]) ?_ 3 _ rfl; refine z2_ ?_; refine blk_put (cs := #[.int .i64 0, .bool false, .int .i64 0, .int .u64 0, .int .u64 0, .bool false]) ?_ 2 _ rfl; refine z2_ ?_; refine blk_put (cs := #[.int .i64 0, .bool false, .int .i64 0, .int .u64 0, .int .u64 0, .bool false]) ?_ 1 _ rfl; refine z2_ ?_; refine blk_put (cs := #[.int .i64 0, .bool false, .int .i64 0, .int .u64 0, .int .u64 0, .bool false]) ?_ 0 _ rfl; refine z2_ ?_; exact BK288.out) Try.underlying24 rfl (by kernel_rfl)) rfl ?_
    exact ⟨by first | rfl | (simp [errW_none, errW_some] <;> rfl) | (simp [*, errW_none, errW_some] <;> rfl), by repeat (first | (with_reducible first | exact HB.out | apply below_alloc | apply pw_below_drewN | apply below_drew1 | refine below_set ?_ GE287.out | refine below_set ?_ GE288.out | refine below_set ?_ GE289.out) | exact HB.out)⟩
   ·rw [if_neg c16] at H
    have c16b0 : decide (1073741824 < a0_2) = false := decide_eq_false c16
    clear c16
    simp only [Option.some.injEq, Prod.mk.injEq] at H
    obtain ⟨rfl, rfl, rfl, rfl, rfl, rfl, rfl⟩ := H
    go_enter Try.func20, Try.ntmps20
    go_wp2_with (first | ((with_reducible refine gate_dst (N := 1) rfl ?_); refine box_event ?hg (N := 1) ?hd (cs := #[.int .i64 a0_0, .bool a0_1, .int .i64 a0_2, .int .u64 a0_3]) (t := 44) ?hr ?_; (case hd => rfl); (case hg => rfl); (case hr => first | (go_simp; done) | (go_simp; rfl)); intro gb287 hg w28 hbox hb; have n0_ := Aside0.mk (below_step (z3_ HB.out) hb); have n1_ := Aside0.mk (hbox); have n2_ := Aside0.mk ((by rw [hg]; exact (below_size (z3_ HB.out)) : w.heap.size ≤ gb287)); have n3_ := Aside0.mk ((by rw [hg]; exact (below_size (z3_ HB.out)) : w.heap.size ≤ gb287)); clear HB; have HB := n0_; have BK287 := n1_; have GW287 := n2_; have GE287 := n3_; clear n0_ n1_ n2_ n3_; clear hb hbox hg) | ((with_reducible refine gate_dst (N := 2) rfl ?_); refine box_event ?hg (N := 2) ?hd (cs := #[.int .i64 0, .bool false, .int .i64 0, .int .u64 0, .int .u64 0, .bool false]) (t := 24) ?hr ?_; (case hd => rfl); (case hg => rfl); (case hr => first | (go_simp; done) | (go_simp; rfl)); intro gb288 hg w29 hbox hb; have n0_ := Aside0.mk (blk_below (g := gb287) (z1_ BK287.out) hb); have n1_ := Aside0.mk (below_step (z3_ HB.out) hb); have n2_ := Aside0.mk (hbox); have n3_ := Aside0.mk ((by rw [hg]; exact (below_size (z3_ HB.out)) : w.heap.size ≤ gb288)); have n4_ := Aside0.mk ((by rw [hg]; exact (below_size (z3_ HB.out)) : w.heap.size ≤ gb288)); have n5_ := Aside0.mk ((by rw [hg]; exact Nat.ne_of_lt (blk_lt (g := gb287) (o := .cells #[.int .i64 a0_0, .bool a0_1, .int .i64 a0_2, .int .u64 a0_3] 44 (0, 0)) (z1_ BK287.out)) : gb287 ≠ gb288)); have n6_ := Aside0.mk ((by rw [hg]; exact Nat.ne_of_gt (blk_lt (g := gb287) (o := .cells #[.int .i64 a0_0, .bool a0_1, .int .i64 a0_2, .int .u64 a0_3] 44 (0, 0)) (z1_ BK287.out)) : gb288 ≠ gb287)); clear BK287; clear HB; have BK287 := n0_; have HB := n1_; have BK288 := n2_; have GW288 := n3_; have GE288 := n4_; have NB287_288 := n5_; have NB288_287 := n6_; clear n0_ n1_ n2_ n3_ n4_ n5_ n6_; clear hb hbox hg; have hnb30 := NB287_288.out; have hnc30 := NB288_287.out; have hcz31_0 := z4_ BK287.out 0 (.int .i64 a0_0) rfl; have hcz31_1 := z4_ BK287.out 1 (.bool a0_1) rfl; have hcz31_2 := z4_ BK287.out 2 (.int .i64 a0_2) rfl; have hcz31_3 := z4_ BK287.out 3 (.int .u64 a0_3) rfl; have hfz31_0 := blk_frozen BK287.out 0; have hfz31_1 := blk_frozen BK287.out 1; have hfz31_2 := blk_frozen BK287.out 2; have hfz31_3 := blk_frozen BK287.out 3) | ((with_reducible refine gate_dst (N := 4) rfl ?_); refine box_event ?hg (N := 4) ?hd (cs := #[.int .i64 0, .bool false, .int .i64 0, .int .u64 0, .int .u64 0, .bool false]) (t := 24) ?hr ?_; (case hd => rfl); (case hg => rfl); (case hr => first | (go_simp; done) | (go_simp; rfl)); intro gb289 hg w32 hbox hb; have n0_ := Aside0.mk (blk_below (g := gb287) (z1_ BK287.out) hb); have n1_ := Aside0.mk (blk_below (g := gb288) (z1_ BK288.out) hb); have n2_ := Aside0.mk (below_step (z3_ HB.out) hb); have n3_ := Aside0.mk (hbox); have n4_ := Aside0.mk ((by rw [hg]; exact (below_size (z3_ HB.out)) : w.heap.size ≤ gb289)); have n5_ := Aside0.mk ((by rw [hg]; exact (below_size (z3_ HB.out)) : w.heap.size ≤ gb289)); have n6_ := Aside0.mk ((by rw [hg]; exact Nat.ne_of_lt (blk_lt (g := gb287) (o := .cells #[.int .i64 a0_0, .bool a0_1, .int .i64 a0_2, .int .u64 a0_3] 44 (0, 0)) (z1_ BK287.out)) : gb287 ≠ gb289)); have n7_ := Aside0.mk ((by rw [hg]; exact Nat.ne_of_gt (blk_lt (g := gb287) (o := .cells #[.int .i64 a0_0, .bool a0_1, .int .i64 a0_2, .int .u64 a0_3] 44 (0, 0)) (z1_ BK287.out)) : gb289 ≠ gb287)); have n8_ := Aside0.mk ((by rw [hg]; exact Nat.ne_of_lt (blk_lt (g := gb288) (o := .cells #[.int .i64 0, .bool false, .int .i64 0, .int .u64 0, .int .u64 0, .bool false] 24 (0, 0)) (z1_ BK288.out)) : gb288 ≠ gb289)); have n9_ := Aside0.mk ((by rw [hg]; exact Nat.ne_of_gt (blk_lt (g := gb288) (o := .cells #[.int .i64 0, .bool false, .int .i64 0, .int .u64 0, .int .u64 0, .bool false] 24 (0, 0)) (z1_ BK288.out)) : gb289 ≠ gb288)); clear BK287; clear BK288; clear HB; have BK287 := n0_; have BK288 := n1_; have HB := n2_; have BK289 := n3_; have GW289 := n4_; have GE289 := n5_; have NB287_289 := n6_; have NB289_287 := n7_; have NB288_289 := n8_; have NB289_288 := n9_; clear n0_ n1_ n2_ n3_ n4_ n5_ n6_ n7_ n8_ n9_; clear hb hbox hg; have hnb33 := NB289_287.out; have hnc33 := NB287_289.out; have hnb34 := NB289_288.out; have hnc34 := NB288_289.out; have hcz35_0 := z4_ BK289.out 0 (.int .i64 0) rfl; have hcz35_1 := z4_ BK289.out 1 (.bool false) rfl; have hcz35_2 := z4_ BK289.out 2 (.int .i64 0) rfl; have hcz35_3 := z4_ BK289.out 3 (.int .u64 0) rfl; have hcz35_4 := z4_ BK289.out 4 (.int .u64 0) rfl; have hcz35_5 := z4_ BK289.out 5 (.bool false) rfl; have hfz35_0 := blk_frozen BK289.out 0; have hfz35_1 := blk_frozen BK289.out 1; have hfz35_2 := blk_frozen BK289.out 2; have hfz35_3 := blk_frozen BK289.out 3; have hfz35_4 := blk_frozen BK289.out 4; have hfz35_5 := blk_frozen BK289.out 5) | ((with_reducible refine gate_callee (f := 28) rfl ?_); refine goesL_ (some 15) rfl rfl Try.func28 (by kernel_rfl) rfl #[.agg #[.int .i64 a0_0, .bool a0_1, .int .i64 a0_2, .int .u64 a0_3, .int .u64 0, .bool false]] rfl z5_ ?_; (with_reducible refine (round_sound.calls k a0_0 a0_1 a0_2 a0_3 0 false true _ A2.out).mono ?_); rintro e w36 ⟨rfl, hb⟩; refine ⟨_, rfl, ?_⟩; have n0_ := Aside0.mk (blk_below (g := gb287) (o := .cells #[.int .i64 a0_0, .bool a0_1, .int .i64 a0_2, .int .u64 a0_3] 44 (0, 0)) (by refine z2_ ?_; refine blk_far ?_ NB287_289.out _; refine z2_ ?_; refine blk_far ?_ NB287_289.out _; refine z2_ ?_; refine blk_far ?_ NB287_289.out _; refine z2_ ?_; refine blk_far ?_ NB287_289.out _; refine z2_ ?_; refine blk_far ?_ NB287_289.out _; refine z2_ ?_; refine blk_far ?_ NB287_289.out _; refine z2_ ?_; exact BK287.out) hb); have n1_ := Aside0.mk (blk_below (g := gb288) (o := .cells #[.int .i64 0, .bool false, .int .i64 0, .int .u64 0, .int .u64 0, .bool false] 24 (0, 0)) (by refine z2_ ?_; refine blk_far ?_ NB288_289.out _; refine z2_ ?_; refine blk_far ?_ NB288_289.out _; refine z2_ ?_; refine blk_far ?_ NB288_289.out _; refine z2_ ?_; refine blk_far ?_ NB288_289.out _; refine z2_ ?_; refine blk_far ?_ NB288_289.out _; refine z2_ ?_; refine blk_far ?_ NB288_289.out _; refine z2_ ?_; exact BK288.out) hb); have n2_ := Aside0.mk (blk_below (g := gb289) (o := .cells #[.int .i64 a0_0, .bool a0_1, .int .i64 a0_2, .int .u64 a0_3, .int .u64 0, .bool false] 24 (0, 0)) (by refine z2_ ?_; refine blk_put (cs := #[.int .i64 a0_0, .bool a0_1, .int .i64 a0_2, .int .u64 a0_3, .int .u64 0, .bool false]) ?_ 5 _ rfl; refine z2_ ?_; refine blk_put (cs := #[.int .i64 a0_0, .bool a0_1, .int .i64 a0_2, .int .u64 a0_3, .int .u64 0, .bool false]) ?_ 4 _ rfl; refine z2_ ?_; refine blk_put (cs := #[.int .i64 a0_0, .bool a0_1, .int .i64 a0_2, .int .u64 0, .int .u64 0, .bool false]) ?_ 3 _ rfl; refine z2_ ?_; refine blk_put (cs := #[.int .i64 a0_0, .bool a0_1, .int .i64 0, .int .u64 0, .int .u64 0, .bool false]) ?_ 2 _ rfl; refine z2_ ?_; refine blk_put (cs := #[.int .i64 a0_0, .bool false, .int .i64 0, .int .u64 0, .int .u64 0, .bool false]) ?_ 1 _ rfl; refine z2_ ?_; refine blk_put (cs := #[.int .i64 0, .bool false, .int .i64 0, .int .u64 0, .int .u64 0, .bool false]) ?_ 0 _ rfl; refine z2_ ?_; exact BK289.out) hb); have n3_ := Aside0.mk (below_step (z3_ HB.out) hb); clear BK287; clear BK288; clear BK289; clear HB; have BK287 := n0_; have BK288 := n1_; have BK289 := n2_; have HB := n3_; clear n0_ n1_ n2_ n3_; (try clear hb); (try clear hb2); (try clear hk); (try clear hi); have hcz37_0 := z4_ BK287.out 0 (.int .i64 a0_0) rfl; have hcz37_1 := z4_ BK287.out 1 (.bool a0_1) rfl; have hcz37_2 := z4_ BK287.out 2 (.int .i64 a0_2) rfl; have hcz37_3 := z4_ BK287.out 3 (.int .u64 a0_3) rfl; have hfz37_0 := blk_frozen BK287.out 0; have hfz37_1 := blk_frozen BK287.out 1; have hfz37_2 := blk_frozen BK287.out 2; have hfz37_3 := blk_frozen BK287.out 3; have hcz38_0 := z4_ BK289.out 0 (.int .i64 a0_0) rfl; have hcz38_1 := z4_ BK289.out 1 (.bool a0_1) rfl; have hcz38_2 := z4_ BK289.out 2 (.int .i64 a0_2) rfl; have hcz38_3 := z4_ BK289.out 3 (.int .u64 a0_3) rfl; have hcz38_4 := z4_ BK289.out 4 (.int .u64 0) rfl; have hcz38_5 := z4_ BK289.out 5 (.bool false) rfl; have hfz38_0 := blk_frozen BK289.out 0; have hfz38_1 := blk_frozen BK289.out 1; have hfz38_2 := blk_frozen BK289.out 2; have hfz38_3 := blk_frozen BK289.out 3; have hfz38_4 := blk_frozen BK289.out 4; have hfz38_5 := blk_frozen BK289.out 5; have hcz39_0 := z4_ BK288.out 0 (.int .i64 0) rfl; have hcz39_1 := z4_ BK288.out 1 (.bool false) rfl; have hcz39_2 := z4_ BK288.out 2 (.int .i64 0) rfl; have hcz39_3 := z4_ BK288.out 3 (.int .u64 0) rfl; have hcz39_4 := z4_ BK288.out 4 (.int .u64 0) rfl; have hcz39_5 := z4_ BK288.out 5 (.bool false) rfl; have hfz39_0 := blk_frozen BK288.out 0; have hfz39_1 := blk_frozen BK288.out 1; have hfz39_2 := blk_frozen BK288.out 2; have hfz39_3 := blk_frozen BK288.out 3; have hfz39_4 := blk_frozen BK288.out 4; have hfz39_5 := blk_frozen BK288.out 5))
    refine bodyPost_ret (results_ct rfl _ _ gb288 24 #[.int .i64 a0_0, .bool a0_1, .int .i64 a0_2, .int .u64 a0_3, .int .u64 0, .bool false] (0, 0) _ rfl (by refine z2_ ?_; refine blk_put (cs := #[.int .i64 a0_0, .bool a0_1, .int .i64 a0_2, .int .u64 a0_3, .int .u64 0, .bool false]) ?_ 5 _ rfl; refine z2_ ?_; refine blk_put (cs := #[.int .i64 a0_0, .bool a0_1, .int .i64 a0_2, .int .u64 a0_3, .int .u64 0, .bool false]) ?_ 4 _ rfl; refine z2_ ?_; refine blk_put (cs := #[.int .i64 a0_0, .bool a0_1, .int .i64 a0_2, .int .u64 0, .int .u64 0, .bool false]) ?_ 3 _ rfl; refine z2_ ?_; refine blk_put (cs := #[.int .i64 a0_0, .bool a0_1, .int .i64 0, .int .u64 0, .int .u64 0, .bool false]) ?_ 2 _ rfl; refine z2_ ?_; refine blk_put (cs := #[.int .i64 a0_0, .bool false, .int .i64 0, .int .u64 0, .int .u64 0, .bool false]) ?_ 1 _ rfl; refine z2_ ?_; refine blk_put (cs := #[.int .i64 0, .bool false, .int .i64 0, .int .u64 0, .int .u64 0, .bool false]) ?_ 0 _ rfl; refine z2_ ?_; exact BK288.out) Try.underlying24 rfl (by kernel_rfl)) rfl ?_
    exact ⟨by first | rfl | (simp [errW_none, errW_some] <;> rfl) | (simp [*, errW_none, errW_some] <;> rfl), by repeat (first | (with_reducible first | exact HB.out | apply below_alloc | apply pw_below_drewN | apply below_drew1 | refine below_set ?_ GE287.out | refine below_set ?_ GE288.out | refine below_set ?_ GE289.out) | exact HB.out)⟩
 ·replace c3 := Bool.eq_false_iff.mpr c3
  subst c3
  have H1 : (some (0, false, 0, 0, 0, false, some 1)) = some (r1, r2, r3, r4, r5, r6, r7) := by rw [if_neg (show ¬ (false = true) by decide)] at H; exact H
  clear H
  have H := H1
  clear H1
  simp only [Option.some.injEq, Prod.mk.injEq] at H
  obtain ⟨rfl, rfl, rfl, rfl, rfl, rfl, rfl⟩ := H
  go_enter Try.func20, Try.ntmps20
  go_wp2_with (first | ((with_reducible refine gate_dst (N := 1) rfl ?_); refine box_event ?hg (N := 1) ?hd (cs := #[.int .i64 a0_0, .bool a0_1, .int .i64 a0_2, .int .u64 a0_3]) (t := 44) ?hr ?_; (case hd => rfl); (case hg => rfl); (case hr => first | (go_simp; done) | (go_simp; rfl)); intro gb287 hg w40 hbox hb; have n0_ := Aside0.mk (below_step (z3_ HB.out) hb); have n1_ := Aside0.mk (hbox); have n2_ := Aside0.mk ((by rw [hg]; exact (below_size (z3_ HB.out)) : w.heap.size ≤ gb287)); have n3_ := Aside0.mk ((by rw [hg]; exact (below_size (z3_ HB.out)) : w.heap.size ≤ gb287)); clear HB; have HB := n0_; have BK287 := n1_; have GW287 := n2_; have GE287 := n3_; clear n0_ n1_ n2_ n3_; clear hb hbox hg) | ((with_reducible refine gate_dst (N := 2) rfl ?_); refine box_event ?hg (N := 2) ?hd (cs := #[.int .i64 0, .bool false, .int .i64 0, .int .u64 0, .int .u64 0, .bool false]) (t := 24) ?hr ?_; (case hd => rfl); (case hg => rfl); (case hr => first | (go_simp; done) | (go_simp; rfl)); intro gb288 hg w41 hbox hb; have n0_ := Aside0.mk (blk_below (g := gb287) (z1_ BK287.out) hb); have n1_ := Aside0.mk (below_step (z3_ HB.out) hb); have n2_ := Aside0.mk (hbox); have n3_ := Aside0.mk ((by rw [hg]; exact (below_size (z3_ HB.out)) : w.heap.size ≤ gb288)); have n4_ := Aside0.mk ((by rw [hg]; exact (below_size (z3_ HB.out)) : w.heap.size ≤ gb288)); have n5_ := Aside0.mk ((by rw [hg]; exact Nat.ne_of_lt (blk_lt (g := gb287) (o := .cells #[.int .i64 a0_0, .bool a0_1, .int .i64 a0_2, .int .u64 a0_3] 44 (0, 0)) (z1_ BK287.out)) : gb287 ≠ gb288)); have n6_ := Aside0.mk ((by rw [hg]; exact Nat.ne_of_gt (blk_lt (g := gb287) (o := .cells #[.int .i64 a0_0, .bool a0_1, .int .i64 a0_2, .int .u64 a0_3] 44 (0, 0)) (z1_ BK287.out)) : gb288 ≠ gb287)); clear BK287; clear HB; have BK287 := n0_; have HB := n1_; have BK288 := n2_; have GW288 := n3_; have GE288 := n4_; have NB287_288 := n5_; have NB288_287 := n6_; clear n0_ n1_ n2_ n3_ n4_ n5_ n6_; clear hb hbox hg; have hnb42 := NB287_288.out; have hnc42 := NB288_287.out; have hcz43_0 := z4_ BK287.out 0 (.int .i64 a0_0) rfl; have hcz43_1 := z4_ BK287.out 1 (.bool a0_1) rfl; have hcz43_2 := z4_ BK287.out 2 (.int .i64 a0_2) rfl; have hcz43_3 := z4_ BK287.out 3 (.int .u64 a0_3) rfl; have hfz43_0 := blk_frozen BK287.out 0; have hfz43_1 := blk_frozen BK287.out 1; have hfz43_2 := blk_frozen BK287.out 2; have hfz43_3 := blk_frozen BK287.out 3) | ((with_reducible refine gate_dst (N := 4) rfl ?_); refine box_event ?hg (N := 4) ?hd (cs := #[.int .i64 0, .bool false, .int .i64 0, .int .u64 0, .int .u64 0, .bool false]) (t := 24) ?hr ?_; (case hd => rfl); (case hg => rfl); (case hr => first | (go_simp; done) | (go_simp; rfl)); intro gb289 hg w44 hbox hb; have n0_ := Aside0.mk (blk_below (g := gb287) (z1_ BK287.out) hb); have n1_ := Aside0.mk (blk_below (g := gb288) (z1_ BK288.out) hb); have n2_ := Aside0.mk (below_step (z3_ HB.out) hb); have n3_ := Aside0.mk (hbox); have n4_ := Aside0.mk ((by rw [hg]; exact (below_size (z3_ HB.out)) : w.heap.size ≤ gb289)); have n5_ := Aside0.mk ((by rw [hg]; exact (below_size (z3_ HB.out)) : w.heap.size ≤ gb289)); have n6_ := Aside0.mk ((by rw [hg]; exact Nat.ne_of_lt (blk_lt (g := gb287) (o := .cells #[.int .i64 a0_0, .bool a0_1, .int .i64 a0_2, .int .u64 a0_3] 44 (0, 0)) (z1_ BK287.out)) : gb287 ≠ gb289)); have n7_ := Aside0.mk ((by rw [hg]; exact Nat.ne_of_gt (blk_lt (g := gb287) (o := .cells #[.int .i64 a0_0, .bool a0_1, .int .i64 a0_2, .int .u64 a0_3] 44 (0, 0)) (z1_ BK287.out)) : gb289 ≠ gb287)); have n8_ := Aside0.mk ((by rw [hg]; exact Nat.ne_of_lt (blk_lt (g := gb288) (o := .cells #[.int .i64 0, .bool false, .int .i64 0, .int .u64 0, .int .u64 0, .bool false] 24 (0, 0)) (z1_ BK288.out)) : gb288 ≠ gb289)); have n9_ := Aside0.mk ((by rw [hg]; exact Nat.ne_of_gt (blk_lt (g := gb288) (o := .cells #[.int .i64 0, .bool false, .int .i64 0, .int .u64 0, .int .u64 0, .bool false] 24 (0, 0)) (z1_ BK288.out)) : gb289 ≠ gb288)); clear BK287; clear BK288; clear HB; have BK287 := n0_; have BK288 := n1_; have HB := n2_; have BK289 := n3_; have GW289 := n4_; have GE289 := n5_; have NB287_289 := n6_; have NB289_287 := n7_; have NB288_289 := n8_; have NB289_288 := n9_; clear n0_ n1_ n2_ n3_ n4_ n5_ n6_ n7_ n8_ n9_; clear hb hbox hg; have hnb45 := NB289_287.out; have hnc45 := NB287_289.out; have hnb46 := NB289_288.out; have hnc46 := NB288_289.out; have hcz47_0 := z4_ BK289.out 0 (.int .i64 0) rfl; have hcz47_1 := z4_ BK289.out 1 (.bool false) rfl; have hcz47_2 := z4_ BK289.out 2 (.int .i64 0) rfl; have hcz47_3 := z4_ BK289.out 3 (.int .u64 0) rfl; have hcz47_4 := z4_ BK289.out 4 (.int .u64 0) rfl; have hcz47_5 := z4_ BK289.out 5 (.bool false) rfl; have hfz47_0 := blk_frozen BK289.out 0; have hfz47_1 := blk_frozen BK289.out 1; have hfz47_2 := blk_frozen BK289.out 2; have hfz47_3 := blk_frozen BK289.out 3; have hfz47_4 := blk_frozen BK289.out 4; have hfz47_5 := blk_frozen BK289.out 5) | ((with_reducible refine gate_callee (f := 28) rfl ?_); refine goesL_ (some 15) rfl rfl Try.func28 (by kernel_rfl) rfl #[.agg #[.int .i64 a0_0, .bool a0_1, .int .i64 a0_2, .int .u64 a0_3, .int .u64 0, .bool false]] rfl z5_ ?_; (with_reducible refine (round_sound.calls k a0_0 a0_1 a0_2 a0_3 0 false false _ A2.out).mono ?_); rintro e w48 ⟨rfl, hb⟩; refine ⟨_, rfl, ?_⟩; have n0_ := Aside0.mk (blk_below (g := gb287) (o := .cells #[.int .i64 a0_0, .bool a0_1, .int .i64 a0_2, .int .u64 a0_3] 44 (0, 0)) (by refine z2_ ?_; refine blk_far ?_ NB287_289.out _; refine z2_ ?_; refine blk_far ?_ NB287_289.out _; refine z2_ ?_; refine blk_far ?_ NB287_289.out _; refine z2_ ?_; refine blk_far ?_ NB287_289.out _; refine z2_ ?_; refine blk_far ?_ NB287_289.out _; refine z2_ ?_; refine blk_far ?_ NB287_289.out _; refine z2_ ?_; exact BK287.out) hb); have n1_ := Aside0.mk (blk_below (g := gb288) (o := .cells #[.int .i64 0, .bool false, .int .i64 0, .int .u64 0, .int .u64 0, .bool false] 24 (0, 0)) (by refine z2_ ?_; refine blk_far ?_ NB288_289.out _; refine z2_ ?_; refine blk_far ?_ NB288_289.out _; refine z2_ ?_; refine blk_far ?_ NB288_289.out _; refine z2_ ?_; refine blk_far ?_ NB288_289.out _; refine z2_ ?_; refine blk_far ?_ NB288_289.out _; refine z2_ ?_; refine blk_far ?_ NB288_289.out _; refine z2_ ?_; exact BK288.out) hb); have n2_ := Aside0.mk (blk_below (g := gb289) (o := .cells #[.int .i64 a0_0, .bool a0_1, .int .i64 a0_2, .int .u64 a0_3, .int .u64 0, .bool false] 24 (0, 0)) (by refine z2_ ?_; refine blk_put (cs := #[.int .i64 a0_0, .bool a0_1, .int .i64 a0_2, .int .u64 a0_3, .int .u64 0, .bool false]) ?_ 5 _ rfl; refine z2_ ?_; refine blk_put (cs := #[.int .i64 a0_0, .bool a0_1, .int .i64 a0_2, .int .u64 a0_3, .int .u64 0, .bool false]) ?_ 4 _ rfl; refine z2_ ?_; refine blk_put (cs := #[.int .i64 a0_0, .bool a0_1, .int .i64 a0_2, .int .u64 0, .int .u64 0, .bool false]) ?_ 3 _ rfl; refine z2_ ?_; refine blk_put (cs := #[.int .i64 a0_0, .bool a0_1, .int .i64 0, .int .u64 0, .int .u64 0, .bool false]) ?_ 2 _ rfl; refine z2_ ?_; refine blk_put (cs := #[.int .i64 a0_0, .bool false, .int .i64 0, .int .u64 0, .int .u64 0, .bool false]) ?_ 1 _ rfl; refine z2_ ?_; refine blk_put (cs := #[.int .i64 0, .bool false, .int .i64 0, .int .u64 0, .int .u64 0, .bool false]) ?_ 0 _ rfl; refine z2_ ?_; exact BK289.out) hb); have n3_ := Aside0.mk (below_step (z3_ HB.out) hb); clear BK287; clear BK288; clear BK289; clear HB; have BK287 := n0_; have BK288 := n1_; have BK289 := n2_; have HB := n3_; clear n0_ n1_ n2_ n3_; (try clear hb); (try clear hb2); (try clear hk); (try clear hi); have hcz49_0 := z4_ BK288.out 0 (.int .i64 0) rfl; have hcz49_1 := z4_ BK288.out 1 (.bool false) rfl; have hcz49_2 := z4_ BK288.out 2 (.int .i64 0) rfl; have hcz49_3 := z4_ BK288.out 3 (.int .u64 0) rfl; have hcz49_4 := z4_ BK288.out 4 (.int .u64 0) rfl; have hcz49_5 := z4_ BK288.out 5 (.bool false) rfl; have hfz49_0 := blk_frozen BK288.out 0; have hfz49_1 := blk_frozen BK288.out 1; have hfz49_2 := blk_frozen BK288.out 2; have hfz49_3 := blk_frozen BK288.out 3; have hfz49_4 := blk_frozen BK288.out 4; have hfz49_5 := blk_frozen BK288.out 5))
  refine bodyPost_ret (results_ct rfl _ _ gb288 24 #[.int .i64 0, .bool false, .int .i64 0, .int .u64 0, .int .u64 0, .bool false] (0, 0) _ rfl (by refine z2_ ?_; refine blk_put (cs := #[.int .i64 0, .bool false, .int .i64 0, .int .u64 0, .int .u64 0, .bool false]) ?_ 5 _ rfl; refine z2_ ?_; refine blk_put (cs := #[.int .i64 0, .bool false, .int .i64 0, .int .u64 0, .int .u64 0, .bool false]) ?_ 4 _ rfl; refine z2_ ?_; refine blk_put (cs := #[.int .i64 0, .bool false, .int .i64 0, .int .u64 0, .int .u64 0, .bool false]) ?_ 3 _ rfl; refine z2_ ?_; refine blk_put (cs := #[.int .i64 0, .bool false, .int .i64 0, .int .u64 0, .int .u64 0, .bool false]) ?_ 2 _ rfl; refine z2_ ?_; refine blk_put (cs := #[.int .i64 0, .bool false, .int .i64 0, .int .u64 0, .int .u64 0, .bool false]) ?_ 1 _ rfl; refine z2_ ?_; refine blk_put (cs := #[.int .i64 0, .bool false, .int .i64 0, .int .u64 0, .int .u64 0, .bool false]) ?_ 0 _ rfl; refine z2_ ?_; exact BK288.out) Try.underlying24 rfl (by kernel_rfl)) rfl ?_
  exact ⟨by first | rfl | (simp [errW_none, errW_some] <;> rfl) | (simp [*, errW_none, errW_some] <;> rfl), by repeat (first | (with_reducible first | exact HB.out | apply below_alloc | apply pw_below_drewN | apply below_drew1 | refine below_set ?_ GE287.out | refine below_set ?_ GE288.out | refine below_set ?_ GE289.out) | exact HB.out)⟩
end Go.Proofs.Ytfegofnplcmacaa.PAll
namespace Go.Proofs.Ytfegofnplcmacaa.PAll
open Go.RowKit Go.Proofs.YtfegofnplcmacaaW.PrintWords Go.Proofs.YtfegofnplcmacaaW.PrintLast Go.Proofs.YtfegofnplcmacaaW.PrintMore
attribute [local go_sem] max2_int min2_int max_two min_two max_three min_three max_four min_four
set_option linter.unusedVariables false
set_option linter.unusedSimpArgs false
def shape_Kind.f (a0 : Int) (a1 : Int) : Option (Int × Option Int) := (shape_Fold.f a0 a1).bind fun bt440 => (if bt440.2.isNone = true then (if bt440.1 = 0 then (some (0, none)) else (if 0 ≤ (wrap64 (a0 - 1)) then (if bt440.1 = (shl .u64 1 (wrap64 (a0 - 1))) then (some (2, none)) else (some (1, none))) else (none))) else (some (0, some (bt440.2.getD 0))))
set_option maxHeartbeats 8000000 in
set_option maxRecDepth 100000 in
theorem shape_Kind.calls (a0 : Int) (a1 : Int) (r1 : Int) (r2 : Option Int) (w : World) (h : shape_Kind.f a0 a1 = some (r1, r2)) :
  Calls Try.prog 49 #[.int .i64 a0, .int .u64 a1] w fun e w' => e = .returned (.tuple #[.int .i64 r1, errW r2]) ∧ Drawn0 w w' := by
 have hu27 := Try.underlying27
 have hu55 := Try.underlying55
 have H : ((shape_Fold.f a0 a1).bind fun bt440 => (if bt440.2.isNone = true then (if bt440.1 = 0 then (some (0, none)) else (if 0 ≤ (wrap64 (a0 - 1)) then (if bt440.1 = (shl .u64 1 (wrap64 (a0 - 1))) then (some (2, none)) else (some (1, none))) else (none))) else (some (0, some (bt440.2.getD 0))))) = some (r1, r2) := h
 clear h
 replace H := Option.bind_eq_some_iff.mp H
 obtain ⟨⟨t440, t441⟩, A30, H⟩ := H
 replace H : (if t441.isNone = true then (if t440 = 0 then (some (0, none)) else (if 0 ≤ (wrap64 (a0 - 1)) then (if t440 = (shl .u64 1 (wrap64 (a0 - 1))) then (some (2, none)) else (some (1, none))) else (none))) else (some (0, some (t441.getD 0)))) = some (r1, r2) := H
 have A3 := Aside0.mk A30
 clear A30
 rcases t441 with _ | q442
 ·have H1 : (if t440 = 0 then (some (0, none)) else (if 0 ≤ (wrap64 (a0 - 1)) then (if t440 = (shl .u64 1 (wrap64 (a0 - 1))) then (some (2, none)) else (some (1, none))) else (none))) = some (r1, r2) := by rw [if_pos (show (none : Option Int).isNone = true by rfl)] at H; exact H
  clear H
  have H := H1
  clear H1
  try simp only [errW_none, errW_some]
  by_cases c4 : t440 = 0
  ·rw [if_pos c4] at H
   have c4b0 : (t440 == 0) = true := beq_iff_eq.mpr c4
   have c4b1 : (t440 != 0) = false := bne_eq_false_iff_eq.mpr c4
   clear c4
   simp only [Option.some.injEq, Prod.mk.injEq] at H
   obtain ⟨rfl, rfl⟩ := H
   go_enter Try.func49, Try.ntmps49
   go_wp2_with (first | ((with_reducible refine gate_callee (f := 38) rfl ?_); refine goesL_ (some 10) rfl rfl Try.func38 (by kernel_rfl) rfl #[.int .i64 a0, .int .u64 a1] rfl z5_ ?_; (with_reducible refine (shape_Fold.calls a0 a1 t440 none _ A3.out).mono ?_); rintro e w' ⟨rfl, ⟨nd, rfl⟩⟩; refine ⟨_, rfl, ?_⟩; (try simp only [errW_none, errW_some])))
   go_ret2
   exact ⟨by first | rfl | (simp; done) | (simp [*]; done), by repeat (first | exact Drawn0.refl _ | apply Drawn0.step)⟩
  ·rw [if_neg c4] at H
   have c4b0 : (t440 == 0) = false := beq_eq_false_iff_ne.mpr c4
   have c4b1 : (t440 != 0) = true := bne_iff_ne.mpr c4
   obtain ⟨ji5, hji5⟩ : ∃ j_ : Int, (wrap64 (a0 - 1)) = j_ := ⟨_, rfl⟩
   replace H : (if 0 ≤ (ji5) then (if t440 = (shl .u64 1 (ji5)) then (some (2, none)) else (some (1, none))) else (none)) = some (r1, r2) := by first | (rw [hji5] at H; exact H) | (simp only [hji5] at H ⊢; exact H)
   (try rw [hji5] at A3)
   have hji5w : (IntKind.i64.wrap (a0 - 1)) = ji5 := (i64_w _).trans hji5
   by_cases c6 : 0 ≤ (ji5)
   ·rw [if_pos c6] at H
    have c6b0 := eq_true c6
    have c6b1 : decide (0 ≤ (ji5)) = true := decide_eq_true c6
    clear c6
    obtain ⟨ji7, hji7⟩ : ∃ j_ : Int, (shl .u64 1 (ji5)) = j_ := ⟨_, rfl⟩
    replace H : (if t440 = (ji7) then (some (2, none)) else (some (1, none))) = some (r1, r2) := by first | (rw [hji7] at H; exact H) | (simp only [hji7] at H ⊢; exact H)
    (try rw [hji7] at A3)
    have hji7_ : (IntKind.u64.wrap (1 * 2 ^ min (ji5).toNat 64)) = ji7 := hji7
    have hji7z : (ji5) ≤ 64 → (IntKind.u64.wrap (1 * 2 ^ (ji5).toNat)) = ji7 := shl_small hji7
    (try (have hji7Z_ := hji7z (by omega)))
    have hji7u : (IntKind.u64.wrap (2 ^ min (ji5).toNat 64)) = ji7 := by have h_ := hji7_; rw [Int.one_mul] at h_; exact h_
    have hji7v : (ji5) ≤ 64 → (IntKind.u64.wrap (2 ^ (ji5).toNat)) = ji7 := fun hle_ => by have h_ := hji7z hle_; rw [Int.one_mul] at h_; exact h_
    by_cases c8 : t440 = (ji7)
    ·rw [if_pos c8] at H
     have c8b0 : (t440 == (ji7)) = true := beq_iff_eq.mpr c8
     have c8b1 : (t440 != (ji7)) = false := bne_eq_false_iff_eq.mpr c8
     clear c8
     simp only [Option.some.injEq, Prod.mk.injEq] at H
     obtain ⟨rfl, rfl⟩ := H
     go_enter Try.func49, Try.ntmps49
     go_wp2_with (first | ((with_reducible refine gate_callee (f := 38) rfl ?_); refine goesL_ (some 10) rfl rfl Try.func38 (by kernel_rfl) rfl #[.int .i64 a0, .int .u64 a1] rfl z5_ ?_; (with_reducible refine (shape_Fold.calls a0 a1 t440 none _ A3.out).mono ?_); rintro e w' ⟨rfl, ⟨nd, rfl⟩⟩; refine ⟨_, rfl, ?_⟩; (try simp only [errW_none, errW_some])))
     go_ret2
     exact ⟨by first | rfl | (simp; done) | (simp only [← hji5, ← hji7] <;> (first | rfl | simp)) | (simp [*]; done), by repeat (first | exact Drawn0.refl _ | apply Drawn0.step)⟩
    ·rw [if_neg c8] at H
     have c8b0 : (t440 == (ji7)) = false := beq_eq_false_iff_ne.mpr c8
     have c8b1 : (t440 != (ji7)) = true := bne_iff_ne.mpr c8
     simp only [Option.some.injEq, Prod.mk.injEq] at H
     obtain ⟨rfl, rfl⟩ := H
     go_enter Try.func49, Try.ntmps49
     go_wp2_with (first | ((with_reducible refine gate_callee (f := 38) rfl ?_); refine goesL_ (some 10) rfl rfl Try.func38 (by kernel_rfl) rfl #[.int .i64 a0, .int .u64 a1] rfl z5_ ?_; (with_reducible refine (shape_Fold.calls a0 a1 t440 none _ A3.out).mono ?_); rintro e w' ⟨rfl, ⟨nd, rfl⟩⟩; refine ⟨_, rfl, ?_⟩; (try simp only [errW_none, errW_some])))
     go_ret2
     exact ⟨by first | rfl | (simp; done) | (simp only [← hji5, ← hji7] <;> (first | rfl | simp)) | (simp [*]; done), by repeat (first | exact Drawn0.refl _ | apply Drawn0.step)⟩
   ·rw [if_neg c6] at H
    exact absurd H (by simp)
 ·have H1 : (some (0, some q442)) = some (r1, r2) := by rw [if_neg (show ¬ (some q442).isNone = true by simp)] at H; exact H
  clear H
  have H := H1
  clear H1
  try simp only [errW_none, errW_some]
  simp only [Option.some.injEq, Prod.mk.injEq] at H
  obtain ⟨rfl, rfl⟩ := H
  go_enter Try.func49, Try.ntmps49
  go_wp2_with (first | ((with_reducible refine gate_callee (f := 38) rfl ?_); refine goesL_ (some 10) rfl rfl Try.func38 (by kernel_rfl) rfl #[.int .i64 a0, .int .u64 a1] rfl z5_ ?_; (with_reducible refine (shape_Fold.calls a0 a1 t440 (some q442) _ A3.out).mono ?_); rintro e w' ⟨rfl, ⟨nd, rfl⟩⟩; refine ⟨_, rfl, ?_⟩; (try simp only [errW_none, errW_some])))
  go_ret2
  exact ⟨by first | rfl | (simp; done) | (simp [*]; done), by repeat (first | exact Drawn0.refl _ | apply Drawn0.step)⟩
end Go.Proofs.Ytfegofnplcmacaa.PAll
namespace Go.Proofs.Ytfegofnplcmacaa.PAll
open Go.RowKit Go.Proofs.YtfegofnplcmacaaW.PrintWords Go.Proofs.YtfegofnplcmacaaW.PrintLast Go.Proofs.YtfegofnplcmacaaW.PrintMore
attribute [local go_sem] max2_int min2_int max_two min_two max_three min_three max_four min_four
set_option linter.unusedVariables false
set_option linter.unusedSimpArgs false
def lead_Extend.f (a0 : Int) (a1 : Int) : Option (Int × Option Int) := if a1 < 1 then (some (0, some 1)) else (if a1 > 64 then (some (0, some 1)) else (if 0 ≤ (wrap64 (64 - a1)) then (some (shr .i64 (wrap64 (shl .u64 a0 (wrap64 (64 - a1)))) (wrap64 (64 - a1)), none)) else (none)))
set_option maxHeartbeats 8000000 in
set_option maxRecDepth 100000 in
theorem lead_Extend.calls (a0 : Int) (a1 : Int) (r1 : Int) (r2 : Option Int) (w : World) (h : lead_Extend.f a0 a1 = some (r1, r2)) :
  Calls Try.prog 74 #[.int .u64 a0, .int .i64 a1] w fun e w' => e = .returned (.tuple #[.int .i64 r1, errW r2]) ∧ Drawn0 w w' := by
 have hu27 := Try.underlying27
 have hu55 := Try.underlying55
 have H : (if a1 < 1 then (some (0, some 1)) else (if a1 > 64 then (some (0, some 1)) else (if 0 ≤ (wrap64 (64 - a1)) then (some (shr .i64 (wrap64 (shl .u64 a0 (wrap64 (64 - a1)))) (wrap64 (64 - a1)), none)) else (none)))) = some (r1, r2) := h
 clear h
 by_cases c3 : a1 < 1
 ·rw [if_pos c3] at H
  have c3b0 : decide (a1 < 1) = true := decide_eq_true c3
  clear c3
  simp only [Option.some.injEq, Prod.mk.injEq] at H
  obtain ⟨rfl, rfl⟩ := H
  go_enter Try.func74, Try.ntmps74
  go_wp2
  go_ret2
  exact ⟨by first | rfl | (simp; done) | (simp [*]; done), by repeat (first | exact Drawn0.refl _ | apply Drawn0.step)⟩
 ·rw [if_neg c3] at H
  have c3b0 : decide (a1 < 1) = false := decide_eq_false c3
  clear c3
  by_cases c4 : a1 > 64
  ·rw [if_pos c4] at H
   have c4b0 : decide (64 < a1) = true := decide_eq_true c4
   clear c4
   simp only [Option.some.injEq, Prod.mk.injEq] at H
   obtain ⟨rfl, rfl⟩ := H
   go_enter Try.func74, Try.ntmps74
   go_wp2
   go_ret2
   exact ⟨by first | rfl | (simp; done) | (simp [*]; done), by repeat (first | exact Drawn0.refl _ | apply Drawn0.step)⟩
  ·rw [if_neg c4] at H
   have c4b0 : decide (64 < a1) = false := decide_eq_false c4
   clear c4
   obtain ⟨ji5, hji5⟩ : ∃ j_ : Int, (wrap64 (64 - a1)) = j_ := ⟨_, rfl⟩
   replace H : (if 0 ≤ (ji5) then (some (shr .i64 (wrap64 (shl .u64 a0 (ji5))) (ji5), none)) else (none)) = some (r1, r2) := by first | (rw [hji5] at H; exact H) | (simp only [hji5] at H ⊢; exact H)
   have hji5w : (IntKind.i64.wrap (64 - a1)) = ji5 := (i64_w _).trans hji5
   by_cases c6 : 0 ≤ (ji5)
   ·rw [if_pos c6] at H
    have c6b0 := eq_true c6
    have c6b1 : decide (0 ≤ (ji5)) = true := decide_eq_true c6
    clear c6
    obtain ⟨ji7, hji7⟩ : ∃ j_ : Int, (shl .u64 a0 (ji5)) = j_ := ⟨_, rfl⟩
    replace H : (some (shr .i64 (wrap64 (ji7)) (ji5), none)) = some (r1, r2) := by first | (rw [hji7] at H; exact H) | (simp only [hji7] at H ⊢; exact H)
    have hji7_ : (IntKind.u64.wrap (a0 * 2 ^ min (ji5).toNat 64)) = ji7 := hji7
    have hji7z : (ji5) ≤ 64 → (IntKind.u64.wrap (a0 * 2 ^ (ji5).toNat)) = ji7 := shl_small hji7
    (try (have hji7Z_ := hji7z (by omega)))
    have c8b0 := eq_true (of_decide_eq_true (by first | (with_reducible assumption) | assumption) : 0 ≤ (ji5))
    obtain ⟨ji9, hji9⟩ : ∃ j_ : Int, (shr .i64 (wrap64 (ji7)) (ji5)) = j_ := ⟨_, rfl⟩
    replace H : (some (ji9, none)) = some (r1, r2) := by first | (rw [hji9] at H; exact H) | (simp only [hji9] at H ⊢; exact H)
    have hji9_ : ((wrap64 (ji7)) / 2 ^ min (ji5).toNat 64) = ji9 := hji9
    have hji9z : (ji5) ≤ 64 → ((wrap64 (ji7)) / 2 ^ (ji5).toNat) = ji9 := shr_small hji9
    (try (have hji9Z_ := hji9z (by omega)))
    simp only [Option.some.injEq, Prod.mk.injEq] at H
    obtain ⟨rfl, rfl⟩ := H
    go_enter Try.func74, Try.ntmps74
    go_wp2
    go_ret2
    exact ⟨by first | rfl | (simp; done) | (simp only [← hji5, ← hji7, ← hji9] <;> (first | rfl | simp)) | (simp [*]; done), by repeat (first | exact Drawn0.refl _ | apply Drawn0.step)⟩
   ·rw [if_neg c6] at H
    exact absurd H (by simp)
end Go.Proofs.Ytfegofnplcmacaa.PAll
namespace Go.Proofs.Ytfegofnplcmacaa.PAll
open Go.RowKit Go.Proofs.YtfegofnplcmacaaW.PrintWords Go.Proofs.YtfegofnplcmacaaW.PrintLast Go.Proofs.YtfegofnplcmacaaW.PrintMore
attribute [local go_sem] max2_int min2_int max_two min_two max_three min_three max_four min_four
set_option linter.unusedVariables false
set_option linter.unusedSimpArgs false
def shape_Rank.f (a0 : Int) (a1 : Int) : Option (Int × Option Int) := (shape_is.f a0).bind fun t443 => (if t443 = true then ((lead_Extend.f a1 a0).bind fun bt444 => (some (bt444.1, bt444.2))) else (some (0, some 2)))
set_option maxHeartbeats 8000000 in
set_option maxRecDepth 100000 in
theorem shape_Rank.calls (a0 : Int) (a1 : Int) (r1 : Int) (r2 : Option Int) (w : World) (h : shape_Rank.f a0 a1 = some (r1, r2)) :
  Calls Try.prog 67 #[.int .i64 a0, .int .u64 a1] w fun e w' => e = .returned (.tuple #[.int .i64 r1, errW r2]) ∧ Drawn0 w w' := by
 have hu27 := Try.underlying27
 have hu55 := Try.underlying55
 have H : ((shape_is.f a0).bind fun t443 => (if t443 = true then ((lead_Extend.f a1 a0).bind fun bt444 => (some (bt444.1, bt444.2))) else (some (0, some 2)))) = some (r1, r2) := h
 clear h
 replace H := Option.bind_eq_some_iff.mp H
 obtain ⟨t443, A30, H⟩ := H
 replace H : (if t443 = true then ((lead_Extend.f a1 a0).bind fun bt444 => (some (bt444.1, bt444.2))) else (some (0, some 2))) = some (r1, r2) := H
 have A3 := Aside0.mk A30
 clear A30
 by_cases c4 : t443 = true
 ·subst c4
  have H1 : ((lead_Extend.f a1 a0).bind fun bt444 => (some (bt444.1, bt444.2))) = some (r1, r2) := by rw [if_pos rfl] at H; exact H
  clear H
  have H := H1
  clear H1
  replace H := Option.bind_eq_some_iff.mp H
  obtain ⟨⟨t444, t445⟩, A50, H⟩ := H
  replace H : (some (t444, t445)) = some (r1, r2) := H
  have A5 := Aside0.mk A50
  clear A50
  simp only [Option.some.injEq, Prod.mk.injEq] at H
  obtain ⟨rfl, rfl⟩ := H
  go_enter Try.func67, Try.ntmps67
  go_wp2_with (first | ((with_reducible refine gate_callee (f := 52) rfl ?_); refine goesL_ (some 7) rfl rfl Try.func52 (by kernel_rfl) rfl #[.int .i64 a0] rfl z5_ ?_; (with_reducible refine (shape_is.calls a0 true _ A3.out).mono ?_); rintro e w' ⟨rfl, ⟨nd, rfl⟩⟩; refine ⟨_, rfl, ?_⟩) | ((with_reducible refine gate_callee (f := 74) rfl ?_); refine goesL_ (some 12) rfl rfl Try.func74 (by kernel_rfl) rfl #[.int .u64 a1, .int .i64 a0] rfl z5_ ?_; (with_reducible refine (lead_Extend.calls a1 a0 t444 t445 _ A5.out).mono ?_); rintro e w' ⟨rfl, ⟨nd, rfl⟩⟩; refine ⟨_, rfl, ?_⟩; (try simp only [errW_none, errW_some])))
  go_ret2
  exact ⟨by first | rfl | (simp; done) | (simp [*]; done), by repeat (first | exact Drawn0.refl _ | apply Drawn0.step)⟩
 ·replace c4 := Bool.eq_false_iff.mpr c4
  subst c4
  have H1 : (some (0, some 2)) = some (r1, r2) := by rw [if_neg (show ¬ (false = true) by decide)] at H; exact H
  clear H
  have H := H1
  clear H1
  simp only [Option.some.injEq, Prod.mk.injEq] at H
  obtain ⟨rfl, rfl⟩ := H
  go_enter Try.func67, Try.ntmps67
  go_wp2_with (first | ((with_reducible refine gate_callee (f := 52) rfl ?_); refine goesL_ (some 7) rfl rfl Try.func52 (by kernel_rfl) rfl #[.int .i64 a0] rfl z5_ ?_; (with_reducible refine (shape_is.calls a0 false _ A3.out).mono ?_); rintro e w' ⟨rfl, ⟨nd, rfl⟩⟩; refine ⟨_, rfl, ?_⟩))
  go_ret2
  exact ⟨by first | rfl | (simp; done) | (simp [*]; done), by repeat (first | exact Drawn0.refl _ | apply Drawn0.step)⟩
end Go.Proofs.Ytfegofnplcmacaa.PAll
namespace Go.Proofs.Ytfegofnplcmacaa.PAll
open Go.RowKit Go.Proofs.YtfegofnplcmacaaW.PrintWords Go.Proofs.YtfegofnplcmacaaW.PrintLast Go.Proofs.YtfegofnplcmacaaW.PrintMore
attribute [local go_sem] max2_int min2_int max_two min_two max_three min_three max_four min_four
set_option linter.unusedVariables false
set_option linter.unusedSimpArgs false
def bits_LeadingZeros64.f (a0 : Int) : Option (Int) := (bits_Len64.f a0).bind fun t446 => (some (wrap64 (64 - t446)))
set_option maxHeartbeats 8000000 in
set_option maxRecDepth 100000 in
theorem bits_LeadingZeros64.calls (a0 : Int) (r : Int) (w : World) (h : bits_LeadingZeros64.f a0 = some r) :
  Calls Try.prog 75 #[.int .u64 a0] w fun e w' => e = .returned (.int .i64 r) ∧ Drawn0 w w' := by
 have H : ((bits_Len64.f a0).bind fun t446 => (some (wrap64 (64 - t446)))) = some r := h
 clear h
 replace H := Option.bind_eq_some_iff.mp H
 obtain ⟨t446, A20, H⟩ := H
 replace H : (some (wrap64 (64 - t446))) = some r := H
 have A2 := Aside0.mk A20
 clear A20
 obtain rfl := Option.some.inj H
 go_enter Try.func75, Try.ntmps75
 go_wp2_with (first | ((with_reducible refine gate_callee (f := 70) rfl ?_); refine goesL_ (some 4) rfl rfl Try.func70 (by kernel_rfl) rfl #[.int .u64 a0] rfl z5_ ?_; (with_reducible refine (bits_Len64.calls a0 t446 _ A2.out).mono ?_); rintro e w' ⟨rfl, ⟨nd, rfl⟩⟩; refine ⟨_, rfl, ?_⟩))
 go_ret
 exact ⟨by first | rfl | (simp; done) | (simp [*]; done), by repeat (first | exact Drawn0.refl _ | apply Drawn0.step)⟩
end Go.Proofs.Ytfegofnplcmacaa.PAll
namespace Go.Proofs.Ytfegofnplcmacaa.PAll
open Go.RowKit Go.Proofs.YtfegofnplcmacaaW.PrintWords Go.Proofs.YtfegofnplcmacaaW.PrintLast Go.Proofs.YtfegofnplcmacaaW.PrintMore
attribute [local go_sem] max2_int min2_int max_two min_two max_three min_three max_four min_four
set_option linter.unusedVariables false
set_option linter.unusedSimpArgs false
def lead_Run.j0 : Nat → Int → Int → Bool → Option (Bool × Int × Option Int)
 | 0, _, _, _ => none
 | k + 1, x0, x1, x13 => if x13 = true then (some (false, 0, some 1)) else (if 0 ≤ (wrap64 (64 - x1)) then (if ((shl .u64 x0 (wrap64 (64 - x1))) / 9223372036854775808) = 1 then ((bits_LeadingZeros64.f (Go.bits .xor .u64 18446744073709551615 (shl .u64 x0 (wrap64 (64 - x1))))).bind fun t447 => (some ((((shl .u64 x0 (wrap64 (64 - x1))) / 9223372036854775808) == 1), mn t447 x1, none))) else ((bits_LeadingZeros64.f (shl .u64 x0 (wrap64 (64 - x1)))).bind fun t448 => (some ((((shl .u64 x0 (wrap64 (64 - x1))) / 9223372036854775808) == 1), mn t448 x1, none)))) else (none))
def lead_Run.f (k : Nat) (a0 : Int) (a1 : Int) : Option (Bool × Int × Option Int) := if a1 < 1 then (lead_Run.j0 k a0 a1 true) else (lead_Run.j0 k a0 a1 (decide (a1 > 64)))
theorem lead_Run.mono_l : ∀ k, (∀ y0 y1 y2, LeO (lead_Run.j0 k y0 y1 y2) (lead_Run.j0 (k + 1) y0 y1 y2))
 | 0 => fun _ _ _ r h => by simp [lead_Run.j0] at h
 | k + 1 => by
  have ih0 := lead_Run.mono_l k
  ·intro y0 y1 y2
   unfold lead_Run.j0
   repeat' first
   | (with_reducible exact ih0 _ _ _)
   | (with_reducible exact LeO.refl _)
   | (with_reducible exact LeO.none _)
   | (with_reducible refine LeO.ite ?_ ?_)
   | (with_reducible refine LeO.bind ?_ (fun _ => ?_))
   | exact ih0 _ _ _
   | exact LeO.none _
   | refine LeO.ite ?_ ?_
   | refine LeO.bind ?_ (fun _ => ?_)
theorem lead_Run.mono : ∀ a0 a1 k, LeO (lead_Run.f k a0 a1) (lead_Run.f (k + 1) a0 a1) := by
 intro a0 a1 k
 have ih0 := lead_Run.mono_l k
 unfold lead_Run.f
 repeat' first
   | (with_reducible exact ih0 _ _ _)
   | (with_reducible exact LeO.refl _)
   | (with_reducible exact LeO.none _)
   | (with_reducible refine LeO.ite ?_ ?_)
   | (with_reducible refine LeO.bind ?_ (fun _ => ?_))
   | exact ih0 _ _ _
   | exact LeO.none _
   | refine LeO.ite ?_ ?_
   | refine LeO.bind ?_ (fun _ => ?_)
set_option maxHeartbeats 8000000 in
set_option maxRecDepth 100000 in
theorem lead_Run.calls (k : Nat) (a0 : Int) (a1 : Int) (r1 : Bool) (r2 : Int) (r3 : Option Int) (w : World) (h : lead_Run.f k a0 a1 = some (r1, r2, r3)) :
  Calls Try.prog 68 #[.int .u64 a0, .int .i64 a1] w fun e w' => e = .returned (.tuple #[.bool r1, .int .i64 r2, errW r3]) ∧ Below w.heap.size w w' := by
 have hu27 := Try.underlying27
 have hu55 := Try.underlying55
 have HB := Aside0.mk (Below.refl w.heap.size w)
 have H : (if a1 < 1 then (lead_Run.j0 k a0 a1 true) else (lead_Run.j0 k a0 a1 (decide (a1 > 64)))) = some (r1, r2, r3) := h
 clear h
 have HC3 := Aside0.mk H
 clear H
 go_enter Try.func68, Try.ntmps68
 go_upto_region 1 with (fail)
 go_cut [13] (fun v13 wc => ∃ (kq : Nat) (x13_2 : Bool), v13 = .bool x13_2 ∧ Aside0 (lead_Run.j0 kq a0 a1 x13_2 = some (r1, r2, r3)) ∧ Aside0 (kq ≤ k) ∧ Aside0 (Below w.heap.size w wc))
 case first =>
  have H := HC3.out
  clear HC3
  by_cases c4 : a1 < 1
  ·rw [if_pos c4] at H
   have c4b0 : decide (a1 < 1) = true := decide_eq_true c4
   clear c4
   (first | rw [c4b0] | (simp only [i64_w, i32_w]; rw [c4b0]) | skip)
   have H' := Aside0.mk H
   clear H
   go_wp2
   go_meet
   case rel => exact ⟨_, (true), (by first | rfl | (simp; done) | (simp [*]; done)), H', ⟨by first | omega | exact Nat.le_refl _⟩, ⟨by repeat (first | (with_reducible first | exact HB.out | apply below_alloc | apply pw_below_drewN | apply below_drew1) | exact HB.out)⟩⟩
  ·rw [if_neg c4] at H
   have c4b0 : decide (a1 < 1) = false := decide_eq_false c4
   clear c4
   (first | rw [c4b0] | (simp only [i64_w, i32_w]; rw [c4b0]) | skip)
   have H' := Aside0.mk H
   clear H
   go_wp2
   go_meet
   case rel => exact ⟨_, (decide (a1 > 64)), (by first | rfl | (simp; done) | (simp [*]; done)), H', ⟨by first | omega | exact Nat.le_refl _⟩, ⟨by repeat (first | (with_reducible first | exact HB.out | apply below_alloc | apply pw_below_drewN | apply below_drew1) | exact HB.out)⟩⟩
 case rest =>
  clear HC3
  try clear p2
  try clear c4
  try clear c4b0
  obtain ⟨kq, x13_2, rfl, HA, HJ2, HB⟩ := hcut
  cases kq with
  | zero => exact absurd HA.out (by simp [lead_Run.j0])
  | succ kj2 =>
   have H := HA.out
   clear HA
   simp only [lead_Run.j0] at H
   by_cases c5 : x13_2 = true
   ·subst c5
    have H1 : (some (false, 0, some 1)) = some (r1, r2, r3) := by rw [if_pos rfl] at H; exact H
    clear H
    have H := H1
    clear H1
    simp only [Option.some.injEq, Prod.mk.injEq] at H
    obtain ⟨rfl, rfl, rfl⟩ := H
    go_wp2
    go_ret3
    exact ⟨by first | rfl | (simp [errW_none, errW_some] <;> rfl) | (simp [*, errW_none, errW_some] <;> rfl), by repeat (first | (with_reducible first | exact HB.out | apply below_alloc | apply pw_below_drewN | apply below_drew1) | exact HB.out)⟩
   ·replace c5 := Bool.eq_false_iff.mpr c5
    subst c5
    have H1 : (if 0 ≤ (wrap64 (64 - a1)) then (if ((shl .u64 a0 (wrap64 (64 - a1))) / 9223372036854775808) = 1 then ((bits_LeadingZeros64.f (Go.bits .xor .u64 18446744073709551615 (shl .u64 a0 (wrap64 (64 - a1))))).bind fun t447 => (some ((((shl .u64 a0 (wrap64 (64 - a1))) / 9223372036854775808) == 1), mn t447 a1, none))) else ((bits_LeadingZeros64.f (shl .u64 a0 (wrap64 (64 - a1)))).bind fun t448 => (some ((((shl .u64 a0 (wrap64 (64 - a1))) / 9223372036854775808) == 1), mn t448 a1, none)))) else (none)) = some (r1, r2, r3) := by rw [if_neg (show ¬ (false = true) by decide)] at H; exact H
    clear H
    have H := H1
    clear H1
    obtain ⟨ji6, hji6⟩ : ∃ j_ : Int, (wrap64 (64 - a1)) = j_ := ⟨_, rfl⟩
    replace H : (if 0 ≤ (ji6) then (if ((shl .u64 a0 (ji6)) / 9223372036854775808) = 1 then ((bits_LeadingZeros64.f (Go.bits .xor .u64 18446744073709551615 (shl .u64 a0 (ji6)))).bind fun t447 => (some ((((shl .u64 a0 (ji6)) / 9223372036854775808) == 1), mn t447 a1, none))) else ((bits_LeadingZeros64.f (shl .u64 a0 (ji6))).bind fun t448 => (some ((((shl .u64 a0 (ji6)) / 9223372036854775808) == 1), mn t448 a1, none)))) else (none)) = some (r1, r2, r3) := by first | (rw [hji6] at H; exact H) | (simp only [hji6] at H ⊢; exact H)
    have hji6w : (IntKind.i64.wrap (64 - a1)) = ji6 := (i64_w _).trans hji6
    by_cases c7 : 0 ≤ (ji6)
    ·rw [if_pos c7] at H
     have c7b0 := eq_true c7
     have c7b1 : decide (0 ≤ (ji6)) = true := decide_eq_true c7
     clear c7
     obtain ⟨ji8, hji8⟩ : ∃ j_ : Int, (shl .u64 a0 (ji6)) = j_ := ⟨_, rfl⟩
     replace H : (if ((ji8) / 9223372036854775808) = 1 then ((bits_LeadingZeros64.f (Go.bits .xor .u64 18446744073709551615 (ji8))).bind fun t447 => (some ((((ji8) / 9223372036854775808) == 1), mn t447 a1, none))) else ((bits_LeadingZeros64.f (ji8)).bind fun t448 => (some ((((ji8) / 9223372036854775808) == 1), mn t448 a1, none)))) = some (r1, r2, r3) := by first | (rw [hji8] at H; exact H) | (simp only [hji8] at H ⊢; exact H)
     have hji8_ : (IntKind.u64.wrap (a0 * 2 ^ min (ji6).toNat 64)) = ji8 := hji8
     have hji8z : (ji6) ≤ 64 → (IntKind.u64.wrap (a0 * 2 ^ (ji6).toNat)) = ji8 := shl_small hji8
     (try (have hji8Z_ := hji8z (by omega)))
     by_cases c9 : ((ji8) / 9223372036854775808) = 1
     ·rw [if_pos c9] at H
      have c9b0 : (((ji8) / 9223372036854775808) == 1) = true := beq_iff_eq.mpr c9
      have c9b1 : (((ji8) / 9223372036854775808) != 1) = false := bne_eq_false_iff_eq.mpr c9
      clear c9
      replace H := Option.bind_eq_some_iff.mp H
      obtain ⟨t447, A100, H⟩ := H
      replace H : (some ((((ji8) / 9223372036854775808) == 1), mn t447 a1, none)) = some (r1, r2, r3) := H
      have A10 := Aside0.mk A100
      clear A100
      obtain ⟨ji11, hji11⟩ : ∃ j_ : Int, (mn t447 a1) = j_ := ⟨_, rfl⟩
      replace H : (some ((((ji8) / 9223372036854775808) == 1), ji11, none)) = some (r1, r2, r3) := by first | (rw [hji11] at H; exact H) | (simp only [hji11] at H ⊢; exact H)
      (try rw [hji11] at A10)
      have hji11_ : (if a1 < t447 then a1 else t447) = ji11 := hji11
      simp only [Option.some.injEq, Prod.mk.injEq] at H
      obtain ⟨rfl, rfl, rfl⟩ := H
      go_wp2_with (first | ((with_reducible refine gate_callee (f := 75) rfl ?_); refine goesL_ (some 27) rfl rfl Try.func75 (by kernel_rfl) rfl #[.int .u64 (Go.bits .xor .u64 18446744073709551615 (ji8))] rfl (by (try simp only [List.map_toArray, List.map_cons, List.map_nil]); first | done | (simp only [hji8]; rfl) | rfl | (simp only [List.length_drop, List.length_take]; rfl)) ?_; (with_reducible refine (bits_LeadingZeros64.calls (Go.bits .xor .u64 18446744073709551615 (ji8)) t447 _ A10.out).mono ?_); rintro e w' ⟨rfl, ⟨nd, rfl⟩⟩; refine ⟨_, rfl, ?_⟩))
      go_ret3
      exact ⟨by first | rfl | (simp [errW_none, errW_some] <;> rfl) | (simp only [← hji6, ← hji8, ← hji11]; first | rfl | (simp [errW_none, errW_some] <;> rfl)) | (simp [*, errW_none, errW_some] <;> rfl), by repeat (first | (with_reducible first | exact HB.out | apply below_alloc | apply pw_below_drewN | apply below_drew1) | exact HB.out)⟩
     ·rw [if_neg c9] at H
      have c9b0 : (((ji8) / 9223372036854775808) == 1) = false := beq_eq_false_iff_ne.mpr c9
      have c9b1 : (((ji8) / 9223372036854775808) != 1) = true := bne_iff_ne.mpr c9
      replace H := Option.bind_eq_some_iff.mp H
      obtain ⟨t448, A120, H⟩ := H
      replace H : (some ((((ji8) / 9223372036854775808) == 1), mn t448 a1, none)) = some (r1, r2, r3) := H
      have A12 := Aside0.mk A120
      clear A120
      obtain ⟨ji13, hji13⟩ : ∃ j_ : Int, (mn t448 a1) = j_ := ⟨_, rfl⟩
      replace H : (some ((((ji8) / 9223372036854775808) == 1), ji13, none)) = some (r1, r2, r3) := by first | (rw [hji13] at H; exact H) | (simp only [hji13] at H ⊢; exact H)
      (try rw [hji13] at A12)
      have hji13_ : (if a1 < t448 then a1 else t448) = ji13 := hji13
      simp only [Option.some.injEq, Prod.mk.injEq] at H
      obtain ⟨rfl, rfl, rfl⟩ := H
      go_wp2_with (first | ((with_reducible refine gate_callee (f := 75) rfl ?_); refine goesL_ (some 27) rfl rfl Try.func75 (by kernel_rfl) rfl #[.int .u64 ji8] rfl (by (try simp only [List.map_toArray, List.map_cons, List.map_nil]); first | done | (simp only [hji8]; rfl) | rfl | (simp only [List.length_drop, List.length_take]; rfl)) ?_; (with_reducible refine (bits_LeadingZeros64.calls ji8 t448 _ A12.out).mono ?_); rintro e w' ⟨rfl, ⟨nd, rfl⟩⟩; refine ⟨_, rfl, ?_⟩))
      go_ret3
      exact ⟨by first | rfl | (simp [errW_none, errW_some] <;> rfl) | (simp only [← hji6, ← hji8, ← hji13]; first | rfl | (simp [errW_none, errW_some] <;> rfl)) | (simp [*, errW_none, errW_some] <;> rfl), by repeat (first | (with_reducible first | exact HB.out | apply below_alloc | apply pw_below_drewN | apply below_drew1) | exact HB.out)⟩
    ·rw [if_neg c7] at H
     exact absurd H (by simp)
end Go.Proofs.Ytfegofnplcmacaa.PAll
namespace Go.Proofs.Ytfegofnplcmacaa.PAll
open Go.RowKit Go.Proofs.YtfegofnplcmacaaW.PrintWords Go.Proofs.YtfegofnplcmacaaW.PrintLast Go.Proofs.YtfegofnplcmacaaW.PrintMore
attribute [local go_sem] max2_int min2_int max_two min_two max_three min_three max_four min_four
set_option linter.unusedVariables false
set_option linter.unusedSimpArgs false
def lead_field.f (a0 : Int) (a1 : Int) : Option (Bool) := if a0 ≥ 0 then (if a0 ≤ 64 then (if a1 ≥ 0 then (some (decide (a1 ≤ (wrap64 (64 - a0))))) else (some false)) else (some false)) else (some false)
set_option maxHeartbeats 8000000 in
set_option maxRecDepth 100000 in
theorem lead_field.calls (a0 : Int) (a1 : Int) (r : Bool) (w : World) (h : lead_field.f a0 a1 = some r) :
  Calls Try.prog 76 #[.int .i64 a0, .int .i64 a1] w fun e w' => e = .returned (.bool r) ∧ Drawn0 w w' := by
 have H : (if a0 ≥ 0 then (if a0 ≤ 64 then (if a1 ≥ 0 then (some (decide (a1 ≤ (wrap64 (64 - a0))))) else (some false)) else (some false)) else (some false)) = some r := h
 clear h
 by_cases c3 : a0 ≥ 0
 ·rw [if_pos c3] at H
  have c3b0 : decide (0 ≤ a0) = true := decide_eq_true c3
  clear c3
  by_cases c4 : a0 ≤ 64
  ·rw [if_pos c4] at H
   have c4b0 : decide (a0 ≤ 64) = true := decide_eq_true c4
   clear c4
   by_cases c5 : a1 ≥ 0
   ·rw [if_pos c5] at H
    have c5b0 : decide (0 ≤ a1) = true := decide_eq_true c5
    clear c5
    obtain rfl := Option.some.inj H
    go_enter Try.func76, Try.ntmps76
    go_wp2
    go_ret
    exact ⟨by first | rfl | (simp; done) | (simp [*]; done), by repeat (first | exact Drawn0.refl _ | apply Drawn0.step)⟩
   ·rw [if_neg c5] at H
    have c5b0 : decide (0 ≤ a1) = false := decide_eq_false c5
    clear c5
    obtain rfl := Option.some.inj H
    go_enter Try.func76, Try.ntmps76
    go_wp2
    go_ret
    exact ⟨by first | rfl | (simp; done) | (simp [*]; done), by repeat (first | exact Drawn0.refl _ | apply Drawn0.step)⟩
  ·rw [if_neg c4] at H
   have c4b0 : decide (a0 ≤ 64) = false := decide_eq_false c4
   clear c4
   obtain rfl := Option.some.inj H
   go_enter Try.func76, Try.ntmps76
   go_wp2
   go_ret
   exact ⟨by first | rfl | (simp; done) | (simp [*]; done), by repeat (first | exact Drawn0.refl _ | apply Drawn0.step)⟩
 ·rw [if_neg c3] at H
  have c3b0 : decide (0 ≤ a0) = false := decide_eq_false c3
  clear c3
  obtain rfl := Option.some.inj H
  go_enter Try.func76, Try.ntmps76
  go_wp2
  go_ret
  exact ⟨by first | rfl | (simp; done) | (simp [*]; done), by repeat (first | exact Drawn0.refl _ | apply Drawn0.step)⟩
end Go.Proofs.Ytfegofnplcmacaa.PAll
namespace Go.Proofs.Ytfegofnplcmacaa.PAll
open Go.RowKit Go.Proofs.YtfegofnplcmacaaW.PrintWords Go.Proofs.YtfegofnplcmacaaW.PrintLast Go.Proofs.YtfegofnplcmacaaW.PrintMore
attribute [local go_sem] max2_int min2_int max_two min_two max_three min_three max_four min_four
set_option linter.unusedVariables false
set_option linter.unusedSimpArgs false
def lead_Field.f (a0 : Int) (a1 : Int) (a2 : Int) : Option (Int × Option Int) := (lead_field.f a1 a2).bind fun t449 => (if t449 = true then (if 0 ≤ a1 then ((lead_ones.f a2).bind fun t450 => (some (Go.bits .and .u64 (shr .u64 a0 a1) t450, none))) else (none)) else (some (0, some 1)))
set_option maxHeartbeats 8000000 in
set_option maxRecDepth 100000 in
theorem lead_Field.calls (a0 : Int) (a1 : Int) (a2 : Int) (r1 : Int) (r2 : Option Int) (w : World) (h : lead_Field.f a0 a1 a2 = some (r1, r2)) :
  Calls Try.prog 69 #[.int .u64 a0, .int .i64 a1, .int .i64 a2] w fun e w' => e = .returned (.tuple #[.int .u64 r1, errW r2]) ∧ Below w.heap.size w w' := by
 have hu27 := Try.underlying27
 have hu55 := Try.underlying55
 have HB := Aside0.mk (Below.refl w.heap.size w)
 have H : ((lead_field.f a1 a2).bind fun t449 => (if t449 = true then (if 0 ≤ a1 then ((lead_ones.f a2).bind fun t450 => (some (Go.bits .and .u64 (shr .u64 a0 a1) t450, none))) else (none)) else (some (0, some 1)))) = some (r1, r2) := h
 clear h
 replace H := Option.bind_eq_some_iff.mp H
 obtain ⟨t449, A40, H⟩ := H
 replace H : (if t449 = true then (if 0 ≤ a1 then ((lead_ones.f a2).bind fun t450 => (some (Go.bits .and .u64 (shr .u64 a0 a1) t450, none))) else (none)) else (some (0, some 1))) = some (r1, r2) := H
 have A4 := Aside0.mk A40
 clear A40
 by_cases c5 : t449 = true
 ·subst c5
  have H1 : (if 0 ≤ a1 then ((lead_ones.f a2).bind fun t450 => (some (Go.bits .and .u64 (shr .u64 a0 a1) t450, none))) else (none)) = some (r1, r2) := by rw [if_pos rfl] at H; exact H
  clear H
  have H := H1
  clear H1
  by_cases c6 : 0 ≤ a1
  ·rw [if_pos c6] at H
   have c6b0 := eq_true c6
   have c6b1 : decide (0 ≤ a1) = true := decide_eq_true c6
   clear c6
   obtain ⟨ji7, hji7⟩ : ∃ j_ : Int, (shr .u64 a0 a1) = j_ := ⟨_, rfl⟩
   replace H : ((lead_ones.f a2).bind fun t450 => (some (Go.bits .and .u64 (ji7) t450, none))) = some (r1, r2) := by first | (rw [hji7] at H; exact H) | (simp only [hji7] at H ⊢; exact H)
   (try rw [hji7] at A4)
   have hji7_ : (a0 / 2 ^ min a1.toNat 64) = ji7 := hji7
   have hji7z : a1 ≤ 64 → (a0 / 2 ^ a1.toNat) = ji7 := shr_small hji7
   (try (have hji7Z_ := hji7z (by omega)))
   replace H := Option.bind_eq_some_iff.mp H
   obtain ⟨t450, A80, H⟩ := H
   replace H : (some (Go.bits .and .u64 (ji7) t450, none)) = some (r1, r2) := H
   have A8 := Aside0.mk A80
   clear A80
   simp only [Option.some.injEq, Prod.mk.injEq] at H
   obtain ⟨rfl, rfl⟩ := H
   go_enter Try.func69, Try.ntmps69
   go_wp2_with (first | (go_at_call 76; (with_reducible refine (lead_field.calls a1 a2 true _ A4.out).mono ?_); rintro e w' ⟨rfl, ⟨nd, rfl⟩⟩; (try first | exact ⟨rfl, _, World.drewN_drewN _ _ _⟩ | exact ⟨rfl, _, Eq.trans (World.drewN_drewN _ _ _) (congrArg (World.drewN _) (Nat.add_assoc _ _ _))⟩)) | (go_at_call 72; (with_reducible refine (lead_ones.calls a2 t450 _ A8.out).mono ?_); rintro e w' ⟨rfl, ⟨nd, rfl⟩⟩; (try first | exact ⟨rfl, _, World.drewN_drewN _ _ _⟩ | exact ⟨rfl, _, Eq.trans (World.drewN_drewN _ _ _) (congrArg (World.drewN _) (Nat.add_assoc _ _ _))⟩)))
   repeat (go_quiet (first | (go_at_call 76; (with_reducible refine (lead_field.calls a1 a2 true _ A4.out).mono ?_); rintro e w' ⟨rfl, ⟨nd, rfl⟩⟩; (try first | exact ⟨rfl, _, World.drewN_drewN _ _ _⟩ | exact ⟨rfl, _, Eq.trans (World.drewN_drewN _ _ _) (congrArg (World.drewN _) (Nat.add_assoc _ _ _))⟩)) | (go_at_call 72; (with_reducible refine (lead_ones.calls a2 t450 _ A8.out).mono ?_); rintro e w' ⟨rfl, ⟨nd, rfl⟩⟩; (try first | exact ⟨rfl, _, World.drewN_drewN _ _ _⟩ | exact ⟨rfl, _, Eq.trans (World.drewN_drewN _ _ _) (congrArg (World.drewN _) (Nat.add_assoc _ _ _))⟩))); try go_wp2_with (first | (go_at_call 76; (with_reducible refine (lead_field.calls a1 a2 true _ A4.out).mono ?_); rintro e w' ⟨rfl, ⟨nd, rfl⟩⟩; (try first | exact ⟨rfl, _, World.drewN_drewN _ _ _⟩ | exact ⟨rfl, _, Eq.trans (World.drewN_drewN _ _ _) (congrArg (World.drewN _) (Nat.add_assoc _ _ _))⟩)) | (go_at_call 72; (with_reducible refine (lead_ones.calls a2 t450 _ A8.out).mono ?_); rintro e w' ⟨rfl, ⟨nd, rfl⟩⟩; (try first | exact ⟨rfl, _, World.drewN_drewN _ _ _⟩ | exact ⟨rfl, _, Eq.trans (World.drewN_drewN _ _ _) (congrArg (World.drewN _) (Nat.add_assoc _ _ _))⟩))))
   go_ret2
   exact ⟨by first | rfl | (simp [errW_none, errW_some] <;> rfl) | (simp only [← hji7]; first | rfl | (simp [errW_none, errW_some] <;> rfl)) | (simp [*, errW_none, errW_some] <;> rfl), by repeat (first | (with_reducible first | exact HB.out | apply below_alloc | apply pw_below_drewN | apply below_drew1) | exact HB.out)⟩
  ·rw [if_neg c6] at H
   exact absurd H (by simp)
 ·replace c5 := Bool.eq_false_iff.mpr c5
  subst c5
  have H1 : (some (0, some 1)) = some (r1, r2) := by rw [if_neg (show ¬ (false = true) by decide)] at H; exact H
  clear H
  have H := H1
  clear H1
  simp only [Option.some.injEq, Prod.mk.injEq] at H
  obtain ⟨rfl, rfl⟩ := H
  go_enter Try.func69, Try.ntmps69
  go_wp2_with (first | (go_at_call 76; (with_reducible refine (lead_field.calls a1 a2 false _ A4.out).mono ?_); rintro e w' ⟨rfl, ⟨nd, rfl⟩⟩; (try first | exact ⟨rfl, _, World.drewN_drewN _ _ _⟩ | exact ⟨rfl, _, Eq.trans (World.drewN_drewN _ _ _) (congrArg (World.drewN _) (Nat.add_assoc _ _ _))⟩)))
  repeat (go_quiet (first | (go_at_call 76; (with_reducible refine (lead_field.calls a1 a2 false _ A4.out).mono ?_); rintro e w' ⟨rfl, ⟨nd, rfl⟩⟩; (try first | exact ⟨rfl, _, World.drewN_drewN _ _ _⟩ | exact ⟨rfl, _, Eq.trans (World.drewN_drewN _ _ _) (congrArg (World.drewN _) (Nat.add_assoc _ _ _))⟩))); try go_wp2_with (first | (go_at_call 76; (with_reducible refine (lead_field.calls a1 a2 false _ A4.out).mono ?_); rintro e w' ⟨rfl, ⟨nd, rfl⟩⟩; (try first | exact ⟨rfl, _, World.drewN_drewN _ _ _⟩ | exact ⟨rfl, _, Eq.trans (World.drewN_drewN _ _ _) (congrArg (World.drewN _) (Nat.add_assoc _ _ _))⟩))))
  go_ret2
  exact ⟨by first | rfl | (simp [errW_none, errW_some] <;> rfl) | (simp [*, errW_none, errW_some] <;> rfl), by repeat (first | (with_reducible first | exact HB.out | apply below_alloc | apply pw_below_drewN | apply below_drew1) | exact HB.out)⟩
end Go.Proofs.Ytfegofnplcmacaa.PAll
namespace Go.Proofs.Ytfegofnplcmacaa.PAll
open Go.RowKit Go.Proofs.YtfegofnplcmacaaW.PrintWords Go.Proofs.YtfegofnplcmacaaW.PrintLast Go.Proofs.YtfegofnplcmacaaW.PrintMore
attribute [local go_sem] max2_int min2_int max_two min_two max_three min_three max_four min_four
set_option linter.unusedVariables false
set_option linter.unusedSimpArgs false
mutual
def codec_Split.j0 : Nat → Int → Int → Option Int → Bool → Option (Bool × Bool × Int × Int × Int × Int × Int × Int × Option Int)
 | 0, _, _, _, _ => none
 | k + 1, x0, x1, x7, x25 => if x25 = true then (some (false, false, 0, 0, 0, 0, 0, 0, x7)) else ((shape_Rank.f x0 x1).bind fun bt456 => (if bt456.1 < 0 then (codec_Split.j1 k x0 (IntKind.u64.wrap (-x1)) true false 0 0 0 0 0 0) else (codec_Split.j1 k x0 x1 false false 0 0 0 0 0 0)))
def codec_Split.j1 : Nat → Int → Int → Bool → Bool → Int → Int → Int → Int → Int → Int → Option (Bool × Bool × Int × Int × Int × Int × Int × Int × Option Int)
 | 0, _, _, _, _, _, _, _, _, _, _ => none
 | k + 1, x0, x1, x456000, x456001, x456002, x456003, x456004, x456005, x456006, x456007 => (lead_Run.f k x1 (wrap64 (x0 - 1))).bind fun bt458 => (if bt458.1 = true then ((lead_Field.f x1 (wrap64 ((mx (wrap64 ((wrap64 ((wrap64 (x0 - 1)) - bt458.2.1)) - 1)) 0) - (mn (mx (wrap64 ((wrap64 ((wrap64 (x0 - 1)) - bt458.2.1)) - 1)) 0) 2))) (mn (mx (wrap64 ((wrap64 ((wrap64 (x0 - 1)) - bt458.2.1)) - 1)) 0) 2)).bind fun bt461 => ((lead_Field.f x1 0 (wrap64 ((mx (wrap64 ((wrap64 ((wrap64 (x0 - 1)) - bt458.2.1)) - 1)) 0) - (mn (mx (wrap64 ((wrap64 ((wrap64 (x0 - 1)) - bt458.2.1)) - 1)) 0) 2)))).bind fun bt463 => (some (x456000, bt458.1, bt458.2.1, wrap64 (bt458.2.1 - 1), mn (mx (wrap64 ((wrap64 ((wrap64 (x0 - 1)) - bt458.2.1)) - 1)) 0) 2, shl .i64 (wrap64 (bt461.1)) (2 - (mn (mx (wrap64 ((wrap64 ((wrap64 (x0 - 1)) - bt458.2.1)) - 1)) 0) 2)), wrap64 ((mx (wrap64 ((wrap64 ((wrap64 (x0 - 1)) - bt458.2.1)) - 1)) 0) - (mn (mx (wrap64 ((wrap64 ((wrap64 (x0 - 1)) - bt458.2.1)) - 1)) 0) 2)), bt463.1, none)))) else ((lead_Field.f x1 (wrap64 ((mx (wrap64 ((wrap64 ((wrap64 (x0 - 1)) - bt458.2.1)) - 1)) 0) - (mn (mx (wrap64 ((wrap64 ((wrap64 (x0 - 1)) - bt458.2.1)) - 1)) 0) 2))) (mn (mx (wrap64 ((wrap64 ((wrap64 (x0 - 1)) - bt458.2.1)) - 1)) 0) 2)).bind fun bt465 => ((lead_Field.f x1 0 (wrap64 ((mx (wrap64 ((wrap64 ((wrap64 (x0 - 1)) - bt458.2.1)) - 1)) 0) - (mn (mx (wrap64 ((wrap64 ((wrap64 (x0 - 1)) - bt458.2.1)) - 1)) 0) 2)))).bind fun bt467 => (some (x456000, bt458.1, bt458.2.1, wrap64 (-bt458.2.1), mn (mx (wrap64 ((wrap64 ((wrap64 (x0 - 1)) - bt458.2.1)) - 1)) 0) 2, shl .i64 (wrap64 (bt465.1)) (2 - (mn (mx (wrap64 ((wrap64 ((wrap64 (x0 - 1)) - bt458.2.1)) - 1)) 0) 2)), wrap64 ((mx (wrap64 ((wrap64 ((wrap64 (x0 - 1)) - bt458.2.1)) - 1)) 0) - (mn (mx (wrap64 ((wrap64 ((wrap64 (x0 - 1)) - bt458.2.1)) - 1)) 0) 2)), bt467.1, none)))))
end
def codec_Split.f (k : Nat) (a0 : Int) (a1 : Int) : Option (Bool × Bool × Int × Int × Int × Int × Int × Int × Option Int) := (shape_Kind.f a0 a1).bind fun bt452 => (if bt452.2.isNone = true then (codec_Split.j0 k a0 a1 none (bt452.1 != 1)) else (codec_Split.j0 k a0 a1 (some (bt452.2.getD 0)) true))
theorem codec_Split.mono_l : ∀ k, (∀ y0 y1 y2 y3, LeO (codec_Split.j0 k y0 y1 y2 y3) (codec_Split.j0 (k + 1) y0 y1 y2 y3)) ∧ (∀ y0 y1 y2 y3 y4 y5 y6 y7 y8 y9, LeO (codec_Split.j1 k y0 y1 y2 y3 y4 y5 y6 y7 y8 y9) (codec_Split.j1 (k + 1) y0 y1 y2 y3 y4 y5 y6 y7 y8 y9))
 | 0 => ⟨fun _ _ _ _ r h => by simp [codec_Split.j0] at h, fun _ _ _ _ _ _ _ _ _ _ r h => by simp [codec_Split.j1] at h⟩
 | k + 1 => by
  obtain ⟨ih0, ih1⟩ := codec_Split.mono_l k
  refine ⟨?_, ?_⟩
  ·intro y0 y1 y2 y3
   unfold codec_Split.j0
   repeat' first
   | (with_reducible exact ih0 _ _ _ _)
   | (with_reducible exact ih1 _ _ _ _ _ _ _ _ _ _)
   | (with_reducible exact lead_Run.mono _ _ _)
   | (with_reducible exact LeO.refl _)
   | (with_reducible exact LeO.none _)
   | (with_reducible refine LeO.ite ?_ ?_)
   | (with_reducible refine LeO.bind ?_ (fun _ => ?_))
   | exact ih0 _ _ _ _
   | exact ih1 _ _ _ _ _ _ _ _ _ _
   | exact lead_Run.mono _ _ _
   | exact LeO.none _
   | refine LeO.ite ?_ ?_
   | refine LeO.bind ?_ (fun _ => ?_)
  ·intro y0 y1 y2 y3 y4 y5 y6 y7 y8 y9
   unfold codec_Split.j1
   repeat' first
   | (with_reducible exact ih0 _ _ _ _)
   | (with_reducible exact ih1 _ _ _ _ _ _ _ _ _ _)
   | (with_reducible exact lead_Run.mono _ _ _)
   | (with_reducible exact LeO.refl _)
   | (with_reducible exact LeO.none _)
   | (with_reducible refine LeO.ite ?_ ?_)
   | (with_reducible refine LeO.bind ?_ (fun _ => ?_))
   | exact ih0 _ _ _ _
   | exact ih1 _ _ _ _ _ _ _ _ _ _
   | exact lead_Run.mono _ _ _
   | exact LeO.none _
   | refine LeO.ite ?_ ?_
   | refine LeO.bind ?_ (fun _ => ?_)
theorem codec_Split.mono : ∀ a0 a1 k, LeO (codec_Split.f k a0 a1) (codec_Split.f (k + 1) a0 a1) := by
 intro a0 a1 k
 obtain ⟨ih0, ih1⟩ := codec_Split.mono_l k
 unfold codec_Split.f
 repeat' first
   | (with_reducible exact ih0 _ _ _ _)
   | (with_reducible exact ih1 _ _ _ _ _ _ _ _ _ _)
   | (with_reducible exact lead_Run.mono _ _ _)
   | (with_reducible exact LeO.refl _)
   | (with_reducible exact LeO.none _)
   | (with_reducible refine LeO.ite ?_ ?_)
   | (with_reducible refine LeO.bind ?_ (fun _ => ?_))
   | exact ih0 _ _ _ _
   | exact ih1 _ _ _ _ _ _ _ _ _ _
   | exact lead_Run.mono _ _ _
   | exact LeO.none _
   | refine LeO.ite ?_ ?_
   | refine LeO.bind ?_ (fun _ => ?_)
set_option maxHeartbeats 8000000 in
set_option maxRecDepth 100000 in
theorem codec_Split.calls (k : Nat) (a0 : Int) (a1 : Int) (r1 : Bool) (r2 : Bool) (r3 : Int) (r4 : Int) (r5 : Int) (r6 : Int) (r7 : Int) (r8 : Int) (r9 : Option Int) (w : World) (h : codec_Split.f k a0 a1 = some (r1, r2, r3, r4, r5, r6, r7, r8, r9)) :
  Calls Try.prog 50 #[.int .i64 a0, .int .u64 a1] w fun e w' => e = .returned (.tuple #[.agg #[.bool r1, .bool r2, .int .i64 r3, .int .i64 r4, .int .i64 r5, .int .i64 r6, .int .i64 r7, .int .u64 r8], errW r9]) ∧ Below w.heap.size w w' := by
 have hu91 := Try.underlying91
 have hu27 := Try.underlying27
 have hu55 := Try.underlying55
 have HB := Aside0.mk (Below.refl w.heap.size w)
 have H : ((shape_Kind.f a0 a1).bind fun bt452 => (if bt452.2.isNone = true then (codec_Split.j0 k a0 a1 none (bt452.1 != 1)) else (codec_Split.j0 k a0 a1 (some (bt452.2.getD 0)) true))) = some (r1, r2, r3, r4, r5, r6, r7, r8, r9) := h
 clear h
 replace H := Option.bind_eq_some_iff.mp H
 obtain ⟨⟨t452, t453⟩, A30, H⟩ := H
 replace H : (if t453.isNone = true then (codec_Split.j0 k a0 a1 none (t452 != 1)) else (codec_Split.j0 k a0 a1 (some (t453.getD 0)) true)) = some (r1, r2, r3, r4, r5, r6, r7, r8, r9) := H
 have A3 := Aside0.mk A30
 clear A30
 have HC4 := Aside0.mk H
 clear H
 go_enter Try.func50, Try.ntmps50
 go_upto_region 2 with (first | ((with_reducible refine gate_dst (N := 4) rfl ?_); refine box_event ?hg (N := 4) ?hd (cs := #[.bool false, .bool false, .int .i64 0, .int .i64 0, .int .i64 0, .int .i64 0, .int .i64 0, .int .u64 0]) (t := 91) ?hr ?_; (case hd => rfl); (case hg => rfl); (case hr => first | (go_simp; done) | (go_simp; rfl)); intro gb451 hg w5 hbox hb; have n0_ := Aside0.mk (below_step (z3_ HB.out) hb); have n1_ := Aside0.mk (hbox); have n2_ := Aside0.mk ((by rw [hg]; exact (below_size (z3_ HB.out)) : w.heap.size ≤ gb451)); have n3_ := Aside0.mk ((by rw [hg]; exact (below_size (z3_ HB.out)) : w.heap.size ≤ gb451)); clear HB; have HB := n0_; have BK451 := n1_; have GW451 := n2_; have GE451 := n3_; clear n0_ n1_ n2_ n3_; clear hb hbox hg) | ((with_reducible refine gate_callee (f := 49) rfl ?_); refine goesL_ (some 17) rfl rfl Try.func49 (by kernel_rfl) rfl #[.int .i64 a0, .int .u64 a1] rfl z5_ ?_; (with_reducible refine (shape_Kind.calls a0 a1 t452 t453 _ A3.out).mono ?_); rintro e w' ⟨rfl, ⟨nd, rfl⟩⟩; refine ⟨_, rfl, ?_⟩; (try simp only [errW_none, errW_some])))
 (try simp only [Act.put, List.setIfInBounds_toArray, List.set_cons_zero, List.set_cons_succ])
 go_cut [25] (fun v25 wc => ∃ (kq : Nat) (x25_3 : Bool), v25 = .bool x25_3 ∧ Aside0 (codec_Split.j0 kq a0 a1 t453 x25_3 = some (r1, r2, r3, r4, r5, r6, r7, r8, r9)) ∧ Aside0 (kq ≤ k) ∧ Aside0 (wc.heap[gb451]? = some (.cells #[.bool false, .bool false, .int .i64 0, .int .i64 0, .int .i64 0, .int .i64 0, .int .i64 0, .int .u64 0] 91 (0, 0))) ∧ Aside0 (Below w.heap.size w wc))
 case first =>
  have H := HC4.out
  clear HC4
  rcases t453 with _ | q454
  ·have H1 : (codec_Split.j0 k a0 a1 none (t452 != 1)) = some (r1, r2, r3, r4, r5, r6, r7, r8, r9) := by rw [if_pos (show (none : Option Int).isNone = true by rfl)] at H; exact H
   clear H
   have H := H1
   clear H1
   try simp only [errW_none, errW_some]
   have H' := Aside0.mk H
   clear H
   go_wp2
   go_meet
   case rel => exact ⟨_, ((t452 != 1)), (by first | rfl | (simp; done) | (simp [*]; done)), H', ⟨by first | omega | exact Nat.le_refl _⟩, ⟨by refine z2_ ?_; exact BK451.out⟩, ⟨by repeat (first | (with_reducible first | exact HB.out | apply below_alloc | apply pw_below_drewN | apply below_drew1 | refine below_set ?_ GE451.out) | exact HB.out)⟩⟩
  ·have H1 : (codec_Split.j0 k a0 a1 (some q454) true) = some (r1, r2, r3, r4, r5, r6, r7, r8, r9) := by rw [if_neg (show ¬ (some q454).isNone = true by simp)] at H; exact H
   clear H
   have H := H1
   clear H1
   try simp only [errW_none, errW_some]
   have H' := Aside0.mk H
   clear H
   go_wp2
   go_meet
   case rel => exact ⟨_, (true), (by first | rfl | (simp; done) | (simp [*]; done)), H', ⟨by first | omega | exact Nat.le_refl _⟩, ⟨by refine z2_ ?_; exact BK451.out⟩, ⟨by repeat (first | (with_reducible first | exact HB.out | apply below_alloc | apply pw_below_drewN | apply below_drew1 | refine below_set ?_ GE451.out) | exact HB.out)⟩⟩
 case rest =>
  clear HC4
  try clear p2
  try clear c4
  try clear q4
  try clear c5
  try clear q454
  obtain ⟨kq, x25_3, rfl, HA, HJ3, BK451, HB⟩ := hcut
  cases kq with
  | zero => exact absurd HA.out (by simp [codec_Split.j0])
  | succ kj3 =>
   have H := HA.out
   clear HA
   simp only [codec_Split.j0] at H
   by_cases c6 : x25_3 = true
   ·subst c6
    have H1 : (some (false, false, 0, 0, 0, 0, 0, 0, t453)) = some (r1, r2, r3, r4, r5, r6, r7, r8, r9) := by rw [if_pos rfl] at H; exact H
    clear H
    have H := H1
    clear H1
    simp only [Option.some.injEq, Prod.mk.injEq] at H
    obtain ⟨rfl, rfl, rfl, rfl, rfl, rfl, rfl, rfl, rfl⟩ := H
    have hcz7_0 := z4_ BK451.out 0 (.bool false) rfl
    have hcz7_1 := z4_ BK451.out 1 (.bool false) rfl
    have hcz7_2 := z4_ BK451.out 2 (.int .i64 0) rfl
    have hcz7_3 := z4_ BK451.out 3 (.int .i64 0) rfl
    have hcz7_4 := z4_ BK451.out 4 (.int .i64 0) rfl
    have hcz7_5 := z4_ BK451.out 5 (.int .i64 0) rfl
    have hcz7_6 := z4_ BK451.out 6 (.int .i64 0) rfl
    have hcz7_7 := z4_ BK451.out 7 (.int .u64 0) rfl
    have hfz7_0 := blk_frozen BK451.out 0
    have hfz7_1 := blk_frozen BK451.out 1
    have hfz7_2 := blk_frozen BK451.out 2
    have hfz7_3 := blk_frozen BK451.out 3
    have hfz7_4 := blk_frozen BK451.out 4
    have hfz7_5 := blk_frozen BK451.out 5
    have hfz7_6 := blk_frozen BK451.out 6
    have hfz7_7 := blk_frozen BK451.out 7
    go_wp2
    refine bodyPost_ret (results_ct rfl _ _ gb451 91 #[.bool false, .bool false, .int .i64 0, .int .i64 0, .int .i64 0, .int .i64 0, .int .i64 0, .int .u64 0] (0, 0) _ rfl (by refine z2_ ?_; refine blk_put (cs := #[.bool false, .bool false, .int .i64 0, .int .i64 0, .int .i64 0, .int .i64 0, .int .i64 0, .int .u64 0]) ?_ 7 _ rfl; refine z2_ ?_; refine blk_put (cs := #[.bool false, .bool false, .int .i64 0, .int .i64 0, .int .i64 0, .int .i64 0, .int .i64 0, .int .u64 0]) ?_ 6 _ rfl; refine z2_ ?_; refine blk_put (cs := #[.bool false, .bool false, .int .i64 0, .int .i64 0, .int .i64 0, .int .i64 0, .int .i64 0, .int .u64 0]) ?_ 5 _ rfl; refine z2_ ?_; refine blk_put (cs := #[.bool false, .bool false, .int .i64 0, .int .i64 0, .int .i64 0, .int .i64 0, .int .i64 0, .int .u64 0]) ?_ 4 _ rfl; refine z2_ ?_; refine blk_put (cs := #[.bool false, .bool false, .int .i64 0, .int .i64 0, .int .i64 0, .int .i64 0, .int .i64 0, .int .u64 0]) ?_ 3 _ rfl; refine z2_ ?_; refine blk_put (cs := #[.bool false, .bool false, .int .i64 0, .int .i64 0, .int .i64 0, .int .i64 0, .int .i64 0, .int .u64 0]) ?_ 2 _ rfl; refine z2_ ?_; refine blk_put (cs := #[.bool false, .bool false, .int .i64 0, .int .i64 0, .int .i64 0, .int .i64 0, .int .i64 0, .int .u64 0]) ?_ 1 _ rfl; refine z2_ ?_; refine blk_put (cs := #[.bool false, .bool false, .int .i64 0, .int .i64 0, .int .i64 0, .int .i64 0, .int .i64 0, .int .u64 0]) ?_ 0 _ rfl; refine z2_ ?_; exact BK451.out) Try.underlying91 rfl (by kernel_rfl)) rfl ?_
    exact ⟨by first | rfl | (simp [errW_none, errW_some] <;> rfl) | (simp [*, errW_none, errW_some] <;> rfl), by repeat (first | (with_reducible first | exact HB.out | apply below_alloc | apply pw_below_drewN | apply below_drew1 | refine below_set ?_ GE451.out) | exact HB.out)⟩
   ·replace c6 := Bool.eq_false_iff.mpr c6
    subst c6
    have H1 : ((shape_Rank.f a0 a1).bind fun bt456 => (if bt456.1 < 0 then (codec_Split.j1 kj3 a0 (IntKind.u64.wrap (-a1)) true false 0 0 0 0 0 0) else (codec_Split.j1 kj3 a0 a1 false false 0 0 0 0 0 0))) = some (r1, r2, r3, r4, r5, r6, r7, r8, r9) := by rw [if_neg (show ¬ (false = true) by decide)] at H; exact H
    clear H
    have H := H1
    clear H1
    replace H := Option.bind_eq_some_iff.mp H
    obtain ⟨⟨t456, t457⟩, A80, H⟩ := H
    replace H : (if t456 < 0 then (codec_Split.j1 kj3 a0 (IntKind.u64.wrap (-a1)) true false 0 0 0 0 0 0) else (codec_Split.j1 kj3 a0 a1 false false 0 0 0 0 0 0)) = some (r1, r2, r3, r4, r5, r6, r7, r8, r9) := H
    have A8 := Aside0.mk A80
    clear A80
    have HC9 := Aside0.mk H
    clear H
    go_upto_if 35 with (first | ((with_reducible refine gate_dst (N := 8) rfl ?_); refine box_event ?hg (N := 8) ?hd (cs := #[.bool false, .bool false, .int .i64 0, .int .i64 0, .int .i64 0, .int .i64 0, .int .i64 0, .int .u64 0]) (t := 91) ?hr ?_; (case hd => rfl); (case hg => rfl); (case hr => first | (go_simp; done) | (go_simp; rfl)); intro gb455 hg w10 hbox hb; have n0_ := Aside0.mk (blk_below (g := gb451) (z1_ BK451.out) hb); have n1_ := Aside0.mk (below_step (z3_ HB.out) hb); have n2_ := Aside0.mk (hbox); have n3_ := Aside0.mk ((by rw [hg]; exact (below_size (z3_ HB.out)) : w.heap.size ≤ gb455)); have n4_ := Aside0.mk ((by rw [hg]; exact (below_size (z3_ HB.out)) : w.heap.size ≤ gb455)); have n5_ := Aside0.mk ((by rw [hg]; exact Nat.ne_of_lt (blk_lt (g := gb451) (o := .cells #[.bool false, .bool false, .int .i64 0, .int .i64 0, .int .i64 0, .int .i64 0, .int .i64 0, .int .u64 0] 91 (0, 0)) (z1_ BK451.out)) : gb451 ≠ gb455)); have n6_ := Aside0.mk ((by rw [hg]; exact Nat.ne_of_gt (blk_lt (g := gb451) (o := .cells #[.bool false, .bool false, .int .i64 0, .int .i64 0, .int .i64 0, .int .i64 0, .int .i64 0, .int .u64 0] 91 (0, 0)) (z1_ BK451.out)) : gb455 ≠ gb451)); clear BK451; clear HB; have BK451 := n0_; have HB := n1_; have BK455 := n2_; have GW455 := n3_; have GE455 := n4_; have NB451_455 := n5_; have NB455_451 := n6_; clear n0_ n1_ n2_ n3_ n4_ n5_ n6_; clear hb hbox hg) | ((with_reducible refine gate_callee (f := 67) rfl ?_); refine goesL_ (some 31) rfl rfl Try.func67 (by kernel_rfl) rfl #[.int .i64 a0, .int .u64 a1] rfl z5_ ?_; (with_reducible refine (shape_Rank.calls a0 a1 t456 t457 _ A8.out).mono ?_); rintro e w' ⟨rfl, ⟨nd, rfl⟩⟩; refine ⟨_, rfl, ?_⟩; (try simp only [errW_none, errW_some])))
    (try simp only [Act.put, List.setIfInBounds_toArray, List.set_cons_zero, List.set_cons_succ])
    go_cut [1] (fun v1 wc => ∃ (kq : Nat) (x1_8 : Int) (x456000_8 : Bool), v1 = .int .u64 x1_8 ∧ Aside0 (codec_Split.j1 kq a0 x1_8 x456000_8 false 0 0 0 0 0 0 = some (r1, r2, r3, r4, r5, r6, r7, r8, r9)) ∧ Aside0 (kq ≤ kj3) ∧ Aside0 (wc.heap[gb451]? = some (.cells #[.bool false, .bool false, .int .i64 0, .int .i64 0, .int .i64 0, .int .i64 0, .int .i64 0, .int .u64 0] 91 (0, 0))) ∧ Aside0 (wc.heap[gb455]? = some (.cells #[.bool x456000_8, .bool false, .int .i64 0, .int .i64 0, .int .i64 0, .int .i64 0, .int .i64 0, .int .u64 0] 91 (0, 0))) ∧ Aside0 (Below w.heap.size w wc))
    case first =>
     have H := HC9.out
     clear HC9
     by_cases c11 : t456 < 0
     ·rw [if_pos c11] at H
      have c11b0 : decide (t456 < 0) = true := decide_eq_true c11
      clear c11
      (first | rw [c11b0] | (simp only [i64_w, i32_w]; rw [c11b0]) | skip)
      have H' := Aside0.mk H
      clear H
      have hnb12 := NB455_451.out
      have hnc12 := NB451_455.out
      have hcz13_0 := z4_ BK455.out 0 (.bool false) rfl
      have hcz13_1 := z4_ BK455.out 1 (.bool false) rfl
      have hcz13_2 := z4_ BK455.out 2 (.int .i64 0) rfl
      have hcz13_3 := z4_ BK455.out 3 (.int .i64 0) rfl
      have hcz13_4 := z4_ BK455.out 4 (.int .i64 0) rfl
      have hcz13_5 := z4_ BK455.out 5 (.int .i64 0) rfl
      have hcz13_6 := z4_ BK455.out 6 (.int .i64 0) rfl
      have hcz13_7 := z4_ BK455.out 7 (.int .u64 0) rfl
      have hfz13_0 := blk_frozen BK455.out 0
      have hfz13_1 := blk_frozen BK455.out 1
      have hfz13_2 := blk_frozen BK455.out 2
      have hfz13_3 := blk_frozen BK455.out 3
      have hfz13_4 := blk_frozen BK455.out 4
      have hfz13_5 := blk_frozen BK455.out 5
      have hfz13_6 := blk_frozen BK455.out 6
      have hfz13_7 := blk_frozen BK455.out 7
      go_wp2
      go_meet
      case rel => exact ⟨_, (IntKind.u64.wrap (-a1)), (true), (by first | rfl | (simp; done) | (simp [*]; done)), H', ⟨by have := HJ3.out; first | omega | exact Nat.le_refl _⟩, ⟨by refine z2_ ?_; refine blk_far ?_ NB451_455.out _; refine z2_ ?_; exact BK451.out⟩, ⟨by refine z2_ ?_; refine blk_put (cs := #[.bool false, .bool false, .int .i64 0, .int .i64 0, .int .i64 0, .int .i64 0, .int .i64 0, .int .u64 0]) ?_ 0 _ rfl; refine z2_ ?_; exact BK455.out⟩, ⟨by repeat (first | (with_reducible first | exact HB.out | apply below_alloc | apply pw_below_drewN | apply below_drew1 | refine below_set ?_ GE451.out | refine below_set ?_ GE455.out) | exact HB.out)⟩⟩
     ·rw [if_neg c11] at H
      have c11b0 : decide (t456 < 0) = false := decide_eq_false c11
      clear c11
      (first | rw [c11b0] | (simp only [i64_w, i32_w]; rw [c11b0]) | skip)
      have H' := Aside0.mk H
      clear H
      go_wp2
      go_meet
      case rel => exact ⟨_, (a1), (false), (by first | rfl | (simp; done) | (simp [*]; done)), H', ⟨by have := HJ3.out; first | omega | exact Nat.le_refl _⟩, ⟨by refine z2_ ?_; exact BK451.out⟩, ⟨by refine z2_ ?_; exact BK455.out⟩, ⟨by repeat (first | (with_reducible first | exact HB.out | apply below_alloc | apply pw_below_drewN | apply below_drew1 | refine below_set ?_ GE451.out | refine below_set ?_ GE455.out) | exact HB.out)⟩⟩
    case rest =>
     clear HC9
     try clear c1
     try clear p2
     try clear c4
     try clear q4
     try clear c5
     try clear c6
     try clear c11
     try clear c11b0
     try clear c12
     try clear hcz13_0
     try clear hcz13_1
     try clear hcz13_2
     try clear hcz13_3
     try clear hcz13_4
     try clear hcz13_5
     try clear hcz13_6
     try clear hcz13_7
     try clear hcz7_0
     try clear hcz7_1
     try clear hcz7_2
     try clear hcz7_3
     try clear hcz7_4
     try clear hcz7_5
     try clear hcz7_6
     try clear hcz7_7
     try clear hfz13_0
     try clear hfz13_1
     try clear hfz13_2
     try clear hfz13_3
     try clear hfz13_4
     try clear hfz13_5
     try clear hfz13_6
     try clear hfz13_7
     try clear hfz7_0
     try clear hfz7_1
     try clear hfz7_2
     try clear hfz7_3
     try clear hfz7_4
     try clear hfz7_5
     try clear hfz7_6
     try clear hfz7_7
     try clear p2
     try clear q4
     try clear q454
     obtain ⟨kq, x1_8, x456000_8, rfl, HA, HJ8, BK451, BK455, HB⟩ := hcut
     cases kq with
     | zero => exact absurd HA.out (by simp [codec_Split.j1])
     | succ kj8 =>
      have H := HA.out
      clear HA
      simp only [codec_Split.j1] at H
      replace H := Option.bind_eq_some_iff.mp H
      obtain ⟨⟨t458, t459, t460⟩, A140, H⟩ := H
      replace H : (if t458 = true then ((lead_Field.f x1_8 (wrap64 ((mx (wrap64 ((wrap64 ((wrap64 (a0 - 1)) - t459)) - 1)) 0) - (mn (mx (wrap64 ((wrap64 ((wrap64 (a0 - 1)) - t459)) - 1)) 0) 2))) (mn (mx (wrap64 ((wrap64 ((wrap64 (a0 - 1)) - t459)) - 1)) 0) 2)).bind fun bt461 => ((lead_Field.f x1_8 0 (wrap64 ((mx (wrap64 ((wrap64 ((wrap64 (a0 - 1)) - t459)) - 1)) 0) - (mn (mx (wrap64 ((wrap64 ((wrap64 (a0 - 1)) - t459)) - 1)) 0) 2)))).bind fun bt463 => (some (x456000_8, t458, t459, wrap64 (t459 - 1), mn (mx (wrap64 ((wrap64 ((wrap64 (a0 - 1)) - t459)) - 1)) 0) 2, shl .i64 (wrap64 (bt461.1)) (2 - (mn (mx (wrap64 ((wrap64 ((wrap64 (a0 - 1)) - t459)) - 1)) 0) 2)), wrap64 ((mx (wrap64 ((wrap64 ((wrap64 (a0 - 1)) - t459)) - 1)) 0) - (mn (mx (wrap64 ((wrap64 ((wrap64 (a0 - 1)) - t459)) - 1)) 0) 2)), bt463.1, none)))) else ((lead_Field.f x1_8 (wrap64 ((mx (wrap64 ((wrap64 ((wrap64 (a0 - 1)) - t459)) - 1)) 0) - (mn (mx (wrap64 ((wrap64 ((wrap64 (a0 - 1)) - t459)) - 1)) 0) 2))) (mn (mx (wrap64 ((wrap64 ((wrap64 (a0 - 1)) - t459)) - 1)) 0) 2)).bind fun bt465 => ((lead_Field.f x1_8 0 (wrap64 ((mx (wrap64 ((wrap64 ((wrap64 (a0 - 1)) - t459)) - 1)) 0) - (mn (mx (wrap64 ((wrap64 ((wrap64 (a0 - 1)) - t459)) - 1)) 0) 2)))).bind fun bt467 => (some (x456000_8, t458, t459, wrap64 (-t459), mn (mx (wrap64 ((wrap64 ((wrap64 (a0 - 1)) - t459)) - 1)) 0) 2, shl .i64 (wrap64 (bt465.1)) (2 - (mn (mx (wrap64 ((wrap64 ((wrap64 (a0 - 1)) - t459)) - 1)) 0) 2)), wrap64 ((mx (wrap64 ((wrap64 ((wrap64 (a0 - 1)) - t459)) - 1)) 0) - (mn (mx (wrap64 ((wrap64 ((wrap64 (a0 - 1)) - t459)) - 1)) 0) 2)), bt467.1, none))))) = some (r1, r2, r3, r4, r5, r6, r7, r8, r9) := H
      have A14 := Aside0.mk A140
      clear A140
      by_cases c15 : t458 = true
      ·subst c15
       have H1 : ((lead_Field.f x1_8 (wrap64 ((mx (wrap64 ((wrap64 ((wrap64 (a0 - 1)) - t459)) - 1)) 0) - (mn (mx (wrap64 ((wrap64 ((wrap64 (a0 - 1)) - t459)) - 1)) 0) 2))) (mn (mx (wrap64 ((wrap64 ((wrap64 (a0 - 1)) - t459)) - 1)) 0) 2)).bind fun bt461 => ((lead_Field.f x1_8 0 (wrap64 ((mx (wrap64 ((wrap64 ((wrap64 (a0 - 1)) - t459)) - 1)) 0) - (mn (mx (wrap64 ((wrap64 ((wrap64 (a0 - 1)) - t459)) - 1)) 0) 2)))).bind fun bt463 => (some (x456000_8, true, t459, wrap64 (t459 - 1), mn (mx (wrap64 ((wrap64 ((wrap64 (a0 - 1)) - t459)) - 1)) 0) 2, shl .i64 (wrap64 (bt461.1)) (2 - (mn (mx (wrap64 ((wrap64 ((wrap64 (a0 - 1)) - t459)) - 1)) 0) 2)), wrap64 ((mx (wrap64 ((wrap64 ((wrap64 (a0 - 1)) - t459)) - 1)) 0) - (mn (mx (wrap64 ((wrap64 ((wrap64 (a0 - 1)) - t459)) - 1)) 0) 2)), bt463.1, none)))) = some (r1, r2, r3, r4, r5, r6, r7, r8, r9) := by rw [if_pos rfl] at H; exact H
       clear H
       have H := H1
       clear H1
       obtain ⟨ji16, hji16⟩ : ∃ j_ : Int, (mx (wrap64 ((wrap64 ((wrap64 (a0 - 1)) - t459)) - 1)) 0) = j_ := ⟨_, rfl⟩
       replace H : ((lead_Field.f x1_8 (wrap64 ((ji16) - (mn (ji16) 2))) (mn (ji16) 2)).bind fun bt461 => ((lead_Field.f x1_8 0 (wrap64 ((ji16) - (mn (ji16) 2)))).bind fun bt463 => (some (x456000_8, true, t459, wrap64 (t459 - 1), mn (ji16) 2, shl .i64 (wrap64 (bt461.1)) (2 - (mn (ji16) 2)), wrap64 ((ji16) - (mn (ji16) 2)), bt463.1, none)))) = some (r1, r2, r3, r4, r5, r6, r7, r8, r9) := by first | (rw [hji16] at H; exact H) | (simp only [hji16] at H ⊢; exact H)
       (try rw [hji16] at A14)
       (try (have hji16l : 0 ≤ ji16 := by (rw [← hji16]; unfold mx; (repeat' split) <;> omega)))
       (try (have hji16m : 0 ≤ ji16 := by omega))
       have hji16_ : (if (wrap64 ((wrap64 ((wrap64 (a0 - 1)) - t459)) - 1)) < 0 then 0 else (wrap64 ((wrap64 ((wrap64 (a0 - 1)) - t459)) - 1))) = ji16 := hji16
       obtain ⟨ji17, hji17⟩ : ∃ j_ : Int, (mn (ji16) 2) = j_ := ⟨_, rfl⟩
       replace H : ((lead_Field.f x1_8 (wrap64 ((ji16) - (ji17))) (ji17)).bind fun bt461 => ((lead_Field.f x1_8 0 (wrap64 ((ji16) - (ji17)))).bind fun bt463 => (some (x456000_8, true, t459, wrap64 (t459 - 1), ji17, shl .i64 (wrap64 (bt461.1)) (2 - (ji17)), wrap64 ((ji16) - (ji17)), bt463.1, none)))) = some (r1, r2, r3, r4, r5, r6, r7, r8, r9) := by first | (rw [hji17] at H; exact H) | (simp only [hji17] at H ⊢; exact H)
       (try rw [hji17] at A14)
       (try (have hji17h : ji17 ≤ 2 := by (rw [← hji17]; unfold mn; (repeat' split) <;> omega)))
       (try (have hji17g : ji17 ≤ 64 := by omega))
       (try (have hji17l : 0 ≤ ji17 := by (rw [← hji17]; unfold mn; (repeat' split) <;> omega)))
       (try (have hji17m : 0 ≤ ji17 := by omega))
       have hji17_ : (if 2 < (ji16) then 2 else (ji16)) = ji17 := hji17
       replace H := Option.bind_eq_some_iff.mp H
       obtain ⟨⟨t461, t462⟩, A180, H⟩ := H
       replace H : ((lead_Field.f x1_8 0 (wrap64 ((ji16) - (ji17)))).bind fun bt463 => (some (x456000_8, true, t459, wrap64 (t459 - 1), ji17, shl .i64 (wrap64 (t461)) (2 - (ji17)), wrap64 ((ji16) - (ji17)), bt463.1, none))) = some (r1, r2, r3, r4, r5, r6, r7, r8, r9) := H
       have A18 := Aside0.mk A180
       clear A180
       obtain ⟨ji19, hji19⟩ : ∃ j_ : Int, (shl .i64 (wrap64 (t461)) (2 - (ji17))) = j_ := ⟨_, rfl⟩
       replace H : ((lead_Field.f x1_8 0 (wrap64 ((ji16) - (ji17)))).bind fun bt463 => (some (x456000_8, true, t459, wrap64 (t459 - 1), ji17, ji19, wrap64 ((ji16) - (ji17)), bt463.1, none))) = some (r1, r2, r3, r4, r5, r6, r7, r8, r9) := by first | (rw [hji19] at H; exact H) | (simp only [hji19] at H ⊢; exact H)
       (try rw [hji19] at A14)
       (try rw [hji19] at A18)
       have hji19_ : (IntKind.i64.wrap ((wrap64 (t461)) * 2 ^ min (2 - (ji17)).toNat 64)) = ji19 := hji19
       have hji19z : (2 - (ji17)) ≤ 64 → (IntKind.i64.wrap ((wrap64 (t461)) * 2 ^ (2 - (ji17)).toNat)) = ji19 := shl_small hji19
       (try (have hji19Z_ := hji19z (by omega)))
       have hji19y : (wrap64 ((wrap64 (t461)) * 2 ^ min (2 - (ji17)).toNat 64)) = ji19 := (i64_w _).symm.trans hji19_
       have hji19x : (2 - (ji17)) ≤ 64 → (wrap64 ((wrap64 (t461)) * 2 ^ (2 - (ji17)).toNat)) = ji19 := fun h_ => (i64_w _).symm.trans (hji19z h_)
       (try (have hji19X_ := hji19x (by omega)))
       replace H := Option.bind_eq_some_iff.mp H
       obtain ⟨⟨t463, t464⟩, A200, H⟩ := H
       replace H : (some (x456000_8, true, t459, wrap64 (t459 - 1), ji17, ji19, wrap64 ((ji16) - (ji17)), t463, none)) = some (r1, r2, r3, r4, r5, r6, r7, r8, r9) := H
       have A20 := Aside0.mk A200
       clear A200
       simp only [Option.some.injEq, Prod.mk.injEq] at H
       obtain ⟨rfl, rfl, rfl, rfl, rfl, rfl, rfl, rfl, rfl⟩ := H
       go_wp2_with (first | ((with_reducible refine gate_callee (f := 68) rfl ?_); refine goesL_ (some 44) rfl rfl Try.func68 (by kernel_rfl) rfl #[.int .u64 x1_8, .int .i64 (wrap64 (a0 - 1))] rfl z5_ ?_; (with_reducible refine (lead_Run.calls kj8 x1_8 (wrap64 (a0 - 1)) true t459 t460 _ A14.out).mono ?_); rintro e w21 ⟨rfl, hb⟩; refine ⟨_, rfl, ?_⟩; have n0_ := Aside0.mk (blk_below (g := gb451) (z1_ BK451.out) hb); have n1_ := Aside0.mk (blk_below (g := gb455) (z1_ BK455.out) hb); have n2_ := Aside0.mk (below_step (z3_ HB.out) hb); clear BK451; clear BK455; clear HB; have BK451 := n0_; have BK455 := n1_; have HB := n2_; clear n0_ n1_ n2_; (try clear hb); (try clear hb2); (try clear hk); (try clear hi); (try simp only [errW_none, errW_some]); have hnb22 := NB455_451.out; have hnc22 := NB451_455.out; have hcz23_0 := z4_ BK455.out 0 (.bool x456000_8) rfl; have hcz23_1 := z4_ BK455.out 1 (.bool false) rfl; have hcz23_2 := z4_ BK455.out 2 (.int .i64 0) rfl; have hcz23_3 := z4_ BK455.out 3 (.int .i64 0) rfl; have hcz23_4 := z4_ BK455.out 4 (.int .i64 0) rfl; have hcz23_5 := z4_ BK455.out 5 (.int .i64 0) rfl; have hcz23_6 := z4_ BK455.out 6 (.int .i64 0) rfl; have hcz23_7 := z4_ BK455.out 7 (.int .u64 0) rfl; have hfz23_0 := blk_frozen BK455.out 0; have hfz23_1 := blk_frozen BK455.out 1; have hfz23_2 := blk_frozen BK455.out 2; have hfz23_3 := blk_frozen BK455.out 3; have hfz23_4 := blk_frozen BK455.out 4; have hfz23_5 := blk_frozen BK455.out 5; have hfz23_6 := blk_frozen BK455.out 6; have hfz23_7 := blk_frozen BK455.out 7) | ((with_reducible refine gate_callee (f := 69) rfl ?_); refine goesL_ (some 78) rfl rfl Try.func69 (by kernel_rfl) rfl #[.int .u64 x1_8, .int .i64 (wrap64 ((ji16) - (ji17))), .int .i64 ji17] rfl (by (try simp only [List.map_toArray, List.map_cons, List.map_nil]); first | done | (simp only [hji16, hji17]; rfl) | rfl | (simp only [List.length_drop, List.length_take]; rfl)) ?_; (with_reducible refine (lead_Field.calls x1_8 (wrap64 ((ji16) - (ji17))) ji17 t461 t462 _ A18.out).mono ?_); rintro e w24 ⟨rfl, hb⟩; refine ⟨_, rfl, ?_⟩; have n0_ := Aside0.mk (blk_below (g := gb451) (o := .cells #[.bool false, .bool false, .int .i64 0, .int .i64 0, .int .i64 0, .int .i64 0, .int .i64 0, .int .u64 0] 91 (0, 0)) (by refine z2_ ?_; refine blk_far ?_ NB451_455.out _; refine z2_ ?_; refine blk_far ?_ NB451_455.out _; refine z2_ ?_; refine blk_far ?_ NB451_455.out _; refine z2_ ?_; refine blk_far ?_ NB451_455.out _; refine z2_ ?_; refine blk_far ?_ NB451_455.out _; refine z2_ ?_; exact BK451.out) hb); have n1_ := Aside0.mk (blk_below (g := gb455) (o := .cells #[.bool x456000_8, .bool true, .int .i64 t459, .int .i64 (wrap64 (t459 - 1)), .int .i64 ji17, .int .i64 0, .int .i64 0, .int .u64 0] 91 (0, 0)) (by refine z2_ ?_; refine blk_put (cs := #[.bool x456000_8, .bool true, .int .i64 t459, .int .i64 (wrap64 (t459 - 1)), .int .i64 0, .int .i64 0, .int .i64 0, .int .u64 0]) ?_ 4 _ rfl; refine z2_ ?_; refine blk_put (cs := #[.bool x456000_8, .bool true, .int .i64 t459, .int .i64 (wrap64 (-t459)), .int .i64 0, .int .i64 0, .int .i64 0, .int .u64 0]) ?_ 3 _ rfl; refine z2_ ?_; refine blk_put (cs := #[.bool x456000_8, .bool true, .int .i64 t459, .int .i64 0, .int .i64 0, .int .i64 0, .int .i64 0, .int .u64 0]) ?_ 3 _ rfl; refine z2_ ?_; refine blk_put (cs := #[.bool x456000_8, .bool true, .int .i64 0, .int .i64 0, .int .i64 0, .int .i64 0, .int .i64 0, .int .u64 0]) ?_ 2 _ rfl; refine z2_ ?_; refine blk_put (cs := #[.bool x456000_8, .bool false, .int .i64 0, .int .i64 0, .int .i64 0, .int .i64 0, .int .i64 0, .int .u64 0]) ?_ 1 _ rfl; refine z2_ ?_; exact BK455.out) hb); have n2_ := Aside0.mk (below_step (z3_ HB.out) hb); clear BK451; clear BK455; clear HB; have BK451 := n0_; have BK455 := n1_; have HB := n2_; clear n0_ n1_ n2_; (try clear hb); (try clear hb2); (try clear hk); (try clear hi); (try simp only [errW_none, errW_some]); have hcz25_0 := z4_ BK455.out 0 (.bool x456000_8) rfl; have hcz25_1 := z4_ BK455.out 1 (.bool true) rfl; have hcz25_2 := z4_ BK455.out 2 (.int .i64 t459) rfl; have hcz25_3 := z4_ BK455.out 3 (.int .i64 (wrap64 (t459 - 1))) rfl; have hcz25_4 := z4_ BK455.out 4 (.int .i64 ji17) rfl; have hcz25_5 := z4_ BK455.out 5 (.int .i64 0) rfl; have hcz25_6 := z4_ BK455.out 6 (.int .i64 0) rfl; have hcz25_7 := z4_ BK455.out 7 (.int .u64 0) rfl; have hfz25_0 := blk_frozen BK455.out 0; have hfz25_1 := blk_frozen BK455.out 1; have hfz25_2 := blk_frozen BK455.out 2; have hfz25_3 := blk_frozen BK455.out 3; have hfz25_4 := blk_frozen BK455.out 4; have hfz25_5 := blk_frozen BK455.out 5; have hfz25_6 := blk_frozen BK455.out 6; have hfz25_7 := blk_frozen BK455.out 7) | ((with_reducible refine gate_callee (f := 69) rfl ?_); refine goesL_ (some 93) rfl rfl Try.func69 (by kernel_rfl) rfl #[.int .u64 x1_8, .int .i64 0, .int .i64 (wrap64 ((ji16) - (ji17)))] rfl (by (try simp only [List.map_toArray, List.map_cons, List.map_nil]); first | done | (simp only [hji16, hji17]; rfl) | rfl | (simp only [List.length_drop, List.length_take]; rfl)) ?_; (with_reducible refine (lead_Field.calls x1_8 0 (wrap64 ((ji16) - (ji17))) t463 t464 _ A20.out).mono ?_); rintro e w26 ⟨rfl, hb⟩; refine ⟨_, rfl, ?_⟩; have n0_ := Aside0.mk (blk_below (g := gb451) (o := .cells #[.bool false, .bool false, .int .i64 0, .int .i64 0, .int .i64 0, .int .i64 0, .int .i64 0, .int .u64 0] 91 (0, 0)) (by refine z2_ ?_; refine blk_far ?_ NB451_455.out _; refine z2_ ?_; refine blk_far ?_ NB451_455.out _; refine z2_ ?_; exact BK451.out) hb); have n1_ := Aside0.mk (blk_below (g := gb455) (o := .cells #[.bool x456000_8, .bool true, .int .i64 t459, .int .i64 (wrap64 (t459 - 1)), .int .i64 ji17, .int .i64 ji19, .int .i64 (wrap64 ((ji16) - (ji17))), .int .u64 0] 91 (0, 0)) (by refine z2_ ?_; refine blk_put (cs := #[.bool x456000_8, .bool true, .int .i64 t459, .int .i64 (wrap64 (t459 - 1)), .int .i64 ji17, .int .i64 ji19, .int .i64 0, .int .u64 0]) ?_ 6 _ rfl; refine z2_ ?_; refine blk_put (cs := #[.bool x456000_8, .bool true, .int .i64 t459, .int .i64 (wrap64 (t459 - 1)), .int .i64 ji17, .int .i64 0, .int .i64 0, .int .u64 0]) ?_ 5 _ rfl; refine z2_ ?_; exact BK455.out) hb); have n2_ := Aside0.mk (below_step (z3_ HB.out) hb); clear BK451; clear BK455; clear HB; have BK451 := n0_; have BK455 := n1_; have HB := n2_; clear n0_ n1_ n2_; (try clear hb); (try clear hb2); (try clear hk); (try clear hi); (try simp only [errW_none, errW_some]); have hcz27_0 := z4_ BK455.out 0 (.bool x456000_8) rfl; have hcz27_1 := z4_ BK455.out 1 (.bool true) rfl; have hcz27_2 := z4_ BK455.out 2 (.int .i64 t459) rfl; have hcz27_3 := z4_ BK455.out 3 (.int .i64 (wrap64 (t459 - 1))) rfl; have hcz27_4 := z4_ BK455.out 4 (.int .i64 ji17) rfl; have hcz27_5 := z4_ BK455.out 5 (.int .i64 ji19) rfl; have hcz27_6 := z4_ BK455.out 6 (.int .i64 (wrap64 ((ji16) - (ji17)))) rfl; have hcz27_7 := z4_ BK455.out 7 (.int .u64 0) rfl; have hfz27_0 := blk_frozen BK455.out 0; have hfz27_1 := blk_frozen BK455.out 1; have hfz27_2 := blk_frozen BK455.out 2; have hfz27_3 := blk_frozen BK455.out 3; have hfz27_4 := blk_frozen BK455.out 4; have hfz27_5 := blk_frozen BK455.out 5; have hfz27_6 := blk_frozen BK455.out 6; have hfz27_7 := blk_frozen BK455.out 7; have hcz28_0 := z4_ BK451.out 0 (.bool false) rfl; have hcz28_1 := z4_ BK451.out 1 (.bool false) rfl; have hcz28_2 := z4_ BK451.out 2 (.int .i64 0) rfl; have hcz28_3 := z4_ BK451.out 3 (.int .i64 0) rfl; have hcz28_4 := z4_ BK451.out 4 (.int .i64 0) rfl; have hcz28_5 := z4_ BK451.out 5 (.int .i64 0) rfl; have hcz28_6 := z4_ BK451.out 6 (.int .i64 0) rfl; have hcz28_7 := z4_ BK451.out 7 (.int .u64 0) rfl; have hfz28_0 := blk_frozen BK451.out 0; have hfz28_1 := blk_frozen BK451.out 1; have hfz28_2 := blk_frozen BK451.out 2; have hfz28_3 := blk_frozen BK451.out 3; have hfz28_4 := blk_frozen BK451.out 4; have hfz28_5 := blk_frozen BK451.out 5; have hfz28_6 := blk_frozen BK451.out 6; have hfz28_7 := blk_frozen BK451.out 7))
       refine bodyPost_ret (results_ct rfl _ _ gb451 91 #[.bool x456000_8, .bool true, .int .i64 t459, .int .i64 (wrap64 (t459 - 1)), .int .i64 ji17, .int .i64 ji19, .int .i64 (wrap64 ((ji16) - (ji17))), .int .u64 t463] (0, 0) _ rfl (by refine z2_ ?_; refine blk_put (cs := #[.bool x456000_8, .bool true, .int .i64 t459, .int .i64 (wrap64 (t459 - 1)), .int .i64 ji17, .int .i64 ji19, .int .i64 (wrap64 ((ji16) - (ji17))), .int .u64 0]) ?_ 7 _ rfl; refine z2_ ?_; refine blk_put (cs := #[.bool x456000_8, .bool true, .int .i64 t459, .int .i64 (wrap64 (t459 - 1)), .int .i64 ji17, .int .i64 ji19, .int .i64 0, .int .u64 0]) ?_ 6 _ rfl; refine z2_ ?_; refine blk_put (cs := #[.bool x456000_8, .bool true, .int .i64 t459, .int .i64 (wrap64 (t459 - 1)), .int .i64 ji17, .int .i64 0, .int .i64 0, .int .u64 0]) ?_ 5 _ rfl; refine z2_ ?_; refine blk_put (cs := #[.bool x456000_8, .bool true, .int .i64 t459, .int .i64 (wrap64 (t459 - 1)), .int .i64 0, .int .i64 0, .int .i64 0, .int .u64 0]) ?_ 4 _ rfl; refine z2_ ?_; refine blk_put (cs := #[.bool x456000_8, .bool true, .int .i64 t459, .int .i64 0, .int .i64 0, .int .i64 0, .int .i64 0, .int .u64 0]) ?_ 3 _ rfl; refine z2_ ?_; refine blk_put (cs := #[.bool x456000_8, .bool true, .int .i64 0, .int .i64 0, .int .i64 0, .int .i64 0, .int .i64 0, .int .u64 0]) ?_ 2 _ rfl; refine z2_ ?_; refine blk_put (cs := #[.bool x456000_8, .bool false, .int .i64 0, .int .i64 0, .int .i64 0, .int .i64 0, .int .i64 0, .int .u64 0]) ?_ 1 _ rfl; refine z2_ ?_; refine blk_put (cs := #[.bool false, .bool false, .int .i64 0, .int .i64 0, .int .i64 0, .int .i64 0, .int .i64 0, .int .u64 0]) ?_ 0 _ rfl; refine z2_ ?_; refine blk_far ?_ NB451_455.out _; refine z2_ ?_; exact BK451.out) Try.underlying91 rfl (by kernel_rfl)) rfl ?_
       exact ⟨by first | rfl | (simp [errW_none, errW_some] <;> rfl) | (simp only [← hji16, ← hji17, ← hji19]; first | rfl | (simp [errW_none, errW_some] <;> rfl)) | (simp [*, errW_none, errW_some] <;> rfl), by repeat (first | (with_reducible first | exact HB.out | apply below_alloc | apply pw_below_drewN | apply below_drew1 | refine below_set ?_ GE451.out | refine below_set ?_ GE455.out) | exact HB.out)⟩
      ·replace c15 := Bool.eq_false_iff.mpr c15
       subst c15
       have H1 : ((lead_Field.f x1_8 (wrap64 ((mx (wrap64 ((wrap64 ((wrap64 (a0 - 1)) - t459)) - 1)) 0) - (mn (mx (wrap64 ((wrap64 ((wrap64 (a0 - 1)) - t459)) - 1)) 0) 2))) (mn (mx (wrap64 ((wrap64 ((wrap64 (a0 - 1)) - t459)) - 1)) 0) 2)).bind fun bt465 => ((lead_Field.f x1_8 0 (wrap64 ((mx (wrap64 ((wrap64 ((wrap64 (a0 - 1)) - t459)) - 1)) 0) - (mn (mx (wrap64 ((wrap64 ((wrap64 (a0 - 1)) - t459)) - 1)) 0) 2)))).bind fun bt467 => (some (x456000_8, false, t459, wrap64 (-t459), mn (mx (wrap64 ((wrap64 ((wrap64 (a0 - 1)) - t459)) - 1)) 0) 2, shl .i64 (wrap64 (bt465.1)) (2 - (mn (mx (wrap64 ((wrap64 ((wrap64 (a0 - 1)) - t459)) - 1)) 0) 2)), wrap64 ((mx (wrap64 ((wrap64 ((wrap64 (a0 - 1)) - t459)) - 1)) 0) - (mn (mx (wrap64 ((wrap64 ((wrap64 (a0 - 1)) - t459)) - 1)) 0) 2)), bt467.1, none)))) = some (r1, r2, r3, r4, r5, r6, r7, r8, r9) := by rw [if_neg (show ¬ (false = true) by decide)] at H; exact H
       clear H
       have H := H1
       clear H1
       obtain ⟨ji29, hji29⟩ : ∃ j_ : Int, (mx (wrap64 ((wrap64 ((wrap64 (a0 - 1)) - t459)) - 1)) 0) = j_ := ⟨_, rfl⟩
       replace H : ((lead_Field.f x1_8 (wrap64 ((ji29) - (mn (ji29) 2))) (mn (ji29) 2)).bind fun bt465 => ((lead_Field.f x1_8 0 (wrap64 ((ji29) - (mn (ji29) 2)))).bind fun bt467 => (some (x456000_8, false, t459, wrap64 (-t459), mn (ji29) 2, shl .i64 (wrap64 (bt465.1)) (2 - (mn (ji29) 2)), wrap64 ((ji29) - (mn (ji29) 2)), bt467.1, none)))) = some (r1, r2, r3, r4, r5, r6, r7, r8, r9) := by first | (rw [hji29] at H; exact H) | (simp only [hji29] at H ⊢; exact H)
       (try rw [hji29] at A14)
       (try (have hji29l : 0 ≤ ji29 := by (rw [← hji29]; unfold mx; (repeat' split) <;> omega)))
       (try (have hji29m : 0 ≤ ji29 := by omega))
       have hji29_ : (if (wrap64 ((wrap64 ((wrap64 (a0 - 1)) - t459)) - 1)) < 0 then 0 else (wrap64 ((wrap64 ((wrap64 (a0 - 1)) - t459)) - 1))) = ji29 := hji29
       obtain ⟨ji30, hji30⟩ : ∃ j_ : Int, (mn (ji29) 2) = j_ := ⟨_, rfl⟩
       replace H : ((lead_Field.f x1_8 (wrap64 ((ji29) - (ji30))) (ji30)).bind fun bt465 => ((lead_Field.f x1_8 0 (wrap64 ((ji29) - (ji30)))).bind fun bt467 => (some (x456000_8, false, t459, wrap64 (-t459), ji30, shl .i64 (wrap64 (bt465.1)) (2 - (ji30)), wrap64 ((ji29) - (ji30)), bt467.1, none)))) = some (r1, r2, r3, r4, r5, r6, r7, r8, r9) := by first | (rw [hji30] at H; exact H) | (simp only [hji30] at H ⊢; exact H)
       (try rw [hji30] at A14)
       (try (have hji30h : ji30 ≤ 2 := by (rw [← hji30]; unfold mn; (repeat' split) <;> omega)))
       (try (have hji30g : ji30 ≤ 64 := by omega))
       (try (have hji30l : 0 ≤ ji30 := by (rw [← hji30]; unfold mn; (repeat' split) <;> omega)))
       (try (have hji30m : 0 ≤ ji30 := by omega))
       have hji30_ : (if 2 < (ji29) then 2 else (ji29)) = ji30 := hji30
       replace H := Option.bind_eq_some_iff.mp H
       obtain ⟨⟨t465, t466⟩, A310, H⟩ := H
       replace H : ((lead_Field.f x1_8 0 (wrap64 ((ji29) - (ji30)))).bind fun bt467 => (some (x456000_8, false, t459, wrap64 (-t459), ji30, shl .i64 (wrap64 (t465)) (2 - (ji30)), wrap64 ((ji29) - (ji30)), bt467.1, none))) = some (r1, r2, r3, r4, r5, r6, r7, r8, r9) := H
       have A31 := Aside0.mk A310
       clear A310
       obtain ⟨ji32, hji32⟩ : ∃ j_ : Int, (shl .i64 (wrap64 (t465)) (2 - (ji30))) = j_ := ⟨_, rfl⟩
       replace H : ((lead_Field.f x1_8 0 (wrap64 ((ji29) - (ji30)))).bind fun bt467 => (some (x456000_8, false, t459, wrap64 (-t459), ji30, ji32, wrap64 ((ji29) - (ji30)), bt467.1, none))) = some (r1, r2, r3, r4, r5, r6, r7, r8, r9) := by first | (rw [hji32] at H; exact H) | (simp only [hji32] at H ⊢; exact H)
       (try rw [hji32] at A14)
       (try rw [hji32] at A31)
       have hji32_ : (IntKind.i64.wrap ((wrap64 (t465)) * 2 ^ min (2 - (ji30)).toNat 64)) = ji32 := hji32
       have hji32z : (2 - (ji30)) ≤ 64 → (IntKind.i64.wrap ((wrap64 (t465)) * 2 ^ (2 - (ji30)).toNat)) = ji32 := shl_small hji32
       (try (have hji32Z_ := hji32z (by omega)))
       have hji32y : (wrap64 ((wrap64 (t465)) * 2 ^ min (2 - (ji30)).toNat 64)) = ji32 := (i64_w _).symm.trans hji32_
       have hji32x : (2 - (ji30)) ≤ 64 → (wrap64 ((wrap64 (t465)) * 2 ^ (2 - (ji30)).toNat)) = ji32 := fun h_ => (i64_w _).symm.trans (hji32z h_)
       (try (have hji32X_ := hji32x (by omega)))
       replace H := Option.bind_eq_some_iff.mp H
       obtain ⟨⟨t467, t468⟩, A330, H⟩ := H
       replace H : (some (x456000_8, false, t459, wrap64 (-t459), ji30, ji32, wrap64 ((ji29) - (ji30)), t467, none)) = some (r1, r2, r3, r4, r5, r6, r7, r8, r9) := H
       have A33 := Aside0.mk A330
       clear A330
       simp only [Option.some.injEq, Prod.mk.injEq] at H
       obtain ⟨rfl, rfl, rfl, rfl, rfl, rfl, rfl, rfl, rfl⟩ := H
       go_wp2_with (first | ((with_reducible refine gate_callee (f := 68) rfl ?_); refine goesL_ (some 44) rfl rfl Try.func68 (by kernel_rfl) rfl #[.int .u64 x1_8, .int .i64 (wrap64 (a0 - 1))] rfl z5_ ?_; (with_reducible refine (lead_Run.calls kj8 x1_8 (wrap64 (a0 - 1)) false t459 t460 _ A14.out).mono ?_); rintro e w34 ⟨rfl, hb⟩; refine ⟨_, rfl, ?_⟩; have n0_ := Aside0.mk (blk_below (g := gb451) (z1_ BK451.out) hb); have n1_ := Aside0.mk (blk_below (g := gb455) (z1_ BK455.out) hb); have n2_ := Aside0.mk (below_step (z3_ HB.out) hb); clear BK451; clear BK455; clear HB; have BK451 := n0_; have BK455 := n1_; have HB := n2_; clear n0_ n1_ n2_; (try clear hb); (try clear hb2); (try clear hk); (try clear hi); (try simp only [errW_none, errW_some]); have hnb35 := NB455_451.out; have hnc35 := NB451_455.out; have hcz36_0 := z4_ BK455.out 0 (.bool x456000_8) rfl; have hcz36_1 := z4_ BK455.out 1 (.bool false) rfl; have hcz36_2 := z4_ BK455.out 2 (.int .i64 0) rfl; have hcz36_3 := z4_ BK455.out 3 (.int .i64 0) rfl; have hcz36_4 := z4_ BK455.out 4 (.int .i64 0) rfl; have hcz36_5 := z4_ BK455.out 5 (.int .i64 0) rfl; have hcz36_6 := z4_ BK455.out 6 (.int .i64 0) rfl; have hcz36_7 := z4_ BK455.out 7 (.int .u64 0) rfl; have hfz36_0 := blk_frozen BK455.out 0; have hfz36_1 := blk_frozen BK455.out 1; have hfz36_2 := blk_frozen BK455.out 2; have hfz36_3 := blk_frozen BK455.out 3; have hfz36_4 := blk_frozen BK455.out 4; have hfz36_5 := blk_frozen BK455.out 5; have hfz36_6 := blk_frozen BK455.out 6; have hfz36_7 := blk_frozen BK455.out 7) | ((with_reducible refine gate_callee (f := 69) rfl ?_); refine goesL_ (some 78) rfl rfl Try.func69 (by kernel_rfl) rfl #[.int .u64 x1_8, .int .i64 (wrap64 ((ji29) - (ji30))), .int .i64 ji30] rfl (by (try simp only [List.map_toArray, List.map_cons, List.map_nil]); first | done | (simp only [hji29, hji30]; rfl) | rfl | (simp only [List.length_drop, List.length_take]; rfl)) ?_; (with_reducible refine (lead_Field.calls x1_8 (wrap64 ((ji29) - (ji30))) ji30 t465 t466 _ A31.out).mono ?_); rintro e w37 ⟨rfl, hb⟩; refine ⟨_, rfl, ?_⟩; have n0_ := Aside0.mk (blk_below (g := gb451) (o := .cells #[.bool false, .bool false, .int .i64 0, .int .i64 0, .int .i64 0, .int .i64 0, .int .i64 0, .int .u64 0] 91 (0, 0)) (by refine z2_ ?_; refine blk_far ?_ NB451_455.out _; refine z2_ ?_; refine blk_far ?_ NB451_455.out _; refine z2_ ?_; refine blk_far ?_ NB451_455.out _; refine z2_ ?_; refine blk_far ?_ NB451_455.out _; refine z2_ ?_; exact BK451.out) hb); have n1_ := Aside0.mk (blk_below (g := gb455) (o := .cells #[.bool x456000_8, .bool false, .int .i64 t459, .int .i64 (wrap64 (-t459)), .int .i64 ji30, .int .i64 0, .int .i64 0, .int .u64 0] 91 (0, 0)) (by refine z2_ ?_; refine blk_put (cs := #[.bool x456000_8, .bool false, .int .i64 t459, .int .i64 (wrap64 (-t459)), .int .i64 0, .int .i64 0, .int .i64 0, .int .u64 0]) ?_ 4 _ rfl; refine z2_ ?_; refine blk_put (cs := #[.bool x456000_8, .bool false, .int .i64 t459, .int .i64 0, .int .i64 0, .int .i64 0, .int .i64 0, .int .u64 0]) ?_ 3 _ rfl; refine z2_ ?_; refine blk_put (cs := #[.bool x456000_8, .bool false, .int .i64 0, .int .i64 0, .int .i64 0, .int .i64 0, .int .i64 0, .int .u64 0]) ?_ 2 _ rfl; refine z2_ ?_; refine blk_put (cs := #[.bool x456000_8, .bool false, .int .i64 0, .int .i64 0, .int .i64 0, .int .i64 0, .int .i64 0, .int .u64 0]) ?_ 1 _ rfl; refine z2_ ?_; exact BK455.out) hb); have n2_ := Aside0.mk (below_step (z3_ HB.out) hb); clear BK451; clear BK455; clear HB; have BK451 := n0_; have BK455 := n1_; have HB := n2_; clear n0_ n1_ n2_; (try clear hb); (try clear hb2); (try clear hk); (try clear hi); (try simp only [errW_none, errW_some]); have hcz38_0 := z4_ BK455.out 0 (.bool x456000_8) rfl; have hcz38_1 := z4_ BK455.out 1 (.bool false) rfl; have hcz38_2 := z4_ BK455.out 2 (.int .i64 t459) rfl; have hcz38_3 := z4_ BK455.out 3 (.int .i64 (wrap64 (-t459))) rfl; have hcz38_4 := z4_ BK455.out 4 (.int .i64 ji30) rfl; have hcz38_5 := z4_ BK455.out 5 (.int .i64 0) rfl; have hcz38_6 := z4_ BK455.out 6 (.int .i64 0) rfl; have hcz38_7 := z4_ BK455.out 7 (.int .u64 0) rfl; have hfz38_0 := blk_frozen BK455.out 0; have hfz38_1 := blk_frozen BK455.out 1; have hfz38_2 := blk_frozen BK455.out 2; have hfz38_3 := blk_frozen BK455.out 3; have hfz38_4 := blk_frozen BK455.out 4; have hfz38_5 := blk_frozen BK455.out 5; have hfz38_6 := blk_frozen BK455.out 6; have hfz38_7 := blk_frozen BK455.out 7) | ((with_reducible refine gate_callee (f := 69) rfl ?_); refine goesL_ (some 93) rfl rfl Try.func69 (by kernel_rfl) rfl #[.int .u64 x1_8, .int .i64 0, .int .i64 (wrap64 ((ji29) - (ji30)))] rfl (by (try simp only [List.map_toArray, List.map_cons, List.map_nil]); first | done | (simp only [hji29, hji30]; rfl) | rfl | (simp only [List.length_drop, List.length_take]; rfl)) ?_; (with_reducible refine (lead_Field.calls x1_8 0 (wrap64 ((ji29) - (ji30))) t467 t468 _ A33.out).mono ?_); rintro e w39 ⟨rfl, hb⟩; refine ⟨_, rfl, ?_⟩; have n0_ := Aside0.mk (blk_below (g := gb451) (o := .cells #[.bool false, .bool false, .int .i64 0, .int .i64 0, .int .i64 0, .int .i64 0, .int .i64 0, .int .u64 0] 91 (0, 0)) (by refine z2_ ?_; refine blk_far ?_ NB451_455.out _; refine z2_ ?_; refine blk_far ?_ NB451_455.out _; refine z2_ ?_; exact BK451.out) hb); have n1_ := Aside0.mk (blk_below (g := gb455) (o := .cells #[.bool x456000_8, .bool false, .int .i64 t459, .int .i64 (wrap64 (-t459)), .int .i64 ji30, .int .i64 ji32, .int .i64 (wrap64 ((ji29) - (ji30))), .int .u64 0] 91 (0, 0)) (by refine z2_ ?_; refine blk_put (cs := #[.bool x456000_8, .bool false, .int .i64 t459, .int .i64 (wrap64 (-t459)), .int .i64 ji30, .int .i64 ji32, .int .i64 0, .int .u64 0]) ?_ 6 _ rfl; refine z2_ ?_; refine blk_put (cs := #[.bool x456000_8, .bool false, .int .i64 t459, .int .i64 (wrap64 (-t459)), .int .i64 ji30, .int .i64 0, .int .i64 0, .int .u64 0]) ?_ 5 _ rfl; refine z2_ ?_; exact BK455.out) hb); have n2_ := Aside0.mk (below_step (z3_ HB.out) hb); clear BK451; clear BK455; clear HB; have BK451 := n0_; have BK455 := n1_; have HB := n2_; clear n0_ n1_ n2_; (try clear hb); (try clear hb2); (try clear hk); (try clear hi); (try simp only [errW_none, errW_some]); have hcz40_0 := z4_ BK455.out 0 (.bool x456000_8) rfl; have hcz40_1 := z4_ BK455.out 1 (.bool false) rfl; have hcz40_2 := z4_ BK455.out 2 (.int .i64 t459) rfl; have hcz40_3 := z4_ BK455.out 3 (.int .i64 (wrap64 (-t459))) rfl; have hcz40_4 := z4_ BK455.out 4 (.int .i64 ji30) rfl; have hcz40_5 := z4_ BK455.out 5 (.int .i64 ji32) rfl; have hcz40_6 := z4_ BK455.out 6 (.int .i64 (wrap64 ((ji29) - (ji30)))) rfl; have hcz40_7 := z4_ BK455.out 7 (.int .u64 0) rfl; have hfz40_0 := blk_frozen BK455.out 0; have hfz40_1 := blk_frozen BK455.out 1; have hfz40_2 := blk_frozen BK455.out 2; have hfz40_3 := blk_frozen BK455.out 3; have hfz40_4 := blk_frozen BK455.out 4; have hfz40_5 := blk_frozen BK455.out 5; have hfz40_6 := blk_frozen BK455.out 6; have hfz40_7 := blk_frozen BK455.out 7; have hcz41_0 := z4_ BK451.out 0 (.bool false) rfl; have hcz41_1 := z4_ BK451.out 1 (.bool false) rfl; have hcz41_2 := z4_ BK451.out 2 (.int .i64 0) rfl; have hcz41_3 := z4_ BK451.out 3 (.int .i64 0) rfl; have hcz41_4 := z4_ BK451.out 4 (.int .i64 0) rfl; have hcz41_5 := z4_ BK451.out 5 (.int .i64 0) rfl; have hcz41_6 := z4_ BK451.out 6 (.int .i64 0) rfl; have hcz41_7 := z4_ BK451.out 7 (.int .u64 0) rfl; have hfz41_0 := blk_frozen BK451.out 0; have hfz41_1 := blk_frozen BK451.out 1; have hfz41_2 := blk_frozen BK451.out 2; have hfz41_3 := blk_frozen BK451.out 3; have hfz41_4 := blk_frozen BK451.out 4; have hfz41_5 := blk_frozen BK451.out 5; have hfz41_6 := blk_frozen BK451.out 6; have hfz41_7 := blk_frozen BK451.out 7))
       refine bodyPost_ret (results_ct rfl _ _ gb451 91 #[.bool x456000_8, .bool false, .int .i64 t459, .int .i64 (wrap64 (-t459)), .int .i64 ji30, .int .i64 ji32, .int .i64 (wrap64 ((ji29) - (ji30))), .int .u64 t467] (0, 0) _ rfl (by refine z2_ ?_; refine blk_put (cs := #[.bool x456000_8, .bool false, .int .i64 t459, .int .i64 (wrap64 (-t459)), .int .i64 ji30, .int .i64 ji32, .int .i64 (wrap64 ((ji29) - (ji30))), .int .u64 0]) ?_ 7 _ rfl; refine z2_ ?_; refine blk_put (cs := #[.bool x456000_8, .bool false, .int .i64 t459, .int .i64 (wrap64 (-t459)), .int .i64 ji30, .int .i64 ji32, .int .i64 0, .int .u64 0]) ?_ 6 _ rfl; refine z2_ ?_; refine blk_put (cs := #[.bool x456000_8, .bool false, .int .i64 t459, .int .i64 (wrap64 (-t459)), .int .i64 ji30, .int .i64 0, .int .i64 0, .int .u64 0]) ?_ 5 _ rfl; refine z2_ ?_; refine blk_put (cs := #[.bool x456000_8, .bool false, .int .i64 t459, .int .i64 (wrap64 (-t459)), .int .i64 0, .int .i64 0, .int .i64 0, .int .u64 0]) ?_ 4 _ rfl; refine z2_ ?_; refine blk_put (cs := #[.bool x456000_8, .bool false, .int .i64 t459, .int .i64 0, .int .i64 0, .int .i64 0, .int .i64 0, .int .u64 0]) ?_ 3 _ rfl; refine z2_ ?_; refine blk_put (cs := #[.bool x456000_8, .bool false, .int .i64 0, .int .i64 0, .int .i64 0, .int .i64 0, .int .i64 0, .int .u64 0]) ?_ 2 _ rfl; refine z2_ ?_; refine blk_put (cs := #[.bool x456000_8, .bool false, .int .i64 0, .int .i64 0, .int .i64 0, .int .i64 0, .int .i64 0, .int .u64 0]) ?_ 1 _ rfl; refine z2_ ?_; refine blk_put (cs := #[.bool false, .bool false, .int .i64 0, .int .i64 0, .int .i64 0, .int .i64 0, .int .i64 0, .int .u64 0]) ?_ 0 _ rfl; refine z2_ ?_; refine blk_far ?_ NB451_455.out _; refine z2_ ?_; exact BK451.out) Try.underlying91 rfl (by kernel_rfl)) rfl ?_
       exact ⟨by first | rfl | (simp [errW_none, errW_some] <;> rfl) | (simp only [← hji29, ← hji30, ← hji32]; first | rfl | (simp [errW_none, errW_some] <;> rfl)) | (simp [*, errW_none, errW_some] <;> rfl), by repeat (first | (with_reducible first | exact HB.out | apply below_alloc | apply pw_below_drewN | apply below_drew1 | refine below_set ?_ GE451.out | refine below_set ?_ GE455.out) | exact HB.out)⟩
end Go.Proofs.Ytfegofnplcmacaa.PAll
namespace Go.Proofs.Ytfegofnplcmacaa.PAll
open Go.RowKit Go.Proofs.YtfegofnplcmacaaW.PrintWords Go.Proofs.YtfegofnplcmacaaW.PrintLast Go.Proofs.YtfegofnplcmacaaW.PrintMore
attribute [local go_sem] max2_int min2_int max_two min_two max_three min_three max_four min_four
set_option linter.unusedVariables false
set_option linter.unusedSimpArgs false
def codec_Decode.f (k : Nat) (a0 : Int) (a1 : Int) : Option (Int × Bool × Int × Int × Option Int) := (shape_Kind.f a0 a1).bind fun bt470 => (if bt470.2.isNone = true then (if bt470.1 = 1 then ((codec_Split.f k a0 a1).bind fun bt473 => (if 0 ≤ (wrap64 (63 - bt473.2.2.2.2.2.2.1)) then (some (bt470.1, bt473.1, wrap64 ((wrap64 (4 * bt473.2.2.2.1)) + bt473.2.2.2.2.2.1), Go.bits .or .u64 9223372036854775808 (shl .u64 bt473.2.2.2.2.2.2.2.1 (wrap64 (63 - bt473.2.2.2.2.2.2.1))), none)) else (none))) else (some (bt470.1, false, 0, 0, none))) else (some (bt470.1, false, 0, 0, some (bt470.2.getD 0))))
theorem codec_Decode.mono : ∀ a0 a1 k, LeO (codec_Decode.f k a0 a1) (codec_Decode.f (k + 1) a0 a1) := by
 intro a0 a1 k
 unfold codec_Decode.f
 repeat' first
   | (with_reducible exact codec_Split.mono _ _ _)
   | (with_reducible exact LeO.refl _)
   | (with_reducible exact LeO.none _)
   | (with_reducible refine LeO.ite ?_ ?_)
   | (with_reducible refine LeO.bind ?_ (fun _ => ?_))
   | exact codec_Split.mono _ _ _
   | exact LeO.none _
   | refine LeO.ite ?_ ?_
   | refine LeO.bind ?_ (fun _ => ?_)
def codec_Decode.T5 : Bool × List (List Nat × List Nat) := (true, [([], []), ([], []), ([1], [1]), ([], []), ([3], [3]), ([4], [4]), ([], []), ([6], [6]), ([5, 7], [5, 7]), ([], []), ([9], [9]), ([], []), ([11], [11]), ([12], [12]), ([10, 13], [10, 13]), ([14], [14]), ([0, 2, 8, 15], [0, 2, 8, 15]), ([16, 0, 1, 2, 3, 4, 5, 6, 7, 8, 9, 10, 11, 12, 13, 14, 15, 16], [16]), ([17, 0, 1, 2, 3, 4, 5, 6, 7, 8, 9, 10, 11, 12, 13, 14, 15, 16, 17], [])])
def codec_Decode.B5 : List Nat := [0, 0, 2, 0, 8, 24, 0, 64, 248, 0, 512, 0, 2048, 6144, 15872, 32256, 65535, 131071, 262143]
theorem codec_Decode.tab5 : rtab .any (opsOf Try.f24 5) = codec_Decode.T5 := by kernel_rfl
theorem codec_Decode.bits5 : waitsOk codec_Decode.T5.2 codec_Decode.B5 = true := by kernel_rfl
set_option maxHeartbeats 8000000 in
set_option maxRecDepth 100000 in
theorem codec_Decode.calls (k : Nat) (a0 : Int) (a1 : Int) (r1 : Int) (r2 : Bool) (r3 : Int) (r4 : Int) (r5 : Option Int) (w : World) (h : codec_Decode.f k a0 a1 = some (r1, r2, r3, r4, r5)) :
  Calls Try.prog 24 #[.int .i64 a0, .int .u64 a1] w fun e w' => e = .returned (.tuple #[.agg #[.int .i64 r1, .bool r2, .int .i64 r3, .int .u64 r4], errW r5]) ∧ Below w.heap.size w w' := by
 have hu44 := Try.underlying44
 have hu91 := Try.underlying91
 have hu27 := Try.underlying27
 have hu55 := Try.underlying55
 have HB := Aside0.mk (Below.refl w.heap.size w)
 have H : ((shape_Kind.f a0 a1).bind fun bt470 => (if bt470.2.isNone = true then (if bt470.1 = 1 then ((codec_Split.f k a0 a1).bind fun bt473 => (if 0 ≤ (wrap64 (63 - bt473.2.2.2.2.2.2.1)) then (some (bt470.1, bt473.1, wrap64 ((wrap64 (4 * bt473.2.2.2.1)) + bt473.2.2.2.2.2.1), Go.bits .or .u64 9223372036854775808 (shl .u64 bt473.2.2.2.2.2.2.2.1 (wrap64 (63 - bt473.2.2.2.2.2.2.1))), none)) else (none))) else (some (bt470.1, false, 0, 0, none))) else (some (bt470.1, false, 0, 0, some (bt470.2.getD 0))))) = some (r1, r2, r3, r4, r5) := h
 clear h
 replace H := Option.bind_eq_some_iff.mp H
 obtain ⟨⟨t470, t471⟩, A30, H⟩ := H
 replace H : (if t471.isNone = true then (if t470 = 1 then ((codec_Split.f k a0 a1).bind fun bt473 => (if 0 ≤ (wrap64 (63 - bt473.2.2.2.2.2.2.1)) then (some (t470, bt473.1, wrap64 ((wrap64 (4 * bt473.2.2.2.1)) + bt473.2.2.2.2.2.1), Go.bits .or .u64 9223372036854775808 (shl .u64 bt473.2.2.2.2.2.2.2.1 (wrap64 (63 - bt473.2.2.2.2.2.2.1))), none)) else (none))) else (some (t470, false, 0, 0, none))) else (some (t470, false, 0, 0, some (t471.getD 0)))) = some (r1, r2, r3, r4, r5) := H
 have A3 := Aside0.mk A30
 clear A30
 rcases t471 with _ | q472
 ·have H1 : (if t470 = 1 then ((codec_Split.f k a0 a1).bind fun bt473 => (if 0 ≤ (wrap64 (63 - bt473.2.2.2.2.2.2.1)) then (some (t470, bt473.1, wrap64 ((wrap64 (4 * bt473.2.2.2.1)) + bt473.2.2.2.2.2.1), Go.bits .or .u64 9223372036854775808 (shl .u64 bt473.2.2.2.2.2.2.2.1 (wrap64 (63 - bt473.2.2.2.2.2.2.1))), none)) else (none))) else (some (t470, false, 0, 0, none))) = some (r1, r2, r3, r4, r5) := by rw [if_pos (show (none : Option Int).isNone = true by rfl)] at H; exact H
  clear H
  have H := H1
  clear H1
  try simp only [errW_none, errW_some]
  by_cases c4 : t470 = 1
  ·rw [if_pos c4] at H
   have c4b0 : (t470 == 1) = true := beq_iff_eq.mpr c4
   have c4b1 : (t470 != 1) = false := bne_eq_false_iff_eq.mpr c4
   clear c4
   replace H := Option.bind_eq_some_iff.mp H
   obtain ⟨⟨t473, t474, t475, t476, t477, t478, t479, t480, t481⟩, A50, H⟩ := H
   replace H : (if 0 ≤ (wrap64 (63 - t479)) then (some (t470, t473, wrap64 ((wrap64 (4 * t476)) + t478), Go.bits .or .u64 9223372036854775808 (shl .u64 t480 (wrap64 (63 - t479))), none)) else (none)) = some (r1, r2, r3, r4, r5) := H
   have A5 := Aside0.mk A50
   clear A50
   obtain ⟨ji6, hji6⟩ : ∃ j_ : Int, (wrap64 (63 - t479)) = j_ := ⟨_, rfl⟩
   replace H : (if 0 ≤ (ji6) then (some (t470, t473, wrap64 ((wrap64 (4 * t476)) + t478), Go.bits .or .u64 9223372036854775808 (shl .u64 t480 (ji6)), none)) else (none)) = some (r1, r2, r3, r4, r5) := by first | (rw [hji6] at H; exact H) | (simp only [hji6] at H ⊢; exact H)
   (try rw [hji6] at A3)
   (try rw [hji6] at A5)
   have hji6w : (IntKind.i64.wrap (63 - t479)) = ji6 := (i64_w _).trans hji6
   by_cases c7 : 0 ≤ (ji6)
   ·rw [if_pos c7] at H
    have c7b0 := eq_true c7
    have c7b1 : decide (0 ≤ (ji6)) = true := decide_eq_true c7
    clear c7
    obtain ⟨ji8, hji8⟩ : ∃ j_ : Int, (shl .u64 t480 (ji6)) = j_ := ⟨_, rfl⟩
    replace H : (some (t470, t473, wrap64 ((wrap64 (4 * t476)) + t478), Go.bits .or .u64 9223372036854775808 (ji8), none)) = some (r1, r2, r3, r4, r5) := by first | (rw [hji8] at H; exact H) | (simp only [hji8] at H ⊢; exact H)
    (try rw [hji8] at A3)
    (try rw [hji8] at A5)
    have hji8_ : (IntKind.u64.wrap (t480 * 2 ^ min (ji6).toNat 64)) = ji8 := hji8
    have hji8z : (ji6) ≤ 64 → (IntKind.u64.wrap (t480 * 2 ^ (ji6).toNat)) = ji8 := shl_small hji8
    (try (have hji8Z_ := hji8z (by omega)))
    simp only [Option.some.injEq, Prod.mk.injEq] at H
    obtain ⟨rfl, rfl, rfl, rfl, rfl⟩ := H
    go_enter Try.func24, Try.ntmps24
    try go_wp2_with (first | ((with_reducible refine gate_dst (N := 4) rfl ?_); refine box_event ?hg (N := 4) ?hd (cs := #[.int .i64 0, .bool false, .int .i64 0, .int .u64 0]) (t := 44) ?hr ?_; (case hd => rfl); (case hg => rfl); (case hr => first | (go_simp; done) | (go_simp; rfl)); intro gb469 hg w9 hbox hb; have n0_ := Aside0.mk (below_step (z3_ HB.out) hb); have n1_ := Aside0.mk (hbox); have n2_ := Aside0.mk ((by rw [hg]; exact (below_size (z3_ HB.out)) : w.heap.size ≤ gb469)); have n3_ := Aside0.mk ((by rw [hg]; exact (below_size (z3_ HB.out)) : w.heap.size ≤ gb469)); clear HB; have HB := n0_; have BK469 := n1_; have GW469 := n2_; have GE469 := n3_; clear n0_ n1_ n2_ n3_; clear hb hbox hg) | ((with_reducible refine gate_callee (f := 49) rfl ?_); refine goesL_ (some 13) rfl rfl Try.func49 (by kernel_rfl) rfl #[.int .i64 a0, .int .u64 a1] rfl z5_ ?_; (with_reducible refine (shape_Kind.calls a0 a1 t470 none _ A3.out).mono ?_); rintro e w' ⟨rfl, ⟨nd, rfl⟩⟩; refine ⟨_, rfl, ?_⟩; (try simp only [errW_none, errW_some]); (try (rw [drewN_self w9]; generalize hq_ : World.drewN w9 _ = w9; have n0_ : Aside0 (w9.heap[gb469]? = some (.cells #[.int .i64 0, .bool false, .int .i64 0, .int .u64 0] 44 (0, 0))) := ⟨by rw [← hq_]; exact (z1_ BK469.out)⟩; have n1_ : Aside0 (Below w.heap.size w w9) := ⟨by rw [← hq_]; exact (z3_ HB.out)⟩; clear BK469 HB hq_; have BK469 := n0_; have HB := n1_; clear n0_ n1_))) | ((with_reducible refine gate_callee (f := 50) rfl ?_); refine goesL_ (some 28) rfl rfl Try.func50 (by kernel_rfl) rfl #[.int .i64 a0, .int .u64 a1] rfl z5_ ?_; (with_reducible refine (codec_Split.calls k a0 a1 t473 t474 t475 t476 t477 t478 t479 t480 t481 _ A5.out).mono ?_); rintro e w10 ⟨rfl, hb⟩; refine ⟨_, rfl, ?_⟩; have n0_ := Aside0.mk (blk_below (g := gb469) (z1_ BK469.out) hb); have n1_ := Aside0.mk (below_step (z3_ HB.out) hb); clear BK469; clear HB; have BK469 := n0_; have HB := n1_; clear n0_ n1_; (try clear hb); (try clear hb2); (try clear hk); (try clear hi); (try simp only [errW_none, errW_some])) | ((with_reducible refine gate_dst (N := 8) rfl ?_); refine box_event ?hg (N := 8) ?hd (cs := #[.bool false, .bool false, .int .i64 0, .int .i64 0, .int .i64 0, .int .i64 0, .int .i64 0, .int .u64 0]) (t := 91) ?hr ?_; (case hd => rfl); (case hg => rfl); (case hr => first | (go_simp; done) | (go_simp; rfl)); intro gb482 hg w11 hbox hb; have n0_ := Aside0.mk (blk_below (g := gb469) (z1_ BK469.out) hb); have n1_ := Aside0.mk (below_step (z3_ HB.out) hb); have n2_ := Aside0.mk (hbox); have n3_ := Aside0.mk ((by rw [hg]; exact (below_size (z3_ HB.out)) : w.heap.size ≤ gb482)); have n4_ := Aside0.mk ((by rw [hg]; exact (below_size (z3_ HB.out)) : w.heap.size ≤ gb482)); have n5_ := Aside0.mk ((by rw [hg]; exact Nat.ne_of_lt (blk_lt (g := gb469) (o := .cells #[.int .i64 0, .bool false, .int .i64 0, .int .u64 0] 44 (0, 0)) (z1_ BK469.out)) : gb469 ≠ gb482)); have n6_ := Aside0.mk ((by rw [hg]; exact Nat.ne_of_gt (blk_lt (g := gb469) (o := .cells #[.int .i64 0, .bool false, .int .i64 0, .int .u64 0] 44 (0, 0)) (z1_ BK469.out)) : gb482 ≠ gb469)); clear BK469; clear HB; have BK469 := n0_; have HB := n1_; have BK482 := n2_; have GW482 := n3_; have GE482 := n4_; have NB469_482 := n5_; have NB482_469 := n6_; clear n0_ n1_ n2_ n3_ n4_ n5_ n6_; clear hb hbox hg; have hnb12 := NB482_469.out; have hnc12 := NB469_482.out; have hcz13_0 := z4_ BK482.out 0 (.bool false) rfl; have hcz13_1 := z4_ BK482.out 1 (.bool false) rfl; have hcz13_2 := z4_ BK482.out 2 (.int .i64 0) rfl; have hcz13_3 := z4_ BK482.out 3 (.int .i64 0) rfl; have hcz13_4 := z4_ BK482.out 4 (.int .i64 0) rfl; have hcz13_5 := z4_ BK482.out 5 (.int .i64 0) rfl; have hcz13_6 := z4_ BK482.out 6 (.int .i64 0) rfl; have hcz13_7 := z4_ BK482.out 7 (.int .u64 0) rfl; have hfz13_0 := blk_frozen BK482.out 0; have hfz13_1 := blk_frozen BK482.out 1; have hfz13_2 := blk_frozen BK482.out 2; have hfz13_3 := blk_frozen BK482.out 3; have hfz13_4 := blk_frozen BK482.out 4; have hfz13_5 := blk_frozen BK482.out 5; have hfz13_6 := blk_frozen BK482.out 6; have hfz13_7 := blk_frozen BK482.out 7))
    have n0_ : Aside0 (((((((((w11.setCell ⟨gb482, 0, none⟩ (.bool t473)).setCell ⟨gb482, 1, none⟩ (.bool t474)).setCell ⟨gb482, 2, none⟩ (.int .i64 t475)).setCell ⟨gb482, 3, none⟩ (.int .i64 t476)).setCell ⟨gb482, 4, none⟩ (.int .i64 t477)).setCell ⟨gb482, 5, none⟩ (.int .i64 t478)).setCell ⟨gb482, 6, none⟩ (.int .i64 t479)).setCell ⟨gb482, 7, none⟩ (.int .u64 t480)).heap[gb469]? = some (.cells #[.int .i64 0, .bool false, .int .i64 0, .int .u64 0] 44 (0, 0))) := ⟨by refine z2_ ?_; refine blk_far ?_ NB469_482.out _; refine z2_ ?_; refine blk_far ?_ NB469_482.out _; refine z2_ ?_; refine blk_far ?_ NB469_482.out _; refine z2_ ?_; refine blk_far ?_ NB469_482.out _; refine z2_ ?_; refine blk_far ?_ NB469_482.out _; refine z2_ ?_; refine blk_far ?_ NB469_482.out _; refine z2_ ?_; refine blk_far ?_ NB469_482.out _; refine z2_ ?_; refine blk_far ?_ NB469_482.out _; refine z2_ ?_; exact BK469.out⟩
    have n1_ : Aside0 (((((((((w11.setCell ⟨gb482, 0, none⟩ (.bool t473)).setCell ⟨gb482, 1, none⟩ (.bool t474)).setCell ⟨gb482, 2, none⟩ (.int .i64 t475)).setCell ⟨gb482, 3, none⟩ (.int .i64 t476)).setCell ⟨gb482, 4, none⟩ (.int .i64 t477)).setCell ⟨gb482, 5, none⟩ (.int .i64 t478)).setCell ⟨gb482, 6, none⟩ (.int .i64 t479)).setCell ⟨gb482, 7, none⟩ (.int .u64 t480)).heap[gb482]? = some (.cells #[.bool t473, .bool t474, .int .i64 t475, .int .i64 t476, .int .i64 t477, .int .i64 t478, .int .i64 t479, .int .u64 t480] 91 (0, 0))) := ⟨by refine z2_ ?_; refine blk_put (cs := #[.bool t473, .bool t474, .int .i64 t475, .int .i64 t476, .int .i64 t477, .int .i64 t478, .int .i64 t479, .int .u64 0]) ?_ 7 _ rfl; refine z2_ ?_; refine blk_put (cs := #[.bool t473, .bool t474, .int .i64 t475, .int .i64 t476, .int .i64 t477, .int .i64 t478, .int .i64 0, .int .u64 0]) ?_ 6 _ rfl; refine z2_ ?_; refine blk_put (cs := #[.bool t473, .bool t474, .int .i64 t475, .int .i64 t476, .int .i64 t477, .int .i64 0, .int .i64 0, .int .u64 0]) ?_ 5 _ rfl; refine z2_ ?_; refine blk_put (cs := #[.bool t473, .bool t474, .int .i64 t475, .int .i64 t476, .int .i64 0, .int .i64 0, .int .i64 0, .int .u64 0]) ?_ 4 _ rfl; refine z2_ ?_; refine blk_put (cs := #[.bool t473, .bool t474, .int .i64 t475, .int .i64 0, .int .i64 0, .int .i64 0, .int .i64 0, .int .u64 0]) ?_ 3 _ rfl; refine z2_ ?_; refine blk_put (cs := #[.bool t473, .bool t474, .int .i64 0, .int .i64 0, .int .i64 0, .int .i64 0, .int .i64 0, .int .u64 0]) ?_ 2 _ rfl; refine z2_ ?_; refine blk_put (cs := #[.bool t473, .bool false, .int .i64 0, .int .i64 0, .int .i64 0, .int .i64 0, .int .i64 0, .int .u64 0]) ?_ 1 _ rfl; refine z2_ ?_; refine blk_put (cs := #[.bool false, .bool false, .int .i64 0, .int .i64 0, .int .i64 0, .int .i64 0, .int .i64 0, .int .u64 0]) ?_ 0 _ rfl; refine z2_ ?_; exact BK482.out⟩
    have n2_ : Aside0 (Below w.heap.size w ((((((((w11.setCell ⟨gb482, 0, none⟩ (.bool t473)).setCell ⟨gb482, 1, none⟩ (.bool t474)).setCell ⟨gb482, 2, none⟩ (.int .i64 t475)).setCell ⟨gb482, 3, none⟩ (.int .i64 t476)).setCell ⟨gb482, 4, none⟩ (.int .i64 t477)).setCell ⟨gb482, 5, none⟩ (.int .i64 t478)).setCell ⟨gb482, 6, none⟩ (.int .i64 t479)).setCell ⟨gb482, 7, none⟩ (.int .u64 t480))) := ⟨by repeat (first | (with_reducible first | exact HB.out | apply below_alloc | apply pw_below_drewN | apply below_drew1 | refine below_set ?_ GE469.out | refine below_set ?_ GE482.out) | exact HB.out)⟩
    (try clear BK469)
    (try clear BK482)
    (try clear HB)
    generalize ((((((((w11.setCell ⟨gb482, 0, none⟩ (.bool t473)).setCell ⟨gb482, 1, none⟩ (.bool t474)).setCell ⟨gb482, 2, none⟩ (.int .i64 t475)).setCell ⟨gb482, 3, none⟩ (.int .i64 t476)).setCell ⟨gb482, 4, none⟩ (.int .i64 t477)).setCell ⟨gb482, 5, none⟩ (.int .i64 t478)).setCell ⟨gb482, 6, none⟩ (.int .i64 t479)).setCell ⟨gb482, 7, none⟩ (.int .u64 t480)) = w14 at n0_ n1_ n2_ ⊢
    have BK469 := n0_
    have BK482 := n1_
    have HB := n2_
    clear n0_ n1_ n2_
    have n0_ := Aside0.mk (blk_drew BK469.out)
    have n1_ := Aside0.mk (blk_drew BK482.out)
    have n2_ := Aside0.mk (below_drew1 HB.out)
    clear BK469
    clear BK482
    clear HB
    have BK469 := n0_
    have BK482 := n1_
    have HB := n2_
    clear n0_ n1_ n2_
    refine start_ (n := 19) (S := fun w' => w'.cell? ⟨gb482, 0, none⟩ = some (.bool t473) ∧ w'.cell? ⟨gb482, 1, none⟩ = some (.bool t474) ∧ w'.cell? ⟨gb482, 2, none⟩ = some (.int .i64 t475) ∧ w'.cell? ⟨gb482, 3, none⟩ = some (.int .i64 t476) ∧ w'.cell? ⟨gb482, 4, none⟩ = some (.int .i64 t477) ∧ w'.cell? ⟨gb482, 5, none⟩ = some (.int .i64 t478) ∧ w'.cell? ⟨gb482, 6, none⟩ = some (.int .i64 t479) ∧ w'.cell? ⟨gb482, 7, none⟩ = some (.int .u64 t480)) (ds := []) #[false, false, false, false, false, false, false, false, false, false, false, false, false, false, false, false, false, false, false] (by kernel_rfl) rfl rfl ⟨(blk_cell BK482.out 0).trans rfl, (blk_cell BK482.out 1).trans rfl, (blk_cell BK482.out 2).trans rfl, (blk_cell BK482.out 3).trans rfl, (blk_cell BK482.out 4).trans rfl, (blk_cell BK482.out 5).trans rfl, (blk_cell BK482.out 6).trans rfl, (blk_cell BK482.out 7).trans rfl⟩ (fun hHeld => ?_); refine with_tabW codec_Decode.tab5 codec_Decode.bits5 (fun HT_ HW_ => ?_)
    generalize w14.drew = w15 at BK469 BK482 HB hHeld ⊢
    refine pure_ (i := 0) (N := some 31) (v := ?_) (a' := ?_) #[true, false, false, false, false, false, false, false, false, false, false, false, false, false, false, false, false, false, false] rfl rfl (any_of HT_.out (by kernel_rfl)) (fun _ _ _ h => h) (Or.inl ⟨by rfl, ?_⟩) ?_ ?_
    rotate_left
    ·intro w'
     go_simp
     with_reducible rfl
    rotate_left
    ·simp only [Act.put, List.setIfInBounds_toArray, List.set_cons_zero, List.set_cons_succ, i64_w, i32_w]
     rfl
    refine pure_ (i := 1) (N := some 32) (v := ?_) (a' := ?_) #[true, true, false, false, false, false, false, false, false, false, false, false, false, false, false, false, false, false, false] rfl rfl (any_of HT_.out (by kernel_rfl)) (fun _ _ _ h => h) (Or.inl ⟨by rfl, ?_⟩) ?_ ?_
    rotate_left
    ·intro w'
     go_simp
     with_reducible rfl
    rotate_left
    ·simp only [Act.put, List.setIfInBounds_toArray, List.set_cons_zero, List.set_cons_succ, i64_w, i32_w]
     rfl
    refine pure_ (i := 3) (N := some 34) (v := ?_) (a' := ?_) #[true, true, false, true, false, false, false, false, false, false, false, false, false, false, false, false, false, false, false] rfl rfl (any_of HT_.out (by kernel_rfl)) (fun _ _ _ h => h) (Or.inl ⟨by rfl, ?_⟩) ?_ ?_
    rotate_left
    ·intro w'
     go_simp
     with_reducible rfl
    rotate_left
    ·simp only [Act.put, List.setIfInBounds_toArray, List.set_cons_zero, List.set_cons_succ, i64_w, i32_w]
     rfl
    refine pure_ (i := 6) (N := some 37) (v := ?_) (a' := ?_) #[true, true, false, true, false, false, true, false, false, false, false, false, false, false, false, false, false, false, false] rfl rfl (any_of HT_.out (by kernel_rfl)) (fun _ _ _ h => h) (Or.inl ⟨by rfl, ?_⟩) ?_ ?_
    rotate_left
    ·intro w'
     go_simp
     with_reducible rfl
    rotate_left
    ·simp only [Act.put, List.setIfInBounds_toArray, List.set_cons_zero, List.set_cons_succ, i64_w, i32_w]
     rfl
    refine pure_ (i := 9) (N := some 40) (v := ?_) (a' := ?_) #[true, true, false, true, false, false, true, false, false, true, false, false, false, false, false, false, false, false, false] rfl rfl (any_of HT_.out (by kernel_rfl)) (fun _ _ _ h => h) (Or.inl ⟨by rfl, ?_⟩) ?_ ?_
    rotate_left
    ·intro w'
     go_simp
     with_reducible rfl
    rotate_left
    ·simp only [Act.put, List.setIfInBounds_toArray, List.set_cons_zero, List.set_cons_succ, i64_w, i32_w]
     rfl
    refine pure_ (i := 11) (N := some 42) (v := ?_) (a' := ?_) #[true, true, false, true, false, false, true, false, false, true, false, true, false, false, false, false, false, false, false] rfl rfl (any_of HT_.out (by kernel_rfl)) (fun _ _ _ h => h) (Or.inl ⟨by rfl, ?_⟩) ?_ ?_
    rotate_left
    ·intro w'
     go_simp
     with_reducible rfl
    rotate_left
    ·simp only [Act.put, List.setIfInBounds_toArray, List.set_cons_zero, List.set_cons_succ, i64_w, i32_w]
     rfl
    refine take_ (i := 2) (N := some 33) (v := ?_) (a' := ?_) #[true, true, true, true, false, false, true, false, false, true, false, true, false, false, false, false, false, false, false] rfl rfl (take_ofW HT_.out HW_.out (by kernel_rfl)) (fun _ _ _ h => h) (Or.inl ⟨by rfl, ?_⟩) hHeld ?_ ?_
    rotate_left
    ·rintro w' ⟨s0, s1, s2, s3, s4, s5, s6, s7⟩
     go_simp
     with_reducible rfl
    rotate_left
    ·simp only [Act.put, List.setIfInBounds_toArray, List.set_cons_zero, List.set_cons_succ, i64_w, i32_w]
     rfl
    refine take_ (i := 4) (N := some 35) (v := ?_) (a' := ?_) #[true, true, true, true, true, false, true, false, false, true, false, true, false, false, false, false, false, false, false] rfl rfl (take_ofW HT_.out HW_.out (by kernel_rfl)) (fun _ _ _ h => h) (Or.inl ⟨by rfl, ?_⟩) hHeld ?_ ?_
    rotate_left
    ·rintro w' ⟨s0, s1, s2, s3, s4, s5, s6, s7⟩
     go_simp
     with_reducible rfl
    rotate_left
    ·simp only [Act.put, List.setIfInBounds_toArray, List.set_cons_zero, List.set_cons_succ, i64_w, i32_w]
     rfl
    refine pure_ (i := 5) (N := some 36) (v := ?_) (a' := ?_) #[true, true, true, true, true, true, true, false, false, true, false, true, false, false, false, false, false, false, false] rfl rfl (any_of HT_.out (by kernel_rfl)) (fun _ _ _ h => h) (Or.inl ⟨by rfl, ?_⟩) ?_ ?_
    rotate_left
    ·intro w'
     go_simp
     with_reducible rfl
    rotate_left
    ·simp only [Act.put, List.setIfInBounds_toArray, List.set_cons_zero, List.set_cons_succ, i64_w, i32_w]
     rfl
    refine take_ (i := 7) (N := some 38) (v := ?_) (a' := ?_) #[true, true, true, true, true, true, true, true, false, true, false, true, false, false, false, false, false, false, false] rfl rfl (take_ofW HT_.out HW_.out (by kernel_rfl)) (fun _ _ _ h => h) (Or.inl ⟨by rfl, ?_⟩) hHeld ?_ ?_
    rotate_left
    ·rintro w' ⟨s0, s1, s2, s3, s4, s5, s6, s7⟩
     go_simp
     with_reducible rfl
    rotate_left
    ·simp only [Act.put, List.setIfInBounds_toArray, List.set_cons_zero, List.set_cons_succ, i64_w, i32_w]
     rfl
    refine pure_ (i := 8) (N := some 39) (v := ?_) (a' := ?_) #[true, true, true, true, true, true, true, true, true, true, false, true, false, false, false, false, false, false, false] rfl rfl (any_of HT_.out (by kernel_rfl)) (fun _ _ _ h => h) (Or.inl ⟨by rfl, ?_⟩) ?_ ?_
    rotate_left
    ·intro w'
     go_simp
     with_reducible rfl
    rotate_left
    ·simp only [Act.put, List.setIfInBounds_toArray, List.set_cons_zero, List.set_cons_succ, i64_w, i32_w]
     rfl
    refine take_ (i := 10) (N := some 41) (v := ?_) (a' := ?_) #[true, true, true, true, true, true, true, true, true, true, true, true, false, false, false, false, false, false, false] rfl rfl (take_ofW HT_.out HW_.out (by kernel_rfl)) (fun _ _ _ h => h) (Or.inl ⟨by rfl, ?_⟩) hHeld ?_ ?_
    rotate_left
    ·rintro w' ⟨s0, s1, s2, s3, s4, s5, s6, s7⟩
     go_simp
     with_reducible rfl
    rotate_left
    ·simp only [Act.put, List.setIfInBounds_toArray, List.set_cons_zero, List.set_cons_succ, i64_w, i32_w]
     rfl
    refine take_ (i := 12) (N := some 43) (v := ?_) (a' := ?_) #[true, true, true, true, true, true, true, true, true, true, true, true, true, false, false, false, false, false, false] rfl rfl (take_ofW HT_.out HW_.out (by kernel_rfl)) (fun _ _ _ h => h) (Or.inl ⟨by rfl, ?_⟩) hHeld ?_ ?_
    rotate_left
    ·rintro w' ⟨s0, s1, s2, s3, s4, s5, s6, s7⟩
     go_simp
     with_reducible rfl
    rotate_left
    ·simp only [Act.put, List.setIfInBounds_toArray, List.set_cons_zero, List.set_cons_succ, i64_w, i32_w]
     rfl
    refine pure_ (i := 13) (N := some 44) (v := ?_) (a' := ?_) #[true, true, true, true, true, true, true, true, true, true, true, true, true, true, false, false, false, false, false] rfl rfl (any_of HT_.out (by kernel_rfl)) (fun _ _ _ h => h) (Or.inl ⟨by rfl, ?_⟩) ?_ ?_
    rotate_left
    ·intro w'
     go_simp
     with_reducible rfl
    rotate_left
    ·simp only [Act.put, List.setIfInBounds_toArray, List.set_cons_zero, List.set_cons_succ, i64_w, i32_w]
     rfl
    refine pure_ (i := 14) (N := some 45) (v := ?_) (a' := ?_) #[true, true, true, true, true, true, true, true, true, true, true, true, true, true, true, false, false, false, false] rfl rfl (any_of HT_.out (by kernel_rfl)) (fun _ _ _ h => h) (Or.inl ⟨by rfl, ?_⟩) ?_ ?_
    rotate_left
    ·intro w'
     go_simp
     with_reducible rfl
    rotate_left
    ·simp only [Act.put, List.setIfInBounds_toArray, List.set_cons_zero, List.set_cons_succ, i64_w, i32_w]
     rfl
    refine pure_ (i := 15) (N := some 46) (v := ?_) (a' := ?_) #[true, true, true, true, true, true, true, true, true, true, true, true, true, true, true, true, false, false, false] rfl rfl (any_of HT_.out (by kernel_rfl)) (fun _ _ _ h => h) (Or.inl ⟨by rfl, ?_⟩) ?_ ?_
    rotate_left
    ·intro w'
     go_simp
     with_reducible rfl
    rotate_left
    ·simp only [Act.put, List.setIfInBounds_toArray, List.set_cons_zero, List.set_cons_succ, i64_w, i32_w]
     rfl
    refine pure_ (i := 16) (N := some 47) (v := ?_) (a' := ?_) #[true, true, true, true, true, true, true, true, true, true, true, true, true, true, true, true, true, false, false] rfl rfl (any_of HT_.out (by kernel_rfl)) (fun _ _ _ h => h) (Or.inl ⟨by rfl, ?_⟩) ?_ ?_
    rotate_left
    ·intro w'
     go_simp
     with_reducible rfl
    rotate_left
    ·simp only [Act.put, List.setIfInBounds_toArray, List.set_cons_zero, List.set_cons_succ, i64_w, i32_w]
     rfl
    refine one_ (i := 17) (N := none) #[true, true, true, true, true, true, true, true, true, true, true, true, true, true, true, true, true, true, false] rfl rfl (one_of HT_.out (by kernel_rfl)) (by decide) (fun K hK => ?_)
    have hs16 : w15.cell? ⟨gb469, 0, none⟩ = some (.int .i64 0) := (blk_cell BK469.out 0).trans rfl
    have hfs16 := blk_frozen BK469.out 0
    have hns16_1 := NB482_469.out
    have hms16_1 := NB469_482.out
    have hs17 : w15.cell? ⟨gb469, 1, none⟩ = some (.bool false) := (blk_cell BK469.out 1).trans rfl
    have hfs17 := blk_frozen BK469.out 1
    have hns17_1 := NB482_469.out
    have hms17_1 := NB469_482.out
    have hs18 : w15.cell? ⟨gb469, 2, none⟩ = some (.int .i64 0) := (blk_cell BK469.out 2).trans rfl
    have hfs18 := blk_frozen BK469.out 2
    have hns18_1 := NB482_469.out
    have hms18_1 := NB469_482.out
    have hs19 : w15.cell? ⟨gb469, 3, none⟩ = some (.int .u64 0) := (blk_cell BK469.out 3).trans rfl
    have hfs19 := blk_frozen BK469.out 3
    have hns19_1 := NB482_469.out
    have hms19_1 := NB469_482.out
    refine skip_ (w1 := ?_) (by rfl) rfl ?_ ?_
    rotate_left
    ·go_simp
     rfl
    refine hK.out _ _ ⟨((cell_far (p := ⟨gb469, _, none⟩) NB482_469.out _).trans (((cell_far (p := ⟨gb469, _, none⟩) NB482_469.out _).trans (((cell_far (p := ⟨gb469, _, none⟩) NB482_469.out _).trans (((cell_far (p := ⟨gb469, _, none⟩) NB482_469.out _).trans (hHeld.1)))))))), ((cell_far (p := ⟨gb469, _, none⟩) NB482_469.out _).trans (((cell_far (p := ⟨gb469, _, none⟩) NB482_469.out _).trans (((cell_far (p := ⟨gb469, _, none⟩) NB482_469.out _).trans (((cell_far (p := ⟨gb469, _, none⟩) NB482_469.out _).trans (hHeld.2.1)))))))), ((cell_far (p := ⟨gb469, _, none⟩) NB482_469.out _).trans (((cell_far (p := ⟨gb469, _, none⟩) NB482_469.out _).trans (((cell_far (p := ⟨gb469, _, none⟩) NB482_469.out _).trans (((cell_far (p := ⟨gb469, _, none⟩) NB482_469.out _).trans (hHeld.2.2.1)))))))), ((cell_far (p := ⟨gb469, _, none⟩) NB482_469.out _).trans (((cell_far (p := ⟨gb469, _, none⟩) NB482_469.out _).trans (((cell_far (p := ⟨gb469, _, none⟩) NB482_469.out _).trans (((cell_far (p := ⟨gb469, _, none⟩) NB482_469.out _).trans (hHeld.2.2.2.1)))))))), ((cell_far (p := ⟨gb469, _, none⟩) NB482_469.out _).trans (((cell_far (p := ⟨gb469, _, none⟩) NB482_469.out _).trans (((cell_far (p := ⟨gb469, _, none⟩) NB482_469.out _).trans (((cell_far (p := ⟨gb469, _, none⟩) NB482_469.out _).trans (hHeld.2.2.2.2.1)))))))), ((cell_far (p := ⟨gb469, _, none⟩) NB482_469.out _).trans (((cell_far (p := ⟨gb469, _, none⟩) NB482_469.out _).trans (((cell_far (p := ⟨gb469, _, none⟩) NB482_469.out _).trans (((cell_far (p := ⟨gb469, _, none⟩) NB482_469.out _).trans (hHeld.2.2.2.2.2.1)))))))), ((cell_far (p := ⟨gb469, _, none⟩) NB482_469.out _).trans (((cell_far (p := ⟨gb469, _, none⟩) NB482_469.out _).trans (((cell_far (p := ⟨gb469, _, none⟩) NB482_469.out _).trans (((cell_far (p := ⟨gb469, _, none⟩) NB482_469.out _).trans (hHeld.2.2.2.2.2.2.1)))))))), ((cell_far (p := ⟨gb469, _, none⟩) NB482_469.out _).trans (((cell_far (p := ⟨gb469, _, none⟩) NB482_469.out _).trans (((cell_far (p := ⟨gb469, _, none⟩) NB482_469.out _).trans (((cell_far (p := ⟨gb469, _, none⟩) NB482_469.out _).trans (hHeld.2.2.2.2.2.2.2))))))))⟩ (fun hHeld => ?_)
    clear hK K
    refine pure_ (i := 18) (N := some 5) (v := ?_) (a' := ?_) #[true, true, true, true, true, true, true, true, true, true, true, true, true, true, true, true, true, true, true] rfl rfl (any_of HT_.out (by kernel_rfl)) (fun _ _ _ h => h) (Or.inl ⟨by rfl, ?_⟩) ?_ ?_
    rotate_left
    ·intro w'
     go_simp
     with_reducible rfl
    rotate_left
    ·simp only [Act.put, List.setIfInBounds_toArray, List.set_cons_zero, List.set_cons_succ, i64_w, i32_w]
     rfl
    refine done_ (done_of HT_.out (by kernel_rfl)) ?_
    try go_wp2
    refine bodyPost_ret (results_ct rfl _ _ gb469 44 #[.int .i64 t470, .bool t473, .int .i64 (wrap64 ((wrap64 (4 * t476)) + t478)), .int .u64 (Go.bits .or .u64 9223372036854775808 (ji8))] (0, 0) _ rfl (by refine z2_ ?_; refine blk_put (cs := #[.int .i64 t470, .bool t473, .int .i64 (wrap64 ((wrap64 (4 * t476)) + t478)), .int .u64 0]) ?_ 3 _ rfl; refine z2_ ?_; refine blk_put (cs := #[.int .i64 t470, .bool t473, .int .i64 0, .int .u64 0]) ?_ 2 _ rfl; refine z2_ ?_; refine blk_put (cs := #[.int .i64 t470, .bool false, .int .i64 0, .int .u64 0]) ?_ 1 _ rfl; refine z2_ ?_; refine blk_put (cs := #[.int .i64 0, .bool false, .int .i64 0, .int .u64 0]) ?_ 0 _ rfl; refine z2_ ?_; exact BK469.out) Try.underlying44 rfl (by kernel_rfl)) rfl ?_
    exact ⟨by first | rfl | (simp [errW_none, errW_some] <;> rfl) | (simp only [← hji6, ← hji8]; first | rfl | (simp [errW_none, errW_some] <;> rfl)) | (simp [*, errW_none, errW_some] <;> rfl), by repeat (first | (with_reducible first | exact HB.out | apply below_alloc | apply pw_below_drewN | apply below_drew1 | refine below_set ?_ GE469.out | refine below_set ?_ GE482.out) | exact HB.out)⟩
   ·rw [if_neg c7] at H
    exact absurd H (by simp)
  ·rw [if_neg c4] at H
   have c4b0 : (t470 == 1) = false := beq_eq_false_iff_ne.mpr c4
   have c4b1 : (t470 != 1) = true := bne_iff_ne.mpr c4
   simp only [Option.some.injEq, Prod.mk.injEq] at H
   obtain ⟨rfl, rfl, rfl, rfl, rfl⟩ := H
   go_enter Try.func24, Try.ntmps24
   go_wp2_with (first | ((with_reducible refine gate_dst (N := 4) rfl ?_); refine box_event ?hg (N := 4) ?hd (cs := #[.int .i64 0, .bool false, .int .i64 0, .int .u64 0]) (t := 44) ?hr ?_; (case hd => rfl); (case hg => rfl); (case hr => first | (go_simp; done) | (go_simp; rfl)); intro gb469 hg w20 hbox hb; have n0_ := Aside0.mk (below_step (z3_ HB.out) hb); have n1_ := Aside0.mk (hbox); have n2_ := Aside0.mk ((by rw [hg]; exact (below_size (z3_ HB.out)) : w.heap.size ≤ gb469)); have n3_ := Aside0.mk ((by rw [hg]; exact (below_size (z3_ HB.out)) : w.heap.size ≤ gb469)); clear HB; have HB := n0_; have BK469 := n1_; have GW469 := n2_; have GE469 := n3_; clear n0_ n1_ n2_ n3_; clear hb hbox hg) | ((with_reducible refine gate_callee (f := 49) rfl ?_); refine goesL_ (some 13) rfl rfl Try.func49 (by kernel_rfl) rfl #[.int .i64 a0, .int .u64 a1] rfl z5_ ?_; (with_reducible refine (shape_Kind.calls a0 a1 t470 none _ A3.out).mono ?_); rintro e w' ⟨rfl, ⟨nd, rfl⟩⟩; refine ⟨_, rfl, ?_⟩; (try simp only [errW_none, errW_some]); (try (rw [drewN_self w20]; generalize hq_ : World.drewN w20 _ = w20; have n0_ : Aside0 (w20.heap[gb469]? = some (.cells #[.int .i64 0, .bool false, .int .i64 0, .int .u64 0] 44 (0, 0))) := ⟨by rw [← hq_]; exact (z1_ BK469.out)⟩; have n1_ : Aside0 (Below w.heap.size w w20) := ⟨by rw [← hq_]; exact (z3_ HB.out)⟩; clear BK469 HB hq_; have BK469 := n0_; have HB := n1_; clear n0_ n1_)); have hcz21_0 := z4_ BK469.out 0 (.int .i64 0) rfl; have hcz21_1 := z4_ BK469.out 1 (.bool false) rfl; have hcz21_2 := z4_ BK469.out 2 (.int .i64 0) rfl; have hcz21_3 := z4_ BK469.out 3 (.int .u64 0) rfl; have hfz21_0 := blk_frozen BK469.out 0; have hfz21_1 := blk_frozen BK469.out 1; have hfz21_2 := blk_frozen BK469.out 2; have hfz21_3 := blk_frozen BK469.out 3))
   refine bodyPost_ret (results_ct rfl _ _ gb469 44 #[.int .i64 t470, .bool false, .int .i64 0, .int .u64 0] (0, 0) _ rfl (by refine z2_ ?_; refine blk_put (cs := #[.int .i64 t470, .bool false, .int .i64 0, .int .u64 0]) ?_ 3 _ rfl; refine z2_ ?_; refine blk_put (cs := #[.int .i64 t470, .bool false, .int .i64 0, .int .u64 0]) ?_ 2 _ rfl; refine z2_ ?_; refine blk_put (cs := #[.int .i64 t470, .bool false, .int .i64 0, .int .u64 0]) ?_ 1 _ rfl; refine z2_ ?_; refine blk_put (cs := #[.int .i64 0, .bool false, .int .i64 0, .int .u64 0]) ?_ 0 _ rfl; refine z2_ ?_; exact BK469.out) Try.underlying44 rfl (by kernel_rfl)) rfl ?_
   exact ⟨by first | rfl | (simp [errW_none, errW_some] <;> rfl) | (simp [*, errW_none, errW_some] <;> rfl), by repeat (first | (with_reducible first | exact HB.out | apply below_alloc | apply pw_below_drewN | apply below_drew1 | refine below_set ?_ GE469.out) | exact HB.out)⟩
 ·have H1 : (some (t470, false, 0, 0, some q472)) = some (r1, r2, r3, r4, r5) := by rw [if_neg (show ¬ (some q472).isNone = true by simp)] at H; exact H
  clear H
  have H := H1
  clear H1
  try simp only [errW_none, errW_some]
  simp only [Option.some.injEq, Prod.mk.injEq] at H
  obtain ⟨rfl, rfl, rfl, rfl, rfl⟩ := H
  go_enter Try.func24, Try.ntmps24
  go_wp2_with (first | ((with_reducible refine gate_dst (N := 4) rfl ?_); refine box_event ?hg (N := 4) ?hd (cs := #[.int .i64 0, .bool false, .int .i64 0, .int .u64 0]) (t := 44) ?hr ?_; (case hd => rfl); (case hg => rfl); (case hr => first | (go_simp; done) | (go_simp; rfl)); intro gb469 hg w22 hbox hb; have n0_ := Aside0.mk (below_step (z3_ HB.out) hb); have n1_ := Aside0.mk (hbox); have n2_ := Aside0.mk ((by rw [hg]; exact (below_size (z3_ HB.out)) : w.heap.size ≤ gb469)); have n3_ := Aside0.mk ((by rw [hg]; exact (below_size (z3_ HB.out)) : w.heap.size ≤ gb469)); clear HB; have HB := n0_; have BK469 := n1_; have GW469 := n2_; have GE469 := n3_; clear n0_ n1_ n2_ n3_; clear hb hbox hg) | ((with_reducible refine gate_callee (f := 49) rfl ?_); refine goesL_ (some 13) rfl rfl Try.func49 (by kernel_rfl) rfl #[.int .i64 a0, .int .u64 a1] rfl z5_ ?_; (with_reducible refine (shape_Kind.calls a0 a1 t470 (some q472) _ A3.out).mono ?_); rintro e w' ⟨rfl, ⟨nd, rfl⟩⟩; refine ⟨_, rfl, ?_⟩; (try simp only [errW_none, errW_some]); (try (rw [drewN_self w22]; generalize hq_ : World.drewN w22 _ = w22; have n0_ : Aside0 (w22.heap[gb469]? = some (.cells #[.int .i64 0, .bool false, .int .i64 0, .int .u64 0] 44 (0, 0))) := ⟨by rw [← hq_]; exact (z1_ BK469.out)⟩; have n1_ : Aside0 (Below w.heap.size w w22) := ⟨by rw [← hq_]; exact (z3_ HB.out)⟩; clear BK469 HB hq_; have BK469 := n0_; have HB := n1_; clear n0_ n1_)); have hcz23_0 := z4_ BK469.out 0 (.int .i64 0) rfl; have hcz23_1 := z4_ BK469.out 1 (.bool false) rfl; have hcz23_2 := z4_ BK469.out 2 (.int .i64 0) rfl; have hcz23_3 := z4_ BK469.out 3 (.int .u64 0) rfl; have hfz23_0 := blk_frozen BK469.out 0; have hfz23_1 := blk_frozen BK469.out 1; have hfz23_2 := blk_frozen BK469.out 2; have hfz23_3 := blk_frozen BK469.out 3))
  refine bodyPost_ret (results_ct rfl _ _ gb469 44 #[.int .i64 t470, .bool false, .int .i64 0, .int .u64 0] (0, 0) _ rfl (by refine z2_ ?_; refine blk_put (cs := #[.int .i64 t470, .bool false, .int .i64 0, .int .u64 0]) ?_ 3 _ rfl; refine z2_ ?_; refine blk_put (cs := #[.int .i64 t470, .bool false, .int .i64 0, .int .u64 0]) ?_ 2 _ rfl; refine z2_ ?_; refine blk_put (cs := #[.int .i64 t470, .bool false, .int .i64 0, .int .u64 0]) ?_ 1 _ rfl; refine z2_ ?_; refine blk_put (cs := #[.int .i64 0, .bool false, .int .i64 0, .int .u64 0]) ?_ 0 _ rfl; refine z2_ ?_; exact BK469.out) Try.underlying44 rfl (by kernel_rfl)) rfl ?_
  exact ⟨by first | rfl | (simp [errW_none, errW_some] <;> rfl) | (simp [*, errW_none, errW_some] <;> rfl), by repeat (first | (with_reducible first | exact HB.out | apply below_alloc | apply pw_below_drewN | apply below_drew1 | refine below_set ?_ GE469.out) | exact HB.out)⟩
end Go.Proofs.Ytfegofnplcmacaa.PAll
