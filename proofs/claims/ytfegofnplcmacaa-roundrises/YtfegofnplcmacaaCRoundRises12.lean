-- Written by a program of this session out of its own texts (wip/tools/link.py).
import Derived.ArgAppend
import Derived.Below
import Derived.BigQuiet
import Derived.Deep.AppendLies
import Derived.Deep.CutBlock
import Derived.Deep.DeepCutAuto
import Derived.Deep.Draws
import Derived.Deep.LoopGhost
import Derived.Deep.OwnRows
import Derived.Deep.QuietTactic
import Derived.Deep.RegionHeld3
import Derived.KernelRfl
import Derived.LaidEql
import Derived.Laws.BitsLemmas
import Derived.Laws.BytesArg
import Derived.Laws.IdiomCopy
import Derived.Laws.MakeOwn
import Derived.Laws.OwnMore
import Derived.Laws.Rows
import Derived.Laws.Slices
import Derived.Laws.StructEq
import Derived.Lib.AppendStr
import Derived.Lib.BitFns
import Derived.Lib.ConvBytes
import Derived.Lib.Slices
import Derived.Lib.Small
import Derived.Lib.Strings
import Derived.Lib.Walk
import Derived.Maps.AppendAt
import Derived.OrdersHeld
import Derived.OwnWalk
import Derived.RowKit
import Derived.RowKit3
import Derived.Tactics
import Derived.Test.YtfegofnplcmacaaProg
import Derived.WalkKit
import Derived.WideLaws
import Derived.Test.YtfegofnplcmacaaCRoundRises8
import Derived.Test.YtfegofnplcmacaaCRoundRises9
import Derived.Test.YtfegofnplcmacaaCRoundRises10
import Derived.Test.YtfegofnplcmacaaCRoundRises11
namespace Go.Proofs.Ytfegofnplcmacaa.PAll
open Go.RowKit Go.Proofs.YtfegofnplcmacaaW.PrintWords Go.Proofs.YtfegofnplcmacaaW.PrintLast Go.Proofs.YtfegofnplcmacaaW.PrintMore
attribute [local go_sem] max2_int min2_int max_two min_two max_three min_three max_four min_four
set_option linter.unusedVariables false
set_option linter.unusedSimpArgs false
def round_Of.f (k : Nat) (a0_0 : Int) (a0_1 : Bool) (a0_2 : Int) (a0_3 : Int) : Option (Int × Bool × Int × Int × Int × Bool × Option Int) := (round_sound.f k a0_0 a0_1 a0_2 a0_3 0 false).bind fun t290 => (if t290 = true then (if a0_2 < (-1073741824) then (some (0, false, 0, 0, 0, false, some 1)) else (if a0_2 > 1073741824 then (some (0, false, 0, 0, 0, false, some 1)) else (some (a0_0, a0_1, a0_2, a0_3, 0, false, none)))) else (some (0, false, 0, 0, 0, false, some 1)))
theorem round_Of.mono : ∀ a0 a1 a2 a3 k, LeO (round_Of.f k a0 a1 a2 a3) (round_Of.f (k + 1) a0 a1 a2 a3) := by
  intro a0 a1 a2 a3 k
  unfold round_Of.f
  repeat' first
      | (with_reducible exact round_sound.mono _ _ _ _ _ _ _)
      | (with_reducible exact LeO.refl _)
      | (with_reducible exact LeO.none _)
      | (with_reducible refine LeO.ite ?_ ?_)
      | (with_reducible refine LeO.bind ?_ (fun _ => ?_))
      | exact round_sound.mono _ _ _ _ _ _ _
      | exact LeO.none _
      | refine LeO.ite ?_ ?_
      | refine LeO.bind ?_ (fun _ => ?_)
set_option maxHeartbeats 8000000 in
set_option maxRecDepth 100000 in
theorem round_Of.calls (k : Nat) (a0_0 : Int) (a0_1 : Bool) (a0_2 : Int) (a0_3 : Int) (r1 : Int) (r2 : Bool) (r3 : Int) (r4 : Int) (r5 : Int) (r6 : Bool) (r7 : Option Int) (w : World) (h : round_Of.f k a0_0 a0_1 a0_2 a0_3 = some (r1, r2, r3, r4, r5, r6, r7)) :
    Calls Try.prog 20 #[.agg #[.int .i64 a0_0, .bool a0_1, .int .i64 a0_2, .int .u64 a0_3]] w fun e w' => e = .returned (.tuple #[.agg #[.int .i64 r1, .bool r2, .int .i64 r3, .int .u64 r4, .int .u64 r5, .bool r6], errW r7]) ∧ Below w.heap.size w w' := by
  have hu44 := Try.underlying44
  have hu24 := Try.underlying24
  have hu27 := Try.underlying27
  have hu55 := Try.underlying55
  have HB := Aside0.mk (Below.refl w.heap.size w)
  have H : ((round_sound.f k a0_0 a0_1 a0_2 a0_3 0 false).bind fun t290 => (if t290 = true then (if a0_2 < (-1073741824) then (some (0, false, 0, 0, 0, false, some 1)) else (if a0_2 > 1073741824 then (some (0, false, 0, 0, 0, false, some 1)) else (some (a0_0, a0_1, a0_2, a0_3, 0, false, none)))) else (some (0, false, 0, 0, 0, false, some 1)))) = some (r1, r2, r3, r4, r5, r6, r7) := h
  clear h
  replace H := Option.bind_eq_some_iff.mp H
  obtain ⟨t290, A20, H⟩ := H
  replace H : (if t290 = true then (if a0_2 < (-1073741824) then (some (0, false, 0, 0, 0, false, some 1)) else (if a0_2 > 1073741824 then (some (0, false, 0, 0, 0, false, some 1)) else (some (a0_0, a0_1, a0_2, a0_3, 0, false, none)))) else (some (0, false, 0, 0, 0, false, some 1))) = some (r1, r2, r3, r4, r5, r6, r7) := H
  have A2 := Aside0.mk A20
  clear A20
  by_cases c3 : t290 = true
  · subst c3
    have H1 : (if a0_2 < (-1073741824) then (some (0, false, 0, 0, 0, false, some 1)) else (if a0_2 > 1073741824 then (some (0, false, 0, 0, 0, false, some 1)) else (some (a0_0, a0_1, a0_2, a0_3, 0, false, none)))) = some (r1, r2, r3, r4, r5, r6, r7) := by rw [if_pos rfl] at H; exact H
    clear H
    have H := H1
    clear H1
    by_cases c4 : a0_2 < (-1073741824)
    · rw [if_pos c4] at H
      have c4b0 : decide (a0_2 < (-1073741824)) = true := decide_eq_true c4
      clear c4
      simp only [Option.some.injEq, Prod.mk.injEq] at H
      obtain ⟨rfl, rfl, rfl, rfl, rfl, rfl, rfl⟩ := H
      go_enter Try.func20, Try.ntmps20
      go_wp2_with (first | ((with_reducible refine gate_dst (N := 1) rfl ?_); refine box_event ?hg (N := 1) ?hd (cs := #[.int .i64 a0_0, .bool a0_1, .int .i64 a0_2, .int .u64 a0_3]) (t := 44) ?hr ?_; (case hd => rfl); (case hg => rfl); (case hr => first | (go_simp; done) | (go_simp; rfl)); intro gb287 hg w5 hbox hb; have n0_ := Aside0.mk (below_step (by repeat (first | (with_reducible first | exact HB.out | apply below_alloc | apply pw_below_drewN | apply below_drew1) | exact HB.out)) hb); have n1_ := Aside0.mk (hbox); have n2_ := Aside0.mk ((by rw [hg]; exact (below_size (by repeat (first | (with_reducible first | exact HB.out | apply below_alloc | apply pw_below_drewN | apply below_drew1) | exact HB.out))) : w.heap.size ≤ gb287)); have n3_ := Aside0.mk ((by rw [hg]; exact (below_size (by repeat (first | (with_reducible first | exact HB.out | apply below_alloc | apply pw_below_drewN | apply below_drew1) | exact HB.out))) : w.heap.size ≤ gb287)); clear HB; have HB := n0_; have BK287 := n1_; have GW287 := n2_; have GE287 := n3_; clear n0_ n1_ n2_ n3_; clear hb hbox hg) | ((with_reducible refine gate_dst (N := 2) rfl ?_); refine box_event ?hg (N := 2) ?hd (cs := #[.int .i64 0, .bool false, .int .i64 0, .int .u64 0, .int .u64 0, .bool false]) (t := 24) ?hr ?_; (case hd => rfl); (case hg => rfl); (case hr => first | (go_simp; done) | (go_simp; rfl)); intro gb288 hg w6 hbox hb; have n0_ := Aside0.mk (blk_below (g := gb287) (o := .cells #[.int .i64 a0_0, .bool a0_1, .int .i64 a0_2, .int .u64 a0_3] 44 (0, 0)) (by (with_reducible repeat (first | refine blk_drewN ?_ _ | refine blk_drew ?_ | refine blk_alloc ?_ _)); exact BK287.out) hb); have n1_ := Aside0.mk (below_step (by repeat (first | (with_reducible first | exact HB.out | apply below_alloc | apply pw_below_drewN | apply below_drew1 | refine below_set ?_ GE287.out) | exact HB.out)) hb); have n2_ := Aside0.mk (hbox); have n3_ := Aside0.mk ((by rw [hg]; exact (below_size (by repeat (first | (with_reducible first | exact HB.out | apply below_alloc | apply pw_below_drewN | apply below_drew1 | refine below_set ?_ GE287.out) | exact HB.out))) : w.heap.size ≤ gb288)); have n4_ := Aside0.mk ((by rw [hg]; exact (below_size (by repeat (first | (with_reducible first | exact HB.out | apply below_alloc | apply pw_below_drewN | apply below_drew1 | refine below_set ?_ GE287.out) | exact HB.out))) : w.heap.size ≤ gb288)); have n5_ := Aside0.mk ((by rw [hg]; exact Nat.ne_of_lt (blk_lt (g := gb287) (o := .cells #[.int .i64 a0_0, .bool a0_1, .int .i64 a0_2, .int .u64 a0_3] 44 (0, 0)) (by (with_reducible repeat (first | refine blk_drewN ?_ _ | refine blk_drew ?_ | refine blk_alloc ?_ _)); exact BK287.out)) : gb287 ≠ gb288)); have n6_ := Aside0.mk ((by rw [hg]; exact Nat.ne_of_gt (blk_lt (g := gb287) (o := .cells #[.int .i64 a0_0, .bool a0_1, .int .i64 a0_2, .int .u64 a0_3] 44 (0, 0)) (by (with_reducible repeat (first | refine blk_drewN ?_ _ | refine blk_drew ?_ | refine blk_alloc ?_ _)); exact BK287.out)) : gb288 ≠ gb287)); clear BK287; clear HB; have BK287 := n0_; have HB := n1_; have BK288 := n2_; have GW288 := n3_; have GE288 := n4_; have NB287_288 := n5_; have NB288_287 := n6_; clear n0_ n1_ n2_ n3_ n4_ n5_ n6_; clear hb hbox hg; have hnb7 := NB287_288.out; have hnc7 := NB288_287.out; have hcz8_0 : w6.cell? ⟨gb287, 0, none⟩ = some (.int .i64 a0_0) := (blk_cell BK287.out 0).trans rfl; have hcz8_1 : w6.cell? ⟨gb287, 1, none⟩ = some (.bool a0_1) := (blk_cell BK287.out 1).trans rfl; have hcz8_2 : w6.cell? ⟨gb287, 2, none⟩ = some (.int .i64 a0_2) := (blk_cell BK287.out 2).trans rfl; have hcz8_3 : w6.cell? ⟨gb287, 3, none⟩ = some (.int .u64 a0_3) := (blk_cell BK287.out 3).trans rfl; have hfz8_0 := blk_frozen BK287.out 0; have hfz8_1 := blk_frozen BK287.out 1; have hfz8_2 := blk_frozen BK287.out 2; have hfz8_3 := blk_frozen BK287.out 3) | ((with_reducible refine gate_dst (N := 4) rfl ?_); refine box_event ?hg (N := 4) ?hd (cs := #[.int .i64 0, .bool false, .int .i64 0, .int .u64 0, .int .u64 0, .bool false]) (t := 24) ?hr ?_; (case hd => rfl); (case hg => rfl); (case hr => first | (go_simp; done) | (go_simp; rfl)); intro gb289 hg w9 hbox hb; have n0_ := Aside0.mk (blk_below (g := gb287) (o := .cells #[.int .i64 a0_0, .bool a0_1, .int .i64 a0_2, .int .u64 a0_3] 44 (0, 0)) (by (with_reducible repeat (first | refine blk_drewN ?_ _ | refine blk_drew ?_ | refine blk_alloc ?_ _)); exact BK287.out) hb); have n1_ := Aside0.mk (blk_below (g := gb288) (o := .cells #[.int .i64 0, .bool false, .int .i64 0, .int .u64 0, .int .u64 0, .bool false] 24 (0, 0)) (by (with_reducible repeat (first | refine blk_drewN ?_ _ | refine blk_drew ?_ | refine blk_alloc ?_ _)); exact BK288.out) hb); have n2_ := Aside0.mk (below_step (by repeat (first | (with_reducible first | exact HB.out | apply below_alloc | apply pw_below_drewN | apply below_drew1 | refine below_set ?_ GE287.out | refine below_set ?_ GE288.out) | exact HB.out)) hb); have n3_ := Aside0.mk (hbox); have n4_ := Aside0.mk ((by rw [hg]; exact (below_size (by repeat (first | (with_reducible first | exact HB.out | apply below_alloc | apply pw_below_drewN | apply below_drew1 | refine below_set ?_ GE287.out | refine below_set ?_ GE288.out) | exact HB.out))) : w.heap.size ≤ gb289)); have n5_ := Aside0.mk ((by rw [hg]; exact (below_size (by repeat (first | (with_reducible first | exact HB.out | apply below_alloc | apply pw_below_drewN | apply below_drew1 | refine below_set ?_ GE287.out | refine below_set ?_ GE288.out) | exact HB.out))) : w.heap.size ≤ gb289)); have n6_ := Aside0.mk ((by rw [hg]; exact Nat.ne_of_lt (blk_lt (g := gb287) (o := .cells #[.int .i64 a0_0, .bool a0_1, .int .i64 a0_2, .int .u64 a0_3] 44 (0, 0)) (by (with_reducible repeat (first | refine blk_drewN ?_ _ | refine blk_drew ?_ | refine blk_alloc ?_ _)); exact BK287.out)) : gb287 ≠ gb289)); have n7_ := Aside0.mk ((by rw [hg]; exact Nat.ne_of_gt (blk_lt (g := gb287) (o := .cells #[.int .i64 a0_0, .bool a0_1, .int .i64 a0_2, .int .u64 a0_3] 44 (0, 0)) (by (with_reducible repeat (first | refine blk_drewN ?_ _ | refine blk_drew ?_ | refine blk_alloc ?_ _)); exact BK287.out)) : gb289 ≠ gb287)); have n8_ := Aside0.mk ((by rw [hg]; exact Nat.ne_of_lt (blk_lt (g := gb288) (o := .cells #[.int .i64 0, .bool false, .int .i64 0, .int .u64 0, .int .u64 0, .bool false] 24 (0, 0)) (by (with_reducible repeat (first | refine blk_drewN ?_ _ | refine blk_drew ?_ | refine blk_alloc ?_ _)); exact BK288.out)) : gb288 ≠ gb289)); have n9_ := Aside0.mk ((by rw [hg]; exact Nat.ne_of_gt (blk_lt (g := gb288) (o := .cells #[.int .i64 0, .bool false, .int .i64 0, .int .u64 0, .int .u64 0, .bool false] 24 (0, 0)) (by (with_reducible repeat (first | refine blk_drewN ?_ _ | refine blk_drew ?_ | refine blk_alloc ?_ _)); exact BK288.out)) : gb289 ≠ gb288)); clear BK287; clear BK288; clear HB; have BK287 := n0_; have BK288 := n1_; have HB := n2_; have BK289 := n3_; have GW289 := n4_; have GE289 := n5_; have NB287_289 := n6_; have NB289_287 := n7_; have NB288_289 := n8_; have NB289_288 := n9_; clear n0_ n1_ n2_ n3_ n4_ n5_ n6_ n7_ n8_ n9_; clear hb hbox hg; have hnb10 := NB289_287.out; have hnc10 := NB287_289.out; have hnb11 := NB289_288.out; have hnc11 := NB288_289.out; have hcz12_0 : w9.cell? ⟨gb289, 0, none⟩ = some (.int .i64 0) := (blk_cell BK289.out 0).trans rfl; have hcz12_1 : w9.cell? ⟨gb289, 1, none⟩ = some (.bool false) := (blk_cell BK289.out 1).trans rfl; have hcz12_2 : w9.cell? ⟨gb289, 2, none⟩ = some (.int .i64 0) := (blk_cell BK289.out 2).trans rfl; have hcz12_3 : w9.cell? ⟨gb289, 3, none⟩ = some (.int .u64 0) := (blk_cell BK289.out 3).trans rfl; have hcz12_4 : w9.cell? ⟨gb289, 4, none⟩ = some (.int .u64 0) := (blk_cell BK289.out 4).trans rfl; have hcz12_5 : w9.cell? ⟨gb289, 5, none⟩ = some (.bool false) := (blk_cell BK289.out 5).trans rfl; have hfz12_0 := blk_frozen BK289.out 0; have hfz12_1 := blk_frozen BK289.out 1; have hfz12_2 := blk_frozen BK289.out 2; have hfz12_3 := blk_frozen BK289.out 3; have hfz12_4 := blk_frozen BK289.out 4; have hfz12_5 := blk_frozen BK289.out 5) | ((with_reducible refine gate_callee (f := 28) rfl ?_); refine goesL_ (some 15) rfl rfl Try.func28 (by kernel_rfl) rfl #[.agg #[.int .i64 a0_0, .bool a0_1, .int .i64 a0_2, .int .u64 a0_3, .int .u64 0, .bool false]] rfl (by (try simp only [List.map_toArray, List.map_cons, List.map_nil]); first | done | rfl | (simp only [List.length_drop, List.length_take]; rfl)) ?_; (with_reducible refine (round_sound.calls k a0_0 a0_1 a0_2 a0_3 0 false true _ A2.out).mono ?_); rintro e w13 ⟨rfl, hb⟩; refine ⟨_, rfl, ?_⟩; have n0_ := Aside0.mk (blk_below (g := gb287) (o := .cells #[.int .i64 a0_0, .bool a0_1, .int .i64 a0_2, .int .u64 a0_3] 44 (0, 0)) (by (with_reducible repeat (first | refine blk_drewN ?_ _ | refine blk_drew ?_ | refine blk_alloc ?_ _)); refine blk_far ?_ NB287_289.out _; (with_reducible repeat (first | refine blk_drewN ?_ _ | refine blk_drew ?_ | refine blk_alloc ?_ _)); refine blk_far ?_ NB287_289.out _; (with_reducible repeat (first | refine blk_drewN ?_ _ | refine blk_drew ?_ | refine blk_alloc ?_ _)); refine blk_far ?_ NB287_289.out _; (with_reducible repeat (first | refine blk_drewN ?_ _ | refine blk_drew ?_ | refine blk_alloc ?_ _)); refine blk_far ?_ NB287_289.out _; (with_reducible repeat (first | refine blk_drewN ?_ _ | refine blk_drew ?_ | refine blk_alloc ?_ _)); refine blk_far ?_ NB287_289.out _; (with_reducible repeat (first | refine blk_drewN ?_ _ | refine blk_drew ?_ | refine blk_alloc ?_ _)); refine blk_far ?_ NB287_289.out _; (with_reducible repeat (first | refine blk_drewN ?_ _ | refine blk_drew ?_ | refine blk_alloc ?_ _)); exact BK287.out) hb); have n1_ := Aside0.mk (blk_below (g := gb288) (o := .cells #[.int .i64 0, .bool false, .int .i64 0, .int .u64 0, .int .u64 0, .bool false] 24 (0, 0)) (by (with_reducible repeat (first | refine blk_drewN ?_ _ | refine blk_drew ?_ | refine blk_alloc ?_ _)); refine blk_far ?_ NB288_289.out _; (with_reducible repeat (first | refine blk_drewN ?_ _ | refine blk_drew ?_ | refine blk_alloc ?_ _)); refine blk_far ?_ NB288_289.out _; (with_reducible repeat (first | refine blk_drewN ?_ _ | refine blk_drew ?_ | refine blk_alloc ?_ _)); refine blk_far ?_ NB288_289.out _; (with_reducible repeat (first | refine blk_drewN ?_ _ | refine blk_drew ?_ | refine blk_alloc ?_ _)); refine blk_far ?_ NB288_289.out _; (with_reducible repeat (first | refine blk_drewN ?_ _ | refine blk_drew ?_ | refine blk_alloc ?_ _)); refine blk_far ?_ NB288_289.out _; (with_reducible repeat (first | refine blk_drewN ?_ _ | refine blk_drew ?_ | refine blk_alloc ?_ _)); refine blk_far ?_ NB288_289.out _; (with_reducible repeat (first | refine blk_drewN ?_ _ | refine blk_drew ?_ | refine blk_alloc ?_ _)); exact BK288.out) hb); have n2_ := Aside0.mk (blk_below (g := gb289) (o := .cells #[.int .i64 a0_0, .bool a0_1, .int .i64 a0_2, .int .u64 a0_3, .int .u64 0, .bool false] 24 (0, 0)) (by (with_reducible repeat (first | refine blk_drewN ?_ _ | refine blk_drew ?_ | refine blk_alloc ?_ _)); refine blk_put (cs := #[.int .i64 a0_0, .bool a0_1, .int .i64 a0_2, .int .u64 a0_3, .int .u64 0, .bool false]) ?_ 5 _ rfl; (with_reducible repeat (first | refine blk_drewN ?_ _ | refine blk_drew ?_ | refine blk_alloc ?_ _)); refine blk_put (cs := #[.int .i64 a0_0, .bool a0_1, .int .i64 a0_2, .int .u64 a0_3, .int .u64 0, .bool false]) ?_ 4 _ rfl; (with_reducible repeat (first | refine blk_drewN ?_ _ | refine blk_drew ?_ | refine blk_alloc ?_ _)); refine blk_put (cs := #[.int .i64 a0_0, .bool a0_1, .int .i64 a0_2, .int .u64 0, .int .u64 0, .bool false]) ?_ 3 _ rfl; (with_reducible repeat (first | refine blk_drewN ?_ _ | refine blk_drew ?_ | refine blk_alloc ?_ _)); refine blk_put (cs := #[.int .i64 a0_0, .bool a0_1, .int .i64 0, .int .u64 0, .int .u64 0, .bool false]) ?_ 2 _ rfl; (with_reducible repeat (first | refine blk_drewN ?_ _ | refine blk_drew ?_ | refine blk_alloc ?_ _)); refine blk_put (cs := #[.int .i64 a0_0, .bool false, .int .i64 0, .int .u64 0, .int .u64 0, .bool false]) ?_ 1 _ rfl; (with_reducible repeat (first | refine blk_drewN ?_ _ | refine blk_drew ?_ | refine blk_alloc ?_ _)); refine blk_put (cs := #[.int .i64 0, .bool false, .int .i64 0, .int .u64 0, .int .u64 0, .bool false]) ?_ 0 _ rfl; (with_reducible repeat (first | refine blk_drewN ?_ _ | refine blk_drew ?_ | refine blk_alloc ?_ _)); exact BK289.out) hb); have n3_ := Aside0.mk (below_step (by repeat (first | (with_reducible first | exact HB.out | apply below_alloc | apply pw_below_drewN | apply below_drew1 | refine below_set ?_ GE287.out | refine below_set ?_ GE288.out | refine below_set ?_ GE289.out) | exact HB.out)) hb); clear BK287; clear BK288; clear BK289; clear HB; have BK287 := n0_; have BK288 := n1_; have BK289 := n2_; have HB := n3_; clear n0_ n1_ n2_ n3_; (try clear hb); (try clear hb2); (try clear hk); (try clear hi); have hcz14_0 : w13.cell? ⟨gb287, 0, none⟩ = some (.int .i64 a0_0) := (blk_cell BK287.out 0).trans rfl; have hcz14_1 : w13.cell? ⟨gb287, 1, none⟩ = some (.bool a0_1) := (blk_cell BK287.out 1).trans rfl; have hcz14_2 : w13.cell? ⟨gb287, 2, none⟩ = some (.int .i64 a0_2) := (blk_cell BK287.out 2).trans rfl; have hcz14_3 : w13.cell? ⟨gb287, 3, none⟩ = some (.int .u64 a0_3) := (blk_cell BK287.out 3).trans rfl; have hfz14_0 := blk_frozen BK287.out 0; have hfz14_1 := blk_frozen BK287.out 1; have hfz14_2 := blk_frozen BK287.out 2; have hfz14_3 := blk_frozen BK287.out 3; have hcz15_0 : w13.cell? ⟨gb288, 0, none⟩ = some (.int .i64 0) := (blk_cell BK288.out 0).trans rfl; have hcz15_1 : w13.cell? ⟨gb288, 1, none⟩ = some (.bool false) := (blk_cell BK288.out 1).trans rfl; have hcz15_2 : w13.cell? ⟨gb288, 2, none⟩ = some (.int .i64 0) := (blk_cell BK288.out 2).trans rfl; have hcz15_3 : w13.cell? ⟨gb288, 3, none⟩ = some (.int .u64 0) := (blk_cell BK288.out 3).trans rfl; have hcz15_4 : w13.cell? ⟨gb288, 4, none⟩ = some (.int .u64 0) := (blk_cell BK288.out 4).trans rfl; have hcz15_5 : w13.cell? ⟨gb288, 5, none⟩ = some (.bool false) := (blk_cell BK288.out 5).trans rfl; have hfz15_0 := blk_frozen BK288.out 0; have hfz15_1 := blk_frozen BK288.out 1; have hfz15_2 := blk_frozen BK288.out 2; have hfz15_3 := blk_frozen BK288.out 3; have hfz15_4 := blk_frozen BK288.out 4; have hfz15_5 := blk_frozen BK288.out 5))
      refine bodyPost_ret (results_ct rfl _ _ gb288 24 #[.int .i64 0, .bool false, .int .i64 0, .int .u64 0, .int .u64 0, .bool false] (0, 0) _ rfl (by (with_reducible repeat (first | refine blk_drewN ?_ _ | refine blk_drew ?_ | refine blk_alloc ?_ _)); refine blk_put (cs := #[.int .i64 0, .bool false, .int .i64 0, .int .u64 0, .int .u64 0, .bool false]) ?_ 5 _ rfl; (with_reducible repeat (first | refine blk_drewN ?_ _ | refine blk_drew ?_ | refine blk_alloc ?_ _)); refine blk_put (cs := #[.int .i64 0, .bool false, .int .i64 0, .int .u64 0, .int .u64 0, .bool false]) ?_ 4 _ rfl; (with_reducible repeat (first | refine blk_drewN ?_ _ | refine blk_drew ?_ | refine blk_alloc ?_ _)); refine blk_put (cs := #[.int .i64 0, .bool false, .int .i64 0, .int .u64 0, .int .u64 0, .bool false]) ?_ 3 _ rfl; (with_reducible repeat (first | refine blk_drewN ?_ _ | refine blk_drew ?_ | refine blk_alloc ?_ _)); refine blk_put (cs := #[.int .i64 0, .bool false, .int .i64 0, .int .u64 0, .int .u64 0, .bool false]) ?_ 2 _ rfl; (with_reducible repeat (first | refine blk_drewN ?_ _ | refine blk_drew ?_ | refine blk_alloc ?_ _)); refine blk_put (cs := #[.int .i64 0, .bool false, .int .i64 0, .int .u64 0, .int .u64 0, .bool false]) ?_ 1 _ rfl; (with_reducible repeat (first | refine blk_drewN ?_ _ | refine blk_drew ?_ | refine blk_alloc ?_ _)); refine blk_put (cs := #[.int .i64 0, .bool false, .int .i64 0, .int .u64 0, .int .u64 0, .bool false]) ?_ 0 _ rfl; (with_reducible repeat (first | refine blk_drewN ?_ _ | refine blk_drew ?_ | refine blk_alloc ?_ _)); exact BK288.out) Try.underlying24 rfl (by kernel_rfl)) rfl ?_
      exact ⟨by first | rfl | (simp [errW_none, errW_some] <;> rfl) | (simp [*, errW_none, errW_some] <;> rfl), by repeat (first | (with_reducible first | exact HB.out | apply below_alloc | apply pw_below_drewN | apply below_drew1 | refine below_set ?_ GE287.out | refine below_set ?_ GE288.out | refine below_set ?_ GE289.out) | exact HB.out)⟩
    · rw [if_neg c4] at H
      have c4b0 : decide (a0_2 < (-1073741824)) = false := decide_eq_false c4
      clear c4
      by_cases c16 : a0_2 > 1073741824
      · rw [if_pos c16] at H
        have c16b0 : decide (1073741824 < a0_2) = true := decide_eq_true c16
        clear c16
        simp only [Option.some.injEq, Prod.mk.injEq] at H
        obtain ⟨rfl, rfl, rfl, rfl, rfl, rfl, rfl⟩ := H
        go_enter Try.func20, Try.ntmps20
        go_wp2_with (first | ((with_reducible refine gate_dst (N := 1) rfl ?_); refine box_event ?hg (N := 1) ?hd (cs := #[.int .i64 a0_0, .bool a0_1, .int .i64 a0_2, .int .u64 a0_3]) (t := 44) ?hr ?_; (case hd => rfl); (case hg => rfl); (case hr => first | (go_simp; done) | (go_simp; rfl)); intro gb287 hg w17 hbox hb; have n0_ := Aside0.mk (below_step (by repeat (first | (with_reducible first | exact HB.out | apply below_alloc | apply pw_below_drewN | apply below_drew1) | exact HB.out)) hb); have n1_ := Aside0.mk (hbox); have n2_ := Aside0.mk ((by rw [hg]; exact (below_size (by repeat (first | (with_reducible first | exact HB.out | apply below_alloc | apply pw_below_drewN | apply below_drew1) | exact HB.out))) : w.heap.size ≤ gb287)); have n3_ := Aside0.mk ((by rw [hg]; exact (below_size (by repeat (first | (with_reducible first | exact HB.out | apply below_alloc | apply pw_below_drewN | apply below_drew1) | exact HB.out))) : w.heap.size ≤ gb287)); clear HB; have HB := n0_; have BK287 := n1_; have GW287 := n2_; have GE287 := n3_; clear n0_ n1_ n2_ n3_; clear hb hbox hg) | ((with_reducible refine gate_dst (N := 2) rfl ?_); refine box_event ?hg (N := 2) ?hd (cs := #[.int .i64 0, .bool false, .int .i64 0, .int .u64 0, .int .u64 0, .bool false]) (t := 24) ?hr ?_; (case hd => rfl); (case hg => rfl); (case hr => first | (go_simp; done) | (go_simp; rfl)); intro gb288 hg w18 hbox hb; have n0_ := Aside0.mk (blk_below (g := gb287) (o := .cells #[.int .i64 a0_0, .bool a0_1, .int .i64 a0_2, .int .u64 a0_3] 44 (0, 0)) (by (with_reducible repeat (first | refine blk_drewN ?_ _ | refine blk_drew ?_ | refine blk_alloc ?_ _)); exact BK287.out) hb); have n1_ := Aside0.mk (below_step (by repeat (first | (with_reducible first | exact HB.out | apply below_alloc | apply pw_below_drewN | apply below_drew1 | refine below_set ?_ GE287.out) | exact HB.out)) hb); have n2_ := Aside0.mk (hbox); have n3_ := Aside0.mk ((by rw [hg]; exact (below_size (by repeat (first | (with_reducible first | exact HB.out | apply below_alloc | apply pw_below_drewN | apply below_drew1 | refine below_set ?_ GE287.out) | exact HB.out))) : w.heap.size ≤ gb288)); have n4_ := Aside0.mk ((by rw [hg]; exact (below_size (by repeat (first | (with_reducible first | exact HB.out | apply below_alloc | apply pw_below_drewN | apply below_drew1 | refine below_set ?_ GE287.out) | exact HB.out))) : w.heap.size ≤ gb288)); have n5_ := Aside0.mk ((by rw [hg]; exact Nat.ne_of_lt (blk_lt (g := gb287) (o := .cells #[.int .i64 a0_0, .bool a0_1, .int .i64 a0_2, .int .u64 a0_3] 44 (0, 0)) (by (with_reducible repeat (first | refine blk_drewN ?_ _ | refine blk_drew ?_ | refine blk_alloc ?_ _)); exact BK287.out)) : gb287 ≠ gb288)); have n6_ := Aside0.mk ((by rw [hg]; exact Nat.ne_of_gt (blk_lt (g := gb287) (o := .cells #[.int .i64 a0_0, .bool a0_1, .int .i64 a0_2, .int .u64 a0_3] 44 (0, 0)) (by (with_reducible repeat (first | refine blk_drewN ?_ _ | refine blk_drew ?_ | refine blk_alloc ?_ _)); exact BK287.out)) : gb288 ≠ gb287)); clear BK287; clear HB; have BK287 := n0_; have HB := n1_; have BK288 := n2_; have GW288 := n3_; have GE288 := n4_; have NB287_288 := n5_; have NB288_287 := n6_; clear n0_ n1_ n2_ n3_ n4_ n5_ n6_; clear hb hbox hg; have hnb19 := NB287_288.out; have hnc19 := NB288_287.out; have hcz20_0 : w18.cell? ⟨gb287, 0, none⟩ = some (.int .i64 a0_0) := (blk_cell BK287.out 0).trans rfl; have hcz20_1 : w18.cell? ⟨gb287, 1, none⟩ = some (.bool a0_1) := (blk_cell BK287.out 1).trans rfl; have hcz20_2 : w18.cell? ⟨gb287, 2, none⟩ = some (.int .i64 a0_2) := (blk_cell BK287.out 2).trans rfl; have hcz20_3 : w18.cell? ⟨gb287, 3, none⟩ = some (.int .u64 a0_3) := (blk_cell BK287.out 3).trans rfl; have hfz20_0 := blk_frozen BK287.out 0; have hfz20_1 := blk_frozen BK287.out 1; have hfz20_2 := blk_frozen BK287.out 2; have hfz20_3 := blk_frozen BK287.out 3) | ((with_reducible refine gate_dst (N := 4) rfl ?_); refine box_event ?hg (N := 4) ?hd (cs := #[.int .i64 0, .bool false, .int .i64 0, .int .u64 0, .int .u64 0, .bool false]) (t := 24) ?hr ?_; (case hd => rfl); (case hg => rfl); (case hr => first | (go_simp; done) | (go_simp; rfl)); intro gb289 hg w21 hbox hb; have n0_ := Aside0.mk (blk_below (g := gb287) (o := .cells #[.int .i64 a0_0, .bool a0_1, .int .i64 a0_2, .int .u64 a0_3] 44 (0, 0)) (by (with_reducible repeat (first | refine blk_drewN ?_ _ | refine blk_drew ?_ | refine blk_alloc ?_ _)); exact BK287.out) hb); have n1_ := Aside0.mk (blk_below (g := gb288) (o := .cells #[.int .i64 0, .bool false, .int .i64 0, .int .u64 0, .int .u64 0, .bool false] 24 (0, 0)) (by (with_reducible repeat (first | refine blk_drewN ?_ _ | refine blk_drew ?_ | refine blk_alloc ?_ _)); exact BK288.out) hb); have n2_ := Aside0.mk (below_step (by repeat (first | (with_reducible first | exact HB.out | apply below_alloc | apply pw_below_drewN | apply below_drew1 | refine below_set ?_ GE287.out | refine below_set ?_ GE288.out) | exact HB.out)) hb); have n3_ := Aside0.mk (hbox); have n4_ := Aside0.mk ((by rw [hg]; exact (below_size (by repeat (first | (with_reducible first | exact HB.out | apply below_alloc | apply pw_below_drewN | apply below_drew1 | refine below_set ?_ GE287.out | refine below_set ?_ GE288.out) | exact HB.out))) : w.heap.size ≤ gb289)); have n5_ := Aside0.mk ((by rw [hg]; exact (below_size (by repeat (first | (with_reducible first | exact HB.out | apply below_alloc | apply pw_below_drewN | apply below_drew1 | refine below_set ?_ GE287.out | refine below_set ?_ GE288.out) | exact HB.out))) : w.heap.size ≤ gb289)); have n6_ := Aside0.mk ((by rw [hg]; exact Nat.ne_of_lt (blk_lt (g := gb287) (o := .cells #[.int .i64 a0_0, .bool a0_1, .int .i64 a0_2, .int .u64 a0_3] 44 (0, 0)) (by (with_reducible repeat (first | refine blk_drewN ?_ _ | refine blk_drew ?_ | refine blk_alloc ?_ _)); exact BK287.out)) : gb287 ≠ gb289)); have n7_ := Aside0.mk ((by rw [hg]; exact Nat.ne_of_gt (blk_lt (g := gb287) (o := .cells #[.int .i64 a0_0, .bool a0_1, .int .i64 a0_2, .int .u64 a0_3] 44 (0, 0)) (by (with_reducible repeat (first | refine blk_drewN ?_ _ | refine blk_drew ?_ | refine blk_alloc ?_ _)); exact BK287.out)) : gb289 ≠ gb287)); have n8_ := Aside0.mk ((by rw [hg]; exact Nat.ne_of_lt (blk_lt (g := gb288) (o := .cells #[.int .i64 0, .bool false, .int .i64 0, .int .u64 0, .int .u64 0, .bool false] 24 (0, 0)) (by (with_reducible repeat (first | refine blk_drewN ?_ _ | refine blk_drew ?_ | refine blk_alloc ?_ _)); exact BK288.out)) : gb288 ≠ gb289)); have n9_ := Aside0.mk ((by rw [hg]; exact Nat.ne_of_gt (blk_lt (g := gb288) (o := .cells #[.int .i64 0, .bool false, .int .i64 0, .int .u64 0, .int .u64 0, .bool false] 24 (0, 0)) (by (with_reducible repeat (first | refine blk_drewN ?_ _ | refine blk_drew ?_ | refine blk_alloc ?_ _)); exact BK288.out)) : gb289 ≠ gb288)); clear BK287; clear BK288; clear HB; have BK287 := n0_; have BK288 := n1_; have HB := n2_; have BK289 := n3_; have GW289 := n4_; have GE289 := n5_; have NB287_289 := n6_; have NB289_287 := n7_; have NB288_289 := n8_; have NB289_288 := n9_; clear n0_ n1_ n2_ n3_ n4_ n5_ n6_ n7_ n8_ n9_; clear hb hbox hg; have hnb22 := NB289_287.out; have hnc22 := NB287_289.out; have hnb23 := NB289_288.out; have hnc23 := NB288_289.out; have hcz24_0 : w21.cell? ⟨gb289, 0, none⟩ = some (.int .i64 0) := (blk_cell BK289.out 0).trans rfl; have hcz24_1 : w21.cell? ⟨gb289, 1, none⟩ = some (.bool false) := (blk_cell BK289.out 1).trans rfl; have hcz24_2 : w21.cell? ⟨gb289, 2, none⟩ = some (.int .i64 0) := (blk_cell BK289.out 2).trans rfl; have hcz24_3 : w21.cell? ⟨gb289, 3, none⟩ = some (.int .u64 0) := (blk_cell BK289.out 3).trans rfl; have hcz24_4 : w21.cell? ⟨gb289, 4, none⟩ = some (.int .u64 0) := (blk_cell BK289.out 4).trans rfl; have hcz24_5 : w21.cell? ⟨gb289, 5, none⟩ = some (.bool false) := (blk_cell BK289.out 5).trans rfl; have hfz24_0 := blk_frozen BK289.out 0; have hfz24_1 := blk_frozen BK289.out 1; have hfz24_2 := blk_frozen BK289.out 2; have hfz24_3 := blk_frozen BK289.out 3; have hfz24_4 := blk_frozen BK289.out 4; have hfz24_5 := blk_frozen BK289.out 5) | ((with_reducible refine gate_callee (f := 28) rfl ?_); refine goesL_ (some 15) rfl rfl Try.func28 (by kernel_rfl) rfl #[.agg #[.int .i64 a0_0, .bool a0_1, .int .i64 a0_2, .int .u64 a0_3, .int .u64 0, .bool false]] rfl (by (try simp only [List.map_toArray, List.map_cons, List.map_nil]); first | done | rfl | (simp only [List.length_drop, List.length_take]; rfl)) ?_; (with_reducible refine (round_sound.calls k a0_0 a0_1 a0_2 a0_3 0 false true _ A2.out).mono ?_); rintro e w25 ⟨rfl, hb⟩; refine ⟨_, rfl, ?_⟩; have n0_ := Aside0.mk (blk_below (g := gb287) (o := .cells #[.int .i64 a0_0, .bool a0_1, .int .i64 a0_2, .int .u64 a0_3] 44 (0, 0)) (by (with_reducible repeat (first | refine blk_drewN ?_ _ | refine blk_drew ?_ | refine blk_alloc ?_ _)); refine blk_far ?_ NB287_289.out _; (with_reducible repeat (first | refine blk_drewN ?_ _ | refine blk_drew ?_ | refine blk_alloc ?_ _)); refine blk_far ?_ NB287_289.out _; (with_reducible repeat (first | refine blk_drewN ?_ _ | refine blk_drew ?_ | refine blk_alloc ?_ _)); refine blk_far ?_ NB287_289.out _; (with_reducible repeat (first | refine blk_drewN ?_ _ | refine blk_drew ?_ | refine blk_alloc ?_ _)); refine blk_far ?_ NB287_289.out _; (with_reducible repeat (first | refine blk_drewN ?_ _ | refine blk_drew ?_ | refine blk_alloc ?_ _)); refine blk_far ?_ NB287_289.out _; (with_reducible repeat (first | refine blk_drewN ?_ _ | refine blk_drew ?_ | refine blk_alloc ?_ _)); refine blk_far ?_ NB287_289.out _; (with_reducible repeat (first | refine blk_drewN ?_ _ | refine blk_drew ?_ | refine blk_alloc ?_ _)); exact BK287.out) hb); have n1_ := Aside0.mk (blk_below (g := gb288) (o := .cells #[.int .i64 0, .bool false, .int .i64 0, .int .u64 0, .int .u64 0, .bool false] 24 (0, 0)) (by (with_reducible repeat (first | refine blk_drewN ?_ _ | refine blk_drew ?_ | refine blk_alloc ?_ _)); refine blk_far ?_ NB288_289.out _; (with_reducible repeat (first | refine blk_drewN ?_ _ | refine blk_drew ?_ | refine blk_alloc ?_ _)); refine blk_far ?_ NB288_289.out _; (with_reducible repeat (first | refine blk_drewN ?_ _ | refine blk_drew ?_ | refine blk_alloc ?_ _)); refine blk_far ?_ NB288_289.out _; (with_reducible repeat (first | refine blk_drewN ?_ _ | refine blk_drew ?_ | refine blk_alloc ?_ _)); refine blk_far ?_ NB288_289.out _; (with_reducible repeat (first | refine blk_drewN ?_ _ | refine blk_drew ?_ | refine blk_alloc ?_ _)); refine blk_far ?_ NB288_289.out _; (with_reducible repeat (first | refine blk_drewN ?_ _ | refine blk_drew ?_ | refine blk_alloc ?_ _)); refine blk_far ?_ NB288_289.out _; (with_reducible repeat (first | refine blk_drewN ?_ _ | refine blk_drew ?_ | refine blk_alloc ?_ _)); exact BK288.out) hb); have n2_ := Aside0.mk (blk_below (g := gb289) (o := .cells #[.int .i64 a0_0, .bool a0_1, .int .i64 a0_2, .int .u64 a0_3, .int .u64 0, .bool false] 24 (0, 0)) (by (with_reducible repeat (first | refine blk_drewN ?_ _ | refine blk_drew ?_ | refine blk_alloc ?_ _)); refine blk_put (cs := #[.int .i64 a0_0, .bool a0_1, .int .i64 a0_2, .int .u64 a0_3, .int .u64 0, .bool false]) ?_ 5 _ rfl; (with_reducible repeat (first | refine blk_drewN ?_ _ | refine blk_drew ?_ | refine blk_alloc ?_ _)); refine blk_put (cs := #[.int .i64 a0_0, .bool a0_1, .int .i64 a0_2, .int .u64 a0_3, .int .u64 0, .bool false]) ?_ 4 _ rfl; (with_reducible repeat (first | refine blk_drewN ?_ _ | refine blk_drew ?_ | refine blk_alloc ?_ _)); refine blk_put (cs := #[.int .i64 a0_0, .bool a0_1, .int .i64 a0_2, .int .u64 0, .int .u64 0, .bool false]) ?_ 3 _ rfl; (with_reducible repeat (first | refine blk_drewN ?_ _ | refine blk_drew ?_ | refine blk_alloc ?_ _)); refine blk_put (cs := #[.int .i64 a0_0, .bool a0_1, .int .i64 0, .int .u64 0, .int .u64 0, .bool false]) ?_ 2 _ rfl; (with_reducible repeat (first | refine blk_drewN ?_ _ | refine blk_drew ?_ | refine blk_alloc ?_ _)); refine blk_put (cs := #[.int .i64 a0_0, .bool false, .int .i64 0, .int .u64 0, .int .u64 0, .bool false]) ?_ 1 _ rfl; (with_reducible repeat (first | refine blk_drewN ?_ _ | refine blk_drew ?_ | refine blk_alloc ?_ _)); refine blk_put (cs := #[.int .i64 0, .bool false, .int .i64 0, .int .u64 0, .int .u64 0, .bool false]) ?_ 0 _ rfl; (with_reducible repeat (first | refine blk_drewN ?_ _ | refine blk_drew ?_ | refine blk_alloc ?_ _)); exact BK289.out) hb); have n3_ := Aside0.mk (below_step (by repeat (first | (with_reducible first | exact HB.out | apply below_alloc | apply pw_below_drewN | apply below_drew1 | refine below_set ?_ GE287.out | refine below_set ?_ GE288.out | refine below_set ?_ GE289.out) | exact HB.out)) hb); clear BK287; clear BK288; clear BK289; clear HB; have BK287 := n0_; have BK288 := n1_; have BK289 := n2_; have HB := n3_; clear n0_ n1_ n2_ n3_; (try clear hb); (try clear hb2); (try clear hk); (try clear hi); have hcz26_0 : w25.cell? ⟨gb287, 0, none⟩ = some (.int .i64 a0_0) := (blk_cell BK287.out 0).trans rfl; have hcz26_1 : w25.cell? ⟨gb287, 1, none⟩ = some (.bool a0_1) := (blk_cell BK287.out 1).trans rfl; have hcz26_2 : w25.cell? ⟨gb287, 2, none⟩ = some (.int .i64 a0_2) := (blk_cell BK287.out 2).trans rfl; have hcz26_3 : w25.cell? ⟨gb287, 3, none⟩ = some (.int .u64 a0_3) := (blk_cell BK287.out 3).trans rfl; have hfz26_0 := blk_frozen BK287.out 0; have hfz26_1 := blk_frozen BK287.out 1; have hfz26_2 := blk_frozen BK287.out 2; have hfz26_3 := blk_frozen BK287.out 3; have hcz27_0 : w25.cell? ⟨gb288, 0, none⟩ = some (.int .i64 0) := (blk_cell BK288.out 0).trans rfl; have hcz27_1 : w25.cell? ⟨gb288, 1, none⟩ = some (.bool false) := (blk_cell BK288.out 1).trans rfl; have hcz27_2 : w25.cell? ⟨gb288, 2, none⟩ = some (.int .i64 0) := (blk_cell BK288.out 2).trans rfl; have hcz27_3 : w25.cell? ⟨gb288, 3, none⟩ = some (.int .u64 0) := (blk_cell BK288.out 3).trans rfl; have hcz27_4 : w25.cell? ⟨gb288, 4, none⟩ = some (.int .u64 0) := (blk_cell BK288.out 4).trans rfl; have hcz27_5 : w25.cell? ⟨gb288, 5, none⟩ = some (.bool false) := (blk_cell BK288.out 5).trans rfl; have hfz27_0 := blk_frozen BK288.out 0; have hfz27_1 := blk_frozen BK288.out 1; have hfz27_2 := blk_frozen BK288.out 2; have hfz27_3 := blk_frozen BK288.out 3; have hfz27_4 := blk_frozen BK288.out 4; have hfz27_5 := blk_frozen BK288.out 5))
        refine bodyPost_ret (results_ct rfl _ _ gb288 24 #[.int .i64 0, .bool false, .int .i64 0, .int .u64 0, .int .u64 0, .bool false] (0, 0) _ rfl (by (with_reducible repeat (first | refine blk_drewN ?_ _ | refine blk_drew ?_ | refine blk_alloc ?_ _)); refine blk_put (cs := #[.int .i64 0, .bool false, .int .i64 0, .int .u64 0, .int .u64 0, .bool false]) ?_ 5 _ rfl; (with_reducible repeat (first | refine blk_drewN ?_ _ | refine blk_drew ?_ | refine blk_alloc ?_ _)); refine blk_put (cs := #[.int .i64 0, .bool false, .int .i64 0, .int .u64 0, .int .u64 0, .bool false]) ?_ 4 _ rfl; (with_reducible repeat (first | refine blk_drewN ?_ _ | refine blk_drew ?_ | refine blk_alloc ?_ _)); refine blk_put (cs := #[.int .i64 0, .bool false, .int .i64 0, .int .u64 0, .int .u64 0, .bool false]) ?_ 3 _ rfl; (with_reducible repeat (first | refine blk_drewN ?_ _ | refine blk_drew ?_ | refine blk_alloc ?_ _)); refine blk_put (cs := #[.int .i64 0, .bool false, .int .i64 0, .int .u64 0, .int .u64 0, .bool false]) ?_ 2 _ rfl; (with_reducible repeat (first | refine blk_drewN ?_ _ | refine blk_drew ?_ | refine blk_alloc ?_ _)); refine blk_put (cs := #[.int .i64 0, .bool false, .int .i64 0, .int .u64 0, .int .u64 0, .bool false]) ?_ 1 _ rfl; (with_reducible repeat (first | refine blk_drewN ?_ _ | refine blk_drew ?_ | refine blk_alloc ?_ _)); refine blk_put (cs := #[.int .i64 0, .bool false, .int .i64 0, .int .u64 0, .int .u64 0, .bool false]) ?_ 0 _ rfl; (with_reducible repeat (first | refine blk_drewN ?_ _ | refine blk_drew ?_ | refine blk_alloc ?_ _)); exact BK288.out) Try.underlying24 rfl (by kernel_rfl)) rfl ?_
        exact ⟨by first | rfl | (simp [errW_none, errW_some] <;> rfl) | (simp [*, errW_none, errW_some] <;> rfl), by repeat (first | (with_reducible first | exact HB.out | apply below_alloc | apply pw_below_drewN | apply below_drew1 | refine below_set ?_ GE287.out | refine below_set ?_ GE288.out | refine below_set ?_ GE289.out) | exact HB.out)⟩
      · rw [if_neg c16] at H
        have c16b0 : decide (1073741824 < a0_2) = false := decide_eq_false c16
        clear c16
        simp only [Option.some.injEq, Prod.mk.injEq] at H
        obtain ⟨rfl, rfl, rfl, rfl, rfl, rfl, rfl⟩ := H
        go_enter Try.func20, Try.ntmps20
        go_wp2_with (first | ((with_reducible refine gate_dst (N := 1) rfl ?_); refine box_event ?hg (N := 1) ?hd (cs := #[.int .i64 a0_0, .bool a0_1, .int .i64 a0_2, .int .u64 a0_3]) (t := 44) ?hr ?_; (case hd => rfl); (case hg => rfl); (case hr => first | (go_simp; done) | (go_simp; rfl)); intro gb287 hg w28 hbox hb; have n0_ := Aside0.mk (below_step (by repeat (first | (with_reducible first | exact HB.out | apply below_alloc | apply pw_below_drewN | apply below_drew1) | exact HB.out)) hb); have n1_ := Aside0.mk (hbox); have n2_ := Aside0.mk ((by rw [hg]; exact (below_size (by repeat (first | (with_reducible first | exact HB.out | apply below_alloc | apply pw_below_drewN | apply below_drew1) | exact HB.out))) : w.heap.size ≤ gb287)); have n3_ := Aside0.mk ((by rw [hg]; exact (below_size (by repeat (first | (with_reducible first | exact HB.out | apply below_alloc | apply pw_below_drewN | apply below_drew1) | exact HB.out))) : w.heap.size ≤ gb287)); clear HB; have HB := n0_; have BK287 := n1_; have GW287 := n2_; have GE287 := n3_; clear n0_ n1_ n2_ n3_; clear hb hbox hg) | ((with_reducible refine gate_dst (N := 2) rfl ?_); refine box_event ?hg (N := 2) ?hd (cs := #[.int .i64 0, .bool false, .int .i64 0, .int .u64 0, .int .u64 0, .bool false]) (t := 24) ?hr ?_; (case hd => rfl); (case hg => rfl); (case hr => first | (go_simp; done) | (go_simp; rfl)); intro gb288 hg w29 hbox hb; have n0_ := Aside0.mk (blk_below (g := gb287) (o := .cells #[.int .i64 a0_0, .bool a0_1, .int .i64 a0_2, .int .u64 a0_3] 44 (0, 0)) (by (with_reducible repeat (first | refine blk_drewN ?_ _ | refine blk_drew ?_ | refine blk_alloc ?_ _)); exact BK287.out) hb); have n1_ := Aside0.mk (below_step (by repeat (first | (with_reducible first | exact HB.out | apply below_alloc | apply pw_below_drewN | apply below_drew1 | refine below_set ?_ GE287.out) | exact HB.out)) hb); have n2_ := Aside0.mk (hbox); have n3_ := Aside0.mk ((by rw [hg]; exact (below_size (by repeat (first | (with_reducible first | exact HB.out | apply below_alloc | apply pw_below_drewN | apply below_drew1 | refine below_set ?_ GE287.out) | exact HB.out))) : w.heap.size ≤ gb288)); have n4_ := Aside0.mk ((by rw [hg]; exact (below_size (by repeat (first | (with_reducible first | exact HB.out | apply below_alloc | apply pw_below_drewN | apply below_drew1 | refine below_set ?_ GE287.out) | exact HB.out))) : w.heap.size ≤ gb288)); have n5_ := Aside0.mk ((by rw [hg]; exact Nat.ne_of_lt (blk_lt (g := gb287) (o := .cells #[.int .i64 a0_0, .bool a0_1, .int .i64 a0_2, .int .u64 a0_3] 44 (0, 0)) (by (with_reducible repeat (first | refine blk_drewN ?_ _ | refine blk_drew ?_ | refine blk_alloc ?_ _)); exact BK287.out)) : gb287 ≠ gb288)); have n6_ := Aside0.mk ((by rw [hg]; exact Nat.ne_of_gt (blk_lt (g := gb287) (o := .cells #[.int .i64 a0_0, .bool a0_1, .int .i64 a0_2, .int .u64 a0_3] 44 (0, 0)) (by (with_reducible repeat (first | refine blk_drewN ?_ _ | refine blk_drew ?_ | refine blk_alloc ?_ _)); exact BK287.out)) : gb288 ≠ gb287)); clear BK287; clear HB; have BK287 := n0_; have HB := n1_; have BK288 := n2_; have GW288 := n3_; have GE288 := n4_; have NB287_288 := n5_; have NB288_287 := n6_; clear n0_ n1_ n2_ n3_ n4_ n5_ n6_; clear hb hbox hg; have hnb30 := NB287_288.out; have hnc30 := NB288_287.out; have hcz31_0 : w29.cell? ⟨gb287, 0, none⟩ = some (.int .i64 a0_0) := (blk_cell BK287.out 0).trans rfl; have hcz31_1 : w29.cell? ⟨gb287, 1, none⟩ = some (.bool a0_1) := (blk_cell BK287.out 1).trans rfl; have hcz31_2 : w29.cell? ⟨gb287, 2, none⟩ = some (.int .i64 a0_2) := (blk_cell BK287.out 2).trans rfl; have hcz31_3 : w29.cell? ⟨gb287, 3, none⟩ = some (.int .u64 a0_3) := (blk_cell BK287.out 3).trans rfl; have hfz31_0 := blk_frozen BK287.out 0; have hfz31_1 := blk_frozen BK287.out 1; have hfz31_2 := blk_frozen BK287.out 2; have hfz31_3 := blk_frozen BK287.out 3) | ((with_reducible refine gate_dst (N := 4) rfl ?_); refine box_event ?hg (N := 4) ?hd (cs := #[.int .i64 0, .bool false, .int .i64 0, .int .u64 0, .int .u64 0, .bool false]) (t := 24) ?hr ?_; (case hd => rfl); (case hg => rfl); (case hr => first | (go_simp; done) | (go_simp; rfl)); intro gb289 hg w32 hbox hb; have n0_ := Aside0.mk (blk_below (g := gb287) (o := .cells #[.int .i64 a0_0, .bool a0_1, .int .i64 a0_2, .int .u64 a0_3] 44 (0, 0)) (by (with_reducible repeat (first | refine blk_drewN ?_ _ | refine blk_drew ?_ | refine blk_alloc ?_ _)); exact BK287.out) hb); have n1_ := Aside0.mk (blk_below (g := gb288) (o := .cells #[.int .i64 0, .bool false, .int .i64 0, .int .u64 0, .int .u64 0, .bool false] 24 (0, 0)) (by (with_reducible repeat (first | refine blk_drewN ?_ _ | refine blk_drew ?_ | refine blk_alloc ?_ _)); exact BK288.out) hb); have n2_ := Aside0.mk (below_step (by repeat (first | (with_reducible first | exact HB.out | apply below_alloc | apply pw_below_drewN | apply below_drew1 | refine below_set ?_ GE287.out | refine below_set ?_ GE288.out) | exact HB.out)) hb); have n3_ := Aside0.mk (hbox); have n4_ := Aside0.mk ((by rw [hg]; exact (below_size (by repeat (first | (with_reducible first | exact HB.out | apply below_alloc | apply pw_below_drewN | apply below_drew1 | refine below_set ?_ GE287.out | refine below_set ?_ GE288.out) | exact HB.out))) : w.heap.size ≤ gb289)); have n5_ := Aside0.mk ((by rw [hg]; exact (below_size (by repeat (first | (with_reducible first | exact HB.out | apply below_alloc | apply pw_below_drewN | apply below_drew1 | refine below_set ?_ GE287.out | refine below_set ?_ GE288.out) | exact HB.out))) : w.heap.size ≤ gb289)); have n6_ := Aside0.mk ((by rw [hg]; exact Nat.ne_of_lt (blk_lt (g := gb287) (o := .cells #[.int .i64 a0_0, .bool a0_1, .int .i64 a0_2, .int .u64 a0_3] 44 (0, 0)) (by (with_reducible repeat (first | refine blk_drewN ?_ _ | refine blk_drew ?_ | refine blk_alloc ?_ _)); exact BK287.out)) : gb287 ≠ gb289)); have n7_ := Aside0.mk ((by rw [hg]; exact Nat.ne_of_gt (blk_lt (g := gb287) (o := .cells #[.int .i64 a0_0, .bool a0_1, .int .i64 a0_2, .int .u64 a0_3] 44 (0, 0)) (by (with_reducible repeat (first | refine blk_drewN ?_ _ | refine blk_drew ?_ | refine blk_alloc ?_ _)); exact BK287.out)) : gb289 ≠ gb287)); have n8_ := Aside0.mk ((by rw [hg]; exact Nat.ne_of_lt (blk_lt (g := gb288) (o := .cells #[.int .i64 0, .bool false, .int .i64 0, .int .u64 0, .int .u64 0, .bool false] 24 (0, 0)) (by (with_reducible repeat (first | refine blk_drewN ?_ _ | refine blk_drew ?_ | refine blk_alloc ?_ _)); exact BK288.out)) : gb288 ≠ gb289)); have n9_ := Aside0.mk ((by rw [hg]; exact Nat.ne_of_gt (blk_lt (g := gb288) (o := .cells #[.int .i64 0, .bool false, .int .i64 0, .int .u64 0, .int .u64 0, .bool false] 24 (0, 0)) (by (with_reducible repeat (first | refine blk_drewN ?_ _ | refine blk_drew ?_ | refine blk_alloc ?_ _)); exact BK288.out)) : gb289 ≠ gb288)); clear BK287; clear BK288; clear HB; have BK287 := n0_; have BK288 := n1_; have HB := n2_; have BK289 := n3_; have GW289 := n4_; have GE289 := n5_; have NB287_289 := n6_; have NB289_287 := n7_; have NB288_289 := n8_; have NB289_288 := n9_; clear n0_ n1_ n2_ n3_ n4_ n5_ n6_ n7_ n8_ n9_; clear hb hbox hg; have hnb33 := NB289_287.out; have hnc33 := NB287_289.out; have hnb34 := NB289_288.out; have hnc34 := NB288_289.out; have hcz35_0 : w32.cell? ⟨gb289, 0, none⟩ = some (.int .i64 0) := (blk_cell BK289.out 0).trans rfl; have hcz35_1 : w32.cell? ⟨gb289, 1, none⟩ = some (.bool false) := (blk_cell BK289.out 1).trans rfl; have hcz35_2 : w32.cell? ⟨gb289, 2, none⟩ = some (.int .i64 0) := (blk_cell BK289.out 2).trans rfl; have hcz35_3 : w32.cell? ⟨gb289, 3, none⟩ = some (.int .u64 0) := (blk_cell BK289.out 3).trans rfl; have hcz35_4 : w32.cell? ⟨gb289, 4, none⟩ = some (.int .u64 0) := (blk_cell BK289.out 4).trans rfl; have hcz35_5 : w32.cell? ⟨gb289, 5, none⟩ = some (.bool false) := (blk_cell BK289.out 5).trans rfl; have hfz35_0 := blk_frozen BK289.out 0; have hfz35_1 := blk_frozen BK289.out 1; have hfz35_2 := blk_frozen BK289.out 2; have hfz35_3 := blk_frozen BK289.out 3; have hfz35_4 := blk_frozen BK289.out 4; have hfz35_5 := blk_frozen BK289.out 5) | ((with_reducible refine gate_callee (f := 28) rfl ?_); refine goesL_ (some 15) rfl rfl Try.func28 (by kernel_rfl) rfl #[.agg #[.int .i64 a0_0, .bool a0_1, .int .i64 a0_2, .int .u64 a0_3, .int .u64 0, .bool false]] rfl (by (try simp only [List.map_toArray, List.map_cons, List.map_nil]); first | done | rfl | (simp only [List.length_drop, List.length_take]; rfl)) ?_; (with_reducible refine (round_sound.calls k a0_0 a0_1 a0_2 a0_3 0 false true _ A2.out).mono ?_); rintro e w36 ⟨rfl, hb⟩; refine ⟨_, rfl, ?_⟩; have n0_ := Aside0.mk (blk_below (g := gb287) (o := .cells #[.int .i64 a0_0, .bool a0_1, .int .i64 a0_2, .int .u64 a0_3] 44 (0, 0)) (by (with_reducible repeat (first | refine blk_drewN ?_ _ | refine blk_drew ?_ | refine blk_alloc ?_ _)); refine blk_far ?_ NB287_289.out _; (with_reducible repeat (first | refine blk_drewN ?_ _ | refine blk_drew ?_ | refine blk_alloc ?_ _)); refine blk_far ?_ NB287_289.out _; (with_reducible repeat (first | refine blk_drewN ?_ _ | refine blk_drew ?_ | refine blk_alloc ?_ _)); refine blk_far ?_ NB287_289.out _; (with_reducible repeat (first | refine blk_drewN ?_ _ | refine blk_drew ?_ | refine blk_alloc ?_ _)); refine blk_far ?_ NB287_289.out _; (with_reducible repeat (first | refine blk_drewN ?_ _ | refine blk_drew ?_ | refine blk_alloc ?_ _)); refine blk_far ?_ NB287_289.out _; (with_reducible repeat (first | refine blk_drewN ?_ _ | refine blk_drew ?_ | refine blk_alloc ?_ _)); refine blk_far ?_ NB287_289.out _; (with_reducible repeat (first | refine blk_drewN ?_ _ | refine blk_drew ?_ | refine blk_alloc ?_ _)); exact BK287.out) hb); have n1_ := Aside0.mk (blk_below (g := gb288) (o := .cells #[.int .i64 0, .bool false, .int .i64 0, .int .u64 0, .int .u64 0, .bool false] 24 (0, 0)) (by (with_reducible repeat (first | refine blk_drewN ?_ _ | refine blk_drew ?_ | refine blk_alloc ?_ _)); refine blk_far ?_ NB288_289.out _; (with_reducible repeat (first | refine blk_drewN ?_ _ | refine blk_drew ?_ | refine blk_alloc ?_ _)); refine blk_far ?_ NB288_289.out _; (with_reducible repeat (first | refine blk_drewN ?_ _ | refine blk_drew ?_ | refine blk_alloc ?_ _)); refine blk_far ?_ NB288_289.out _; (with_reducible repeat (first | refine blk_drewN ?_ _ | refine blk_drew ?_ | refine blk_alloc ?_ _)); refine blk_far ?_ NB288_289.out _; (with_reducible repeat (first | refine blk_drewN ?_ _ | refine blk_drew ?_ | refine blk_alloc ?_ _)); refine blk_far ?_ NB288_289.out _; (with_reducible repeat (first | refine blk_drewN ?_ _ | refine blk_drew ?_ | refine blk_alloc ?_ _)); refine blk_far ?_ NB288_289.out _; (with_reducible repeat (first | refine blk_drewN ?_ _ | refine blk_drew ?_ | refine blk_alloc ?_ _)); exact BK288.out) hb); have n2_ := Aside0.mk (blk_below (g := gb289) (o := .cells #[.int .i64 a0_0, .bool a0_1, .int .i64 a0_2, .int .u64 a0_3, .int .u64 0, .bool false] 24 (0, 0)) (by (with_reducible repeat (first | refine blk_drewN ?_ _ | refine blk_drew ?_ | refine blk_alloc ?_ _)); refine blk_put (cs := #[.int .i64 a0_0, .bool a0_1, .int .i64 a0_2, .int .u64 a0_3, .int .u64 0, .bool false]) ?_ 5 _ rfl; (with_reducible repeat (first | refine blk_drewN ?_ _ | refine blk_drew ?_ | refine blk_alloc ?_ _)); refine blk_put (cs := #[.int .i64 a0_0, .bool a0_1, .int .i64 a0_2, .int .u64 a0_3, .int .u64 0, .bool false]) ?_ 4 _ rfl; (with_reducible repeat (first | refine blk_drewN ?_ _ | refine blk_drew ?_ | refine blk_alloc ?_ _)); refine blk_put (cs := #[.int .i64 a0_0, .bool a0_1, .int .i64 a0_2, .int .u64 0, .int .u64 0, .bool false]) ?_ 3 _ rfl; (with_reducible repeat (first | refine blk_drewN ?_ _ | refine blk_drew ?_ | refine blk_alloc ?_ _)); refine blk_put (cs := #[.int .i64 a0_0, .bool a0_1, .int .i64 0, .int .u64 0, .int .u64 0, .bool false]) ?_ 2 _ rfl; (with_reducible repeat (first | refine blk_drewN ?_ _ | refine blk_drew ?_ | refine blk_alloc ?_ _)); refine blk_put (cs := #[.int .i64 a0_0, .bool false, .int .i64 0, .int .u64 0, .int .u64 0, .bool false]) ?_ 1 _ rfl; (with_reducible repeat (first | refine blk_drewN ?_ _ | refine blk_drew ?_ | refine blk_alloc ?_ _)); refine blk_put (cs := #[.int .i64 0, .bool false, .int .i64 0, .int .u64 0, .int .u64 0, .bool false]) ?_ 0 _ rfl; (with_reducible repeat (first | refine blk_drewN ?_ _ | refine blk_drew ?_ | refine blk_alloc ?_ _)); exact BK289.out) hb); have n3_ := Aside0.mk (below_step (by repeat (first | (with_reducible first | exact HB.out | apply below_alloc | apply pw_below_drewN | apply below_drew1 | refine below_set ?_ GE287.out | refine below_set ?_ GE288.out | refine below_set ?_ GE289.out) | exact HB.out)) hb); clear BK287; clear BK288; clear BK289; clear HB; have BK287 := n0_; have BK288 := n1_; have BK289 := n2_; have HB := n3_; clear n0_ n1_ n2_ n3_; (try clear hb); (try clear hb2); (try clear hk); (try clear hi); have hcz37_0 : w36.cell? ⟨gb287, 0, none⟩ = some (.int .i64 a0_0) := (blk_cell BK287.out 0).trans rfl; have hcz37_1 : w36.cell? ⟨gb287, 1, none⟩ = some (.bool a0_1) := (blk_cell BK287.out 1).trans rfl; have hcz37_2 : w36.cell? ⟨gb287, 2, none⟩ = some (.int .i64 a0_2) := (blk_cell BK287.out 2).trans rfl; have hcz37_3 : w36.cell? ⟨gb287, 3, none⟩ = some (.int .u64 a0_3) := (blk_cell BK287.out 3).trans rfl; have hfz37_0 := blk_frozen BK287.out 0; have hfz37_1 := blk_frozen BK287.out 1; have hfz37_2 := blk_frozen BK287.out 2; have hfz37_3 := blk_frozen BK287.out 3; have hcz38_0 : w36.cell? ⟨gb289, 0, none⟩ = some (.int .i64 a0_0) := (blk_cell BK289.out 0).trans rfl; have hcz38_1 : w36.cell? ⟨gb289, 1, none⟩ = some (.bool a0_1) := (blk_cell BK289.out 1).trans rfl; have hcz38_2 : w36.cell? ⟨gb289, 2, none⟩ = some (.int .i64 a0_2) := (blk_cell BK289.out 2).trans rfl; have hcz38_3 : w36.cell? ⟨gb289, 3, none⟩ = some (.int .u64 a0_3) := (blk_cell BK289.out 3).trans rfl; have hcz38_4 : w36.cell? ⟨gb289, 4, none⟩ = some (.int .u64 0) := (blk_cell BK289.out 4).trans rfl; have hcz38_5 : w36.cell? ⟨gb289, 5, none⟩ = some (.bool false) := (blk_cell BK289.out 5).trans rfl; have hfz38_0 := blk_frozen BK289.out 0; have hfz38_1 := blk_frozen BK289.out 1; have hfz38_2 := blk_frozen BK289.out 2; have hfz38_3 := blk_frozen BK289.out 3; have hfz38_4 := blk_frozen BK289.out 4; have hfz38_5 := blk_frozen BK289.out 5; have hcz39_0 : w36.cell? ⟨gb288, 0, none⟩ = some (.int .i64 0) := (blk_cell BK288.out 0).trans rfl; have hcz39_1 : w36.cell? ⟨gb288, 1, none⟩ = some (.bool false) := (blk_cell BK288.out 1).trans rfl; have hcz39_2 : w36.cell? ⟨gb288, 2, none⟩ = some (.int .i64 0) := (blk_cell BK288.out 2).trans rfl; have hcz39_3 : w36.cell? ⟨gb288, 3, none⟩ = some (.int .u64 0) := (blk_cell BK288.out 3).trans rfl; have hcz39_4 : w36.cell? ⟨gb288, 4, none⟩ = some (.int .u64 0) := (blk_cell BK288.out 4).trans rfl; have hcz39_5 : w36.cell? ⟨gb288, 5, none⟩ = some (.bool false) := (blk_cell BK288.out 5).trans rfl; have hfz39_0 := blk_frozen BK288.out 0; have hfz39_1 := blk_frozen BK288.out 1; have hfz39_2 := blk_frozen BK288.out 2; have hfz39_3 := blk_frozen BK288.out 3; have hfz39_4 := blk_frozen BK288.out 4; have hfz39_5 := blk_frozen BK288.out 5))
        refine bodyPost_ret (results_ct rfl _ _ gb288 24 #[.int .i64 a0_0, .bool a0_1, .int .i64 a0_2, .int .u64 a0_3, .int .u64 0, .bool false] (0, 0) _ rfl (by (with_reducible repeat (first | refine blk_drewN ?_ _ | refine blk_drew ?_ | refine blk_alloc ?_ _)); refine blk_put (cs := #[.int .i64 a0_0, .bool a0_1, .int .i64 a0_2, .int .u64 a0_3, .int .u64 0, .bool false]) ?_ 5 _ rfl; (with_reducible repeat (first | refine blk_drewN ?_ _ | refine blk_drew ?_ | refine blk_alloc ?_ _)); refine blk_put (cs := #[.int .i64 a0_0, .bool a0_1, .int .i64 a0_2, .int .u64 a0_3, .int .u64 0, .bool false]) ?_ 4 _ rfl; (with_reducible repeat (first | refine blk_drewN ?_ _ | refine blk_drew ?_ | refine blk_alloc ?_ _)); refine blk_put (cs := #[.int .i64 a0_0, .bool a0_1, .int .i64 a0_2, .int .u64 0, .int .u64 0, .bool false]) ?_ 3 _ rfl; (with_reducible repeat (first | refine blk_drewN ?_ _ | refine blk_drew ?_ | refine blk_alloc ?_ _)); refine blk_put (cs := #[.int .i64 a0_0, .bool a0_1, .int .i64 0, .int .u64 0, .int .u64 0, .bool false]) ?_ 2 _ rfl; (with_reducible repeat (first | refine blk_drewN ?_ _ | refine blk_drew ?_ | refine blk_alloc ?_ _)); refine blk_put (cs := #[.int .i64 a0_0, .bool false, .int .i64 0, .int .u64 0, .int .u64 0, .bool false]) ?_ 1 _ rfl; (with_reducible repeat (first | refine blk_drewN ?_ _ | refine blk_drew ?_ | refine blk_alloc ?_ _)); refine blk_put (cs := #[.int .i64 0, .bool false, .int .i64 0, .int .u64 0, .int .u64 0, .bool false]) ?_ 0 _ rfl; (with_reducible repeat (first | refine blk_drewN ?_ _ | refine blk_drew ?_ | refine blk_alloc ?_ _)); exact BK288.out) Try.underlying24 rfl (by kernel_rfl)) rfl ?_
        exact ⟨by first | rfl | (simp [errW_none, errW_some] <;> rfl) | (simp [*, errW_none, errW_some] <;> rfl), by repeat (first | (with_reducible first | exact HB.out | apply below_alloc | apply pw_below_drewN | apply below_drew1 | refine below_set ?_ GE287.out | refine below_set ?_ GE288.out | refine below_set ?_ GE289.out) | exact HB.out)⟩
  · replace c3 := Bool.eq_false_iff.mpr c3
    subst c3
    have H1 : (some (0, false, 0, 0, 0, false, some 1)) = some (r1, r2, r3, r4, r5, r6, r7) := by rw [if_neg (show ¬ (false = true) by decide)] at H; exact H
    clear H
    have H := H1
    clear H1
    simp only [Option.some.injEq, Prod.mk.injEq] at H
    obtain ⟨rfl, rfl, rfl, rfl, rfl, rfl, rfl⟩ := H
    go_enter Try.func20, Try.ntmps20
    go_wp2_with (first | ((with_reducible refine gate_dst (N := 1) rfl ?_); refine box_event ?hg (N := 1) ?hd (cs := #[.int .i64 a0_0, .bool a0_1, .int .i64 a0_2, .int .u64 a0_3]) (t := 44) ?hr ?_; (case hd => rfl); (case hg => rfl); (case hr => first | (go_simp; done) | (go_simp; rfl)); intro gb287 hg w40 hbox hb; have n0_ := Aside0.mk (below_step (by repeat (first | (with_reducible first | exact HB.out | apply below_alloc | apply pw_below_drewN | apply below_drew1) | exact HB.out)) hb); have n1_ := Aside0.mk (hbox); have n2_ := Aside0.mk ((by rw [hg]; exact (below_size (by repeat (first | (with_reducible first | exact HB.out | apply below_alloc | apply pw_below_drewN | apply below_drew1) | exact HB.out))) : w.heap.size ≤ gb287)); have n3_ := Aside0.mk ((by rw [hg]; exact (below_size (by repeat (first | (with_reducible first | exact HB.out | apply below_alloc | apply pw_below_drewN | apply below_drew1) | exact HB.out))) : w.heap.size ≤ gb287)); clear HB; have HB := n0_; have BK287 := n1_; have GW287 := n2_; have GE287 := n3_; clear n0_ n1_ n2_ n3_; clear hb hbox hg) | ((with_reducible refine gate_dst (N := 2) rfl ?_); refine box_event ?hg (N := 2) ?hd (cs := #[.int .i64 0, .bool false, .int .i64 0, .int .u64 0, .int .u64 0, .bool false]) (t := 24) ?hr ?_; (case hd => rfl); (case hg => rfl); (case hr => first | (go_simp; done) | (go_simp; rfl)); intro gb288 hg w41 hbox hb; have n0_ := Aside0.mk (blk_below (g := gb287) (o := .cells #[.int .i64 a0_0, .bool a0_1, .int .i64 a0_2, .int .u64 a0_3] 44 (0, 0)) (by (with_reducible repeat (first | refine blk_drewN ?_ _ | refine blk_drew ?_ | refine blk_alloc ?_ _)); exact BK287.out) hb); have n1_ := Aside0.mk (below_step (by repeat (first | (with_reducible first | exact HB.out | apply below_alloc | apply pw_below_drewN | apply below_drew1 | refine below_set ?_ GE287.out) | exact HB.out)) hb); have n2_ := Aside0.mk (hbox); have n3_ := Aside0.mk ((by rw [hg]; exact (below_size (by repeat (first | (with_reducible first | exact HB.out | apply below_alloc | apply pw_below_drewN | apply below_drew1 | refine below_set ?_ GE287.out) | exact HB.out))) : w.heap.size ≤ gb288)); have n4_ := Aside0.mk ((by rw [hg]; exact (below_size (by repeat (first | (with_reducible first | exact HB.out | apply below_alloc | apply pw_below_drewN | apply below_drew1 | refine below_set ?_ GE287.out) | exact HB.out))) : w.heap.size ≤ gb288)); have n5_ := Aside0.mk ((by rw [hg]; exact Nat.ne_of_lt (blk_lt (g := gb287) (o := .cells #[.int .i64 a0_0, .bool a0_1, .int .i64 a0_2, .int .u64 a0_3] 44 (0, 0)) (by (with_reducible repeat (first | refine blk_drewN ?_ _ | refine blk_drew ?_ | refine blk_alloc ?_ _)); exact BK287.out)) : gb287 ≠ gb288)); have n6_ := Aside0.mk ((by rw [hg]; exact Nat.ne_of_gt (blk_lt (g := gb287) (o := .cells #[.int .i64 a0_0, .bool a0_1, .int .i64 a0_2, .int .u64 a0_3] 44 (0, 0)) (by (with_reducible repeat (first | refine blk_drewN ?_ _ | refine blk_drew ?_ | refine blk_alloc ?_ _)); exact BK287.out)) : gb288 ≠ gb287)); clear BK287; clear HB; have BK287 := n0_; have HB := n1_; have BK288 := n2_; have GW288 := n3_; have GE288 := n4_; have NB287_288 := n5_; have NB288_287 := n6_; clear n0_ n1_ n2_ n3_ n4_ n5_ n6_; clear hb hbox hg; have hnb42 := NB287_288.out; have hnc42 := NB288_287.out; have hcz43_0 : w41.cell? ⟨gb287, 0, none⟩ = some (.int .i64 a0_0) := (blk_cell BK287.out 0).trans rfl; have hcz43_1 : w41.cell? ⟨gb287, 1, none⟩ = some (.bool a0_1) := (blk_cell BK287.out 1).trans rfl; have hcz43_2 : w41.cell? ⟨gb287, 2, none⟩ = some (.int .i64 a0_2) := (blk_cell BK287.out 2).trans rfl; have hcz43_3 : w41.cell? ⟨gb287, 3, none⟩ = some (.int .u64 a0_3) := (blk_cell BK287.out 3).trans rfl; have hfz43_0 := blk_frozen BK287.out 0; have hfz43_1 := blk_frozen BK287.out 1; have hfz43_2 := blk_frozen BK287.out 2; have hfz43_3 := blk_frozen BK287.out 3) | ((with_reducible refine gate_dst (N := 4) rfl ?_); refine box_event ?hg (N := 4) ?hd (cs := #[.int .i64 0, .bool false, .int .i64 0, .int .u64 0, .int .u64 0, .bool false]) (t := 24) ?hr ?_; (case hd => rfl); (case hg => rfl); (case hr => first | (go_simp; done) | (go_simp; rfl)); intro gb289 hg w44 hbox hb; have n0_ := Aside0.mk (blk_below (g := gb287) (o := .cells #[.int .i64 a0_0, .bool a0_1, .int .i64 a0_2, .int .u64 a0_3] 44 (0, 0)) (by (with_reducible repeat (first | refine blk_drewN ?_ _ | refine blk_drew ?_ | refine blk_alloc ?_ _)); exact BK287.out) hb); have n1_ := Aside0.mk (blk_below (g := gb288) (o := .cells #[.int .i64 0, .bool false, .int .i64 0, .int .u64 0, .int .u64 0, .bool false] 24 (0, 0)) (by (with_reducible repeat (first | refine blk_drewN ?_ _ | refine blk_drew ?_ | refine blk_alloc ?_ _)); exact BK288.out) hb); have n2_ := Aside0.mk (below_step (by repeat (first | (with_reducible first | exact HB.out | apply below_alloc | apply pw_below_drewN | apply below_drew1 | refine below_set ?_ GE287.out | refine below_set ?_ GE288.out) | exact HB.out)) hb); have n3_ := Aside0.mk (hbox); have n4_ := Aside0.mk ((by rw [hg]; exact (below_size (by repeat (first | (with_reducible first | exact HB.out | apply below_alloc | apply pw_below_drewN | apply below_drew1 | refine below_set ?_ GE287.out | refine below_set ?_ GE288.out) | exact HB.out))) : w.heap.size ≤ gb289)); have n5_ := Aside0.mk ((by rw [hg]; exact (below_size (by repeat (first | (with_reducible first | exact HB.out | apply below_alloc | apply pw_below_drewN | apply below_drew1 | refine below_set ?_ GE287.out | refine below_set ?_ GE288.out) | exact HB.out))) : w.heap.size ≤ gb289)); have n6_ := Aside0.mk ((by rw [hg]; exact Nat.ne_of_lt (blk_lt (g := gb287) (o := .cells #[.int .i64 a0_0, .bool a0_1, .int .i64 a0_2, .int .u64 a0_3] 44 (0, 0)) (by (with_reducible repeat (first | refine blk_drewN ?_ _ | refine blk_drew ?_ | refine blk_alloc ?_ _)); exact BK287.out)) : gb287 ≠ gb289)); have n7_ := Aside0.mk ((by rw [hg]; exact Nat.ne_of_gt (blk_lt (g := gb287) (o := .cells #[.int .i64 a0_0, .bool a0_1, .int .i64 a0_2, .int .u64 a0_3] 44 (0, 0)) (by (with_reducible repeat (first | refine blk_drewN ?_ _ | refine blk_drew ?_ | refine blk_alloc ?_ _)); exact BK287.out)) : gb289 ≠ gb287)); have n8_ := Aside0.mk ((by rw [hg]; exact Nat.ne_of_lt (blk_lt (g := gb288) (o := .cells #[.int .i64 0, .bool false, .int .i64 0, .int .u64 0, .int .u64 0, .bool false] 24 (0, 0)) (by (with_reducible repeat (first | refine blk_drewN ?_ _ | refine blk_drew ?_ | refine blk_alloc ?_ _)); exact BK288.out)) : gb288 ≠ gb289)); have n9_ := Aside0.mk ((by rw [hg]; exact Nat.ne_of_gt (blk_lt (g := gb288) (o := .cells #[.int .i64 0, .bool false, .int .i64 0, .int .u64 0, .int .u64 0, .bool false] 24 (0, 0)) (by (with_reducible repeat (first | refine blk_drewN ?_ _ | refine blk_drew ?_ | refine blk_alloc ?_ _)); exact BK288.out)) : gb289 ≠ gb288)); clear BK287; clear BK288; clear HB; have BK287 := n0_; have BK288 := n1_; have HB := n2_; have BK289 := n3_; have GW289 := n4_; have GE289 := n5_; have NB287_289 := n6_; have NB289_287 := n7_; have NB288_289 := n8_; have NB289_288 := n9_; clear n0_ n1_ n2_ n3_ n4_ n5_ n6_ n7_ n8_ n9_; clear hb hbox hg; have hnb45 := NB289_287.out; have hnc45 := NB287_289.out; have hnb46 := NB289_288.out; have hnc46 := NB288_289.out; have hcz47_0 : w44.cell? ⟨gb289, 0, none⟩ = some (.int .i64 0) := (blk_cell BK289.out 0).trans rfl; have hcz47_1 : w44.cell? ⟨gb289, 1, none⟩ = some (.bool false) := (blk_cell BK289.out 1).trans rfl; have hcz47_2 : w44.cell? ⟨gb289, 2, none⟩ = some (.int .i64 0) := (blk_cell BK289.out 2).trans rfl; have hcz47_3 : w44.cell? ⟨gb289, 3, none⟩ = some (.int .u64 0) := (blk_cell BK289.out 3).trans rfl; have hcz47_4 : w44.cell? ⟨gb289, 4, none⟩ = some (.int .u64 0) := (blk_cell BK289.out 4).trans rfl; have hcz47_5 : w44.cell? ⟨gb289, 5, none⟩ = some (.bool false) := (blk_cell BK289.out 5).trans rfl; have hfz47_0 := blk_frozen BK289.out 0; have hfz47_1 := blk_frozen BK289.out 1; have hfz47_2 := blk_frozen BK289.out 2; have hfz47_3 := blk_frozen BK289.out 3; have hfz47_4 := blk_frozen BK289.out 4; have hfz47_5 := blk_frozen BK289.out 5) | ((with_reducible refine gate_callee (f := 28) rfl ?_); refine goesL_ (some 15) rfl rfl Try.func28 (by kernel_rfl) rfl #[.agg #[.int .i64 a0_0, .bool a0_1, .int .i64 a0_2, .int .u64 a0_3, .int .u64 0, .bool false]] rfl (by (try simp only [List.map_toArray, List.map_cons, List.map_nil]); first | done | rfl | (simp only [List.length_drop, List.length_take]; rfl)) ?_; (with_reducible refine (round_sound.calls k a0_0 a0_1 a0_2 a0_3 0 false false _ A2.out).mono ?_); rintro e w48 ⟨rfl, hb⟩; refine ⟨_, rfl, ?_⟩; have n0_ := Aside0.mk (blk_below (g := gb287) (o := .cells #[.int .i64 a0_0, .bool a0_1, .int .i64 a0_2, .int .u64 a0_3] 44 (0, 0)) (by (with_reducible repeat (first | refine blk_drewN ?_ _ | refine blk_drew ?_ | refine blk_alloc ?_ _)); refine blk_far ?_ NB287_289.out _; (with_reducible repeat (first | refine blk_drewN ?_ _ | refine blk_drew ?_ | refine blk_alloc ?_ _)); refine blk_far ?_ NB287_289.out _; (with_reducible repeat (first | refine blk_drewN ?_ _ | refine blk_drew ?_ | refine blk_alloc ?_ _)); refine blk_far ?_ NB287_289.out _; (with_reducible repeat (first | refine blk_drewN ?_ _ | refine blk_drew ?_ | refine blk_alloc ?_ _)); refine blk_far ?_ NB287_289.out _; (with_reducible repeat (first | refine blk_drewN ?_ _ | refine blk_drew ?_ | refine blk_alloc ?_ _)); refine blk_far ?_ NB287_289.out _; (with_reducible repeat (first | refine blk_drewN ?_ _ | refine blk_drew ?_ | refine blk_alloc ?_ _)); refine blk_far ?_ NB287_289.out _; (with_reducible repeat (first | refine blk_drewN ?_ _ | refine blk_drew ?_ | refine blk_alloc ?_ _)); exact BK287.out) hb); have n1_ := Aside0.mk (blk_below (g := gb288) (o := .cells #[.int .i64 0, .bool false, .int .i64 0, .int .u64 0, .int .u64 0, .bool false] 24 (0, 0)) (by (with_reducible repeat (first | refine blk_drewN ?_ _ | refine blk_drew ?_ | refine blk_alloc ?_ _)); refine blk_far ?_ NB288_289.out _; (with_reducible repeat (first | refine blk_drewN ?_ _ | refine blk_drew ?_ | refine blk_alloc ?_ _)); refine blk_far ?_ NB288_289.out _; (with_reducible repeat (first | refine blk_drewN ?_ _ | refine blk_drew ?_ | refine blk_alloc ?_ _)); refine blk_far ?_ NB288_289.out _; (with_reducible repeat (first | refine blk_drewN ?_ _ | refine blk_drew ?_ | refine blk_alloc ?_ _)); refine blk_far ?_ NB288_289.out _; (with_reducible repeat (first | refine blk_drewN ?_ _ | refine blk_drew ?_ | refine blk_alloc ?_ _)); refine blk_far ?_ NB288_289.out _; (with_reducible repeat (first | refine blk_drewN ?_ _ | refine blk_drew ?_ | refine blk_alloc ?_ _)); refine blk_far ?_ NB288_289.out _; (with_reducible repeat (first | refine blk_drewN ?_ _ | refine blk_drew ?_ | refine blk_alloc ?_ _)); exact BK288.out) hb); have n2_ := Aside0.mk (blk_below (g := gb289) (o := .cells #[.int .i64 a0_0, .bool a0_1, .int .i64 a0_2, .int .u64 a0_3, .int .u64 0, .bool false] 24 (0, 0)) (by (with_reducible repeat (first | refine blk_drewN ?_ _ | refine blk_drew ?_ | refine blk_alloc ?_ _)); refine blk_put (cs := #[.int .i64 a0_0, .bool a0_1, .int .i64 a0_2, .int .u64 a0_3, .int .u64 0, .bool false]) ?_ 5 _ rfl; (with_reducible repeat (first | refine blk_drewN ?_ _ | refine blk_drew ?_ | refine blk_alloc ?_ _)); refine blk_put (cs := #[.int .i64 a0_0, .bool a0_1, .int .i64 a0_2, .int .u64 a0_3, .int .u64 0, .bool false]) ?_ 4 _ rfl; (with_reducible repeat (first | refine blk_drewN ?_ _ | refine blk_drew ?_ | refine blk_alloc ?_ _)); refine blk_put (cs := #[.int .i64 a0_0, .bool a0_1, .int .i64 a0_2, .int .u64 0, .int .u64 0, .bool false]) ?_ 3 _ rfl; (with_reducible repeat (first | refine blk_drewN ?_ _ | refine blk_drew ?_ | refine blk_alloc ?_ _)); refine blk_put (cs := #[.int .i64 a0_0, .bool a0_1, .int .i64 0, .int .u64 0, .int .u64 0, .bool false]) ?_ 2 _ rfl; (with_reducible repeat (first | refine blk_drewN ?_ _ | refine blk_drew ?_ | refine blk_alloc ?_ _)); refine blk_put (cs := #[.int .i64 a0_0, .bool false, .int .i64 0, .int .u64 0, .int .u64 0, .bool false]) ?_ 1 _ rfl; (with_reducible repeat (first | refine blk_drewN ?_ _ | refine blk_drew ?_ | refine blk_alloc ?_ _)); refine blk_put (cs := #[.int .i64 0, .bool false, .int .i64 0, .int .u64 0, .int .u64 0, .bool false]) ?_ 0 _ rfl; (with_reducible repeat (first | refine blk_drewN ?_ _ | refine blk_drew ?_ | refine blk_alloc ?_ _)); exact BK289.out) hb); have n3_ := Aside0.mk (below_step (by repeat (first | (with_reducible first | exact HB.out | apply below_alloc | apply pw_below_drewN | apply below_drew1 | refine below_set ?_ GE287.out | refine below_set ?_ GE288.out | refine below_set ?_ GE289.out) | exact HB.out)) hb); clear BK287; clear BK288; clear BK289; clear HB; have BK287 := n0_; have BK288 := n1_; have BK289 := n2_; have HB := n3_; clear n0_ n1_ n2_ n3_; (try clear hb); (try clear hb2); (try clear hk); (try clear hi); have hcz49_0 : w48.cell? ⟨gb288, 0, none⟩ = some (.int .i64 0) := (blk_cell BK288.out 0).trans rfl; have hcz49_1 : w48.cell? ⟨gb288, 1, none⟩ = some (.bool false) := (blk_cell BK288.out 1).trans rfl; have hcz49_2 : w48.cell? ⟨gb288, 2, none⟩ = some (.int .i64 0) := (blk_cell BK288.out 2).trans rfl; have hcz49_3 : w48.cell? ⟨gb288, 3, none⟩ = some (.int .u64 0) := (blk_cell BK288.out 3).trans rfl; have hcz49_4 : w48.cell? ⟨gb288, 4, none⟩ = some (.int .u64 0) := (blk_cell BK288.out 4).trans rfl; have hcz49_5 : w48.cell? ⟨gb288, 5, none⟩ = some (.bool false) := (blk_cell BK288.out 5).trans rfl; have hfz49_0 := blk_frozen BK288.out 0; have hfz49_1 := blk_frozen BK288.out 1; have hfz49_2 := blk_frozen BK288.out 2; have hfz49_3 := blk_frozen BK288.out 3; have hfz49_4 := blk_frozen BK288.out 4; have hfz49_5 := blk_frozen BK288.out 5))
    refine bodyPost_ret (results_ct rfl _ _ gb288 24 #[.int .i64 0, .bool false, .int .i64 0, .int .u64 0, .int .u64 0, .bool false] (0, 0) _ rfl (by (with_reducible repeat (first | refine blk_drewN ?_ _ | refine blk_drew ?_ | refine blk_alloc ?_ _)); refine blk_put (cs := #[.int .i64 0, .bool false, .int .i64 0, .int .u64 0, .int .u64 0, .bool false]) ?_ 5 _ rfl; (with_reducible repeat (first | refine blk_drewN ?_ _ | refine blk_drew ?_ | refine blk_alloc ?_ _)); refine blk_put (cs := #[.int .i64 0, .bool false, .int .i64 0, .int .u64 0, .int .u64 0, .bool false]) ?_ 4 _ rfl; (with_reducible repeat (first | refine blk_drewN ?_ _ | refine blk_drew ?_ | refine blk_alloc ?_ _)); refine blk_put (cs := #[.int .i64 0, .bool false, .int .i64 0, .int .u64 0, .int .u64 0, .bool false]) ?_ 3 _ rfl; (with_reducible repeat (first | refine blk_drewN ?_ _ | refine blk_drew ?_ | refine blk_alloc ?_ _)); refine blk_put (cs := #[.int .i64 0, .bool false, .int .i64 0, .int .u64 0, .int .u64 0, .bool false]) ?_ 2 _ rfl; (with_reducible repeat (first | refine blk_drewN ?_ _ | refine blk_drew ?_ | refine blk_alloc ?_ _)); refine blk_put (cs := #[.int .i64 0, .bool false, .int .i64 0, .int .u64 0, .int .u64 0, .bool false]) ?_ 1 _ rfl; (with_reducible repeat (first | refine blk_drewN ?_ _ | refine blk_drew ?_ | refine blk_alloc ?_ _)); refine blk_put (cs := #[.int .i64 0, .bool false, .int .i64 0, .int .u64 0, .int .u64 0, .bool false]) ?_ 0 _ rfl; (with_reducible repeat (first | refine blk_drewN ?_ _ | refine blk_drew ?_ | refine blk_alloc ?_ _)); exact BK288.out) Try.underlying24 rfl (by kernel_rfl)) rfl ?_
    exact ⟨by first | rfl | (simp [errW_none, errW_some] <;> rfl) | (simp [*, errW_none, errW_some] <;> rfl), by repeat (first | (with_reducible first | exact HB.out | apply below_alloc | apply pw_below_drewN | apply below_drew1 | refine below_set ?_ GE287.out | refine below_set ?_ GE288.out | refine below_set ?_ GE289.out) | exact HB.out)⟩
end Go.Proofs.Ytfegofnplcmacaa.PAll
namespace Go.Proofs.Ytfegofnplcmacaa.PAll
open Go.RowKit Go.Proofs.YtfegofnplcmacaaW.PrintWords Go.Proofs.YtfegofnplcmacaaW.PrintLast Go.Proofs.YtfegofnplcmacaaW.PrintMore
attribute [local go_sem] max2_int min2_int max_two min_two max_three min_three max_four min_four
set_option linter.unusedVariables false
set_option linter.unusedSimpArgs false
attribute [local go_sem high] eqA64
def round_Make.j0 : Nat → Bool → Int → Int → Int → Bool → Bool → Option (Int × Bool × Int × Int × Int × Bool × Option Int)
  | 0, _, _, _, _, _, _ => none
  | k + 1, x0, x1, x2, x3, x4, x19 => if x19 = true then (some (0, false, 0, 0, 0, false, some 1)) else ((twin_Norm.f x1 x2).bind fun bt320 => (if (bt320.1 == 0 && (bt320.2.1 == 0)) = true then (some (0, false, 0, 0, 0, false, none)) else ((round_held.f (wrap64 ((wrap64 ((mx (-4398046511104) (mn x3 4398046511104)) + 127)) - bt320.2.2))).bind fun t324 => (some (1, x0, t324, bt320.1, bt320.2.1, x4, none)))))
def round_Make.f (k : Nat) (a0 : Bool) (a1 : Int) (a2 : Int) (a3 : Int) (a4 : Bool) : Option (Int × Bool × Int × Int × Int × Bool × Option Int) := if a4 = true then (round_Make.j0 k a0 a1 a2 a3 a4 ((a1 / 9223372036854775808) == 0)) else (round_Make.j0 k a0 a1 a2 a3 a4 false)
theorem round_Make.mono_l : ∀ k, (∀ y0 y1 y2 y3 y4 y5, LeO (round_Make.j0 k y0 y1 y2 y3 y4 y5) (round_Make.j0 (k + 1) y0 y1 y2 y3 y4 y5))
  | 0 => fun _ _ _ _ _ _ r h => by simp [round_Make.j0] at h
  | k + 1 => by
    have ih0 := round_Make.mono_l k
    · intro y0 y1 y2 y3 y4 y5
      unfold round_Make.j0
      repeat' first
      | (with_reducible exact ih0 _ _ _ _ _ _)
      | (with_reducible exact LeO.refl _)
      | (with_reducible exact LeO.none _)
      | (with_reducible refine LeO.ite ?_ ?_)
      | (with_reducible refine LeO.bind ?_ (fun _ => ?_))
      | exact ih0 _ _ _ _ _ _
      | exact LeO.none _
      | refine LeO.ite ?_ ?_
      | refine LeO.bind ?_ (fun _ => ?_)
theorem round_Make.mono : ∀ a0 a1 a2 a3 a4 k, LeO (round_Make.f k a0 a1 a2 a3 a4) (round_Make.f (k + 1) a0 a1 a2 a3 a4) := by
  intro a0 a1 a2 a3 a4 k
  have ih0 := round_Make.mono_l k
  unfold round_Make.f
  repeat' first
      | (with_reducible exact ih0 _ _ _ _ _ _)
      | (with_reducible exact LeO.refl _)
      | (with_reducible exact LeO.none _)
      | (with_reducible refine LeO.ite ?_ ?_)
      | (with_reducible refine LeO.bind ?_ (fun _ => ?_))
      | exact ih0 _ _ _ _ _ _
      | exact LeO.none _
      | refine LeO.ite ?_ ?_
      | refine LeO.bind ?_ (fun _ => ?_)
def round_Make.T7 : Bool × List (List Nat × List Nat) := (true, [([], []), ([], []), ([1], [1]), ([], []), ([2, 3], [2, 3]), ([4], [4]), ([], []), ([6], [6]), ([], []), ([8], [8]), ([], []), ([0, 5, 7, 9, 10], [0, 5, 7, 9, 10]), ([11, 5, 0, 1, 2, 3, 4, 5, 6, 7, 8, 9, 10, 11], [11]), ([12, 0, 1, 2, 3, 4, 5, 6, 7, 8, 9, 10, 11, 12], [])])
def round_Make.B7 : List Nat := [0, 0, 2, 0, 14, 30, 0, 64, 0, 256, 0, 2047, 4095, 8191]
theorem round_Make.tab7 : rtab .any (opsOf Try.f22 7) = round_Make.T7 := by kernel_rfl
theorem round_Make.bits7 : waitsOk round_Make.T7.2 round_Make.B7 = true := by kernel_rfl
set_option maxHeartbeats 8000000 in
set_option maxRecDepth 100000 in
theorem round_Make.calls (k : Nat) (a0 : Bool) (a1 : Int) (a2 : Int) (a3 : Int) (a4 : Bool) (r1 : Int) (r2 : Bool) (r3 : Int) (r4 : Int) (r5 : Int) (r6 : Bool) (r7 : Option Int) (w : World) (h : round_Make.f k a0 a1 a2 a3 a4 = some (r1, r2, r3, r4, r5, r6, r7)) :
    Calls Try.prog 22 #[.bool a0, .int .u64 a1, .int .u64 a2, .int .i64 a3, .bool a4] w fun e w' => e = .returned (.tuple #[.agg #[.int .i64 r1, .bool r2, .int .i64 r3, .int .u64 r4, .int .u64 r5, .bool r6], errW r7]) ∧ Below w.heap.size w w' := by
  have hu24 := Try.underlying24
  have hu64 := Try.underlying64
  have hu27 := Try.underlying27
  have hu55 := Try.underlying55
  have HB := Aside0.mk (Below.refl w.heap.size w)
  have H : (if a4 = true then (round_Make.j0 k a0 a1 a2 a3 a4 ((a1 / 9223372036854775808) == 0)) else (round_Make.j0 k a0 a1 a2 a3 a4 false)) = some (r1, r2, r3, r4, r5, r6, r7) := h
  clear h
  have HC6 := Aside0.mk H
  clear H
  go_enter Try.func22, Try.ntmps22
  go_upto_region 1 with (first | ((with_reducible refine gate_dst (N := 10) rfl ?_); refine box_event ?hg (N := 10) ?hd (cs := #[.int .i64 0, .bool false, .int .i64 0, .int .u64 0, .int .u64 0, .bool false]) (t := 24) ?hr ?_; (case hd => rfl); (case hg => rfl); (case hr => first | (go_simp; done) | (go_simp; rfl)); intro gb319 hg w7 hbox hb; have n0_ := Aside0.mk (below_step (by repeat (first | (with_reducible first | exact HB.out | apply below_alloc | apply pw_below_drewN | apply below_drew1) | exact HB.out)) hb); have n1_ := Aside0.mk (hbox); have n2_ := Aside0.mk ((by rw [hg]; exact (below_size (by repeat (first | (with_reducible first | exact HB.out | apply below_alloc | apply pw_below_drewN | apply below_drew1) | exact HB.out))) : w.heap.size ≤ gb319)); have n3_ := Aside0.mk ((by rw [hg]; exact (below_size (by repeat (first | (with_reducible first | exact HB.out | apply below_alloc | apply pw_below_drewN | apply below_drew1) | exact HB.out))) : w.heap.size ≤ gb319)); clear HB; have HB := n0_; have BK319 := n1_; have GW319 := n2_; have GE319 := n3_; clear n0_ n1_ n2_ n3_; clear hb hbox hg))
  (try simp only [Act.put, List.setIfInBounds_toArray, List.set_cons_zero, List.set_cons_succ])
  go_cut [19] (fun v19 wc => ∃ (kq : Nat) (x19_5 : Bool), v19 = .bool x19_5 ∧ Aside0 (round_Make.j0 kq a0 a1 a2 a3 a4 x19_5 = some (r1, r2, r3, r4, r5, r6, r7)) ∧ Aside0 (kq ≤ k) ∧ Aside0 (wc.heap[gb319]? = some (.cells #[.int .i64 0, .bool false, .int .i64 0, .int .u64 0, .int .u64 0, .bool false] 24 (0, 0))) ∧ Aside0 (Below w.heap.size w wc))
  case first =>
    have H := HC6.out
    clear HC6
    by_cases c8 : a4 = true
    · subst c8
      have H1 : (round_Make.j0 k a0 a1 a2 a3 true ((a1 / 9223372036854775808) == 0)) = some (r1, r2, r3, r4, r5, r6, r7) := by rw [if_pos rfl] at H; exact H
      clear H
      have H := H1
      clear H1
      have H' := Aside0.mk H
      clear H
      go_wp2
      go_meet
      case rel => exact ⟨_, (((a1 / 9223372036854775808) == 0)), (by first | rfl | (simp; done) | (simp [*]; done)), H', ⟨by first | omega | exact Nat.le_refl _⟩, ⟨by (with_reducible repeat (first | refine blk_drewN ?_ _ | refine blk_drew ?_ | refine blk_alloc ?_ _)); exact BK319.out⟩, ⟨by repeat (first | (with_reducible first | exact HB.out | apply below_alloc | apply pw_below_drewN | apply below_drew1 | refine below_set ?_ GE319.out) | exact HB.out)⟩⟩
    · replace c8 := Bool.eq_false_iff.mpr c8
      subst c8
      have H1 : (round_Make.j0 k a0 a1 a2 a3 false false) = some (r1, r2, r3, r4, r5, r6, r7) := by rw [if_neg (show ¬ (false = true) by decide)] at H; exact H
      clear H
      have H := H1
      clear H1
      have H' := Aside0.mk H
      clear H
      go_wp2
      go_meet
      case rel => exact ⟨_, (false), (by first | rfl | (simp; done) | (simp [*]; done)), H', ⟨by first | omega | exact Nat.le_refl _⟩, ⟨by (with_reducible repeat (first | refine blk_drewN ?_ _ | refine blk_drew ?_ | refine blk_alloc ?_ _)); exact BK319.out⟩, ⟨by repeat (first | (with_reducible first | exact HB.out | apply below_alloc | apply pw_below_drewN | apply below_drew1 | refine below_set ?_ GE319.out) | exact HB.out)⟩⟩
  case rest =>
    clear HC6
    try clear c2
    try clear p2
    try clear c8
    obtain ⟨kq, x19_5, rfl, HA, HJ5, BK319, HB⟩ := hcut
    cases kq with
    | zero => exact absurd HA.out (by simp [round_Make.j0])
    | succ kj5 =>
      have H := HA.out
      clear HA
      simp only [round_Make.j0] at H
      by_cases c9 : x19_5 = true
      · subst c9
        have H1 : (some (0, false, 0, 0, 0, false, some 1)) = some (r1, r2, r3, r4, r5, r6, r7) := by rw [if_pos rfl] at H; exact H
        clear H
        have H := H1
        clear H1
        simp only [Option.some.injEq, Prod.mk.injEq] at H
        obtain ⟨rfl, rfl, rfl, rfl, rfl, rfl, rfl⟩ := H
        have hcz10_0 : wc.cell? ⟨gb319, 0, none⟩ = some (.int .i64 0) := (blk_cell BK319.out 0).trans rfl
        have hcz10_1 : wc.cell? ⟨gb319, 1, none⟩ = some (.bool false) := (blk_cell BK319.out 1).trans rfl
        have hcz10_2 : wc.cell? ⟨gb319, 2, none⟩ = some (.int .i64 0) := (blk_cell BK319.out 2).trans rfl
        have hcz10_3 : wc.cell? ⟨gb319, 3, none⟩ = some (.int .u64 0) := (blk_cell BK319.out 3).trans rfl
        have hcz10_4 : wc.cell? ⟨gb319, 4, none⟩ = some (.int .u64 0) := (blk_cell BK319.out 4).trans rfl
        have hcz10_5 : wc.cell? ⟨gb319, 5, none⟩ = some (.bool false) := (blk_cell BK319.out 5).trans rfl
        have hfz10_0 := blk_frozen BK319.out 0
        have hfz10_1 := blk_frozen BK319.out 1
        have hfz10_2 := blk_frozen BK319.out 2
        have hfz10_3 := blk_frozen BK319.out 3
        have hfz10_4 := blk_frozen BK319.out 4
        have hfz10_5 := blk_frozen BK319.out 5
        go_wp2
        refine bodyPost_ret (results_ct rfl _ _ gb319 24 #[.int .i64 0, .bool false, .int .i64 0, .int .u64 0, .int .u64 0, .bool false] (0, 0) _ rfl (by (with_reducible repeat (first | refine blk_drewN ?_ _ | refine blk_drew ?_ | refine blk_alloc ?_ _)); refine blk_put (cs := #[.int .i64 0, .bool false, .int .i64 0, .int .u64 0, .int .u64 0, .bool false]) ?_ 5 _ rfl; (with_reducible repeat (first | refine blk_drewN ?_ _ | refine blk_drew ?_ | refine blk_alloc ?_ _)); refine blk_put (cs := #[.int .i64 0, .bool false, .int .i64 0, .int .u64 0, .int .u64 0, .bool false]) ?_ 4 _ rfl; (with_reducible repeat (first | refine blk_drewN ?_ _ | refine blk_drew ?_ | refine blk_alloc ?_ _)); refine blk_put (cs := #[.int .i64 0, .bool false, .int .i64 0, .int .u64 0, .int .u64 0, .bool false]) ?_ 3 _ rfl; (with_reducible repeat (first | refine blk_drewN ?_ _ | refine blk_drew ?_ | refine blk_alloc ?_ _)); refine blk_put (cs := #[.int .i64 0, .bool false, .int .i64 0, .int .u64 0, .int .u64 0, .bool false]) ?_ 2 _ rfl; (with_reducible repeat (first | refine blk_drewN ?_ _ | refine blk_drew ?_ | refine blk_alloc ?_ _)); refine blk_put (cs := #[.int .i64 0, .bool false, .int .i64 0, .int .u64 0, .int .u64 0, .bool false]) ?_ 1 _ rfl; (with_reducible repeat (first | refine blk_drewN ?_ _ | refine blk_drew ?_ | refine blk_alloc ?_ _)); refine blk_put (cs := #[.int .i64 0, .bool false, .int .i64 0, .int .u64 0, .int .u64 0, .bool false]) ?_ 0 _ rfl; (with_reducible repeat (first | refine blk_drewN ?_ _ | refine blk_drew ?_ | refine blk_alloc ?_ _)); exact BK319.out) Try.underlying24 rfl (by kernel_rfl)) rfl ?_
        exact ⟨by first | rfl | (simp [errW_none, errW_some] <;> rfl) | (simp [*, errW_none, errW_some] <;> rfl), by repeat (first | (with_reducible first | exact HB.out | apply below_alloc | apply pw_below_drewN | apply below_drew1 | refine below_set ?_ GE319.out) | exact HB.out)⟩
      · replace c9 := Bool.eq_false_iff.mpr c9
        subst c9
        have H1 : ((twin_Norm.f a1 a2).bind fun bt320 => (if (bt320.1 == 0 && (bt320.2.1 == 0)) = true then (some (0, false, 0, 0, 0, false, none)) else ((round_held.f (wrap64 ((wrap64 ((mx (-4398046511104) (mn a3 4398046511104)) + 127)) - bt320.2.2))).bind fun t324 => (some (1, a0, t324, bt320.1, bt320.2.1, a4, none))))) = some (r1, r2, r3, r4, r5, r6, r7) := by rw [if_neg (show ¬ (false = true) by decide)] at H; exact H
        clear H
        have H := H1
        clear H1
        replace H := Option.bind_eq_some_iff.mp H
        obtain ⟨⟨t320, t321, t322⟩, A110, H⟩ := H
        replace H : (if (t320 == 0 && (t321 == 0)) = true then (some (0, false, 0, 0, 0, false, none)) else ((round_held.f (wrap64 ((wrap64 ((mx (-4398046511104) (mn a3 4398046511104)) + 127)) - t322))).bind fun t324 => (some (1, a0, t324, t320, t321, a4, none)))) = some (r1, r2, r3, r4, r5, r6, r7) := H
        have A11 := Aside0.mk A110
        clear A110
        by_cases c12 : (t320 == 0 && (t321 == 0)) = true
        · rw [if_pos c12] at H
          have c12b0 : (t320 == 0 && (t321 == 0)) = true := c12
          (try (have c12b1 : decide (t320 = 0 && (t321 == 0)) = true := by simpa using c12))
          (try (have c12b2 : (t320 == 0 && (t321 == 0)) = true := by simpa using c12))
          clear c12
          simp only [Option.some.injEq, Prod.mk.injEq] at H
          obtain ⟨rfl, rfl, rfl, rfl, rfl, rfl, rfl⟩ := H
          go_wp2_with (first | ((with_reducible refine gate_callee (f := 43) rfl ?_); refine goesL_ (some 26) rfl rfl Try.func43 (by kernel_rfl) rfl #[.agg #[.int .u64 a1, .int .u64 a2]] rfl (by (try simp only [List.map_toArray, List.map_cons, List.map_nil]); first | done | rfl | (simp only [List.length_drop, List.length_take]; rfl)) ?_; (with_reducible refine (twin_Norm.calls a1 a2 t320 t321 t322 _ A11.out).mono ?_); rintro e w13 ⟨rfl, hb⟩; refine ⟨_, rfl, ?_⟩; have n0_ := Aside0.mk (blk_below (g := gb319) (o := .cells #[.int .i64 0, .bool false, .int .i64 0, .int .u64 0, .int .u64 0, .bool false] 24 (0, 0)) (by (with_reducible repeat (first | refine blk_drewN ?_ _ | refine blk_drew ?_ | refine blk_alloc ?_ _)); exact BK319.out) hb); have n1_ := Aside0.mk (below_step (by repeat (first | (with_reducible first | exact HB.out | apply below_alloc | apply pw_below_drewN | apply below_drew1 | refine below_set ?_ GE319.out) | exact HB.out)) hb); clear BK319; clear HB; have BK319 := n0_; have HB := n1_; clear n0_ n1_; (try clear hb); (try clear hb2); (try clear hk); (try clear hi)) | ((with_reducible refine gate_dst (N := 12) rfl ?_); refine box_event ?hg (N := 12) ?hd (cs := #[.int .u64 0, .int .u64 0]) (t := 64) ?hr ?_; (case hd => rfl); (case hg => rfl); (case hr => first | (go_simp; done) | (go_simp; rfl)); intro gb323 hg w14 hbox hb; have n0_ := Aside0.mk (blk_below (g := gb319) (o := .cells #[.int .i64 0, .bool false, .int .i64 0, .int .u64 0, .int .u64 0, .bool false] 24 (0, 0)) (by (with_reducible repeat (first | refine blk_drewN ?_ _ | refine blk_drew ?_ | refine blk_alloc ?_ _)); exact BK319.out) hb); have n1_ := Aside0.mk (below_step (by repeat (first | (with_reducible first | exact HB.out | apply below_alloc | apply pw_below_drewN | apply below_drew1 | refine below_set ?_ GE319.out) | exact HB.out)) hb); have n2_ := Aside0.mk (hbox); have n3_ := Aside0.mk ((by rw [hg]; exact (below_size (by repeat (first | (with_reducible first | exact HB.out | apply below_alloc | apply pw_below_drewN | apply below_drew1 | refine below_set ?_ GE319.out) | exact HB.out))) : w.heap.size ≤ gb323)); have n4_ := Aside0.mk ((by rw [hg]; exact (below_size (by repeat (first | (with_reducible first | exact HB.out | apply below_alloc | apply pw_below_drewN | apply below_drew1 | refine below_set ?_ GE319.out) | exact HB.out))) : w.heap.size ≤ gb323)); have n5_ := Aside0.mk ((by rw [hg]; exact Nat.ne_of_lt (blk_lt (g := gb319) (o := .cells #[.int .i64 0, .bool false, .int .i64 0, .int .u64 0, .int .u64 0, .bool false] 24 (0, 0)) (by (with_reducible repeat (first | refine blk_drewN ?_ _ | refine blk_drew ?_ | refine blk_alloc ?_ _)); exact BK319.out)) : gb319 ≠ gb323)); have n6_ := Aside0.mk ((by rw [hg]; exact Nat.ne_of_gt (blk_lt (g := gb319) (o := .cells #[.int .i64 0, .bool false, .int .i64 0, .int .u64 0, .int .u64 0, .bool false] 24 (0, 0)) (by (with_reducible repeat (first | refine blk_drewN ?_ _ | refine blk_drew ?_ | refine blk_alloc ?_ _)); exact BK319.out)) : gb323 ≠ gb319)); clear BK319; clear HB; have BK319 := n0_; have HB := n1_; have BK323 := n2_; have GW323 := n3_; have GE323 := n4_; have NB319_323 := n5_; have NB323_319 := n6_; clear n0_ n1_ n2_ n3_ n4_ n5_ n6_; clear hb hbox hg; have hnb15 := NB323_319.out; have hnc15 := NB319_323.out; have hcz16_0 : w14.cell? ⟨gb323, 0, none⟩ = some (.int .u64 0) := (blk_cell BK323.out 0).trans rfl; have hcz16_1 : w14.cell? ⟨gb323, 1, none⟩ = some (.int .u64 0) := (blk_cell BK323.out 1).trans rfl; have hfz16_0 := blk_frozen BK323.out 0; have hfz16_1 := blk_frozen BK323.out 1; have hcz17_0 : w14.cell? ⟨gb319, 0, none⟩ = some (.int .i64 0) := (blk_cell BK319.out 0).trans rfl; have hcz17_1 : w14.cell? ⟨gb319, 1, none⟩ = some (.bool false) := (blk_cell BK319.out 1).trans rfl; have hcz17_2 : w14.cell? ⟨gb319, 2, none⟩ = some (.int .i64 0) := (blk_cell BK319.out 2).trans rfl; have hcz17_3 : w14.cell? ⟨gb319, 3, none⟩ = some (.int .u64 0) := (blk_cell BK319.out 3).trans rfl; have hcz17_4 : w14.cell? ⟨gb319, 4, none⟩ = some (.int .u64 0) := (blk_cell BK319.out 4).trans rfl; have hcz17_5 : w14.cell? ⟨gb319, 5, none⟩ = some (.bool false) := (blk_cell BK319.out 5).trans rfl; have hfz17_0 := blk_frozen BK319.out 0; have hfz17_1 := blk_frozen BK319.out 1; have hfz17_2 := blk_frozen BK319.out 2; have hfz17_3 := blk_frozen BK319.out 3; have hfz17_4 := blk_frozen BK319.out 4; have hfz17_5 := blk_frozen BK319.out 5))
          refine bodyPost_ret (results_ct rfl _ _ gb319 24 #[.int .i64 0, .bool false, .int .i64 0, .int .u64 0, .int .u64 0, .bool false] (0, 0) _ rfl (by (with_reducible repeat (first | refine blk_drewN ?_ _ | refine blk_drew ?_ | refine blk_alloc ?_ _)); refine blk_put (cs := #[.int .i64 0, .bool false, .int .i64 0, .int .u64 0, .int .u64 0, .bool false]) ?_ 5 _ rfl; (with_reducible repeat (first | refine blk_drewN ?_ _ | refine blk_drew ?_ | refine blk_alloc ?_ _)); refine blk_put (cs := #[.int .i64 0, .bool false, .int .i64 0, .int .u64 0, .int .u64 0, .bool false]) ?_ 4 _ rfl; (with_reducible repeat (first | refine blk_drewN ?_ _ | refine blk_drew ?_ | refine blk_alloc ?_ _)); refine blk_put (cs := #[.int .i64 0, .bool false, .int .i64 0, .int .u64 0, .int .u64 0, .bool false]) ?_ 3 _ rfl; (with_reducible repeat (first | refine blk_drewN ?_ _ | refine blk_drew ?_ | refine blk_alloc ?_ _)); refine blk_put (cs := #[.int .i64 0, .bool false, .int .i64 0, .int .u64 0, .int .u64 0, .bool false]) ?_ 2 _ rfl; (with_reducible repeat (first | refine blk_drewN ?_ _ | refine blk_drew ?_ | refine blk_alloc ?_ _)); refine blk_put (cs := #[.int .i64 0, .bool false, .int .i64 0, .int .u64 0, .int .u64 0, .bool false]) ?_ 1 _ rfl; (with_reducible repeat (first | refine blk_drewN ?_ _ | refine blk_drew ?_ | refine blk_alloc ?_ _)); refine blk_put (cs := #[.int .i64 0, .bool false, .int .i64 0, .int .u64 0, .int .u64 0, .bool false]) ?_ 0 _ rfl; (with_reducible repeat (first | refine blk_drewN ?_ _ | refine blk_drew ?_ | refine blk_alloc ?_ _)); refine blk_far ?_ NB319_323.out _; (with_reducible repeat (first | refine blk_drewN ?_ _ | refine blk_drew ?_ | refine blk_alloc ?_ _)); refine blk_far ?_ NB319_323.out _; (with_reducible repeat (first | refine blk_drewN ?_ _ | refine blk_drew ?_ | refine blk_alloc ?_ _)); exact BK319.out) Try.underlying24 rfl (by kernel_rfl)) rfl ?_
          exact ⟨by first | rfl | (simp [errW_none, errW_some] <;> rfl) | (simp [*, errW_none, errW_some] <;> rfl), by repeat (first | (with_reducible first | exact HB.out | apply below_alloc | apply pw_below_drewN | apply below_drew1 | refine below_set ?_ GE319.out | refine below_set ?_ GE323.out) | exact HB.out)⟩
        · rw [if_neg c12] at H
          have c12b0 : (t320 == 0 && (t321 == 0)) = false := by simpa using c12
          (try (have c12b1 : decide (t320 = 0 && (t321 == 0)) = false := by simpa using c12))
          (try (have c12b2 : (t320 == 0 && (t321 == 0)) = false := by simpa using c12))
          (try (have c12b3 : ¬ (t320 = 0 && (t321 == 0)) := by simpa using c12))
          clear c12
          obtain ⟨ji18, hji18⟩ : ∃ j_ : Int, (mn a3 4398046511104) = j_ := ⟨_, rfl⟩
          replace H : ((round_held.f (wrap64 ((wrap64 ((mx (-4398046511104) (ji18)) + 127)) - t322))).bind fun t324 => (some (1, a0, t324, t320, t321, a4, none))) = some (r1, r2, r3, r4, r5, r6, r7) := by first | (rw [hji18] at H; exact H) | (simp only [hji18] at H ⊢; exact H)
          (try rw [hji18] at A11)
          (try (have hji18h : ji18 ≤ 4398046511104 := by (rw [← hji18]; unfold mn; (repeat' split) <;> omega)))
          (try (have hji18g : ji18 ≤ 64 := by omega))
          have hji18_ : (if 4398046511104 < a3 then 4398046511104 else a3) = ji18 := hji18
          obtain ⟨ji19, hji19⟩ : ∃ j_ : Int, (mx (-4398046511104) (ji18)) = j_ := ⟨_, rfl⟩
          replace H : ((round_held.f (wrap64 ((wrap64 ((ji19) + 127)) - t322))).bind fun t324 => (some (1, a0, t324, t320, t321, a4, none))) = some (r1, r2, r3, r4, r5, r6, r7) := by first | (rw [hji19] at H; exact H) | (simp only [hji19] at H ⊢; exact H)
          (try rw [hji19] at A11)
          (try (have hji19h : ji19 ≤ 4398046511104 := by (rw [← hji19]; unfold mx; (repeat' split) <;> omega)))
          (try (have hji19g : ji19 ≤ 64 := by omega))
          (try (have hji19l : (-4398046511104) ≤ ji19 := by (rw [← hji19]; unfold mx; (repeat' split) <;> omega)))
          have hji19_ : (if (-4398046511104) < (ji18) then (ji18) else (-4398046511104)) = ji19 := hji19
          replace H := Option.bind_eq_some_iff.mp H
          obtain ⟨t324, A200, H⟩ := H
          replace H : (some (1, a0, t324, t320, t321, a4, none)) = some (r1, r2, r3, r4, r5, r6, r7) := H
          have A20 := Aside0.mk A200
          clear A200
          simp only [Option.some.injEq, Prod.mk.injEq] at H
          obtain ⟨rfl, rfl, rfl, rfl, rfl, rfl, rfl⟩ := H
          try go_wp2_with (first | ((with_reducible refine gate_callee (f := 43) rfl ?_); refine goesL_ (some 26) rfl rfl Try.func43 (by kernel_rfl) rfl #[.agg #[.int .u64 a1, .int .u64 a2]] rfl (by (try simp only [List.map_toArray, List.map_cons, List.map_nil]); first | done | rfl | (simp only [List.length_drop, List.length_take]; rfl)) ?_; (with_reducible refine (twin_Norm.calls a1 a2 t320 t321 t322 _ A11.out).mono ?_); rintro e w21 ⟨rfl, hb⟩; refine ⟨_, rfl, ?_⟩; have n0_ := Aside0.mk (blk_below (g := gb319) (o := .cells #[.int .i64 0, .bool false, .int .i64 0, .int .u64 0, .int .u64 0, .bool false] 24 (0, 0)) (by (with_reducible repeat (first | refine blk_drewN ?_ _ | refine blk_drew ?_ | refine blk_alloc ?_ _)); exact BK319.out) hb); have n1_ := Aside0.mk (below_step (by repeat (first | (with_reducible first | exact HB.out | apply below_alloc | apply pw_below_drewN | apply below_drew1 | refine below_set ?_ GE319.out) | exact HB.out)) hb); clear BK319; clear HB; have BK319 := n0_; have HB := n1_; clear n0_ n1_; (try clear hb); (try clear hb2); (try clear hk); (try clear hi)) | ((with_reducible refine gate_dst (N := 12) rfl ?_); refine box_event ?hg (N := 12) ?hd (cs := #[.int .u64 0, .int .u64 0]) (t := 64) ?hr ?_; (case hd => rfl); (case hg => rfl); (case hr => first | (go_simp; done) | (go_simp; rfl)); intro gb323 hg w22 hbox hb; have n0_ := Aside0.mk (blk_below (g := gb319) (o := .cells #[.int .i64 0, .bool false, .int .i64 0, .int .u64 0, .int .u64 0, .bool false] 24 (0, 0)) (by (with_reducible repeat (first | refine blk_drewN ?_ _ | refine blk_drew ?_ | refine blk_alloc ?_ _)); exact BK319.out) hb); have n1_ := Aside0.mk (below_step (by repeat (first | (with_reducible first | exact HB.out | apply below_alloc | apply pw_below_drewN | apply below_drew1 | refine below_set ?_ GE319.out) | exact HB.out)) hb); have n2_ := Aside0.mk (hbox); have n3_ := Aside0.mk ((by rw [hg]; exact (below_size (by repeat (first | (with_reducible first | exact HB.out | apply below_alloc | apply pw_below_drewN | apply below_drew1 | refine below_set ?_ GE319.out) | exact HB.out))) : w.heap.size ≤ gb323)); have n4_ := Aside0.mk ((by rw [hg]; exact (below_size (by repeat (first | (with_reducible first | exact HB.out | apply below_alloc | apply pw_below_drewN | apply below_drew1 | refine below_set ?_ GE319.out) | exact HB.out))) : w.heap.size ≤ gb323)); have n5_ := Aside0.mk ((by rw [hg]; exact Nat.ne_of_lt (blk_lt (g := gb319) (o := .cells #[.int .i64 0, .bool false, .int .i64 0, .int .u64 0, .int .u64 0, .bool false] 24 (0, 0)) (by (with_reducible repeat (first | refine blk_drewN ?_ _ | refine blk_drew ?_ | refine blk_alloc ?_ _)); exact BK319.out)) : gb319 ≠ gb323)); have n6_ := Aside0.mk ((by rw [hg]; exact Nat.ne_of_gt (blk_lt (g := gb319) (o := .cells #[.int .i64 0, .bool false, .int .i64 0, .int .u64 0, .int .u64 0, .bool false] 24 (0, 0)) (by (with_reducible repeat (first | refine blk_drewN ?_ _ | refine blk_drew ?_ | refine blk_alloc ?_ _)); exact BK319.out)) : gb323 ≠ gb319)); clear BK319; clear HB; have BK319 := n0_; have HB := n1_; have BK323 := n2_; have GW323 := n3_; have GE323 := n4_; have NB319_323 := n5_; have NB323_319 := n6_; clear n0_ n1_ n2_ n3_ n4_ n5_ n6_; clear hb hbox hg; have hnb23 := NB323_319.out; have hnc23 := NB319_323.out; have hcz24_0 : w22.cell? ⟨gb323, 0, none⟩ = some (.int .u64 0) := (blk_cell BK323.out 0).trans rfl; have hcz24_1 : w22.cell? ⟨gb323, 1, none⟩ = some (.int .u64 0) := (blk_cell BK323.out 1).trans rfl; have hfz24_0 := blk_frozen BK323.out 0; have hfz24_1 := blk_frozen BK323.out 1))
          have n0_ : Aside0 (((w22.setCell ⟨gb323, 0, none⟩ (.int .u64 t320)).setCell ⟨gb323, 1, none⟩ (.int .u64 t321)).heap[gb319]? = some (.cells #[.int .i64 0, .bool false, .int .i64 0, .int .u64 0, .int .u64 0, .bool false] 24 (0, 0))) := ⟨by (with_reducible repeat (first | refine blk_drewN ?_ _ | refine blk_drew ?_ | refine blk_alloc ?_ _)); refine blk_far ?_ NB319_323.out _; (with_reducible repeat (first | refine blk_drewN ?_ _ | refine blk_drew ?_ | refine blk_alloc ?_ _)); refine blk_far ?_ NB319_323.out _; (with_reducible repeat (first | refine blk_drewN ?_ _ | refine blk_drew ?_ | refine blk_alloc ?_ _)); exact BK319.out⟩
          have n1_ : Aside0 (((w22.setCell ⟨gb323, 0, none⟩ (.int .u64 t320)).setCell ⟨gb323, 1, none⟩ (.int .u64 t321)).heap[gb323]? = some (.cells #[.int .u64 t320, .int .u64 t321] 64 (0, 0))) := ⟨by (with_reducible repeat (first | refine blk_drewN ?_ _ | refine blk_drew ?_ | refine blk_alloc ?_ _)); refine blk_put (cs := #[.int .u64 t320, .int .u64 0]) ?_ 1 _ rfl; (with_reducible repeat (first | refine blk_drewN ?_ _ | refine blk_drew ?_ | refine blk_alloc ?_ _)); refine blk_put (cs := #[.int .u64 0, .int .u64 0]) ?_ 0 _ rfl; (with_reducible repeat (first | refine blk_drewN ?_ _ | refine blk_drew ?_ | refine blk_alloc ?_ _)); exact BK323.out⟩
          have n2_ : Aside0 (Below w.heap.size w ((w22.setCell ⟨gb323, 0, none⟩ (.int .u64 t320)).setCell ⟨gb323, 1, none⟩ (.int .u64 t321))) := ⟨by repeat (first | (with_reducible first | exact HB.out | apply below_alloc | apply pw_below_drewN | apply below_drew1 | refine below_set ?_ GE319.out | refine below_set ?_ GE323.out) | exact HB.out)⟩
          (try clear BK319)
          (try clear BK323)
          (try clear HB)
          generalize ((w22.setCell ⟨gb323, 0, none⟩ (.int .u64 t320)).setCell ⟨gb323, 1, none⟩ (.int .u64 t321)) = w25 at n0_ n1_ n2_ ⊢
          have BK319 := n0_
          have BK323 := n1_
          have HB := n2_
          clear n0_ n1_ n2_
          have n0_ := Aside0.mk (blk_drew BK319.out)
          have n1_ := Aside0.mk (blk_drew BK323.out)
          have n2_ := Aside0.mk (below_drew1 HB.out)
          clear BK319
          clear BK323
          clear HB
          have BK319 := n0_
          have BK323 := n1_
          have HB := n2_
          clear n0_ n1_ n2_
          refine start_ (n := 14) (S := fun w' => w'.cell? ⟨gb323, 0, none⟩ = some (.int .u64 t320) ∧ w'.cell? ⟨gb323, 1, none⟩ = some (.int .u64 t321)) (ds := []) #[false, false, false, false, false, false, false, false, false, false, false, false, false, false] (by kernel_rfl) rfl rfl ⟨(blk_cell BK323.out 0).trans rfl, (blk_cell BK323.out 1).trans rfl⟩ (fun hHeld => ?_); refine with_tabW round_Make.tab7 round_Make.bits7 (fun HT_ HW_ => ?_)
          generalize w25.drew = w26 at BK319 BK323 HB hHeld ⊢
          refine pure_ (i := 0) (N := some 36) (v := ?_) (a' := ?_) #[true, false, false, false, false, false, false, false, false, false, false, false, false, false] rfl rfl (any_of HT_.out (by kernel_rfl)) (fun _ _ _ h => h) (Or.inl ⟨by rfl, ?_⟩) ?_ ?_
          rotate_left
          · intro w'
            go_simp
            with_reducible rfl
          rotate_left
          · simp only [Act.put, List.setIfInBounds_toArray, List.set_cons_zero, List.set_cons_succ, i64_w, i32_w]
            rfl
          refine pure_ (i := 1) (N := some 37) (v := ?_) (a' := ?_) #[true, true, false, false, false, false, false, false, false, false, false, false, false, false] rfl rfl (any_of HT_.out (by kernel_rfl)) (fun _ _ _ h => h) (Or.inl ⟨by rfl, ?_⟩) ?_ ?_
          rotate_left
          · intro w'
            go_simp
            with_reducible rfl
          rotate_left
          · simp only [Act.put, List.setIfInBounds_toArray, List.set_cons_zero, List.set_cons_succ, i64_w, i32_w]
            rfl
          refine pure_ (i := 2) (N := some 38) (v := ?_) (a' := ?_) #[true, true, true, false, false, false, false, false, false, false, false, false, false, false] rfl rfl (any_of HT_.out (by kernel_rfl)) (fun _ _ _ h => h) (Or.inl ⟨by rfl, ?_⟩) ?_ ?_
          rotate_left
          · intro w'
            go_simp
            with_reducible rfl
          rotate_left
          · simp only [Act.put, List.setIfInBounds_toArray, List.set_cons_zero, List.set_cons_succ, i64_w, i32_w]
            rfl
          refine pure_ (i := 3) (N := some 39) (v := ?_) (a' := ?_) #[true, true, true, true, false, false, false, false, false, false, false, false, false, false] rfl rfl (any_of HT_.out (by kernel_rfl)) (fun _ _ _ h => h) (Or.inl ⟨by rfl, ?_⟩) ?_ ?_
          rotate_left
          · intro w'
            go_simp
            with_reducible rfl
          rotate_left
          · simp only [Act.put, List.setIfInBounds_toArray, List.set_cons_zero, List.set_cons_succ, i64_w, i32_w]
            rfl
          refine pure_ (i := 4) (N := some 40) (v := ?_) (a' := ?_) #[true, true, true, true, true, false, false, false, false, false, false, false, false, false] rfl rfl (any_of HT_.out (by kernel_rfl)) (fun _ _ _ h => h) (Or.inl ⟨by rfl, ?_⟩) ?_ ?_
          rotate_left
          · intro w'
            go_simp
            with_reducible rfl
          rotate_left
          · simp only [Act.put, List.setIfInBounds_toArray, List.set_cons_zero, List.set_cons_succ, i64_w, i32_w]
            rfl
          refine pure_ (i := 6) (N := some 42) (v := ?_) (a' := ?_) #[true, true, true, true, true, false, true, false, false, false, false, false, false, false] rfl rfl (any_of HT_.out (by kernel_rfl)) (fun _ _ _ h => h) (Or.inl ⟨by rfl, ?_⟩) ?_ ?_
          rotate_left
          · intro w'
            go_simp
            with_reducible rfl
          rotate_left
          · simp only [Act.put, List.setIfInBounds_toArray, List.set_cons_zero, List.set_cons_succ, i64_w, i32_w]
            rfl
          refine pure_ (i := 8) (N := some 44) (v := ?_) (a' := ?_) #[true, true, true, true, true, false, true, false, true, false, false, false, false, false] rfl rfl (any_of HT_.out (by kernel_rfl)) (fun _ _ _ h => h) (Or.inl ⟨by rfl, ?_⟩) ?_ ?_
          rotate_left
          · intro w'
            go_simp
            with_reducible rfl
          rotate_left
          · simp only [Act.put, List.setIfInBounds_toArray, List.set_cons_zero, List.set_cons_succ, i64_w, i32_w]
            rfl
          refine pure_ (i := 10) (N := some 46) (v := ?_) (a' := ?_) #[true, true, true, true, true, false, true, false, true, false, true, false, false, false] rfl rfl (any_of HT_.out (by kernel_rfl)) (fun _ _ _ h => h) (Or.inl ⟨by rfl, ?_⟩) ?_ ?_
          rotate_left
          · intro w'
            go_simp
            with_reducible rfl
          rotate_left
          · simp only [Act.put, List.setIfInBounds_toArray, List.set_cons_zero, List.set_cons_succ, i64_w, i32_w]
            rfl
          refine take_ (i := 7) (N := some 43) (v := ?_) (a' := ?_) #[true, true, true, true, true, false, true, true, true, false, true, false, false, false] rfl rfl (take_ofW HT_.out HW_.out (by kernel_rfl)) (fun _ _ _ h => h) (Or.inl ⟨by rfl, ?_⟩) hHeld ?_ ?_
          rotate_left
          · rintro w' ⟨s0, s1⟩
            go_simp
            with_reducible rfl
          rotate_left
          · simp only [Act.put, List.setIfInBounds_toArray, List.set_cons_zero, List.set_cons_succ, i64_w, i32_w]
            rfl
          refine take_ (i := 9) (N := some 45) (v := ?_) (a' := ?_) #[true, true, true, true, true, false, true, true, true, true, true, false, false, false] rfl rfl (take_ofW HT_.out HW_.out (by kernel_rfl)) (fun _ _ _ h => h) (Or.inl ⟨by rfl, ?_⟩) hHeld ?_ ?_
          rotate_left
          · rintro w' ⟨s0, s1⟩
            go_simp
            with_reducible rfl
          rotate_left
          · simp only [Act.put, List.setIfInBounds_toArray, List.set_cons_zero, List.set_cons_succ, i64_w, i32_w]
            rfl
          refine one_ (i := 5) (N := some 41) #[true, true, true, true, true, true, true, true, true, true, true, false, false, false] rfl rfl (one_of HT_.out (by kernel_rfl)) (by decide) (fun K hK => ?_)
          refine goes_ Try.func44 (by kernel_rfl) rfl #[.int .i64 (wrap64 ((wrap64 ((ji19) + 127)) - t322))] (by rfl) rfl rfl (by (try simp only [List.map_toArray, List.map_cons, List.map_nil]); first | done | (simp only [hji19]; rfl) | rfl | (simp only [List.length_drop, List.length_take]; rfl)) ?_
          with_reducible refine (round_held.calls (wrap64 ((wrap64 ((ji19) + 127)) - t322)) t324 _ A20.out).mono ?_
          rintro e w27 ⟨rfl, hb⟩
          refine ⟨_, rfl, ?_⟩
          have n0_ := Aside0.mk (blk_below (g := gb319) (o := .cells #[.int .i64 0, .bool false, .int .i64 0, .int .u64 0, .int .u64 0, .bool false] 24 (0, 0)) (by (with_reducible repeat (first | refine blk_drewN ?_ _ | refine blk_drew ?_ | refine blk_alloc ?_ _)); exact BK319.out) hb)
          have n1_ := Aside0.mk (blk_below (g := gb323) (o := .cells #[.int .u64 t320, .int .u64 t321] 64 (0, 0)) (by (with_reducible repeat (first | refine blk_drewN ?_ _ | refine blk_drew ?_ | refine blk_alloc ?_ _)); exact BK323.out) hb)
          have n2_ := Aside0.mk (below_step (by repeat (first | (with_reducible first | exact HB.out | apply below_alloc | apply pw_below_drewN | apply below_drew1 | refine below_set ?_ GE319.out | refine below_set ?_ GE323.out) | exact HB.out)) hb)
          clear BK319
          clear BK323
          clear HB
          have BK319 := n0_
          have BK323 := n1_
          have HB := n2_
          clear n0_ n1_ n2_
          (try clear hb)
          (try clear hb2)
          (try clear hk)
          (try clear hi)
          refine hK.out _ _ ⟨(blk_cell BK323.out 0).trans rfl, (blk_cell BK323.out 1).trans rfl⟩ (fun hHeld => ?_)
          clear hK K
          refine norm_ (a' := ?_) ?_ ?_
          rotate_left
          · show Act.put _ (some 41) _ = _
            simp only [Act.put, List.setIfInBounds_toArray, List.set_cons_zero, List.set_cons_succ, i64_w, i32_w]
            rfl
          refine pure_ (i := 11) (N := some 47) (v := ?_) (a' := ?_) #[true, true, true, true, true, true, true, true, true, true, true, true, false, false] rfl rfl (any_of HT_.out (by kernel_rfl)) (fun _ _ _ h => h) (Or.inl ⟨by rfl, ?_⟩) ?_ ?_
          rotate_left
          · intro w'
            go_simp
            with_reducible rfl
          rotate_left
          · simp only [Act.put, List.setIfInBounds_toArray, List.set_cons_zero, List.set_cons_succ, i64_w, i32_w]
            rfl
          refine one_ (i := 12) (N := none) #[true, true, true, true, true, true, true, true, true, true, true, true, true, false] rfl rfl (one_of HT_.out (by kernel_rfl)) (by decide) (fun K hK => ?_)
          have hs28 : w27.cell? ⟨gb319, 0, none⟩ = some (.int .i64 0) := (blk_cell BK319.out 0).trans rfl
          have hfs28 := blk_frozen BK319.out 0
          have hns28_1 := NB323_319.out
          have hms28_1 := NB319_323.out
          have hs29 : w27.cell? ⟨gb319, 1, none⟩ = some (.bool false) := (blk_cell BK319.out 1).trans rfl
          have hfs29 := blk_frozen BK319.out 1
          have hns29_1 := NB323_319.out
          have hms29_1 := NB319_323.out
          have hs30 : w27.cell? ⟨gb319, 2, none⟩ = some (.int .i64 0) := (blk_cell BK319.out 2).trans rfl
          have hfs30 := blk_frozen BK319.out 2
          have hns30_1 := NB323_319.out
          have hms30_1 := NB319_323.out
          have hs31 : w27.cell? ⟨gb319, 3, none⟩ = some (.int .u64 0) := (blk_cell BK319.out 3).trans rfl
          have hfs31 := blk_frozen BK319.out 3
          have hns31_1 := NB323_319.out
          have hms31_1 := NB319_323.out
          have hs32 : w27.cell? ⟨gb319, 4, none⟩ = some (.int .u64 0) := (blk_cell BK319.out 4).trans rfl
          have hfs32 := blk_frozen BK319.out 4
          have hns32_1 := NB323_319.out
          have hms32_1 := NB319_323.out
          have hs33 : w27.cell? ⟨gb319, 5, none⟩ = some (.bool false) := (blk_cell BK319.out 5).trans rfl
          have hfs33 := blk_frozen BK319.out 5
          have hns33_1 := NB323_319.out
          have hms33_1 := NB319_323.out
          refine skip_ (w1 := ?_) (by rfl) rfl ?_ ?_
          rotate_left
          · go_simp
            rfl
          refine hK.out _ _ ⟨((cell_far (p := ⟨gb319, _, none⟩) NB323_319.out _).trans (((cell_far (p := ⟨gb319, _, none⟩) NB323_319.out _).trans (((cell_far (p := ⟨gb319, _, none⟩) NB323_319.out _).trans (((cell_far (p := ⟨gb319, _, none⟩) NB323_319.out _).trans (((cell_far (p := ⟨gb319, _, none⟩) NB323_319.out _).trans (((cell_far (p := ⟨gb319, _, none⟩) NB323_319.out _).trans (hHeld.1)))))))))))), ((cell_far (p := ⟨gb319, _, none⟩) NB323_319.out _).trans (((cell_far (p := ⟨gb319, _, none⟩) NB323_319.out _).trans (((cell_far (p := ⟨gb319, _, none⟩) NB323_319.out _).trans (((cell_far (p := ⟨gb319, _, none⟩) NB323_319.out _).trans (((cell_far (p := ⟨gb319, _, none⟩) NB323_319.out _).trans (((cell_far (p := ⟨gb319, _, none⟩) NB323_319.out _).trans (hHeld.2))))))))))))⟩ (fun hHeld => ?_)
          clear hK K
          refine pure_ (i := 13) (N := some 11) (v := ?_) (a' := ?_) #[true, true, true, true, true, true, true, true, true, true, true, true, true, true] rfl rfl (any_of HT_.out (by kernel_rfl)) (fun _ _ _ h => h) (Or.inl ⟨by rfl, ?_⟩) ?_ ?_
          rotate_left
          · intro w'
            go_simp
            with_reducible rfl
          rotate_left
          · simp only [Act.put, List.setIfInBounds_toArray, List.set_cons_zero, List.set_cons_succ, i64_w, i32_w]
            rfl
          refine done_ (done_of HT_.out (by kernel_rfl)) ?_
          try go_wp2
          refine bodyPost_ret (results_ct rfl _ _ gb319 24 #[.int .i64 1, .bool a0, .int .i64 t324, .int .u64 t320, .int .u64 t321, .bool a4] (0, 0) _ rfl (by (with_reducible repeat (first | refine blk_drewN ?_ _ | refine blk_drew ?_ | refine blk_alloc ?_ _)); refine blk_put (cs := #[.int .i64 1, .bool a0, .int .i64 t324, .int .u64 t320, .int .u64 t321, .bool false]) ?_ 5 _ rfl; (with_reducible repeat (first | refine blk_drewN ?_ _ | refine blk_drew ?_ | refine blk_alloc ?_ _)); refine blk_put (cs := #[.int .i64 1, .bool a0, .int .i64 t324, .int .u64 t320, .int .u64 0, .bool false]) ?_ 4 _ rfl; (with_reducible repeat (first | refine blk_drewN ?_ _ | refine blk_drew ?_ | refine blk_alloc ?_ _)); refine blk_put (cs := #[.int .i64 1, .bool a0, .int .i64 t324, .int .u64 0, .int .u64 0, .bool false]) ?_ 3 _ rfl; (with_reducible repeat (first | refine blk_drewN ?_ _ | refine blk_drew ?_ | refine blk_alloc ?_ _)); refine blk_put (cs := #[.int .i64 1, .bool a0, .int .i64 0, .int .u64 0, .int .u64 0, .bool false]) ?_ 2 _ rfl; (with_reducible repeat (first | refine blk_drewN ?_ _ | refine blk_drew ?_ | refine blk_alloc ?_ _)); refine blk_put (cs := #[.int .i64 1, .bool false, .int .i64 0, .int .u64 0, .int .u64 0, .bool false]) ?_ 1 _ rfl; (with_reducible repeat (first | refine blk_drewN ?_ _ | refine blk_drew ?_ | refine blk_alloc ?_ _)); refine blk_put (cs := #[.int .i64 0, .bool false, .int .i64 0, .int .u64 0, .int .u64 0, .bool false]) ?_ 0 _ rfl; (with_reducible repeat (first | refine blk_drewN ?_ _ | refine blk_drew ?_ | refine blk_alloc ?_ _)); exact BK319.out) Try.underlying24 rfl (by kernel_rfl)) rfl ?_
          exact ⟨by first | rfl | (simp [errW_none, errW_some] <;> rfl) | (simp only [← hji18, ← hji19]; first | rfl | (simp [errW_none, errW_some] <;> rfl)) | (simp [*, errW_none, errW_some] <;> rfl), by repeat (first | (with_reducible first | exact HB.out | apply below_alloc | apply pw_below_drewN | apply below_drew1 | refine below_set ?_ GE319.out | refine below_set ?_ GE323.out) | exact HB.out)⟩
end Go.Proofs.Ytfegofnplcmacaa.PAll
namespace Go.Proofs.Ytfegofnplcmacaa.V
open Go Go.RowKit Go.Proofs.YtfegofnplcmacaaW.PrintWords Go.Proofs.YtfegofnplcmacaaW.PrintLast Go.Proofs.YtfegofnplcmacaaW.PrintMore Go.Proofs.Ytfegofnplcmacaa.PAll
set_option linter.unusedVariables false
set_option linter.unusedSimpArgs false
def isW (n : Int) : Bool := n == 8 || n == 16 || n == 32 || n == 64
theorem isW_cases {n : Int} (h : isW n = true) : n = 8 ∨ n = 16 ∨ n = 32 ∨ n = 64 := by
  unfold isW at h; simp at h; omega
theorem isW_nat {n : Int} (h : isW n = true) : ∃ m : Nat, n = m ∧ (m = 8 ∨ m = 16 ∨ m = 32 ∨ m = 64) := by
  rcases isW_cases h with h | h | h | h
  · exact ⟨8, h, .inl rfl⟩
  · exact ⟨16, h, .inr (.inl rfl)⟩
  · exact ⟨32, h, .inr (.inr (.inl rfl))⟩
  · exact ⟨64, h, .inr (.inr (.inr rfl))⟩
theorem shape_is_eq (n : Int) : shape_is.f n = some (isW n) := by
  unfold shape_is.f isW
  by_cases h1 : n = 8
  · simp [h1]
  · by_cases h2 : n = 16
    · simp [h2]
    · by_cases h3 : n = 32
      · simp [h3]
      · by_cases h4 : n = 64
        · simp [h4]
        · simp [h1, h2, h3, h4]
theorem shape_Of_eq {n : Nat} (h : isW n = true) : shape_Of.f n = some ((n : Int), ((2 ^ (n - 1) - 1 : Nat) : Int), 1, ((2 ^ (n - 1) : Nat) : Int), 4 * (n : Int) - 8, none) := by
  unfold shape_Of.f
  rw [shape_is_eq, h]
  have h' : n = 8 ∨ n = 16 ∨ n = 32 ∨ n = 64 := by have := isW_cases h; omega
  rcases h' with rfl | rfl | rfl | rfl <;> decide +kernel
def soundE (kd : Int) (ng : Bool) (sc hi lo : Int) (rs : Bool) : Bool :=
  if kd = 0 ∨ kd = 2 then (!ng && (sc == 0 && (hi == 0 && (lo == 0 && !rs))))
  else decide (kd = 1 ∧ 9223372036854775808 ≤ hi ∧ -1099511627776 ≤ sc ∧ sc ≤ 1099511627776)
def heldI (s : Int) : Int := if s < -1099511627776 then -1099511627776 else if 1099511627776 < s then 1099511627776 else s
theorem round_held_eq (s : Int) : round_held.f s = some (heldI s) := by
  unfold round_held.f heldI mx mn
  congr 1
  repeat' split
  all_goals omega
theorem round_sound_eq (kd : Int) (ng : Bool) (sc hi lo : Int) (rs : Bool) (h : hi < 18446744073709551616) (h0 : 0 ≤ hi) :
    Ev (fun k => round_sound.f k kd ng sc hi lo rs) (soundE kd ng sc hi lo rs) := by
  unfold round_sound.f soundE
  by_cases h0 : kd = 0
  · simp only [if_pos h0, if_pos (Or.inl h0 : kd = 0 ∨ kd = 2)]
    refine Ev.step (f := fun _ => _) (fun k => by simp only [round_sound.j0]; rw [if_pos (by simp [h0])]) (Ev.now _)
  · simp only [if_neg h0]
    by_cases h2 : kd = 2
    · simp only [if_pos (Or.inr h2 : kd = 0 ∨ kd = 2)]
      refine Ev.step (f := fun _ => _) (fun k => by simp only [round_sound.j0]; rw [if_pos (by simp [h2])]) (Ev.now _)
    · simp only [if_neg (show ¬ (kd = 0 ∨ kd = 2) by omega)]
      refine Ev.step (f := fun _ => _) (fun k => by simp only [round_sound.j0]; rw [if_neg (by simp [h2])]) ?_
      simp only [round_held_eq, Option.bind_some]
      refine Ev.congr (f := fun _ => some _) (fun _ => ?_) (Ev.now _)
      by_cases h1 : kd = 1
      · rw [if_pos h1]
        by_cases h3 : hi / 9223372036854775808 = 1
        · rw [if_pos h3]
          congr 1
          rw [Bool.eq_iff_iff]
          simp only [beq_iff_eq, decide_eq_true_eq, heldI]
          split
          · omega
          · split <;> omega
        · rw [if_neg h3]
          congr 1
          symm
          rw [decide_eq_false_iff_not]
          omega
      · rw [if_neg h1]
        congr 1
        symm
        rw [decide_eq_false_iff_not]
        omega
theorem round_under_eq (X a b m : Nat) (R : Bool) (hX : X < 2 ^ (128 + a)) (hb : b < 2 ^ m) (hm : m ≤ 64) :
    round_under.f (TH (X / 2 ^ a)) (TL (X / 2 ^ a)) (b : Int) (m : Int) (R || decide (X % 2 ^ a ≠ 0)) =
      some (TH ((b * 2 ^ (128 + a) + X) / 2 ^ (a + m)), TL ((b * 2 ^ (128 + a) + X) / 2 ^ (a + m)), R || decide ((b * 2 ^ (128 + a) + X) % 2 ^ (a + m) ≠ 0)) := by
  unfold round_under.f
  have pa := two_pos a
  have pm := two_pos m
  have hw : X / 2 ^ a < 2 ^ 128 := by rw [Nat.div_lt_iff_lt_mul pa, ← Nat.pow_add]; exact hX
  rw [twin_Shr_eq _ m hw (by omega)]
  simp only [Option.bind_some]
  rw [w64 (by omega) (by omega), if_pos (by omega)]
  have e64 : (64 - (m : Int)) = ((64 - m : Nat) : Int) := by omega
  rw [e64, shl_nat _ _ (by omega)]
  -- the new string's upper bits
  have s := pow_split hm
  have hbl : b * 2 ^ (64 - m) < 2 ^ 64 := by rw [← s]; exact Nat.mul_lt_mul_of_pos_right hb (two_pos _)
  rw [Nat.mod_eq_of_lt (show b * 2 ^ (64 - m) < 18446744073709551616 by rw [← p64]; exact hbl)]
  generalize hw2 : X / 2 ^ a = w at hw
  have e1 : (b * 2 ^ (128 + a) + X) / 2 ^ (a + m) = b * 2 ^ (128 - m) + w / 2 ^ m := by
    have s1 : b * 2 ^ (128 + a) = b * 2 ^ (128 - m) * 2 ^ (a + m) := by
      rw [Nat.mul_assoc, ← Nat.pow_add]; congr 2; omega
    rw [s1, Nat.add_comm, Nat.add_mul_div_right _ _ (two_pos _), Nat.pow_add, ← Nat.div_div_eq_div_mul, hw2, Nat.add_comm]
  have hwm : w / 2 ^ m < 2 ^ (128 - m) := by
    rw [Nat.div_lt_iff_lt_mul pm, Nat.mul_comm, pow_split (by omega)]; exact hw
  have e2 : b * 2 ^ (128 - m) = b * 2 ^ (64 - m) * 18446744073709551616 := by
    rw [← p64, Nat.mul_assoc, ← Nat.pow_add]; congr 2; omega
  have hq : w / 2 ^ m / 18446744073709551616 < 2 ^ (64 - m) := by
    rw [← p64, Nat.div_lt_iff_lt_mul (two_pos 64), ← Nat.pow_add]
    exact Nat.lt_of_lt_of_eq hwm (by congr 1; omega)
  have hor : Go.bits .or .u64 (TH (w / 2 ^ m)) ((b * 2 ^ (64 - m) : Nat) : Int) = TH (b * 2 ^ (128 - m) + w / 2 ^ m) := by
    unfold TH
    have hlt : w / 2 ^ m / 18446744073709551616 < 18446744073709551616 := Nat.lt_of_lt_of_le hq (by rw [← p64]; exact pow_le (by omega))
    rw [or_nat _ _ hlt (by rw [← p64]; exact hbl), Nat.or_comm, or_parts hq, e2]
    congr 1
    omega
  have hlo : TL (w / 2 ^ m) = TL (b * 2 ^ (128 - m) + w / 2 ^ m) := by unfold TL; rw [e2]; congr 1; omega
  have e3 : decide ((b * 2 ^ (128 + a) + X) % 2 ^ (a + m) ≠ 0) = (decide (X % 2 ^ a ≠ 0) || decide (w % 2 ^ m ≠ 0)) := by
    have s1 : b * 2 ^ (128 + a) = b * 2 ^ (128 - m) * 2 ^ (a + m) := by
      rw [Nat.mul_assoc, ← Nat.pow_add]; congr 2; omega
    have s2 : (b * 2 ^ (128 + a) + X) % 2 ^ (a + m) = X % 2 ^ (a + m) := by rw [s1, Nat.mul_add_mod_self_right]
    have s3 : X % 2 ^ (a + m) = 2 ^ a * (w % 2 ^ m) + X % 2 ^ a := by
      rw [Nat.pow_add, Nat.mod_mul, hw2, Nat.add_comm]
    rw [s2, s3, Bool.eq_iff_iff]
    simp only [Bool.or_eq_true, decide_eq_true_eq]
    have hz : 2 ^ a * (w % 2 ^ m) = 0 ↔ w % 2 ^ m = 0 := by
      rw [Nat.mul_eq_zero]; constructor
      · rintro (h | h)
        · omega
        · exact h
      · exact .inr
    omega
  rw [hor, hlo, e1, e3]
  cases R <;> by_cases hd : X % 2 ^ a = 0 <;> simp [hd]
theorem round_left_eq (b : Nat) (R : Bool) (hb : b < 18446744073709551616) : Ev (fun k => round_left.f k (b : Int) R) (lft b 64 R) := by
  unfold round_left.f lft
  rw [p64]
  by_cases h1 : (b : Int) > 9223372036854775808
  · simp only [if_pos h1, if_pos (show 18446744073709551616 < 2 * b by omega)]
    exact Ev.step (f := fun _ => some 3) (fun k => by simp only [round_left.j0]; rw [if_pos (by simpa using h1)]) (Ev.now _)
  · simp only [if_neg h1, if_neg (show ¬ 18446744073709551616 < 2 * b by omega)]
    by_cases h2 : (b : Int) = 9223372036854775808
    · simp only [if_pos h2, if_pos (show 2 * b = 18446744073709551616 by omega)]
      refine evs ?_
      simp only [round_left.j0]
      refine evn ?_
      cases R
      · simp [h2]
      · simp
    · simp only [if_neg h2, if_neg (show ¬ 2 * b = 18446744073709551616 by omega)]
      refine evs ?_
      simp only [round_left.j0]
      refine evn ?_
      by_cases h3 : 0 < b
      · rw [if_neg (by simp), if_neg h2, if_pos (by omega), if_pos h3]
      · rw [if_neg (by simp), if_neg h2, if_neg (by omega), if_neg h3]
        cases R <;> simp
theorem round_Cut_j3 (n X a : Nat) (R : Bool) (h8 : 8 ≤ n) (h64 : n ≤ 64) (hX : X < 2 ^ (128 + a)) :
    Ev (fun k => round_Cut.j3 k (n : Int) (R || decide (X % 2 ^ a ≠ 0)) (TH (X / 2 ^ a)) (TL (X / 2 ^ a)))
      (((X / 2 ^ (129 - n + a) : Nat) : Int), lft (X % 2 ^ (129 - n + a)) (129 - n + a) R, none) := by
  have pa := two_pos a
  have hw : X / 2 ^ a < 2 ^ 128 := by rw [Nat.div_lt_iff_lt_mul pa, ← Nat.pow_add]; exact hX
  generalize hw2 : X / 2 ^ a = w at hw
  refine evs ?_
  simp only [round_Cut.j3]
  have e1 : wrap64 (65 - (n : Int)) = ((65 - n : Nat) : Int) := by rw [w64 (by omega) (by omega)]; omega
  have e2 : wrap64 ((n : Int) - 1) = ((n - 1 : Nat) : Int) := by rw [w64 (by omega) (by omega)]; omega
  simp only [e1, e2, if_pos (show (0 : Int) ≤ ((65 - n : Nat) : Int) by omega)]
  simp only [twin_Shl_eq w (n - 1) hw (by omega), Option.bind_some]
  -- what is behind
  have hsplit : w * 2 ^ (n - 1) % 2 ^ 128 = w % 2 ^ (129 - n) * 2 ^ (n - 1) := by
    have e : (2 : Nat) ^ 128 = 2 ^ (129 - n) * 2 ^ (n - 1) := by rw [← Nat.pow_add]; congr 1; omega
    rw [e, Nat.mul_mod_mul_right]
  generalize hb : w * 2 ^ (n - 1) % 2 ^ 128 = bh at hsplit
  have hbh : bh < 340282366920938463463374607431768211456 := by rw [← hb, ← p128]; exact Nat.mod_lt _ (two_pos 128)
  have hP : shr .u64 (TH w) ((65 - n : Nat) : Int) = ((X / 2 ^ (129 - n + a) : Nat) : Int) := by
    unfold TH
    rw [shr_nat _ _ (by omega), ← p64, div_div_pow, ← hw2, div_div_pow]
    congr 3; omega
  have hL : ∀ R' : Bool, R' = (R || decide (X % 2 ^ a ≠ 0)) → lft (bh / 18446744073709551616) 64 (R' || decide (bh % 18446744073709551616 ≠ 0)) = lft (X % 2 ^ (129 - n + a)) (129 - n + a) R := by
    intro R' hR
    have a1 := lft_split (bh / 18446744073709551616) (bh % 18446744073709551616) 64 64 R' (by rw [p64]; omega) (by omega)
    rw [p64, show bh / 18446744073709551616 * 18446744073709551616 + bh % 18446744073709551616 = bh by omega] at a1
    rw [← a1, hsplit, show 64 + 64 = (129 - n) + (n - 1) by omega, lft_scale _ _ _ _ (by omega), hR]
    have a2 := lft_split (w % 2 ^ (129 - n)) (X % 2 ^ a) a (129 - n) R (Nat.mod_lt _ pa) (by omega)
    rw [← a2]
    congr 1
    rw [Nat.add_comm (129 - n) a, Nat.pow_add, Nat.mod_mul, hw2, Nat.mul_comm, Nat.add_comm]
  by_cases h0 : TL bh = 0
  · simp only [if_pos h0]
    have hz : bh % 18446744073709551616 = 0 := by unfold TL at h0; omega
    have hl := hL _ rfl
    rw [hz] at hl
    simp only [ne_eq, not_true_eq_false, decide_false, Bool.or_false] at hl
    refine Ev.bind (a := lft (bh / 18446744073709551616) 64 (R || decide (X % 2 ^ a ≠ 0))) ?_ ?_
    · exact round_left_eq (bh / 18446744073709551616) _ (by omega)
    · rw [hP]
      simp only [ne_eq] at hl ⊢
      rw [hl]
      exact Ev.now _
  · simp only [if_neg h0]
    have hz : bh % 18446744073709551616 ≠ 0 := by unfold TL at h0; omega
    have hl := hL _ rfl
    rw [decide_eq_true hz, Bool.or_true] at hl
    refine Ev.bind (a := lft (bh / 18446744073709551616) 64 true) ?_ ?_
    · exact round_left_eq (bh / 18446744073709551616) _ (by omega)
    · rw [hP, hl]
      exact Ev.now _
theorem round_Cut_l0 (n : Nat) (R : Bool) (b : Nat) (h8 : 8 ≤ n) (h64 : n ≤ 64) (hb : b ≤ 64) : ∀ (d i X a : Nat), i + d = b → X < 2 ^ (128 + a) →
    Ev (fun k => round_Cut.l0 k (n : Int) (R || decide (X % 2 ^ a ≠ 0)) (b : Int) (i : Int) (TH (X / 2 ^ a)) (TL (X / 2 ^ a)))
      ((((((2 ^ d - 1) * 2 ^ (128 + a) + X) / 2 ^ (129 - n + (a + d)) : Nat)) : Int), lft (((2 ^ d - 1) * 2 ^ (128 + a) + X) % 2 ^ (129 - n + (a + d))) (129 - n + (a + d)) R, none)
  | 0, i, X, a, hi, hX => by
    refine evs ?_
    simp only [round_Cut.l0]
    simp only [if_neg (show ¬ (i : Int) < (b : Int) by omega)]
    have := round_Cut_j3 n X a R h8 h64 hX
    simpa using this
  | d + 1, i, X, a, hi, hX => by
    refine evs ?_
    simp only [round_Cut.l0]
    simp only [if_pos (show (i : Int) < (b : Int) by omega)]
    have u := round_under_eq X a 1 1 R hX (by decide) (by decide)
    simp only [Nat.one_mul] at u
    have u' : round_under.f (TH (X / 2 ^ a)) (TL (X / 2 ^ a)) 1 1 (R || decide (X % 2 ^ a ≠ 0)) = _ := u
    simp only [u', Option.bind_some]
    have e : wrap64 ((i : Int) + 1) = ((i + 1 : Nat) : Int) := by rw [w64 (by omega) (by omega)]; omega
    rw [e]
    have hX' : 2 ^ (128 + a) + X < 2 ^ (128 + (a + 1)) := by
      rw [show 128 + (a + 1) = 128 + a + 1 by omega, Nat.pow_succ]; omega
    have ih := round_Cut_l0 n R b h8 h64 hb d (i + 1) (2 ^ (128 + a) + X) (a + 1) (by omega) hX'
    have e2 : (2 ^ d - 1) * 2 ^ (128 + (a + 1)) + (2 ^ (128 + a) + X) = (2 ^ (d + 1) - 1) * 2 ^ (128 + a) + X := by
      have p := two_pos d
      obtain ⟨q, hq⟩ : ∃ q, 2 ^ d = q + 1 := ⟨2 ^ d - 1, by omega⟩
      rw [show 128 + (a + 1) = 128 + a + 1 by omega, Nat.pow_succ 2 (128 + a), Nat.pow_succ 2 d, hq]
      generalize 2 ^ (128 + a) = Z
      rw [show (q + 1) * 2 - 1 = 2 * q + 1 by omega, show q + 1 - 1 = q by omega]
      grind
    rw [e2, show a + 1 + d = a + (d + 1) by omega] at ih
    exact ih
theorem round_Cut_l1 (n : Nat) (R : Bool) (b : Nat) (h8 : 8 ≤ n) (h64 : n ≤ 64) (hb : b ≤ 64) : ∀ (d i X a : Nat), i + d = b → X < 2 ^ (128 + a) →
    Ev (fun k => round_Cut.l1 k (n : Int) (R || decide (X % 2 ^ a ≠ 0)) (b : Int) (i : Int) (TH (X / 2 ^ a)) (TL (X / 2 ^ a)))
      (((X / 2 ^ (129 - n + (a + d)) : Nat) : Int), lft (X % 2 ^ (129 - n + (a + d))) (129 - n + (a + d)) R, none)
  | 0, i, X, a, hi, hX => by
    refine evs ?_
    simp only [round_Cut.l1]
    simp only [if_neg (show ¬ (i : Int) < (b : Int) by omega)]
    exact round_Cut_j3 n X a R h8 h64 hX
  | d + 1, i, X, a, hi, hX => by
    refine evs ?_
    simp only [round_Cut.l1]
    simp only [if_pos (show (i : Int) < (b : Int) by omega)]
    have u := round_under_eq X a 0 1 R hX (by decide) (by decide)
    simp only [Nat.zero_mul, Nat.zero_add] at u
    have u' : round_under.f (TH (X / 2 ^ a)) (TL (X / 2 ^ a)) 0 1 (R || decide (X % 2 ^ a ≠ 0)) = _ := u
    simp only [u', Option.bind_some]
    have e : wrap64 ((i : Int) + 1) = ((i + 1 : Nat) : Int) := by rw [w64 (by omega) (by omega)]; omega
    rw [e]
    have hX' : X < 2 ^ (128 + (a + 1)) := Nat.lt_of_lt_of_le hX (pow_le (by omega))
    have ih := round_Cut_l1 n R b h8 h64 hb d (i + 1) X (a + 1) (by omega) hX'
    rw [show a + 1 + d = a + (d + 1) by omega] at ih
    exact ih
theorem round_Cut_j0_eq (n f : Nat) (kd : Int) (ng : Bool) (s : Int) (R : Bool) (hn : isW n = true) (h0 : -(4 * (n : Int) - 8) ≤ s) (h1 : s < 4 * (n : Int) - 8) (hf : f < 2 ^ 127) :
    Ev (fun k => round_Cut.j0 k (n : Int) kd ng s (TH (2 ^ 127 + f)) (TL (2 ^ 127 + f)) R) (((cutP n (sig s f) : Nat) : Int), cutL n (sig s f) R, none) := by
  have hn' : n = 8 ∨ n = 16 ∨ n = 32 ∨ n = 64 := by have := isW_cases hn; omega
  have h8 : 8 ≤ n := by omega
  have h64 : n ≤ 64 := by omega
  have hV : 2 ^ 127 + f < 2 ^ 128 := by rw [show (2 : Nat) ^ 128 = 2 * 2 ^ 127 by decide]; omega
  refine evs ?_
  simp only [round_Cut.j0]
  have s1 := twin_Shl_eq (2 ^ 127 + f) 1 hV (by decide)
  have m1 : (2 ^ 127 + f) * 2 ^ 1 % 2 ^ 128 = 2 * f := by rw [p127, p128] at *; omega
  rw [m1] at s1
  have s1' : twin_Shl.f (TH (2 ^ 127 + f)) (TL (2 ^ 127 + f)) 1 = _ := s1
  simp only [s1', Option.bind_some]
  have e4 : IntKind.u64.wrap (Go.bits .and .i64 s 3) = (((s % 4).toNat : Nat) : Int) := by rw [and_i64_3, u64_of (by omega) (by omega)]; omega
  rw [e4]
  generalize he : (s % 4).toNat = e
  have he4 : e < 2 ^ 2 := by have : (2 : Nat) ^ 2 = 4 := by decide
                             omega
  have hX0 : 2 * f < 2 ^ (128 + 0) := by rw [show (2 : Nat) ^ (128 + 0) = 2 * 2 ^ 127 by decide]; omega
  have u1 := round_under_eq (2 * f) 0 e 2 R hX0 he4 (by decide)
  simp only [Nat.pow_zero, Nat.div_one, Nat.mod_one, ne_eq, not_true_eq_false, decide_false, Bool.or_false, Nat.zero_add, Nat.add_zero] at u1
  have u1' : round_under.f (TH (2 * f)) (TL (2 * f)) (e : Int) 2 R = _ := u1
  simp only [u1', Option.bind_some]
  have hX1 : e * 2 ^ 128 + 2 * f < 2 ^ (128 + 2) := by
    have : (e + 1) * 2 ^ 128 ≤ 2 ^ 2 * 2 ^ 128 := Nat.mul_le_mul_right _ he4
    rw [Nat.add_mul] at this
    rw [show (2 : Nat) ^ (128 + 2) = 2 ^ 2 * 2 ^ 128 by decide]
    simp only [Nat.add_zero] at hX0
    omega
  by_cases hk : s / 4 ≥ 0
  · simp only [if_pos hk]
    have u2 := round_under_eq (e * 2 ^ 128 + 2 * f) 2 0 1 R hX1 (by decide) (by decide)
    simp only [Nat.zero_mul, Nat.zero_add] at u2
    have u2' : round_under.f (TH ((e * 2 ^ 128 + 2 * f) / 2 ^ 2)) (TL ((e * 2 ^ 128 + 2 * f) / 2 ^ 2)) 0 1 (R || decide (¬(e * 2 ^ 128 + 2 * f) % 2 ^ 2 = 0)) = _ := u2
    simp only [u2', Option.bind_some]
    generalize hq : (s / 4).toNat = q
    have hq61 : q ≤ 61 := by omega
    have ew : wrap64 (s / 4 + 1) = ((q + 1 : Nat) : Int) := by rw [w64 (by omega) (by omega)]; omega
    rw [ew]
    have l := round_Cut_l0 n R (q + 1) h8 h64 (by omega) (q + 1) 0 (e * 2 ^ 128 + 2 * f) 3 (by omega) (Nat.lt_of_lt_of_le hX1 (pow_le (by decide)))
    have c := cut_of n ((2 ^ (q + 1) - 1) * 2 ^ (128 + 3) + (e * 2 ^ 128 + 2 * f)) (129 - n + (3 + (q + 1))) (68 - q) R h64 (by omega) (by omega)
    have es : sig s f = ((2 ^ (q + 1) - 1) * 2 ^ (128 + 3) + (e * 2 ^ 128 + 2 * f)) * 2 ^ (68 - q) := by
      unfold sig
      rw [if_pos hk, hq, he, show 69 - q = 1 + (68 - q) by omega, Nat.pow_add 2 1, ← Nat.mul_assoc]
      congr 1
      rw [show (2 : Nat) ^ (128 + 3) = 2 ^ 130 * 2 by decide, show (2 : Nat) ^ 128 = 2 ^ 127 * 2 by decide]
      generalize 2 ^ (q + 1) - 1 = z
      grind
    rw [es, c.1, c.2]
    exact l
  · simp only [if_neg hk]
    have u2 := round_under_eq (e * 2 ^ 128 + 2 * f) 2 1 1 R hX1 (by decide) (by decide)
    simp only [Nat.one_mul] at u2
    have u2' : round_under.f (TH ((e * 2 ^ 128 + 2 * f) / 2 ^ 2)) (TL ((e * 2 ^ 128 + 2 * f) / 2 ^ 2)) 1 1 (R || decide (¬(e * 2 ^ 128 + 2 * f) % 2 ^ 2 = 0)) = _ := u2
    simp only [u2', Option.bind_some]
    generalize hq : (-(s / 4)).toNat = q
    have hq62 : q ≤ 62 := by omega
    have ew : wrap64 (-(s / 4)) = ((q : Nat) : Int) := by rw [w64 (by omega) (by omega)]; omega
    rw [ew]
    have hX2 : 2 ^ (128 + 2) + (e * 2 ^ 128 + 2 * f) < 2 ^ (128 + 3) := by
      rw [show (2 : Nat) ^ (128 + 3) = 2 ^ (128 + 2) + 2 ^ (128 + 2) by decide]; omega
    have l := round_Cut_l1 n R q h8 h64 (by omega) q 0 (2 ^ (128 + 2) + (e * 2 ^ 128 + 2 * f)) 3 (by omega) hX2
    have c := cut_of n (2 ^ (128 + 2) + (e * 2 ^ 128 + 2 * f)) (129 - n + (3 + q)) (69 - q) R h64 (by omega) (by omega)
    have es : sig s f = (2 ^ (128 + 2) + (e * 2 ^ 128 + 2 * f)) * 2 ^ (69 - q) := by
      unfold sig
      rw [if_neg (by omega), hq, he, show 70 - q = 1 + (69 - q) by omega, Nat.pow_add 2 1, ← Nat.mul_assoc]
      congr 1
      rw [show (2 : Nat) ^ (128 + 2) = 2 ^ 129 * 2 by decide, show (2 : Nat) ^ 128 = 2 ^ 127 * 2 by decide]
      grind
    rw [es, c.1, c.2]
    exact l
theorem sound_kinds {kd sc hi lo : Int} {ng rs : Bool} (h : soundE kd ng sc hi lo rs = true) : kd = 0 ∨ kd = 2 ∨ kd = 1 := by
  unfold soundE at h
  split at h
  · omega
  · have := of_decide_eq_true h; omega
theorem sound_real {sc hi lo : Int} {ng rs : Bool} (h : soundE 1 ng sc hi lo rs = true) : 9223372036854775808 ≤ hi ∧ -1099511627776 ≤ sc ∧ sc ≤ 1099511627776 := by
  unfold soundE at h
  rw [if_neg (by decide)] at h
  have := of_decide_eq_true h; omega
theorem round_Cut_eq {n hi lo : Nat} {kd sc : Int} {ng rs : Bool} (hn : isW n = true) (hh : hi < 18446744073709551616) (hl : lo < 18446744073709551616) (h : soundE kd ng sc hi lo rs = true) :
    Ev (fun k => round_Cut.f k n kd ng sc hi lo rs) ((cutE n kd sc (hi * 18446744073709551616 + lo) rs).1, (cutE n kd sc (hi * 18446744073709551616 + lo) rs).2, none) := by
  unfold round_Cut.f
  have hn' : n = 8 ∨ n = 16 ∨ n = 32 ∨ n = 64 := by have := isW_cases hn; omega
  simp only [shape_Of_eq hn, Option.bind_some, Option.isNone_none, if_true]
  refine Ev.bind (round_sound_eq _ _ _ _ _ _ (by omega) (by omega)) ?_
  simp only [h, if_true]
  unfold cutE
  by_cases k0 : kd = 0
  · simp only [if_pos k0]; exact Ev.now _
  · simp only [if_neg k0]
    by_cases k2 : kd = 2
    · simp only [if_pos k2]; exact Ev.now _
    · simp only [if_neg k2]
      have k1 : kd = 1 := by have := sound_kinds h; omega
      subst k1
      obtain ⟨b0, b1, b2⟩ := sound_real h
      have ew : wrap64 (-(4 * (n : Int) - 8)) = -(4 * (n : Int) - 8) := w64 (by omega) (by omega)
      by_cases c1 : sc ≥ 4 * (n : Int) - 8
      · simp only [if_pos c1, if_pos (show 4 * (n : Int) - 8 ≤ sc by omega)]; exact Ev.now _
      · simp only [if_neg c1, if_neg (show ¬ 4 * (n : Int) - 8 ≤ sc by omega), ew]
        by_cases c2 : sc < -(4 * (n : Int) - 8)
        · simp only [if_pos c2, if_pos (Or.inl c2 : sc < -(4 * (n : Int) - 8) ∨ (sc = -(4 * (n : Int) - 8) ∧ hi * 18446744073709551616 + lo = 2 ^ 127 ∧ rs = false))]; exact Ev.now _
        · simp only [if_neg c2]
          have key : ¬ (sc = -(4 * (n : Int) - 8) ∧ hi * 18446744073709551616 + lo = 2 ^ 127 ∧ rs = false) →
              Ev (fun k => round_Cut.j0 k (n : Int) 1 ng sc (hi : Int) (lo : Int) rs)
                ((if sc < -(4 * (n : Int) - 8) ∨ (sc = -(4 * (n : Int) - 8) ∧ hi * 18446744073709551616 + lo = 2 ^ 127 ∧ rs = false) then ((1 : Int), (0 : Int)) else ((cutP n (sig sc (hi * 18446744073709551616 + lo - 2 ^ 127)) : Int), cutL n (sig sc (hi * 18446744073709551616 + lo - 2 ^ 127)) rs)).1,
                 (if sc < -(4 * (n : Int) - 8) ∨ (sc = -(4 * (n : Int) - 8) ∧ hi * 18446744073709551616 + lo = 2 ^ 127 ∧ rs = false) then ((1 : Int), (0 : Int)) else ((cutP n (sig sc (hi * 18446744073709551616 + lo - 2 ^ 127)) : Int), cutL n (sig sc (hi * 18446744073709551616 + lo - 2 ^ 127)) rs)).2, none) := by
            intro hno
            rw [if_neg (fun hh => hh.elim c2 hno)]
            have hf : 2 ^ 127 + (hi * 18446744073709551616 + lo - 2 ^ 127) = hi * 18446744073709551616 + lo := by rw [p127]; omega
            have j := round_Cut_j0_eq n (hi * 18446744073709551616 + lo - 2 ^ 127) 1 ng sc rs hn (by omega) (by omega) (by rw [p127]; omega)
            rw [hf, TH_of hl, TL_of hl] at j
            exact j
          by_cases c3 : sc = -(4 * (n : Int) - 8)
          · simp only [if_pos c3]
            by_cases c4 : (hi : Int) = 9223372036854775808
            · simp only [if_pos c4]
              by_cases c5 : (lo : Int) = 0
              · simp only [if_pos c5]
                cases rs
                · simp only [Bool.false_eq_true, if_false]
                  rw [if_pos (Or.inr ⟨c3, by rw [p127]; omega, trivial⟩)]
                  exact Ev.now _
                · simp only [if_true]
                  exact key (by simp)
              · simp only [if_neg c5]
                exact key (by rw [p127]; omega)
            · simp only [if_neg c4]
              exact key (by rw [p127]; omega)
          · simp only [if_neg c3]
            exact key (by omega)
theorem pow64 {n : Nat} (h : isW n = true) : n ≤ 64 ∧ 8 ≤ n := by have := isW_cases h; omega
theorem lead_ones_eq {n : Nat} (h : n ≤ 64) : lead_ones.f (n : Int) = some ((2 ^ n - 1 : Nat) : Int) := by
  unfold lead_ones.f
  by_cases h1 : n = 64
  · subst h1; rfl
  · rw [if_neg (by omega), if_pos (by omega)]
    have e := shl_nat 1 n h
    have e' : shl .u64 1 (n : Int) = _ := e
    have hp : 2 ^ n < 2 ^ 64 := pow_lt (by omega)
    have hp0 := two_pos n
    rw [p64] at hp
    rw [e', Nat.one_mul, Nat.mod_eq_of_lt hp, u64_of (by omega) (by omega)]
    congr 1
    omega
theorem shape_Fold_eq {n x : Nat} (h : isW n = true) (hx : x < 18446744073709551616) : shape_Fold.f (n : Int) (x : Int) = some (((x % 2 ^ n : Nat) : Int), none) := by
  have hb := pow64 h
  unfold shape_Fold.f lead_Mask.f
  simp only [shape_is_eq, h, if_true, Option.bind_some, if_neg (show ¬ (n : Int) < 0 by omega), if_neg (show ¬ (n : Int) > 64 by omega), lead_ones_eq hb.1]
  rw [and_mask x n hx hb.1]
theorem neg_wrap {p : Nat} (h : p < 18446744073709551616) : IntKind.u64.wrap (-(p : Int)) = (((18446744073709551616 - p) % 18446744073709551616 : Nat) : Int) := by
  rw [u64_wrap]; omega
theorem and_one {p : Nat} (h : p < 18446744073709551616) : Go.bits .and .u64 (p : Int) 1 = ((p % 2 : Nat) : Int) := by
  have := and_mask p 1 h (by decide)
  simpa using this
theorem round_Round_eq {n hi lo : Nat} {kd sc : Int} {ng rs : Bool} (hn : isW n = true) (hh : hi < 18446744073709551616) (hl : lo < 18446744073709551616) (h : soundE kd ng sc hi lo rs = true) :
    Ev (fun k => round_Round.f k n kd ng sc hi lo rs) (((rnd n kd ng sc (hi * 18446744073709551616 + lo) rs : Nat) : Int), none) := by
  obtain ⟨b64, b8⟩ := pow64 hn
  unfold round_Round.f
  refine Ev.bind (round_Cut_eq hn hh hl h) ?_
  have hV : hi * 18446744073709551616 + lo < 2 ^ 128 := by rw [p128]; omega
  have hb := cutE_bounds (kd := kd) (sc := sc) (R := rs) b64 b8 hV
  unfold rnd
  generalize cutE n kd sc (hi * 18446744073709551616 + lo) rs = c at hb
  obtain ⟨c1, c2⟩ := c
  simp only at hb
  obtain ⟨p, rfl⟩ := Int.eq_ofNat_of_zero_le hb.1
  have hp1 : p ≤ 2 ^ (n - 1) := by omega
  have hp2 : 2 ^ (n - 1) < 2 ^ 64 := pow_lt (by omega)
  have hp3 : 2 ^ (n - 1) + 1 < 2 ^ n := by
    have : 2 ^ n = 2 * 2 ^ (n - 1) := by rw [show n = n - 1 + 1 by omega, Nat.pow_succ]; simp; omega
    have : 2 ^ 1 ≤ 2 ^ (n - 1) := pow_le (by omega)
    omega
  have hp4 : (2 : Nat) ^ n ≤ 2 ^ 64 := pow_le b64
  rw [p64] at hp2 hp4
  have fo : ∀ x : Nat, x < 2 ^ n → shape_Fold.f (n : Int) (x : Int) = some ((x : Int), none) := fun x hx => by
    rw [shape_Fold_eq hn (by omega), Nat.mod_eq_of_lt hx]
  have fn : ∀ x : Nat, x < 2 ^ n → shape_Fold.f (n : Int) (IntKind.u64.wrap (-(x : Int))) = some (((negN n x : Nat) : Int), none) := fun x hx => by
    rw [neg_wrap (by omega), shape_Fold_eq hn (Nat.mod_lt _ (by decide))]; rfl
  have e1 : IntKind.u64.wrap ((p : Int) + 1) = ((p + 1 : Nat) : Int) := by rw [u64_of (by omega) (by omega)]; omega
  refine evn ?_
  simp only [Option.isNone_none, if_true, e1, fo p (by omega), fo (p + 1) (by omega), fn p (by omega), fn (p + 1) (by omega), Option.bind_some, and_one (show p < 18446744073709551616 by omega), Int.toNat_natCast]
  by_cases k2 : c2 = 2
  · subst k2
    by_cases hp : p % 2 = 0
    · simp only [if_true, if_pos (show ((p % 2 : Nat) : Int) = 0 by omega)]
      cases ng <;> simp [hp]
    · have hp' : p % 2 = 1 := by omega
      simp only [if_true, if_neg (show ¬ ((p % 2 : Nat) : Int) = 0 by omega)]
      cases ng <;> simp [hp']
  · by_cases k3 : c2 = 3
    · subst k3
      cases ng <;> simp
    · simp only [if_neg k2, if_neg k3]
      cases ng <;> simp [k2, k3]
end Go.Proofs.Ytfegofnplcmacaa.V
namespace Go.Proofs.Ytfegofnplcmacaa.PAll
open Go.RowKit Go.Proofs.YtfegofnplcmacaaW.PrintWords Go.Proofs.YtfegofnplcmacaaW.PrintLast Go.Proofs.YtfegofnplcmacaaW.PrintMore
attribute [local go_sem] max2_int min2_int max_two min_two max_three min_three max_four min_four
set_option linter.unusedVariables false
set_option linter.unusedSimpArgs false
def vernierref07_some.l0 : Nat → ByteArray → Int → Option (Bool)
  | 0, _, _ => none
  | k + 1, x0, x3 => if x3 < (x0.size : Int) then (if 0 ≤ x3 then (if (bt x0 x3) = 49 then (some true) else (vernierref07_some.l0 k x0 (wrap64 (x3 + 1)))) else (none)) else (some false)
def vernierref07_some.f (k : Nat) (a0 : ByteArray) : Option (Bool) := vernierref07_some.l0 k a0 0
theorem vernierref07_some.mono_l : ∀ k, (∀ y0 y1, LeO (vernierref07_some.l0 k y0 y1) (vernierref07_some.l0 (k + 1) y0 y1))
  | 0 => fun _ _ r h => by simp [vernierref07_some.l0] at h
  | k + 1 => by
    have ih0 := vernierref07_some.mono_l k
    · intro y0 y1
      unfold vernierref07_some.l0
      repeat' first
      | (with_reducible exact ih0 _ _)
      | (with_reducible exact LeO.refl _)
      | (with_reducible exact LeO.none _)
      | (with_reducible refine LeO.ite ?_ ?_)
      | (with_reducible refine LeO.bind ?_ (fun _ => ?_))
      | exact ih0 _ _
      | exact LeO.none _
      | refine LeO.ite ?_ ?_
      | refine LeO.bind ?_ (fun _ => ?_)
theorem vernierref07_some.mono : ∀ a0 k, LeO (vernierref07_some.f k a0) (vernierref07_some.f (k + 1) a0) := by
  intro a0 k
  have ih0 := vernierref07_some.mono_l k
  unfold vernierref07_some.f
  repeat' first
      | (with_reducible exact ih0 _ _)
      | (with_reducible exact LeO.refl _)
      | (with_reducible exact LeO.none _)
      | (with_reducible refine LeO.ite ?_ ?_)
      | (with_reducible refine LeO.bind ?_ (fun _ => ?_))
      | exact ih0 _ _
      | exact LeO.none _
      | refine LeO.ite ?_ ?_
      | refine LeO.bind ?_ (fun _ => ?_)
set_option maxHeartbeats 8000000 in
set_option maxRecDepth 100000 in
theorem vernierref07_some.calls (k : Nat) (a0 : ByteArray) (r : Bool) (w : World) (h : vernierref07_some.f k a0 = some r) :
    Calls Try.prog 33 #[.string a0] w fun e w' => e = .returned (.bool r) ∧ Drawn0 w w' := by
  have H : (vernierref07_some.l0 k a0 0) = some r := h
  clear h
  have H' := Aside0.mk H
  clear H
  go_enter Try.func33, Try.ntmps33
  go_wp2
  go_loopg [3] k (fun kq v3 w' => ∃ (x3_1 : Int), v3 = .int .i64 x3_1 ∧ Aside0 (vernierref07_some.l0 kq a0 x3_1 = some r) ∧ Aside0 (kq ≤ k) ∧ Drawn0 w w')
  case atStart => exact ⟨(0), (by first | rfl | (simp; done) | (simp [*]; done)), H', ⟨Nat.le_refl _⟩, by repeat (first | exact Drawn0.refl _ | apply Drawn0.step)⟩
  case round =>
    clear H'
    obtain ⟨x3_1, rfl, HA, HK1, ⟨m1, rfl⟩⟩ := hrel
    cases gk with
    | zero => exact absurd HA.out (by simp [vernierref07_some.l0])
    | succ k1 =>
      have H := HA.out
      clear HA
      simp only [vernierref07_some.l0] at H
      by_cases c2 : x3_1 < (a0.size : Int)
      · rw [if_pos c2] at H
        have c2b0 : decide (x3_1 < (a0.size : Int)) = true := decide_eq_true c2
        clear c2
        by_cases c3 : 0 ≤ x3_1
        · rw [if_pos c3] at H
          have c3b0 : decide (0 ≤ x3_1) = true := decide_eq_true c3
          clear c3
          by_cases c5 : (bt a0 x3_1) = 49
          · rw [if_pos c5] at H
            have c5b0 : ((bt a0 x3_1) == 49) = true := beq_iff_eq.mpr c5
            have c5b1 : ((bt a0 x3_1) != 49) = false := bne_eq_false_iff_eq.mpr c5
            clear c5
            obtain rfl := Option.some.inj H
            have p4 : 0 ≤ (x3_1 : Int) := of_decide_eq_true (by first | (with_reducible assumption) | assumption)
            have q4 : x3_1 < (a0.size : Int) := of_decide_eq_true (by first | (with_reducible assumption) | assumption)
            have hx4 := bt_at a0 x3_1
            replace p4 := eq_true p4
            replace q4 := eq_true q4
            go_wp2
            go_ret
            exact ⟨by first | rfl | (simp; done) | (simp [*]; done), by repeat (first | exact Drawn0.refl _ | apply Drawn0.step)⟩
          · rw [if_neg c5] at H
            have c5b0 : ((bt a0 x3_1) == 49) = false := beq_eq_false_iff_ne.mpr c5
            have c5b1 : ((bt a0 x3_1) != 49) = true := bne_iff_ne.mpr c5
            have H' := Aside0.mk H
            clear H
            have p4 : 0 ≤ (x3_1 : Int) := of_decide_eq_true (by first | (with_reducible assumption) | assumption)
            have q4 : x3_1 < (a0.size : Int) := of_decide_eq_true (by first | (with_reducible assumption) | assumption)
            have hx4 := bt_at a0 x3_1
            replace p4 := eq_true p4
            replace q4 := eq_true q4
            go_wp2
            go_roundg k1
            case measure => have := HK1.out; omega
            case rel => exact ⟨(wrap64 (x3_1 + 1)), (by first | rfl | (simp; done) | (simp [*]; done)), H', ⟨by have := HK1.out; omega⟩, by repeat (first | exact Drawn0.refl _ | apply Drawn0.step)⟩
        · rw [if_neg c3] at H
          exact absurd H (by simp)
      · rw [if_neg c2] at H
        have c2b0 : decide (x3_1 < (a0.size : Int)) = false := decide_eq_false c2
        clear c2
        obtain rfl := Option.some.inj H
        go_wp2
        go_ret
        exact ⟨by first | rfl | (simp; done) | (simp [*]; done), by repeat (first | exact Drawn0.refl _ | apply Drawn0.step)⟩
end Go.Proofs.Ytfegofnplcmacaa.PAll
namespace Go.Proofs.Ytfegofnplcmacaa.PAll
open Go.RowKit Go.Proofs.YtfegofnplcmacaaW.PrintWords Go.Proofs.YtfegofnplcmacaaW.PrintLast Go.Proofs.YtfegofnplcmacaaW.PrintMore
attribute [local go_sem] max2_int min2_int max_two min_two max_three min_three max_four min_four
set_option linter.unusedVariables false
set_option linter.unusedSimpArgs false
def vernierref01_Number.l0 : Nat → ByteArray → Int → Int → Option (Int)
  | 0, _, _, _ => none
  | k + 1, x0, x3, x4 => if x4 < (x0.size : Int) then (if 0 ≤ x4 then (vernierref01_Number.l0 k x0 (IntKind.u64.wrap ((IntKind.u64.wrap (2 * x3)) + (((bt x0 x4) - 48) % 256))) (wrap64 (x4 + 1))) else (none)) else (some x3)
def vernierref01_Number.f (k : Nat) (a0 : ByteArray) : Option (Int) := vernierref01_Number.l0 k a0 0 0
theorem vernierref01_Number.mono_l : ∀ k, (∀ y0 y1 y2, LeO (vernierref01_Number.l0 k y0 y1 y2) (vernierref01_Number.l0 (k + 1) y0 y1 y2))
  | 0 => fun _ _ _ r h => by simp [vernierref01_Number.l0] at h
  | k + 1 => by
    have ih0 := vernierref01_Number.mono_l k
    · intro y0 y1 y2
      unfold vernierref01_Number.l0
      repeat' first
      | (with_reducible exact ih0 _ _ _)
      | (with_reducible exact LeO.refl _)
      | (with_reducible exact LeO.none _)
      | (with_reducible refine LeO.ite ?_ ?_)
      | (with_reducible refine LeO.bind ?_ (fun _ => ?_))
      | exact ih0 _ _ _
      | exact LeO.none _
      | refine LeO.ite ?_ ?_
      | refine LeO.bind ?_ (fun _ => ?_)
theorem vernierref01_Number.mono : ∀ a0 k, LeO (vernierref01_Number.f k a0) (vernierref01_Number.f (k + 1) a0) := by
  intro a0 k
  have ih0 := vernierref01_Number.mono_l k
  unfold vernierref01_Number.f
  repeat' first
      | (with_reducible exact ih0 _ _ _)
      | (with_reducible exact LeO.refl _)
      | (with_reducible exact LeO.none _)
      | (with_reducible refine LeO.ite ?_ ?_)
      | (with_reducible refine LeO.bind ?_ (fun _ => ?_))
      | exact ih0 _ _ _
      | exact LeO.none _
      | refine LeO.ite ?_ ?_
      | refine LeO.bind ?_ (fun _ => ?_)
set_option maxHeartbeats 8000000 in
set_option maxRecDepth 100000 in
theorem vernierref01_Number.calls (k : Nat) (a0 : ByteArray) (r : Int) (w : World) (h : vernierref01_Number.f k a0 = some r) :
    Calls Try.prog 35 #[.string a0] w fun e w' => e = .returned (.int .u64 r) ∧ Drawn0 w w' := by
  have H : (vernierref01_Number.l0 k a0 0 0) = some r := h
  clear h
  have H' := Aside0.mk H
  clear H
  go_enter Try.func35, Try.ntmps35
  go_wp2
  go_loopg [3, 4] k (fun kq v3 v4 w' => ∃ (x3_1 : Int) (x4_1 : Int), v3 = .int .u64 x3_1 ∧ v4 = .int .i64 x4_1 ∧ Aside0 (vernierref01_Number.l0 kq a0 x3_1 x4_1 = some r) ∧ Aside0 (kq ≤ k) ∧ Drawn0 w w')
  case atStart => exact ⟨(0), (0), (by first | rfl | (simp; done) | (simp [*]; done)), (by first | rfl | (simp; done) | (simp [*]; done)), H', ⟨Nat.le_refl _⟩, by repeat (first | exact Drawn0.refl _ | apply Drawn0.step)⟩
  case round =>
    clear H'
    obtain ⟨x3_1, x4_1, rfl, rfl, HA, HK1, ⟨m1, rfl⟩⟩ := hrel
    cases gk with
    | zero => exact absurd HA.out (by simp [vernierref01_Number.l0])
    | succ k1 =>
      have H := HA.out
      clear HA
      simp only [vernierref01_Number.l0] at H
      by_cases c2 : x4_1 < (a0.size : Int)
      · rw [if_pos c2] at H
        have c2b0 : decide (x4_1 < (a0.size : Int)) = true := decide_eq_true c2
        clear c2
        by_cases c3 : 0 ≤ x4_1
        · rw [if_pos c3] at H
          have c3b0 : decide (0 ≤ x4_1) = true := decide_eq_true c3
          clear c3
          have H' := Aside0.mk H
          clear H
          have p4 : 0 ≤ (x4_1 : Int) := of_decide_eq_true (by first | (with_reducible assumption) | assumption)
          have q4 : x4_1 < (a0.size : Int) := of_decide_eq_true (by first | (with_reducible assumption) | assumption)
          have hx4 := bt_at a0 x4_1
          replace p4 := eq_true p4
          replace q4 := eq_true q4
          go_wp2
          go_roundg k1
          case measure => have := HK1.out; omega
          case rel => exact ⟨(IntKind.u64.wrap ((IntKind.u64.wrap (2 * x3_1)) + (((bt a0 x4_1) - 48) % 256))), (wrap64 (x4_1 + 1)), (by first | rfl | (simp; done) | (simp [*]; done)), (by first | rfl | (simp; done) | (simp [*]; done)), H', ⟨by have := HK1.out; omega⟩, by repeat (first | exact Drawn0.refl _ | apply Drawn0.step)⟩
        · rw [if_neg c3] at H
          exact absurd H (by simp)
      · rw [if_neg c2] at H
        have c2b0 : decide (x4_1 < (a0.size : Int)) = false := decide_eq_false c2
        clear c2
        obtain rfl := Option.some.inj H
        go_wp2
        go_ret
        exact ⟨by first | rfl | (simp; done) | (simp [*]; done), by repeat (first | exact Drawn0.refl _ | apply Drawn0.step)⟩
end Go.Proofs.Ytfegofnplcmacaa.PAll
namespace Go.Proofs.Ytfegofnplcmacaa.V
open Go Go.RowKit Go.Proofs.YtfegofnplcmacaaW.PrintWords Go.Proofs.YtfegofnplcmacaaW.PrintLast Go.Proofs.YtfegofnplcmacaaW.PrintMore Go.Proofs.Ytfegofnplcmacaa.PAll
set_option linter.unusedVariables false
set_option linter.unusedSimpArgs false
def numL (l : List UInt8) : Nat := l.foldl (fun x b => 2 * x + (b.toNat - 48)) 0
def okL (l : List UInt8) : Prop := ∀ b ∈ l, b.toNat = 48 ∨ b.toNat = 49
theorem numL_acc (l : List UInt8) : ∀ x, l.foldl (fun x b => 2 * x + (b.toNat - 48)) x = x * 2 ^ l.length + numL l := by
  induction l with
  | nil => intro x; simp [numL]
  | cons b l ih =>
    intro x
    simp only [List.foldl_cons, List.length_cons, numL]
    rw [ih, ih (2 * 0 + (b.toNat - 48)), Nat.pow_succ]
    generalize 2 ^ l.length = z
    generalize numL l = y
    generalize b.toNat - 48 = w
    grind
theorem numL_append (a b : List UInt8) : numL (a ++ b) = numL a * 2 ^ b.length + numL b := by
  unfold numL
  rw [List.foldl_append, numL_acc]
  rfl
theorem numL_lt {l : List UInt8} (h : okL l) : numL l < 2 ^ l.length := by
  induction l with
  | nil => simp [numL]
  | cons b l ih =>
    have ih := ih (fun x hx => h x (List.mem_cons_of_mem _ hx))
    have hb := h b List.mem_cons_self
    rw [show b :: l = [b] ++ l from rfl, numL_append]
    have e : numL [b] = b.toNat - 48 := by simp [numL]
    rw [e, List.length_append, Nat.pow_add]
    simp only [List.length_singleton, Nat.pow_one]
    rcases hb with hb | hb <;> rw [hb] <;> omega
theorem okL_append {a b : List UInt8} (ha : okL a) (hb : okL b) : okL (a ++ b) := fun x hx => (List.mem_append.mp hx).elim (ha x) (hb x)
theorem okL_drop {a : List UInt8} (m : Nat) (h : okL a) : okL (a.drop m) := fun x hx => h x (List.mem_of_mem_drop hx)
structure BT (s : ByteArray) (L X : Nat) : Prop where
  ok : okL s.data.toList
  size : s.size = L
  num : numL s.data.toList = X
theorem lenB (s : ByteArray) : s.data.toList.length = s.size := Array.length_toList
theorem BT.len {s : ByteArray} {L X : Nat} (h : BT s L X) : s.data.toList.length = L := by rw [← h.size]; exact lenB s
theorem BT.append {s t : ByteArray} {L M X Y : Nat} (h : BT s L X) (k : BT t M Y) : BT (s ++ t) (L + M) (X * 2 ^ M + Y) := by
  refine ⟨?_, ?_, ?_⟩
  · rw [ByteArray.data_append, Array.toList_append]; exact okL_append h.ok k.ok
  · rw [ByteArray.size_append, h.size, k.size]
  · rw [ByteArray.data_append, Array.toList_append, numL_append, h.num, k.num, k.len]
theorem bt_of {s : ByteArray} {i : Nat} (h : i < s.size) : bt s (i : Int) = ((s.data.toList[i]'(by rw [lenB]; exact h)).toNat : Int) := by
  unfold bt
  rw [dif_pos (by simpa using h)]
  simp [ByteArray.getElem_eq_getElem_data]
theorem BT.bit {s : ByteArray} {L X i : Nat} (h : BT s L X) (hi : i < L) : bt s (i : Int) = 48 + ((X / 2 ^ (L - 1 - i) % 2 : Nat) : Int) := by
  have hs : i < s.size := by rw [h.size]; exact hi
  rw [bt_of hs]
  have hl := h.len
  have hi' : i < s.data.toList.length := by omega
  have hx := h.ok _ (List.getElem_mem hi')
  have e1 : X = numL (s.data.toList.take (i + 1)) * 2 ^ (L - 1 - i) + numL (s.data.toList.drop (i + 1)) := by
    have := numL_append (s.data.toList.take (i + 1)) (s.data.toList.drop (i + 1))
    rw [List.take_append_drop, h.num, List.length_drop, hl, show L - (i + 1) = L - 1 - i by omega] at this
    exact this
  have hlt : numL (s.data.toList.drop (i + 1)) < 2 ^ (L - 1 - i) := by
    have := numL_lt (okL_drop (i + 1) h.ok)
    rw [List.length_drop, hl, show L - (i + 1) = L - 1 - i by omega] at this
    exact this
  have e2 : X / 2 ^ (L - 1 - i) = numL (s.data.toList.take (i + 1)) := by
    rw [e1, Nat.add_comm, Nat.add_mul_div_right _ _ (two_pos _), Nat.div_eq_of_lt hlt, Nat.zero_add]
  have e3 : numL (s.data.toList.take (i + 1)) = 2 * numL (s.data.toList.take i) + ((s.data.toList[i]'hi').toNat - 48) := by
    rw [List.take_succ_eq_append_getElem hi', numL_append]
    simp [numL]; omega
  rw [e2, e3]
  rcases hx with hx | hx <;> rw [hx] <;> omega
theorem BT.nil : BT ByteArray.empty 0 0 := ⟨by intro b hb; simp at hb, rfl, rfl⟩
structure BN (l : List Int) (L X : Nat) : Prop where
  len : l.length = L
  bt : BT (strOfNums l) L X
theorem BN.nil : BN [] 0 0 := ⟨rfl, ⟨by intro b hb; simp [strOfNums_data] at hb, rfl, rfl⟩⟩
theorem BN.snoc {l : List Int} {L X : Nat} (h : BN l L X) (b : Nat) (hb : b < 2) : BN (l ++ [48 + (b : Int)]) (L + 1) (2 * X + b) := by
  have e : (strOfNums (l ++ [48 + (b : Int)])).data.toList = (strOfNums l).data.toList ++ [UInt8.ofNat (48 + b)] := by
    rw [strOfNums_data, strOfNums_data, List.map_append]
    have : (48 + (b : Int)).toNat = 48 + b := by omega
    simp [this]
  have hv : (UInt8.ofNat (48 + b)).toNat = 48 + b := by
    rw [UInt8.toNat_ofNat']; omega
  refine ⟨by simp [h.len], ⟨?_, ?_, ?_⟩⟩
  · rw [e]
    refine okL_append h.bt.ok ?_
    intro x hx
    simp only [List.mem_singleton] at hx
    subst hx; rw [hv]; omega
  · rw [strOfNums_size]; simp [h.len]
  · rw [e, numL_append, h.bt.num]
    have : numL [UInt8.ofNat (48 + b)] = b := by unfold numL; simp only [List.foldl_cons, List.foldl_nil]; rw [hv]; omega
    rw [this]; simp; omega
theorem tmod2 (n : Nat) : Int.tmod (n : Int) 2 = ((n % 2 : Nat) : Int) := by
  rw [Int.tmod_eq_emod_of_nonneg (by omega)]; omega
theorem byte_bit (n : Nat) : (48 + Int.tmod (n : Int) 2) % 256 = 48 + ((n % 2 : Nat) : Int) := by rw [tmod2]; omega
theorem Text_l0 (x : Nat) (hx : x < 18446744073709551616) : ∀ (d : Nat) (l : List Int) (L : Nat), d ≤ 64 → L ≤ 64 → L + d ≤ 64 → BN l L (x % 2 ^ (L + d) / 2 ^ d) →
    ∃ s, Ev (fun k => vernierref01_Text.l0 k (x : Int) l ((d : Int) - 1)) s ∧ BT s (L + d) (x % 2 ^ (L + d))
  | 0, l, L, _, _, _, h => by
    refine ⟨strOfNums l, ?_, by simpa using h.bt⟩
    refine evs ?_
    simp only [vernierref01_Text.l0]
    simp only [if_neg (show ¬ ((0 : Nat) : Int) - 1 ≥ 0 by omega)]
    exact Ev.now _
  | d + 1, l, L, hd, hL, hs, h => by
    have hb := BN.snoc h (x / 2 ^ d % 2) (Nat.mod_lt _ (by decide))
    have e : 2 * (x % 2 ^ (L + (d + 1)) / 2 ^ (d + 1)) + x / 2 ^ d % 2 = x % 2 ^ (L + 1 + d) / 2 ^ d := by
      rw [show L + (d + 1) = L + 1 + d by omega, Nat.pow_succ 2 d, ← Nat.div_div_eq_div_mul]
      have e1 : x % 2 ^ (L + 1 + d) / 2 ^ d % 2 = x / 2 ^ d % 2 := by
        rw [show L + 1 + d = d + (L + 1) by omega, Nat.pow_add, Nat.mod_mul_right_div_self, Nat.pow_succ, Nat.mod_mul_left_mod]
      omega
    rw [e] at hb
    obtain ⟨s, h1, h2⟩ := Text_l0 x hx d _ (L + 1) (by omega) (by omega) (by omega) hb
    refine ⟨s, ?_, by rw [show L + (d + 1) = L + 1 + d by omega]; exact h2⟩
    refine evs ?_
    simp only [vernierref01_Text.l0]
    have ei : ((d + 1 : Nat) : Int) - 1 = (d : Int) := by omega
    rw [ei]
    have ew : wrap64 ((d : Int) - 1) = (d : Int) - 1 := w64 (by omega) (by omega)
    have hlen := h.len
    have esh := shr_nat x d (by omega)
    have eb := byte_bit (x / 2 ^ d)
    simp only [if_pos (show (d : Int) ≥ 0 by omega), if_pos (show (0 : Int) ≤ (d : Int) by omega), if_pos (show l.length < 140737488355328 by omega), ew, esh, eb]
    exact h1
theorem Text_eq (x n : Nat) (hx : x < 18446744073709551616) (hn : n ≤ 64) :
    ∃ s, Ev (fun k => vernierref01_Text.f k (x : Int) (n : Int)) s ∧ BT s n (x % 2 ^ n) := by
  have h0 : BN [] 0 (x % 2 ^ (0 + n) / 2 ^ n) := by
    rw [Nat.zero_add, Nat.div_eq_of_lt (Nat.mod_lt _ (two_pos n))]; exact BN.nil
  obtain ⟨s, h1, h2⟩ := Text_l0 x hx n [] 0 hn (by omega) (by omega) h0
  refine ⟨s, ?_, by rw [Nat.zero_add] at h2; exact h2⟩
  unfold vernierref01_Text.f
  rw [w64 (by omega) (by omega)]
  exact h1
end Go.Proofs.Ytfegofnplcmacaa.V
namespace Go.Proofs.Ytfegofnplcmacaa.PAll
open Go.RowKit Go.Proofs.YtfegofnplcmacaaW.PrintWords Go.Proofs.YtfegofnplcmacaaW.PrintLast Go.Proofs.YtfegofnplcmacaaW.PrintMore
attribute [local go_sem] max2_int min2_int max_two min_two max_three min_three max_four min_four
set_option linter.unusedVariables false
set_option linter.unusedSimpArgs false
def vernierref05_Power.l0 : Nat → Int → Int → Int → Option (Int)
  | 0, _, _, _ => none
  | k + 1, x0, x3, x4 => if x4 < x0 then (vernierref05_Power.l0 k x0 (IntKind.u64.wrap (2 * x3)) (wrap64 (x4 + 1))) else (some x3)
def vernierref05_Power.f (k : Nat) (a0 : Int) : Option (Int) := vernierref05_Power.l0 k a0 1 0
theorem vernierref05_Power.mono_l : ∀ k, (∀ y0 y1 y2, LeO (vernierref05_Power.l0 k y0 y1 y2) (vernierref05_Power.l0 (k + 1) y0 y1 y2))
  | 0 => fun _ _ _ r h => by simp [vernierref05_Power.l0] at h
  | k + 1 => by
    have ih0 := vernierref05_Power.mono_l k
    · intro y0 y1 y2
      unfold vernierref05_Power.l0
      repeat' first
      | (with_reducible exact ih0 _ _ _)
      | (with_reducible exact LeO.refl _)
      | (with_reducible exact LeO.none _)
      | (with_reducible refine LeO.ite ?_ ?_)
      | (with_reducible refine LeO.bind ?_ (fun _ => ?_))
      | exact ih0 _ _ _
      | exact LeO.none _
      | refine LeO.ite ?_ ?_
      | refine LeO.bind ?_ (fun _ => ?_)
theorem vernierref05_Power.mono : ∀ a0 k, LeO (vernierref05_Power.f k a0) (vernierref05_Power.f (k + 1) a0) := by
  intro a0 k
  have ih0 := vernierref05_Power.mono_l k
  unfold vernierref05_Power.f
  repeat' first
      | (with_reducible exact ih0 _ _ _)
      | (with_reducible exact LeO.refl _)
      | (with_reducible exact LeO.none _)
      | (with_reducible refine LeO.ite ?_ ?_)
      | (with_reducible refine LeO.bind ?_ (fun _ => ?_))
      | exact ih0 _ _ _
      | exact LeO.none _
      | refine LeO.ite ?_ ?_
      | refine LeO.bind ?_ (fun _ => ?_)
set_option maxHeartbeats 8000000 in
set_option maxRecDepth 100000 in
theorem vernierref05_Power.calls (k : Nat) (a0 : Int) (r : Int) (w : World) (h : vernierref05_Power.f k a0 = some r) :
    Calls Try.prog 26 #[.int .i64 a0] w fun e w' => e = .returned (.int .u64 r) ∧ Drawn0 w w' := by
  have H : (vernierref05_Power.l0 k a0 1 0) = some r := h
  clear h
  have H' := Aside0.mk H
  clear H
  go_enter Try.func26, Try.ntmps26
  go_wp2
  go_loopg [3, 4] k (fun kq v3 v4 w' => ∃ (x3_1 : Int) (x4_1 : Int), v3 = .int .u64 x3_1 ∧ v4 = .int .i64 x4_1 ∧ Aside0 (vernierref05_Power.l0 kq a0 x3_1 x4_1 = some r) ∧ Aside0 (kq ≤ k) ∧ Drawn0 w w')
  case atStart => exact ⟨(1), (0), (by first | rfl | (simp; done) | (simp [*]; done)), (by first | rfl | (simp; done) | (simp [*]; done)), H', ⟨Nat.le_refl _⟩, by repeat (first | exact Drawn0.refl _ | apply Drawn0.step)⟩
  case round =>
    clear H'
    obtain ⟨x3_1, x4_1, rfl, rfl, HA, HK1, ⟨m1, rfl⟩⟩ := hrel
    cases gk with
    | zero => exact absurd HA.out (by simp [vernierref05_Power.l0])
    | succ k1 =>
      have H := HA.out
      clear HA
      simp only [vernierref05_Power.l0] at H
      by_cases c2 : x4_1 < a0
      · rw [if_pos c2] at H
        have c2b0 : decide (x4_1 < a0) = true := decide_eq_true c2
        clear c2
        have H' := Aside0.mk H
        clear H
        go_wp2
        go_roundg k1
        case measure => have := HK1.out; omega
        case rel => exact ⟨(IntKind.u64.wrap (2 * x3_1)), (wrap64 (x4_1 + 1)), (by first | rfl | (simp; done) | (simp [*]; done)), (by first | rfl | (simp; done) | (simp [*]; done)), H', ⟨by have := HK1.out; omega⟩, by repeat (first | exact Drawn0.refl _ | apply Drawn0.step)⟩
      · rw [if_neg c2] at H
        have c2b0 : decide (x4_1 < a0) = false := decide_eq_false c2
        clear c2
        obtain rfl := Option.some.inj H
        go_wp2
        go_ret
        exact ⟨by first | rfl | (simp; done) | (simp [*]; done), by repeat (first | exact Drawn0.refl _ | apply Drawn0.step)⟩
end Go.Proofs.Ytfegofnplcmacaa.PAll
namespace Go.Proofs.Ytfegofnplcmacaa.PAll
open Go.RowKit Go.Proofs.YtfegofnplcmacaaW.PrintWords Go.Proofs.YtfegofnplcmacaaW.PrintLast Go.Proofs.YtfegofnplcmacaaW.PrintMore
attribute [local go_sem] max2_int min2_int max_two min_two max_three min_three max_four min_four
set_option linter.unusedVariables false
set_option linter.unusedSimpArgs false
def vernierref06_regime.f (a0 : Int) : Option (Int) := if (wrap64 (4 * (wrap64 (Int.tdiv a0 4)))) > a0 then (some (wrap64 ((wrap64 (Int.tdiv a0 4)) - 1))) else (some (wrap64 (Int.tdiv a0 4)))
set_option maxHeartbeats 8000000 in
set_option maxRecDepth 100000 in
theorem vernierref06_regime.calls (a0 : Int) (r : Int) (w : World) (h : vernierref06_regime.f a0 = some r) :
    Calls Try.prog 56 #[.int .i64 a0] w fun e w' => e = .returned (.int .i64 r) ∧ Drawn0 w w' := by
  have H : (if (wrap64 (4 * (wrap64 (Int.tdiv a0 4)))) > a0 then (some (wrap64 ((wrap64 (Int.tdiv a0 4)) - 1))) else (some (wrap64 (Int.tdiv a0 4)))) = some r := h
  clear h
  by_cases c2 : (wrap64 (4 * (wrap64 (Int.tdiv a0 4)))) > a0
  · rw [if_pos c2] at H
    have c2b0 : decide (a0 < (wrap64 (4 * (wrap64 (Int.tdiv a0 4))))) = true := decide_eq_true c2
    clear c2
    obtain rfl := Option.some.inj H
    go_enter Try.func56, Try.ntmps56
    go_wp2
    go_ret
    exact ⟨by first | rfl | (simp; done) | (simp [*]; done), by repeat (first | exact Drawn0.refl _ | apply Drawn0.step)⟩
  · rw [if_neg c2] at H
    have c2b0 : decide (a0 < (wrap64 (4 * (wrap64 (Int.tdiv a0 4))))) = false := decide_eq_false c2
    clear c2
    obtain rfl := Option.some.inj H
    go_enter Try.func56, Try.ntmps56
    go_wp2
    go_ret
    exact ⟨by first | rfl | (simp; done) | (simp [*]; done), by repeat (first | exact Drawn0.refl _ | apply Drawn0.step)⟩
end Go.Proofs.Ytfegofnplcmacaa.PAll
namespace Go.Proofs.Ytfegofnplcmacaa.PAll
open Go.RowKit Go.Proofs.YtfegofnplcmacaaW.PrintWords Go.Proofs.YtfegofnplcmacaaW.PrintLast Go.Proofs.YtfegofnplcmacaaW.PrintMore
attribute [local go_sem] max2_int min2_int max_two min_two max_three min_three max_four min_four
set_option linter.unusedVariables false
set_option linter.unusedSimpArgs false
mutual
def vernierref06_Head.l0 : Nat → Int → Int → List Int → Int → Option (ByteArray)
  | 0, _, _, _, _ => none
  | k + 1, x0, x3, x4, x5 => if x5 ≤ x3 then (if x4.length < 140737488355328 then (vernierref06_Head.l0 k x0 x3 (x4 ++ [49]) (wrap64 (x5 + 1))) else (none)) else (vernierref06_Head.l1 k x0 x3 x4 0)
def vernierref06_Head.l1 : Nat → Int → Int → List Int → Int → Option (ByteArray)
  | 0, _, _, _, _ => none
  | k + 1, x0, x3, x4, x6 => if x6 > x3 then (if x4.length < 140737488355328 then (vernierref06_Head.l1 k x0 x3 (x4 ++ [48]) (wrap64 (x6 - 1))) else (none)) else (if x3 ≥ 0 then (if x4.length < 140737488355328 then ((some (x4 ++ [48] : List Int)).bind fun y210 => ((vernierref01_Text.f k (IntKind.u64.wrap (wrap64 (x0 - (wrap64 (4 * x3))))) 2).bind fun t213 => (if (strOfNums y210).size + t213.size ≤ 9223372036854775807 then (some ((strOfNums y210) ++ t213)) else (none)))) else (none)) else (if x4.length < 140737488355328 then ((some (x4 ++ [49] : List Int)).bind fun y214 => ((vernierref01_Text.f k (IntKind.u64.wrap (wrap64 (x0 - (wrap64 (4 * x3))))) 2).bind fun t217 => (if (strOfNums y214).size + t217.size ≤ 9223372036854775807 then (some ((strOfNums y214) ++ t217)) else (none)))) else (none)))
end
def vernierref06_Head.f (k : Nat) (a0 : Int) : Option (ByteArray) := (vernierref06_regime.f a0).bind fun t203 => (vernierref06_Head.l0 k a0 t203 ([] : List Int) 0)
theorem vernierref06_Head.mono_l : ∀ k, (∀ y0 y1 y2 y3, LeO (vernierref06_Head.l0 k y0 y1 y2 y3) (vernierref06_Head.l0 (k + 1) y0 y1 y2 y3)) ∧ (∀ y0 y1 y2 y3, LeO (vernierref06_Head.l1 k y0 y1 y2 y3) (vernierref06_Head.l1 (k + 1) y0 y1 y2 y3))
  | 0 => ⟨fun _ _ _ _ r h => by simp [vernierref06_Head.l0] at h, fun _ _ _ _ r h => by simp [vernierref06_Head.l1] at h⟩
  | k + 1 => by
    obtain ⟨ih0, ih1⟩ := vernierref06_Head.mono_l k
    refine ⟨?_, ?_⟩
    · intro y0 y1 y2 y3
      unfold vernierref06_Head.l0
      repeat' first
      | (with_reducible exact ih0 _ _ _ _)
      | (with_reducible exact ih1 _ _ _ _)
      | (with_reducible exact vernierref01_Text.mono _ _ _)
      | (with_reducible exact LeO.refl _)
      | (with_reducible exact LeO.none _)
      | (with_reducible refine LeO.ite ?_ ?_)
      | (with_reducible refine LeO.bind ?_ (fun _ => ?_))
      | exact ih0 _ _ _ _
      | exact ih1 _ _ _ _
      | exact vernierref01_Text.mono _ _ _
      | exact LeO.none _
      | refine LeO.ite ?_ ?_
      | refine LeO.bind ?_ (fun _ => ?_)
    · intro y0 y1 y2 y3
      unfold vernierref06_Head.l1
      repeat' first
      | (with_reducible exact ih0 _ _ _ _)
      | (with_reducible exact ih1 _ _ _ _)
      | (with_reducible exact vernierref01_Text.mono _ _ _)
      | (with_reducible exact LeO.refl _)
      | (with_reducible exact LeO.none _)
      | (with_reducible refine LeO.ite ?_ ?_)
      | (with_reducible refine LeO.bind ?_ (fun _ => ?_))
      | exact ih0 _ _ _ _
      | exact ih1 _ _ _ _
      | exact vernierref01_Text.mono _ _ _
      | exact LeO.none _
      | refine LeO.ite ?_ ?_
      | refine LeO.bind ?_ (fun _ => ?_)
theorem vernierref06_Head.mono : ∀ a0 k, LeO (vernierref06_Head.f k a0) (vernierref06_Head.f (k + 1) a0) := by
  intro a0 k
  obtain ⟨ih0, ih1⟩ := vernierref06_Head.mono_l k
  unfold vernierref06_Head.f
  repeat' first
      | (with_reducible exact ih0 _ _ _ _)
      | (with_reducible exact ih1 _ _ _ _)
      | (with_reducible exact vernierref01_Text.mono _ _ _)
      | (with_reducible exact LeO.refl _)
      | (with_reducible exact LeO.none _)
      | (with_reducible refine LeO.ite ?_ ?_)
      | (with_reducible refine LeO.bind ?_ (fun _ => ?_))
      | exact ih0 _ _ _ _
      | exact ih1 _ _ _ _
      | exact vernierref01_Text.mono _ _ _
      | exact LeO.none _
      | refine LeO.ite ?_ ?_
      | refine LeO.bind ?_ (fun _ => ?_)
def vernierref06_Head.T14 : Bool × List (List Nat × List Nat) := (true, [([], []), ([0], [0]), ([], []), ([], []), ([3], [3]), ([2, 4], [2, 4]), ([5], [5]), ([6], [6]), ([1, 7], [1, 7]), ([8, 7, 0, 1, 2, 3, 4, 5, 6, 7, 8], [8])])
def vernierref06_Head.B14 : List Nat := [0, 1, 0, 0, 8, 28, 60, 124, 255, 511]
theorem vernierref06_Head.tab14 : rtab .any (opsOf Try.f34 14) = vernierref06_Head.T14 := by kernel_rfl
theorem vernierref06_Head.bits14 : waitsOk vernierref06_Head.T14.2 vernierref06_Head.B14 = true := by kernel_rfl
set_option maxHeartbeats 8000000 in
set_option maxRecDepth 100000 in
theorem vernierref06_Head.calls (k : Nat) (a0 : Int) (r : ByteArray) (w : World) (h : vernierref06_Head.f k a0 = some r) :
    Calls Try.prog 34 #[.int .i64 a0] w fun e w' => e = .returned (.string r) ∧ Below w.heap.size w w' := by
  have HB := Aside0.mk (Below.refl w.heap.size w)
  have H : ((vernierref06_regime.f a0).bind fun t203 => (vernierref06_Head.l0 k a0 t203 ([] : List Int) 0)) = some r := h
  clear h
  replace H := Option.bind_eq_some_iff.mp H
  obtain ⟨t203, A20, H⟩ := H
  replace H : (vernierref06_Head.l0 k a0 t203 ([] : List Int) 0) = some r := H
  have A2 := Aside0.mk A20
  clear A20
  have H' := Aside0.mk H
  clear H
  go_enter Try.func34, Try.ntmps34
  go_wp2_with (first | ((with_reducible refine gate_callee (f := 56) rfl ?_); refine goesL_ (some 8) rfl rfl Try.func56 (by kernel_rfl) rfl #[.int .i64 a0] rfl (by (try simp only [List.map_toArray, List.map_cons, List.map_nil]); first | done | rfl | (simp only [List.length_drop, List.length_take]; rfl)) ?_; (with_reducible refine (vernierref06_regime.calls a0 t203 _ A2.out).mono ?_); rintro e w' ⟨rfl, ⟨nd, rfl⟩⟩; refine ⟨_, rfl, ?_⟩))
  go_loopg [4, 5] k (fun kq v4 v5 w' => ∃ (x4_1 : List Int) (x5_1 : Int), v5 = .int .i64 x5_1 ∧ Aside0 (vernierref06_Head.l0 kq a0 t203 x4_1 x5_1 = some r) ∧ Aside0 (kq ≤ k) ∧ Aside0 (Kd.R (Kd.int .u8) 5 w' w.heap.size (fun _ => True) v4 x4_1) ∧ Aside0 (Below w.heap.size w w'))
  case atStart => exact ⟨(([] : List Int)), (0), (by first | rfl | (simp; done) | (simp [*]; done)), H', ⟨Nat.le_refl _⟩, ⟨by first | exact Kd.R_nil _ _ _ _ _ | exact Kd.N_nil _ _ _ _ _ | exact Kd.V_nil _ _ _ _ _ | exact Kd.Q_nil _ _ _ _ _ | exact Kd.S_nil _ _ _ _ _⟩, ⟨by repeat (first | (with_reducible first | exact HB.out | apply below_alloc | apply pw_below_drewN | apply below_drew1) | exact HB.out)⟩⟩
  case round =>
    clear H'
    try clear p2
    obtain ⟨x4_1, x5_1, rfl, HA, HK1, HO_4, HB⟩ := hrel
    cases gk with
    | zero => exact absurd HA.out (by simp [vernierref06_Head.l0])
    | succ k1 =>
      have H := HA.out
      clear HA
      simp only [vernierref06_Head.l0] at H
      by_cases c3 : x5_1 ≤ t203
      · rw [if_pos c3] at H
        have c3b0 : decide (x5_1 ≤ t203) = true := decide_eq_true c3
        clear c3
        by_cases c4 : x4_1.length < 140737488355328
        · rw [if_pos c4] at H
          have LMc4 := Aside0.mk c4
          clear c4
          obtain ⟨y204, hy204⟩ : ∃ y_ : List Int, y_ = (x4_1 ++ [49]) := ⟨_, rfl⟩
          replace H : (vernierref06_Head.l0 k1 a0 t203 y204 (wrap64 (x5_1 + 1))) = some r := by first | (rw [hy204]; with_reducible exact H) | (have H2_ := (Option.bind_some _ _).symm.trans H; rw [hy204]; with_reducible exact H2_) | (have H2_ := (Option.bind_some _ _).symm.trans H; with_reducible exact H2_) | with_reducible exact H | (rw [hy204]; exact H) | exact H
          have Ny204 := Aside0.mk hy204
          clear hy204
          have H' := Aside0.mk H
          clear H
          go_wp2_with (first | ((with_reducible refine gate_builtin (b := .append) (xs := #[.tmp 14, .tmp 15]) rfl ?_); at_builtin; refine Kd.R_append (Kd.int .u8) (w0 := w) w.heap.size rfl (.tmp 14) (.tmp 15) 97 5 (.int .u8 0) 1 rfl Try.underlying97 info5 rfl (by decide) (by omega) u4 x4_1 49 [.int .u8 49] (fun _ => True) (fun _ => False) rfl rfl ?aP (fun _ hk => hk.elim) ?aF ?aO ?aB ?aS ?aL ?_; (case aP => exact rfl); (case aB => exact (by repeat (first | (with_reducible first | exact HB.out | apply below_alloc | apply pw_below_drewN | apply below_drew1) | exact HB.out))); (case aF => exact (fun _ _ => trivial)); (case aO => exact (by (with_reducible repeat (first | apply Kd.R_alloc | apply Kd.R_drewN | apply Kd.R_drew)); exact HO_4.out)); (case aS => exact (below_size (by repeat (first | (with_reducible first | exact HB.out | apply below_alloc | apply pw_below_drewN | apply below_drew1) | exact HB.out)))); (case aL => have := LMc4.out; omega); intro v205 w5 ho hb hg hat; rw [← Ny204.out] at ho; have n0_ := Aside0.mk (hb); have n1_ := Aside0.mk (ho); clear HB; clear HO_4; have HB := n0_; have HO206 := n1_; clear n0_ n1_; clear ho hb hg hat))
          go_roundg k1
          case measure => have := HK1.out; omega
          case rel => exact ⟨(y204), (wrap64 (x5_1 + 1)), (by first | rfl | (simp; done) | (simp [*]; done)), H', ⟨by have := HK1.out; omega⟩, ⟨by (with_reducible repeat (first | apply Kd.R_alloc | apply Kd.R_drewN | apply Kd.R_drew)); exact HO206.out⟩, ⟨by repeat (first | (with_reducible first | exact HB.out | apply below_alloc | apply pw_below_drewN | apply below_drew1) | exact HB.out)⟩⟩
        · rw [if_neg c4] at H
          exact absurd H (by simp)
      · rw [if_neg c3] at H
        have c3b0 : decide (x5_1 ≤ t203) = false := decide_eq_false c3
        clear c3
        have H' := Aside0.mk H
        clear H
        go_wp2
        go_loopg [4, 6] k1 (fun kq v4 v6 w' => ∃ (x4_2 : List Int) (x6_2 : Int), v6 = .int .i64 x6_2 ∧ Aside0 (vernierref06_Head.l1 kq a0 t203 x4_2 x6_2 = some r) ∧ Aside0 (kq ≤ k1) ∧ Aside0 (Kd.R (Kd.int .u8) 5 w' w.heap.size (fun _ => True) v4 x4_2) ∧ Aside0 (Below w.heap.size w w'))
        case atStart => exact ⟨(x4_1), (0), (by first | rfl | (simp; done) | (simp [*]; done)), H', ⟨Nat.le_refl _⟩, ⟨by (with_reducible repeat (first | apply Kd.R_alloc | apply Kd.R_drewN | apply Kd.R_drew)); exact HO_4.out⟩, ⟨by repeat (first | (with_reducible first | exact HB.out | apply below_alloc | apply pw_below_drewN | apply below_drew1) | exact HB.out)⟩⟩
        case round =>
          clear H'
          try clear p2
          try clear c3
          try clear c3b0
          try clear c4
          try clear c5
          try clear p2
          obtain ⟨x4_2, x6_2, rfl, HA, HK2, HO_4, HB⟩ := hrel
          cases gk with
          | zero => exact absurd HA.out (by simp [vernierref06_Head.l1])
          | succ k2 =>
            have H := HA.out
            clear HA
            simp only [vernierref06_Head.l1] at H
            by_cases c6 : x6_2 > t203
            · rw [if_pos c6] at H
              have c6b0 : decide (t203 < x6_2) = true := decide_eq_true c6
              clear c6
              by_cases c7 : x4_2.length < 140737488355328
              · rw [if_pos c7] at H
                have LMc7 := Aside0.mk c7
                clear c7
                obtain ⟨y207, hy207⟩ : ∃ y_ : List Int, y_ = (x4_2 ++ [48]) := ⟨_, rfl⟩
                replace H : (vernierref06_Head.l1 k2 a0 t203 y207 (wrap64 (x6_2 - 1))) = some r := by first | (rw [hy207]; with_reducible exact H) | (have H2_ := (Option.bind_some _ _).symm.trans H; rw [hy207]; with_reducible exact H2_) | (have H2_ := (Option.bind_some _ _).symm.trans H; with_reducible exact H2_) | with_reducible exact H | (rw [hy207]; exact H) | exact H
                have Ny207 := Aside0.mk hy207
                clear hy207
                have H' := Aside0.mk H
                clear H
                go_wp2_with (first | ((with_reducible refine gate_builtin (b := .append) (xs := #[.tmp 22, .tmp 23]) rfl ?_); at_builtin; refine Kd.R_append (Kd.int .u8) (w0 := w) w.heap.size rfl (.tmp 22) (.tmp 23) 97 5 (.int .u8 0) 1 rfl Try.underlying97 info5 rfl (by decide) (by omega) u4 x4_2 48 [.int .u8 48] (fun _ => True) (fun _ => False) rfl rfl ?aP (fun _ hk => hk.elim) ?aF ?aO ?aB ?aS ?aL ?_; (case aP => exact rfl); (case aB => exact (by repeat (first | (with_reducible first | exact HB.out | apply below_alloc | apply pw_below_drewN | apply below_drew1) | exact HB.out))); (case aF => exact (fun _ _ => trivial)); (case aO => exact (by (with_reducible repeat (first | apply Kd.R_alloc | apply Kd.R_drewN | apply Kd.R_drew)); exact HO_4.out)); (case aS => exact (below_size (by repeat (first | (with_reducible first | exact HB.out | apply below_alloc | apply pw_below_drewN | apply below_drew1) | exact HB.out)))); (case aL => have := LMc7.out; omega); intro v208 w8 ho hb hg hat; rw [← Ny207.out] at ho; have n0_ := Aside0.mk (hb); have n1_ := Aside0.mk (ho); clear HB; clear HO_4; have HB := n0_; have HO209 := n1_; clear n0_ n1_; clear ho hb hg hat))
                go_roundg k2
                case measure => have := HK1.out; have := HK2.out; omega
                case rel => exact ⟨(y207), (wrap64 (x6_2 - 1)), (by first | rfl | (simp; done) | (simp [*]; done)), H', ⟨by have := HK1.out; have := HK2.out; omega⟩, ⟨by (with_reducible repeat (first | apply Kd.R_alloc | apply Kd.R_drewN | apply Kd.R_drew)); exact HO209.out⟩, ⟨by repeat (first | (with_reducible first | exact HB.out | apply below_alloc | apply pw_below_drewN | apply below_drew1) | exact HB.out)⟩⟩
              · rw [if_neg c7] at H
                exact absurd H (by simp)
            · rw [if_neg c6] at H
              have c6b0 : decide (t203 < x6_2) = false := decide_eq_false c6
              clear c6
              by_cases c9 : t203 ≥ 0
              · rw [if_pos c9] at H
                have c9b0 : decide (0 ≤ t203) = true := decide_eq_true c9
                clear c9
                by_cases c10 : x4_2.length < 140737488355328
                · rw [if_pos c10] at H
                  have LMc10 := Aside0.mk c10
                  clear c10
                  obtain ⟨y210, hy210⟩ : ∃ y_ : List Int, y_ = (x4_2 ++ [48]) := ⟨_, rfl⟩
                  replace H : ((vernierref01_Text.f k2 (IntKind.u64.wrap (wrap64 (a0 - (wrap64 (4 * t203))))) 2).bind fun t213 => (if (strOfNums y210).size + t213.size ≤ 9223372036854775807 then (some ((strOfNums y210) ++ t213)) else (none))) = some r := by first | (rw [hy210]; with_reducible exact H) | (have H2_ := (Option.bind_some _ _).symm.trans H; rw [hy210]; with_reducible exact H2_) | (have H2_ := (Option.bind_some _ _).symm.trans H; with_reducible exact H2_) | with_reducible exact H | (rw [hy210]; exact H) | exact H
                  have Ny210 := Aside0.mk hy210
                  clear hy210
                  replace H := Option.bind_eq_some_iff.mp H
                  obtain ⟨t213, A110, H⟩ := H
                  replace H : (if (strOfNums y210).size + t213.size ≤ 9223372036854775807 then (some ((strOfNums y210) ++ t213)) else (none)) = some r := H
                  have A11 := Aside0.mk A110
                  clear A110
                  by_cases c12 : (strOfNums y210).size + t213.size ≤ 9223372036854775807
                  · rw [if_pos c12] at H
                    have c12b0 := eq_true c12
                    have c12b1 : decide ((strOfNums y210).size + t213.size ≤ 9223372036854775807) = true := decide_eq_true c12
                    try have c12b2 : (9223372036854775807 < (strOfNums y210).size + t213.size) = False := eq_false (Nat.not_lt.2 c12)
                    obtain rfl := Option.some.inj H
                    try go_wp2_with (first | ((with_reducible refine gate_builtin (b := .append) (xs := #[.tmp 27, .tmp 28]) rfl ?_); at_builtin; refine Kd.R_append (Kd.int .u8) (w0 := w) w.heap.size rfl (.tmp 27) (.tmp 28) 97 5 (.int .u8 0) 1 rfl Try.underlying97 info5 rfl (by decide) (by omega) u4 x4_2 48 [.int .u8 48] (fun _ => True) (fun _ => False) rfl rfl ?aP (fun _ hk => hk.elim) ?aF ?aO ?aB ?aS ?aL ?_; (case aP => exact rfl); (case aB => exact (by repeat (first | (with_reducible first | exact HB.out | apply below_alloc | apply pw_below_drewN | apply below_drew1) | exact HB.out))); (case aF => exact (fun _ _ => trivial)); (case aO => exact (by (with_reducible repeat (first | apply Kd.R_alloc | apply Kd.R_drewN | apply Kd.R_drew)); exact HO_4.out)); (case aS => exact (below_size (by repeat (first | (with_reducible first | exact HB.out | apply below_alloc | apply pw_below_drewN | apply below_drew1) | exact HB.out)))); (case aL => have := LMc10.out; omega); intro v211 w13 ho hb hg hat; rw [← Ny210.out] at ho; have n0_ := Aside0.mk (hb); have n1_ := Aside0.mk (ho); clear HB; clear HO_4; have HB := n0_; have HO212 := n1_; clear n0_ n1_; clear ho hb hg hat))
                    have n0_ := Aside0.mk (Kd.R_drew HO212.out)
                    have n1_ := Aside0.mk (below_drew1 HB.out)
                    clear HO212
                    clear HB
                    have HO212 := n0_
                    have HB := n1_
                    clear n0_ n1_
                    refine start_ (n := 10) (S := fun w' => (convert 97 9 v211).run Try.prog w' = .ok (.string (strOfNums y210)) w') (ds := []) #[false, false, false, false, false, false, false, false, false, false] (by kernel_rfl) rfl rfl (own_string (P := Try.prog) Try.underlying97 Try.underlying5 Try.underlying9 (Kd.own_of_R HO212.out)) (fun hHeld => ?_); refine with_tabW vernierref06_Head.tab14 vernierref06_Head.bits14 (fun HT_ HW_ => ?_)
                    generalize w13.drew = w14 at HO212 HB hHeld ⊢
                    refine pure_ (i := 0) (N := some 33) (v := ?_) (a' := ?_) #[true, false, false, false, false, false, false, false, false, false] rfl rfl (any_of HT_.out (by kernel_rfl)) (fun _ _ _ h => h) (Or.inl ⟨by rfl, ?_⟩) ?_ ?_
                    rotate_left
                    · intro w'
                      go_simp
                      with_reducible rfl
                    rotate_left
                    · simp only [Act.put, List.setIfInBounds_toArray, List.set_cons_zero, List.set_cons_succ, i64_w, i32_w]
                      rfl
                    refine take_ (i := 1) (N := some 34) (v := ?_) (a' := ?_) #[true, true, false, false, false, false, false, false, false, false] rfl rfl (take_ofW HT_.out HW_.out (by kernel_rfl)) (fun _ _ _ h => h) (Or.inl ⟨by rfl, ?_⟩) hHeld ?_ ?_
                    rotate_left
                    · intro w' s0
                      go_simp
                      with_reducible rfl
                    rotate_left
                    · simp only [Act.put, List.setIfInBounds_toArray, List.set_cons_zero, List.set_cons_succ, i64_w, i32_w]
                      rfl
                    refine pure_ (i := 2) (N := some 35) (v := ?_) (a' := ?_) #[true, true, true, false, false, false, false, false, false, false] rfl rfl (any_of HT_.out (by kernel_rfl)) (fun _ _ _ h => h) (Or.inl ⟨by rfl, ?_⟩) ?_ ?_
                    rotate_left
                    · intro w'
                      go_simp
                      with_reducible rfl
                    rotate_left
                    · simp only [Act.put, List.setIfInBounds_toArray, List.set_cons_zero, List.set_cons_succ, i64_w, i32_w]
                      rfl
                    refine pure_ (i := 3) (N := some 36) (v := ?_) (a' := ?_) #[true, true, true, true, false, false, false, false, false, false] rfl rfl (any_of HT_.out (by kernel_rfl)) (fun _ _ _ h => h) (Or.inl ⟨by rfl, ?_⟩) ?_ ?_
                    rotate_left
                    · intro w'
                      go_simp
                      with_reducible rfl
                    rotate_left
                    · simp only [Act.put, List.setIfInBounds_toArray, List.set_cons_zero, List.set_cons_succ, i64_w, i32_w]
                      rfl
                    refine pure_ (i := 4) (N := some 37) (v := ?_) (a' := ?_) #[true, true, true, true, true, false, false, false, false, false] rfl rfl (any_of HT_.out (by kernel_rfl)) (fun _ _ _ h => h) (Or.inl ⟨by rfl, ?_⟩) ?_ ?_
                    rotate_left
                    · intro w'
                      go_simp
                      with_reducible rfl
                    rotate_left
                    · simp only [Act.put, List.setIfInBounds_toArray, List.set_cons_zero, List.set_cons_succ, i64_w, i32_w]
                      rfl
                    refine pure_ (i := 5) (N := some 38) (v := ?_) (a' := ?_) #[true, true, true, true, true, true, false, false, false, false] rfl rfl (any_of HT_.out (by kernel_rfl)) (fun _ _ _ h => h) (Or.inl ⟨by rfl, ?_⟩) ?_ ?_
                    rotate_left
                    · intro w'
                      go_simp
                      with_reducible rfl
                    rotate_left
                    · simp only [Act.put, List.setIfInBounds_toArray, List.set_cons_zero, List.set_cons_succ, i64_w, i32_w]
                      rfl
                    refine pure_ (i := 6) (N := some 39) (v := ?_) (a' := ?_) #[true, true, true, true, true, true, true, false, false, false] rfl rfl (any_of HT_.out (by kernel_rfl)) (fun _ _ _ h => h) (Or.inl ⟨by rfl, ?_⟩) ?_ ?_
                    rotate_left
                    · intro w'
                      go_simp
                      with_reducible rfl
                    rotate_left
                    · simp only [Act.put, List.setIfInBounds_toArray, List.set_cons_zero, List.set_cons_succ, i64_w, i32_w]
                      rfl
                    refine one_ (i := 7) (N := some 40) #[true, true, true, true, true, true, true, true, false, false] rfl rfl (one_of HT_.out (by kernel_rfl)) (by decide) (fun K hK => ?_)
                    refine goes_ Try.func32 (by kernel_rfl) rfl #[.int .u64 (IntKind.u64.wrap (wrap64 (a0 - (wrap64 (4 * t203))))), .int .i64 2] (by rfl) rfl rfl (by (try simp only [List.map_toArray, List.map_cons, List.map_nil]); first | done | rfl | (simp only [List.length_drop, List.length_take]; rfl)) ?_
                    with_reducible refine (vernierref01_Text.calls k2 (IntKind.u64.wrap (wrap64 (a0 - (wrap64 (4 * t203))))) 2 t213 _ A11.out).mono ?_
                    rintro e w16 ⟨rfl, hb⟩
                    refine ⟨_, rfl, ?_⟩
                    have n0_ := Aside0.mk (Kd.R_below (by (with_reducible repeat (first | apply Kd.R_alloc | apply Kd.R_drewN | apply Kd.R_drew)); exact HO212.out) hb)
                    have n1_ := Aside0.mk (below_step (by repeat (first | (with_reducible first | exact HB.out | apply below_alloc | apply pw_below_drewN | apply below_drew1) | exact HB.out)) hb)
                    clear HO212
                    clear HB
                    have HO212 := n0_
                    have HB := n1_
                    clear n0_ n1_
                    (try clear hb)
                    (try clear hb2)
                    (try clear hk)
                    (try clear hi)
                    refine hK.out _ _ (own_string (P := Try.prog) Try.underlying97 Try.underlying5 Try.underlying9 (Kd.own_of_R HO212.out)) (fun hHeld => ?_)
                    clear hK K
                    refine norm_ (a' := ?_) ?_ ?_
                    rotate_left
                    · show Act.put _ (some 40) _ = _
                      simp only [Act.put, List.setIfInBounds_toArray, List.set_cons_zero, List.set_cons_succ, i64_w, i32_w]
                      rfl
                    refine pure_ (i := 8) (N := some 41) (v := ?_) (a' := ?_) #[true, true, true, true, true, true, true, true, true, false] rfl rfl (any_of HT_.out (by kernel_rfl)) (fun _ _ _ h => h) (Or.inl ⟨by rfl, ?_⟩) ?_ ?_
                    rotate_left
                    · intro w'
                      go_simp
                      with_reducible rfl
                    rotate_left
                    · simp only [Act.put, List.setIfInBounds_toArray, List.set_cons_zero, List.set_cons_succ, i64_w, i32_w]
                      rfl
                    refine pure_ (i := 9) (N := some 2) (v := ?_) (a' := ?_) #[true, true, true, true, true, true, true, true, true, true] rfl rfl (any_of HT_.out (by kernel_rfl)) (fun _ _ _ h => h) (Or.inl ⟨by rfl, ?_⟩) ?_ ?_
                    rotate_left
                    · intro w'
                      go_simp
                      with_reducible rfl
                    rotate_left
                    · simp only [Act.put, List.setIfInBounds_toArray, List.set_cons_zero, List.set_cons_succ, i64_w, i32_w]
                      rfl
                    refine done_ (done_of HT_.out (by kernel_rfl)) ?_
                    try go_wp2
                    go_ret
                    exact ⟨by first | rfl | (simp [errW_none, errW_some] <;> rfl) | (simp [*, errW_none, errW_some] <;> rfl), by repeat (first | (with_reducible first | exact HB.out | apply below_alloc | apply pw_below_drewN | apply below_drew1) | exact HB.out)⟩
                  · rw [if_neg c12] at H
                    exact absurd H (by simp)
                · rw [if_neg c10] at H
                  exact absurd H (by simp)
              · rw [if_neg c9] at H
                have c9b0 : decide (0 ≤ t203) = false := decide_eq_false c9
                clear c9
                by_cases c18 : x4_2.length < 140737488355328
                · rw [if_pos c18] at H
                  have LMc18 := Aside0.mk c18
                  clear c18
                  obtain ⟨y214, hy214⟩ : ∃ y_ : List Int, y_ = (x4_2 ++ [49]) := ⟨_, rfl⟩
                  replace H : ((vernierref01_Text.f k2 (IntKind.u64.wrap (wrap64 (a0 - (wrap64 (4 * t203))))) 2).bind fun t217 => (if (strOfNums y214).size + t217.size ≤ 9223372036854775807 then (some ((strOfNums y214) ++ t217)) else (none))) = some r := by first | (rw [hy214]; with_reducible exact H) | (have H2_ := (Option.bind_some _ _).symm.trans H; rw [hy214]; with_reducible exact H2_) | (have H2_ := (Option.bind_some _ _).symm.trans H; with_reducible exact H2_) | with_reducible exact H | (rw [hy214]; exact H) | exact H
                  have Ny214 := Aside0.mk hy214
                  clear hy214
                  replace H := Option.bind_eq_some_iff.mp H
                  obtain ⟨t217, A190, H⟩ := H
                  replace H : (if (strOfNums y214).size + t217.size ≤ 9223372036854775807 then (some ((strOfNums y214) ++ t217)) else (none)) = some r := H
                  have A19 := Aside0.mk A190
                  clear A190
                  by_cases c20 : (strOfNums y214).size + t217.size ≤ 9223372036854775807
                  · rw [if_pos c20] at H
                    have c20b0 := eq_true c20
                    have c20b1 : decide ((strOfNums y214).size + t217.size ≤ 9223372036854775807) = true := decide_eq_true c20
                    try have c20b2 : (9223372036854775807 < (strOfNums y214).size + t217.size) = False := eq_false (Nat.not_lt.2 c20)
                    obtain rfl := Option.some.inj H
                    try go_wp2_with (first | ((with_reducible refine gate_builtin (b := .append) (xs := #[.tmp 30, .tmp 31]) rfl ?_); at_builtin; refine Kd.R_append (Kd.int .u8) (w0 := w) w.heap.size rfl (.tmp 30) (.tmp 31) 97 5 (.int .u8 0) 1 rfl Try.underlying97 info5 rfl (by decide) (by omega) u4 x4_2 49 [.int .u8 49] (fun _ => True) (fun _ => False) rfl rfl ?aP (fun _ hk => hk.elim) ?aF ?aO ?aB ?aS ?aL ?_; (case aP => exact rfl); (case aB => exact (by repeat (first | (with_reducible first | exact HB.out | apply below_alloc | apply pw_below_drewN | apply below_drew1) | exact HB.out))); (case aF => exact (fun _ _ => trivial)); (case aO => exact (by (with_reducible repeat (first | apply Kd.R_alloc | apply Kd.R_drewN | apply Kd.R_drew)); exact HO_4.out)); (case aS => exact (below_size (by repeat (first | (with_reducible first | exact HB.out | apply below_alloc | apply pw_below_drewN | apply below_drew1) | exact HB.out)))); (case aL => have := LMc18.out; omega); intro v215 w21 ho hb hg hat; rw [← Ny214.out] at ho; have n0_ := Aside0.mk (hb); have n1_ := Aside0.mk (ho); clear HB; clear HO_4; have HB := n0_; have HO216 := n1_; clear n0_ n1_; clear ho hb hg hat))
                    have n0_ := Aside0.mk (Kd.R_drew HO216.out)
                    have n1_ := Aside0.mk (below_drew1 HB.out)
                    clear HO216
                    clear HB
                    have HO216 := n0_
                    have HB := n1_
                    clear n0_ n1_
                    refine start_ (n := 10) (S := fun w' => (convert 97 9 v215).run Try.prog w' = .ok (.string (strOfNums y214)) w') (ds := []) #[false, false, false, false, false, false, false, false, false, false] (by kernel_rfl) rfl rfl (own_string (P := Try.prog) Try.underlying97 Try.underlying5 Try.underlying9 (Kd.own_of_R HO216.out)) (fun hHeld => ?_); refine with_tabW vernierref06_Head.tab14 vernierref06_Head.bits14 (fun HT_ HW_ => ?_)
                    generalize w21.drew = w22 at HO216 HB hHeld ⊢
                    refine pure_ (i := 0) (N := some 33) (v := ?_) (a' := ?_) #[true, false, false, false, false, false, false, false, false, false] rfl rfl (any_of HT_.out (by kernel_rfl)) (fun _ _ _ h => h) (Or.inl ⟨by rfl, ?_⟩) ?_ ?_
                    rotate_left
                    · intro w'
                      go_simp
                      with_reducible rfl
                    rotate_left
                    · simp only [Act.put, List.setIfInBounds_toArray, List.set_cons_zero, List.set_cons_succ, i64_w, i32_w]
                      rfl
                    refine take_ (i := 1) (N := some 34) (v := ?_) (a' := ?_) #[true, true, false, false, false, false, false, false, false, false] rfl rfl (take_ofW HT_.out HW_.out (by kernel_rfl)) (fun _ _ _ h => h) (Or.inl ⟨by rfl, ?_⟩) hHeld ?_ ?_
                    rotate_left
                    · intro w' s0
                      go_simp
                      with_reducible rfl
                    rotate_left
                    · simp only [Act.put, List.setIfInBounds_toArray, List.set_cons_zero, List.set_cons_succ, i64_w, i32_w]
                      rfl
                    refine pure_ (i := 2) (N := some 35) (v := ?_) (a' := ?_) #[true, true, true, false, false, false, false, false, false, false] rfl rfl (any_of HT_.out (by kernel_rfl)) (fun _ _ _ h => h) (Or.inl ⟨by rfl, ?_⟩) ?_ ?_
                    rotate_left
                    · intro w'
                      go_simp
                      with_reducible rfl
                    rotate_left
                    · simp only [Act.put, List.setIfInBounds_toArray, List.set_cons_zero, List.set_cons_succ, i64_w, i32_w]
                      rfl
                    refine pure_ (i := 3) (N := some 36) (v := ?_) (a' := ?_) #[true, true, true, true, false, false, false, false, false, false] rfl rfl (any_of HT_.out (by kernel_rfl)) (fun _ _ _ h => h) (Or.inl ⟨by rfl, ?_⟩) ?_ ?_
                    rotate_left
                    · intro w'
                      go_simp
                      with_reducible rfl
                    rotate_left
                    · simp only [Act.put, List.setIfInBounds_toArray, List.set_cons_zero, List.set_cons_succ, i64_w, i32_w]
                      rfl
                    refine pure_ (i := 4) (N := some 37) (v := ?_) (a' := ?_) #[true, true, true, true, true, false, false, false, false, false] rfl rfl (any_of HT_.out (by kernel_rfl)) (fun _ _ _ h => h) (Or.inl ⟨by rfl, ?_⟩) ?_ ?_
                    rotate_left
                    · intro w'
                      go_simp
                      with_reducible rfl
                    rotate_left
                    · simp only [Act.put, List.setIfInBounds_toArray, List.set_cons_zero, List.set_cons_succ, i64_w, i32_w]
                      rfl
                    refine pure_ (i := 5) (N := some 38) (v := ?_) (a' := ?_) #[true, true, true, true, true, true, false, false, false, false] rfl rfl (any_of HT_.out (by kernel_rfl)) (fun _ _ _ h => h) (Or.inl ⟨by rfl, ?_⟩) ?_ ?_
                    rotate_left
                    · intro w'
                      go_simp
                      with_reducible rfl
                    rotate_left
                    · simp only [Act.put, List.setIfInBounds_toArray, List.set_cons_zero, List.set_cons_succ, i64_w, i32_w]
                      rfl
                    refine pure_ (i := 6) (N := some 39) (v := ?_) (a' := ?_) #[true, true, true, true, true, true, true, false, false, false] rfl rfl (any_of HT_.out (by kernel_rfl)) (fun _ _ _ h => h) (Or.inl ⟨by rfl, ?_⟩) ?_ ?_
                    rotate_left
                    · intro w'
                      go_simp
                      with_reducible rfl
                    rotate_left
                    · simp only [Act.put, List.setIfInBounds_toArray, List.set_cons_zero, List.set_cons_succ, i64_w, i32_w]
                      rfl
                    refine one_ (i := 7) (N := some 40) #[true, true, true, true, true, true, true, true, false, false] rfl rfl (one_of HT_.out (by kernel_rfl)) (by decide) (fun K hK => ?_)
                    refine goes_ Try.func32 (by kernel_rfl) rfl #[.int .u64 (IntKind.u64.wrap (wrap64 (a0 - (wrap64 (4 * t203))))), .int .i64 2] (by rfl) rfl rfl (by (try simp only [List.map_toArray, List.map_cons, List.map_nil]); first | done | rfl | (simp only [List.length_drop, List.length_take]; rfl)) ?_
                    with_reducible refine (vernierref01_Text.calls k2 (IntKind.u64.wrap (wrap64 (a0 - (wrap64 (4 * t203))))) 2 t217 _ A19.out).mono ?_
                    rintro e w24 ⟨rfl, hb⟩
                    refine ⟨_, rfl, ?_⟩
                    have n0_ := Aside0.mk (Kd.R_below (by (with_reducible repeat (first | apply Kd.R_alloc | apply Kd.R_drewN | apply Kd.R_drew)); exact HO216.out) hb)
                    have n1_ := Aside0.mk (below_step (by repeat (first | (with_reducible first | exact HB.out | apply below_alloc | apply pw_below_drewN | apply below_drew1) | exact HB.out)) hb)
                    clear HO216
                    clear HB
                    have HO216 := n0_
                    have HB := n1_
                    clear n0_ n1_
                    (try clear hb)
                    (try clear hb2)
                    (try clear hk)
                    (try clear hi)
                    refine hK.out _ _ (own_string (P := Try.prog) Try.underlying97 Try.underlying5 Try.underlying9 (Kd.own_of_R HO216.out)) (fun hHeld => ?_)
                    clear hK K
                    refine norm_ (a' := ?_) ?_ ?_
                    rotate_left
                    · show Act.put _ (some 40) _ = _
                      simp only [Act.put, List.setIfInBounds_toArray, List.set_cons_zero, List.set_cons_succ, i64_w, i32_w]
                      rfl
                    refine pure_ (i := 8) (N := some 41) (v := ?_) (a' := ?_) #[true, true, true, true, true, true, true, true, true, false] rfl rfl (any_of HT_.out (by kernel_rfl)) (fun _ _ _ h => h) (Or.inl ⟨by rfl, ?_⟩) ?_ ?_
                    rotate_left
                    · intro w'
                      go_simp
                      with_reducible rfl
                    rotate_left
                    · simp only [Act.put, List.setIfInBounds_toArray, List.set_cons_zero, List.set_cons_succ, i64_w, i32_w]
                      rfl
                    refine pure_ (i := 9) (N := some 2) (v := ?_) (a' := ?_) #[true, true, true, true, true, true, true, true, true, true] rfl rfl (any_of HT_.out (by kernel_rfl)) (fun _ _ _ h => h) (Or.inl ⟨by rfl, ?_⟩) ?_ ?_
                    rotate_left
                    · intro w'
                      go_simp
                      with_reducible rfl
                    rotate_left
                    · simp only [Act.put, List.setIfInBounds_toArray, List.set_cons_zero, List.set_cons_succ, i64_w, i32_w]
                      rfl
                    refine done_ (done_of HT_.out (by kernel_rfl)) ?_
                    try go_wp2
                    go_ret
                    exact ⟨by first | rfl | (simp [errW_none, errW_some] <;> rfl) | (simp [*, errW_none, errW_some] <;> rfl), by repeat (first | (with_reducible first | exact HB.out | apply below_alloc | apply pw_below_drewN | apply below_drew1) | exact HB.out)⟩
                  · rw [if_neg c20] at H
                    exact absurd H (by simp)
                · rw [if_neg c18] at H
                  exact absurd H (by simp)
end Go.Proofs.Ytfegofnplcmacaa.PAll
namespace Go.Proofs.Ytfegofnplcmacaa.PAll
open Go.RowKit Go.Proofs.YtfegofnplcmacaaW.PrintWords Go.Proofs.YtfegofnplcmacaaW.PrintLast Go.Proofs.YtfegofnplcmacaaW.PrintMore
attribute [local go_sem] max2_int min2_int max_two min_two max_three min_three max_four min_four
set_option linter.unusedVariables false
set_option linter.unusedSimpArgs false
mutual
def vernierref07_left.j0 : Nat → ByteArray → Bool → Option (Int)
  | 0, _, _ => none
  | k + 1, x0, x1 => if 1 ≤ (x0.size : Int) then ((vernierref07_some.f k (x0.extract 1 x0.size)).bind fun t218 => (if 0 < (x0.size : Int) then (if (bt x0 0) = 49 then (if t218 = true then (vernierref07_left.j1 k x0 x1 t218 true) else (vernierref07_left.j1 k x0 x1 t218 x1)) else (vernierref07_left.j1 k x0 x1 t218 false)) else (none))) else (none)
def vernierref07_left.j1 : Nat → ByteArray → Bool → Bool → Bool → Option (Int)
  | 0, _, _, _, _ => none
  | k + 1, x0, x1, x5, x11 => if x11 = true then (some 3) else (if 0 < (x0.size : Int) then (if (bt x0 0) = 49 then (some 2) else (if x5 = true then (some 1) else (if x1 = true then (some 1) else (some 0)))) else (none))
end
def vernierref07_left.f (k : Nat) (a0 : ByteArray) (a1 : Bool) : Option (Int) := if a0.toList = ([] : List UInt8) then (vernierref07_left.j0 k (⟨#[48]⟩ : ByteArray) a1) else (vernierref07_left.j0 k a0 a1)
theorem vernierref07_left.mono_l : ∀ k, (∀ y0 y1, LeO (vernierref07_left.j0 k y0 y1) (vernierref07_left.j0 (k + 1) y0 y1)) ∧ (∀ y0 y1 y2 y3, LeO (vernierref07_left.j1 k y0 y1 y2 y3) (vernierref07_left.j1 (k + 1) y0 y1 y2 y3))
  | 0 => ⟨fun _ _ r h => by simp [vernierref07_left.j0] at h, fun _ _ _ _ r h => by simp [vernierref07_left.j1] at h⟩
  | k + 1 => by
    obtain ⟨ih0, ih1⟩ := vernierref07_left.mono_l k
    refine ⟨?_, ?_⟩
    · intro y0 y1
      unfold vernierref07_left.j0
      repeat' first
      | (with_reducible exact ih0 _ _)
      | (with_reducible exact ih1 _ _ _ _)
      | (with_reducible exact vernierref07_some.mono _ _)
      | (with_reducible exact LeO.refl _)
      | (with_reducible exact LeO.none _)
      | (with_reducible refine LeO.ite ?_ ?_)
      | (with_reducible refine LeO.bind ?_ (fun _ => ?_))
      | exact ih0 _ _
      | exact ih1 _ _ _ _
      | exact vernierref07_some.mono _ _
      | exact LeO.none _
      | refine LeO.ite ?_ ?_
      | refine LeO.bind ?_ (fun _ => ?_)
    · intro y0 y1 y2 y3
      unfold vernierref07_left.j1
      repeat' first
      | (with_reducible exact ih0 _ _)
      | (with_reducible exact ih1 _ _ _ _)
      | (with_reducible exact vernierref07_some.mono _ _)
      | (with_reducible exact LeO.refl _)
      | (with_reducible exact LeO.none _)
      | (with_reducible refine LeO.ite ?_ ?_)
      | (with_reducible refine LeO.bind ?_ (fun _ => ?_))
      | exact ih0 _ _
      | exact ih1 _ _ _ _
      | exact vernierref07_some.mono _ _
      | exact LeO.none _
      | refine LeO.ite ?_ ?_
      | refine LeO.bind ?_ (fun _ => ?_)
theorem vernierref07_left.mono : ∀ a0 a1 k, LeO (vernierref07_left.f k a0 a1) (vernierref07_left.f (k + 1) a0 a1) := by
  intro a0 a1 k
  obtain ⟨ih0, ih1⟩ := vernierref07_left.mono_l k
  unfold vernierref07_left.f
  repeat' first
      | (with_reducible exact ih0 _ _)
      | (with_reducible exact ih1 _ _ _ _)
      | (with_reducible exact vernierref07_some.mono _ _)
      | (with_reducible exact LeO.refl _)
      | (with_reducible exact LeO.none _)
      | (with_reducible refine LeO.ite ?_ ?_)
      | (with_reducible refine LeO.bind ?_ (fun _ => ?_))
      | exact ih0 _ _
      | exact ih1 _ _ _ _
      | exact vernierref07_some.mono _ _
      | exact LeO.none _
      | refine LeO.ite ?_ ?_
      | refine LeO.bind ?_ (fun _ => ?_)
set_option maxHeartbeats 8000000 in
set_option maxRecDepth 100000 in
theorem vernierref07_left.calls (k : Nat) (a0 : ByteArray) (a1 : Bool) (r : Int) (w : World) (h : vernierref07_left.f k a0 a1 = some r) :
    Calls Try.prog 36 #[.string a0, .bool a1] w fun e w' => e = .returned (.int .i64 r) ∧ Drawn0 w w' := by
  have H : (if a0.toList = ([] : List UInt8) then (vernierref07_left.j0 k (⟨#[48]⟩ : ByteArray) a1) else (vernierref07_left.j0 k a0 a1)) = some r := h
  clear h
  have HC3 := Aside0.mk H
  clear H
  go_enter Try.func36, Try.ntmps36
  go_upto_if 7 with (fail)
  go_cut [0] (fun v0 wc => ∃ (kq : Nat) (x0_2 : ByteArray), v0 = .string x0_2 ∧ Aside0 (vernierref07_left.j0 kq x0_2 a1 = some r) ∧ Aside0 (kq ≤ k) ∧ Drawn0 w wc)
  case first =>
    have H := HC3.out
    clear HC3
    by_cases c4 : a0.toList = ([] : List UInt8)
    · rw [if_pos c4] at H
      have c4b0 : a0.toList.isEmpty = true := by first | simpa using c4 | simp [c4]
      have c4b1 : (a0.toList == ([] : List UInt8)) = true := beq_iff_eq.mpr c4
      have c4b2 : (a0.toList != ([] : List UInt8)) = false := bne_eq_false_iff_eq.mpr c4
      clear c4
      (first | rw [c4b0] | (simp only [i64_w, i32_w]; rw [c4b0]) | skip)
      have H' := Aside0.mk H
      clear H
      go_wp2
      go_meet
      case rel => exact ⟨_, ((⟨#[48]⟩ : ByteArray)), (by first | rfl | (simp; done) | (simp [*]; done)), H', ⟨by first | omega | exact Nat.le_refl _⟩, by repeat (first | exact Drawn0.refl _ | apply Drawn0.step)⟩
    · rw [if_neg c4] at H
      have c4b0 : a0.toList.isEmpty = false := by first | simpa using c4 | simp [c4]
      have c4b1 : (a0.toList == ([] : List UInt8)) = false := beq_eq_false_iff_ne.mpr c4
      have c4b2 : (a0.toList != ([] : List UInt8)) = true := bne_iff_ne.mpr c4
      (first | rw [c4b0] | (simp only [i64_w, i32_w]; rw [c4b0]) | skip)
      have H' := Aside0.mk H
      clear H
      go_wp2
      go_meet
      case rel => exact ⟨_, (a0), (by first | rfl | (simp; done) | (simp [*]; done)), H', ⟨by first | omega | exact Nat.le_refl _⟩, by repeat (first | exact Drawn0.refl _ | apply Drawn0.step)⟩
  case rest =>
    clear HC3
    try clear p2
    try clear c3
    try clear c4
    try clear c4b0
    try clear c4b1
    try clear c4b2
    obtain ⟨kq, x0_2, rfl, HA, HJ2, ⟨mc2, rfl⟩⟩ := hcut
    cases kq with
    | zero => exact absurd HA.out (by simp [vernierref07_left.j0])
    | succ kj2 =>
      have H := HA.out
      clear HA
      simp only [vernierref07_left.j0] at H
      by_cases c5 : 1 ≤ (x0_2.size : Int)
      · rw [if_pos c5] at H
        have c5b0 := eq_true c5
        have c5b1 : decide (1 ≤ (x0_2.size : Int)) = true := decide_eq_true c5
        clear c5
        replace H := Option.bind_eq_some_iff.mp H
        obtain ⟨t218, A60, H⟩ := H
        replace H : (if 0 < (x0_2.size : Int) then (if (bt x0_2 0) = 49 then (if t218 = true then (vernierref07_left.j1 kj2 x0_2 a1 t218 true) else (vernierref07_left.j1 kj2 x0_2 a1 t218 a1)) else (vernierref07_left.j1 kj2 x0_2 a1 t218 false)) else (none)) = some r := H
        have A6 := Aside0.mk A60
        clear A60
        have HC7 := Aside0.mk H
        clear H
        go_upto_region 4 with (first | ((with_reducible refine gate_callee (f := 33) rfl ?_); refine goesL_ (some 10) rfl rfl Try.func33 (by kernel_rfl) rfl #[.string (x0_2.extract 1 x0_2.size)] rfl (by (try simp only [List.map_toArray, List.map_cons, List.map_nil]); first | done | rfl | (simp only [List.length_drop, List.length_take]; rfl)) ?_; (with_reducible refine (vernierref07_some.calls kj2 (x0_2.extract 1 x0_2.size) t218 _ A6.out).mono ?_); rintro e w' ⟨rfl, ⟨nd, rfl⟩⟩; refine ⟨_, rfl, ?_⟩))
        (try simp only [Act.put, List.setIfInBounds_toArray, List.set_cons_zero, List.set_cons_succ])
        go_cut [11] (fun v11 wc => ∃ (kq : Nat) (x11_6 : Bool), v11 = .bool x11_6 ∧ Aside0 (vernierref07_left.j1 kq x0_2 a1 t218 x11_6 = some r) ∧ Aside0 (kq ≤ kj2) ∧ Drawn0 w wc)
        case first =>
          have H := HC7.out
          clear HC7
          by_cases c8 : 0 < (x0_2.size : Int)
          · rw [if_pos c8] at H
            have c8b0 : decide (0 < (x0_2.size : Int)) = true := decide_eq_true c8
            have c8b1 : decide (0 < x0_2.size) = true := decide_eq_true (by omega)
            clear c8
            (first | rw [c8b0] | (simp only [i64_w, i32_w]; rw [c8b0]) | skip)
            by_cases c10 : (bt x0_2 0) = 49
            · rw [if_pos c10] at H
              have c10b0 : ((bt x0_2 0) == 49) = true := beq_iff_eq.mpr c10
              have c10b1 : ((bt x0_2 0) != 49) = false := bne_eq_false_iff_eq.mpr c10
              clear c10
              by_cases c11 : t218 = true
              · subst c11
                have H1 : (vernierref07_left.j1 kj2 x0_2 a1 true true) = some r := by rw [if_pos rfl] at H; exact H
                clear H
                have H := H1
                clear H1
                have H' := Aside0.mk H
                clear H
                have p9 : 0 ≤ (0 : Int) := (by omega)
                have q9 : 0 < x0_2.size := (by have : (0 : Int) < (x0_2.size : Int) := of_decide_eq_true (by first | (with_reducible assumption) | assumption); omega)
                have hx9 : ∀ h : 0 < x0_2.size, ((x0_2[0]'h).toNat : Int) = bt x0_2 0 := bt_at x0_2 0
                clear p9
                have qi9 : (0 < (x0_2.size : Int)) = True := eq_true (of_decide_eq_true (by first | (with_reducible assumption) | assumption))
                replace q9 := eq_true q9
                go_wp2
                go_meet
                case rel => exact ⟨_, (true), (by first | rfl | (simp; done) | (simp [*]; done)), H', ⟨by have := HJ2.out; first | omega | exact Nat.le_refl _⟩, by repeat (first | exact Drawn0.refl _ | apply Drawn0.step)⟩
              · replace c11 := Bool.eq_false_iff.mpr c11
                subst c11
                have H1 : (vernierref07_left.j1 kj2 x0_2 a1 false a1) = some r := by rw [if_neg (show ¬ (false = true) by decide)] at H; exact H
                clear H
                have H := H1
                clear H1
                have H' := Aside0.mk H
                clear H
                have p9 : 0 ≤ (0 : Int) := (by omega)
                have q9 : 0 < x0_2.size := (by have : (0 : Int) < (x0_2.size : Int) := of_decide_eq_true (by first | (with_reducible assumption) | assumption); omega)
                have hx9 : ∀ h : 0 < x0_2.size, ((x0_2[0]'h).toNat : Int) = bt x0_2 0 := bt_at x0_2 0
                clear p9
                have qi9 : (0 < (x0_2.size : Int)) = True := eq_true (of_decide_eq_true (by first | (with_reducible assumption) | assumption))
                replace q9 := eq_true q9
                go_wp2
                go_meet
                case rel => exact ⟨_, (a1), (by first | rfl | (simp; done) | (simp [*]; done)), H', ⟨by have := HJ2.out; first | omega | exact Nat.le_refl _⟩, by repeat (first | exact Drawn0.refl _ | apply Drawn0.step)⟩
            · rw [if_neg c10] at H
              have c10b0 : ((bt x0_2 0) == 49) = false := beq_eq_false_iff_ne.mpr c10
              have c10b1 : ((bt x0_2 0) != 49) = true := bne_iff_ne.mpr c10
              have H' := Aside0.mk H
              clear H
              have p9 : 0 ≤ (0 : Int) := (by omega)
              have q9 : 0 < x0_2.size := (by have : (0 : Int) < (x0_2.size : Int) := of_decide_eq_true (by first | (with_reducible assumption) | assumption); omega)
              have hx9 : ∀ h : 0 < x0_2.size, ((x0_2[0]'h).toNat : Int) = bt x0_2 0 := bt_at x0_2 0
              clear p9
              have qi9 : (0 < (x0_2.size : Int)) = True := eq_true (of_decide_eq_true (by first | (with_reducible assumption) | assumption))
              replace q9 := eq_true q9
              go_wp2
              go_meet
              case rel => exact ⟨_, (false), (by first | rfl | (simp; done) | (simp [*]; done)), H', ⟨by have := HJ2.out; first | omega | exact Nat.le_refl _⟩, by repeat (first | exact Drawn0.refl _ | apply Drawn0.step)⟩
          · rw [if_neg c8] at H
            exact absurd H (by simp)
        case rest =>
          clear HC7
          try clear c1
          try clear c2
          try clear p2
          try clear c3
          try clear c4
          try clear c4b0
          try clear c4b1
          try clear c4b2
          try clear c5
          try clear c5b0
          try clear c5b1
          try clear c8
          try clear c8b0
          try clear c8b1
          try clear p9
          try clear q9
          try clear hx9
          try clear qi9
          try clear c10
          try clear c10b0
          try clear c10b1
          try clear c11
          try clear p2
          try clear p9
          try clear q9
          obtain ⟨kq, x11_6, rfl, HA, HJ6, ⟨mc6, rfl⟩⟩ := hcut
          cases kq with
          | zero => exact absurd HA.out (by simp [vernierref07_left.j1])
          | succ kj6 =>
            have H := HA.out
            clear HA
            simp only [vernierref07_left.j1] at H
            by_cases c12 : x11_6 = true
            · subst c12
              have H1 : (some 3) = some r := by rw [if_pos rfl] at H; exact H
              clear H
              have H := H1
              clear H1
              obtain rfl := Option.some.inj H
              go_wp2
              go_ret
              exact ⟨by first | rfl | (simp; done) | (simp [*]; done), by repeat (first | exact Drawn0.refl _ | apply Drawn0.step)⟩
            · replace c12 := Bool.eq_false_iff.mpr c12
              subst c12
              have H1 : (if 0 < (x0_2.size : Int) then (if (bt x0_2 0) = 49 then (some 2) else (if t218 = true then (some 1) else (if a1 = true then (some 1) else (some 0)))) else (none)) = some r := by rw [if_neg (show ¬ (false = true) by decide)] at H; exact H
              clear H
              have H := H1
              clear H1
              by_cases c13 : 0 < (x0_2.size : Int)
              · rw [if_pos c13] at H
                have c13b0 : decide (0 < (x0_2.size : Int)) = true := decide_eq_true c13
                have c13b1 : decide (0 < x0_2.size) = true := decide_eq_true (by omega)
                clear c13
                by_cases c15 : (bt x0_2 0) = 49
                · rw [if_pos c15] at H
                  have c15b0 : ((bt x0_2 0) == 49) = true := beq_iff_eq.mpr c15
                  have c15b1 : ((bt x0_2 0) != 49) = false := bne_eq_false_iff_eq.mpr c15
                  clear c15
                  obtain rfl := Option.some.inj H
                  have p14 : 0 ≤ (0 : Int) := (by omega)
                  have q14 : 0 < x0_2.size := (by have : (0 : Int) < (x0_2.size : Int) := of_decide_eq_true (by first | (with_reducible assumption) | assumption); omega)
                  have hx14 : ∀ h : 0 < x0_2.size, ((x0_2[0]'h).toNat : Int) = bt x0_2 0 := bt_at x0_2 0
                  clear p14
                  have qi14 : (0 < (x0_2.size : Int)) = True := eq_true (of_decide_eq_true (by first | (with_reducible assumption) | assumption))
                  replace q14 := eq_true q14
                  go_wp2
                  go_ret
                  exact ⟨by first | rfl | (simp; done) | (simp [*]; done), by repeat (first | exact Drawn0.refl _ | apply Drawn0.step)⟩
                · rw [if_neg c15] at H
                  have c15b0 : ((bt x0_2 0) == 49) = false := beq_eq_false_iff_ne.mpr c15
                  have c15b1 : ((bt x0_2 0) != 49) = true := bne_iff_ne.mpr c15
                  by_cases c16 : t218 = true
                  · subst c16
                    have H1 : (some 1) = some r := by rw [if_pos rfl] at H; exact H
                    clear H
                    have H := H1
                    clear H1
                    obtain rfl := Option.some.inj H
                    have p14 : 0 ≤ (0 : Int) := (by omega)
                    have q14 : 0 < x0_2.size := (by have : (0 : Int) < (x0_2.size : Int) := of_decide_eq_true (by first | (with_reducible assumption) | assumption); omega)
                    have hx14 : ∀ h : 0 < x0_2.size, ((x0_2[0]'h).toNat : Int) = bt x0_2 0 := bt_at x0_2 0
                    clear p14
                    have qi14 : (0 < (x0_2.size : Int)) = True := eq_true (of_decide_eq_true (by first | (with_reducible assumption) | assumption))
                    replace q14 := eq_true q14
                    go_wp2
                    go_ret
                    exact ⟨by first | rfl | (simp; done) | (simp [*]; done), by repeat (first | exact Drawn0.refl _ | apply Drawn0.step)⟩
                  · replace c16 := Bool.eq_false_iff.mpr c16
                    subst c16
                    have H1 : (if a1 = true then (some 1) else (some 0)) = some r := by rw [if_neg (show ¬ (false = true) by decide)] at H; exact H
                    clear H
                    have H := H1
                    clear H1
                    by_cases c17 : a1 = true
                    · subst c17
                      have H1 : (some 1) = some r := by rw [if_pos rfl] at H; exact H
                      clear H
                      have H := H1
                      clear H1
                      obtain rfl := Option.some.inj H
                      have p14 : 0 ≤ (0 : Int) := (by omega)
                      have q14 : 0 < x0_2.size := (by have : (0 : Int) < (x0_2.size : Int) := of_decide_eq_true (by first | (with_reducible assumption) | assumption); omega)
                      have hx14 : ∀ h : 0 < x0_2.size, ((x0_2[0]'h).toNat : Int) = bt x0_2 0 := bt_at x0_2 0
                      clear p14
                      have qi14 : (0 < (x0_2.size : Int)) = True := eq_true (of_decide_eq_true (by first | (with_reducible assumption) | assumption))
                      replace q14 := eq_true q14
                      go_wp2
                      go_ret
                      exact ⟨by first | rfl | (simp; done) | (simp [*]; done), by repeat (first | exact Drawn0.refl _ | apply Drawn0.step)⟩
                    · replace c17 := Bool.eq_false_iff.mpr c17
                      subst c17
                      have H1 : (some 0) = some r := by rw [if_neg (show ¬ (false = true) by decide)] at H; exact H
                      clear H
                      have H := H1
                      clear H1
                      obtain rfl := Option.some.inj H
                      have p14 : 0 ≤ (0 : Int) := (by omega)
                      have q14 : 0 < x0_2.size := (by have : (0 : Int) < (x0_2.size : Int) := of_decide_eq_true (by first | (with_reducible assumption) | assumption); omega)
                      have hx14 : ∀ h : 0 < x0_2.size, ((x0_2[0]'h).toNat : Int) = bt x0_2 0 := bt_at x0_2 0
                      clear p14
                      have qi14 : (0 < (x0_2.size : Int)) = True := eq_true (of_decide_eq_true (by first | (with_reducible assumption) | assumption))
                      replace q14 := eq_true q14
                      go_wp2
                      go_ret
                      exact ⟨by first | rfl | (simp; done) | (simp [*]; done), by repeat (first | exact Drawn0.refl _ | apply Drawn0.step)⟩
              · rw [if_neg c13] at H
                exact absurd H (by simp)
      · rw [if_neg c5] at H
        exact absurd H (by simp)
end Go.Proofs.Ytfegofnplcmacaa.PAll
