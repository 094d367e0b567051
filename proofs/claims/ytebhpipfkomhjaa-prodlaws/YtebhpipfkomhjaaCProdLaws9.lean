-- Written by a program of this session out of its own texts (wip/tools/link.py).
import Derived.ArgAppend
import Derived.Below
import Derived.BigQuiet
import Derived.Deep.AppendLies
import Derived.Deep.CutBlock
import Derived.Deep.DeepCutAuto
import Derived.Deep.Draws
import Derived.Deep.LoopGhost
import Derived.Deep.OwnRows
import Derived.Deep.QuietTactic
import Derived.Deep.RegionHeld3
import Derived.KernelRfl
import Derived.LaidEql
import Derived.Laws.BitsLemmas
import Derived.Laws.BytesArg
import Derived.Laws.IdiomCopy
import Derived.Laws.MakeOwn
import Derived.Laws.OwnMore
import Derived.Laws.Rows
import Derived.Laws.Slices
import Derived.Laws.StructEq
import Derived.Lib.AppendStr
import Derived.Lib.BitFns
import Derived.Lib.ConvBytes
import Derived.Lib.Slices
import Derived.Lib.Small
import Derived.Lib.Strings
import Derived.Lib.Walk
import Derived.Maps.AppendAt
import Derived.OrdersHeld
import Derived.OwnWalk
import Derived.RowKit
import Derived.RowKit3
import Derived.Tactics
import Derived.Test.YtebhpipfkomhjaaProg
import Derived.WalkKit
import Derived.WideLaws
import Derived.Test.YtebhpipfkomhjaaCProdLaws8
namespace Go.Proofs.Ytebhpipfkomhjaa.PAll
open Go.RowKit Go.Proofs.YtebhpipfkomhjaaW.PrintWords Go.Proofs.YtebhpipfkomhjaaW.PrintLast Go.Proofs.YtebhpipfkomhjaaW.PrintMore
attribute [local go_sem] max2_int min2_int max_two min_two max_three min_three max_four min_four
set_option linter.unusedVariables false
set_option linter.unusedSimpArgs false
mutual
def codec_Split.j0 : Nat → Int → Int → Option Int → Bool → Option (Bool × Bool × Int × Int × Int × Int × Int × Int × Option Int)
 | 0, _, _, _, _ => none
 | k + 1, x0, x1, x7, x25 => if x25 = true then (some (false, false, 0, 0, 0, 0, 0, 0, x7)) else ((shape_Rank.f x0 x1).bind fun bt173 => (if bt173.1 < 0 then (codec_Split.j1 k x0 (IntKind.u64.wrap (-x1)) true false 0 0 0 0 0 0) else (codec_Split.j1 k x0 x1 false false 0 0 0 0 0 0)))
def codec_Split.j1 : Nat → Int → Int → Bool → Bool → Int → Int → Int → Int → Int → Int → Option (Bool × Bool × Int × Int × Int × Int × Int × Int × Option Int)
 | 0, _, _, _, _, _, _, _, _, _, _ => none
 | k + 1, x0, x1, x173000, x173001, x173002, x173003, x173004, x173005, x173006, x173007 => (lead_Run.f k x1 (wrap64 (x0 - 1))).bind fun bt175 => (if bt175.1 = true then ((lead_Field.f x1 (wrap64 ((mx (wrap64 ((wrap64 ((wrap64 (x0 - 1)) - bt175.2.1)) - 1)) 0) - (mn (mx (wrap64 ((wrap64 ((wrap64 (x0 - 1)) - bt175.2.1)) - 1)) 0) 2))) (mn (mx (wrap64 ((wrap64 ((wrap64 (x0 - 1)) - bt175.2.1)) - 1)) 0) 2)).bind fun bt178 => ((lead_Field.f x1 0 (wrap64 ((mx (wrap64 ((wrap64 ((wrap64 (x0 - 1)) - bt175.2.1)) - 1)) 0) - (mn (mx (wrap64 ((wrap64 ((wrap64 (x0 - 1)) - bt175.2.1)) - 1)) 0) 2)))).bind fun bt180 => (some (x173000, bt175.1, bt175.2.1, wrap64 (bt175.2.1 - 1), mn (mx (wrap64 ((wrap64 ((wrap64 (x0 - 1)) - bt175.2.1)) - 1)) 0) 2, shl .i64 (wrap64 (bt178.1)) (2 - (mn (mx (wrap64 ((wrap64 ((wrap64 (x0 - 1)) - bt175.2.1)) - 1)) 0) 2)), wrap64 ((mx (wrap64 ((wrap64 ((wrap64 (x0 - 1)) - bt175.2.1)) - 1)) 0) - (mn (mx (wrap64 ((wrap64 ((wrap64 (x0 - 1)) - bt175.2.1)) - 1)) 0) 2)), bt180.1, none)))) else ((lead_Field.f x1 (wrap64 ((mx (wrap64 ((wrap64 ((wrap64 (x0 - 1)) - bt175.2.1)) - 1)) 0) - (mn (mx (wrap64 ((wrap64 ((wrap64 (x0 - 1)) - bt175.2.1)) - 1)) 0) 2))) (mn (mx (wrap64 ((wrap64 ((wrap64 (x0 - 1)) - bt175.2.1)) - 1)) 0) 2)).bind fun bt182 => ((lead_Field.f x1 0 (wrap64 ((mx (wrap64 ((wrap64 ((wrap64 (x0 - 1)) - bt175.2.1)) - 1)) 0) - (mn (mx (wrap64 ((wrap64 ((wrap64 (x0 - 1)) - bt175.2.1)) - 1)) 0) 2)))).bind fun bt184 => (some (x173000, bt175.1, bt175.2.1, wrap64 (-bt175.2.1), mn (mx (wrap64 ((wrap64 ((wrap64 (x0 - 1)) - bt175.2.1)) - 1)) 0) 2, shl .i64 (wrap64 (bt182.1)) (2 - (mn (mx (wrap64 ((wrap64 ((wrap64 (x0 - 1)) - bt175.2.1)) - 1)) 0) 2)), wrap64 ((mx (wrap64 ((wrap64 ((wrap64 (x0 - 1)) - bt175.2.1)) - 1)) 0) - (mn (mx (wrap64 ((wrap64 ((wrap64 (x0 - 1)) - bt175.2.1)) - 1)) 0) 2)), bt184.1, none)))))
end
def codec_Split.f (k : Nat) (a0 : Int) (a1 : Int) : Option (Bool × Bool × Int × Int × Int × Int × Int × Int × Option Int) := (shape_Kind.f a0 a1).bind fun bt169 => (if bt169.2.isNone = true then (codec_Split.j0 k a0 a1 none (bt169.1 != 1)) else (codec_Split.j0 k a0 a1 (some (bt169.2.getD 0)) true))
theorem codec_Split.mono_l : ∀ k, (∀ y0 y1 y2 y3, LeO (codec_Split.j0 k y0 y1 y2 y3) (codec_Split.j0 (k + 1) y0 y1 y2 y3)) ∧ (∀ y0 y1 y2 y3 y4 y5 y6 y7 y8 y9, LeO (codec_Split.j1 k y0 y1 y2 y3 y4 y5 y6 y7 y8 y9) (codec_Split.j1 (k + 1) y0 y1 y2 y3 y4 y5 y6 y7 y8 y9))
 | 0 => ⟨fun _ _ _ _ r h => by simp [codec_Split.j0] at h, fun _ _ _ _ _ _ _ _ _ _ r h => by simp [codec_Split.j1] at h⟩
 | k + 1 => by
  obtain ⟨ih0, ih1⟩ := codec_Split.mono_l k
  refine ⟨?_, ?_⟩
  ·intro y0 y1 y2 y3
   unfold codec_Split.j0
   repeat' first
   | (with_reducible exact ih0 _ _ _ _)
   | (with_reducible exact ih1 _ _ _ _ _ _ _ _ _ _)
   | (with_reducible exact lead_Run.mono _ _ _)
   | (with_reducible exact LeO.refl _)
   | (with_reducible exact LeO.none _)
   | (with_reducible refine LeO.ite ?_ ?_)
   | (with_reducible refine LeO.bind ?_ (fun _ => ?_))
   | exact ih0 _ _ _ _
   | exact ih1 _ _ _ _ _ _ _ _ _ _
   | exact lead_Run.mono _ _ _
   | exact LeO.none _
   | refine LeO.ite ?_ ?_
   | refine LeO.bind ?_ (fun _ => ?_)
  ·intro y0 y1 y2 y3 y4 y5 y6 y7 y8 y9
   unfold codec_Split.j1
   repeat' first
   | (with_reducible exact ih0 _ _ _ _)
   | (with_reducible exact ih1 _ _ _ _ _ _ _ _ _ _)
   | (with_reducible exact lead_Run.mono _ _ _)
   | (with_reducible exact LeO.refl _)
   | (with_reducible exact LeO.none _)
   | (with_reducible refine LeO.ite ?_ ?_)
   | (with_reducible refine LeO.bind ?_ (fun _ => ?_))
   | exact ih0 _ _ _ _
   | exact ih1 _ _ _ _ _ _ _ _ _ _
   | exact lead_Run.mono _ _ _
   | exact LeO.none _
   | refine LeO.ite ?_ ?_
   | refine LeO.bind ?_ (fun _ => ?_)
theorem codec_Split.mono : ∀ a0 a1 k, LeO (codec_Split.f k a0 a1) (codec_Split.f (k + 1) a0 a1) := by
 intro a0 a1 k
 obtain ⟨ih0, ih1⟩ := codec_Split.mono_l k
 unfold codec_Split.f
 repeat' first
   | (with_reducible exact ih0 _ _ _ _)
   | (with_reducible exact ih1 _ _ _ _ _ _ _ _ _ _)
   | (with_reducible exact lead_Run.mono _ _ _)
   | (with_reducible exact LeO.refl _)
   | (with_reducible exact LeO.none _)
   | (with_reducible refine LeO.ite ?_ ?_)
   | (with_reducible refine LeO.bind ?_ (fun _ => ?_))
   | exact ih0 _ _ _ _
   | exact ih1 _ _ _ _ _ _ _ _ _ _
   | exact lead_Run.mono _ _ _
   | exact LeO.none _
   | refine LeO.ite ?_ ?_
   | refine LeO.bind ?_ (fun _ => ?_)
set_option maxHeartbeats 8000000 in
set_option maxRecDepth 100000 in
theorem codec_Split.calls (k : Nat) (a0 : Int) (a1 : Int) (r1 : Bool) (r2 : Bool) (r3 : Int) (r4 : Int) (r5 : Int) (r6 : Int) (r7 : Int) (r8 : Int) (r9 : Option Int) (w : World) (h : codec_Split.f k a0 a1 = some (r1, r2, r3, r4, r5, r6, r7, r8, r9)) :
  Calls Try.prog 48 #[.int .i64 a0, .int .u64 a1] w fun e w' => e = .returned (.tuple #[.agg #[.bool r1, .bool r2, .int .i64 r3, .int .i64 r4, .int .i64 r5, .int .i64 r6, .int .i64 r7, .int .u64 r8], errW r9]) ∧ Below w.heap.size w w' := by
 have hu86 := Try.underlying86
 have hu29 := Try.underlying29
 have hu42 := Try.underlying42
 have HB := Aside0.mk (Below.refl w.heap.size w)
 have H : ((shape_Kind.f a0 a1).bind fun bt169 => (if bt169.2.isNone = true then (codec_Split.j0 k a0 a1 none (bt169.1 != 1)) else (codec_Split.j0 k a0 a1 (some (bt169.2.getD 0)) true))) = some (r1, r2, r3, r4, r5, r6, r7, r8, r9) := h
 clear h
 replace H := Option.bind_eq_some_iff.mp H
 obtain ⟨⟨t169, t170⟩, A30, H⟩ := H
 replace H : (if t170.isNone = true then (codec_Split.j0 k a0 a1 none (t169 != 1)) else (codec_Split.j0 k a0 a1 (some (t170.getD 0)) true)) = some (r1, r2, r3, r4, r5, r6, r7, r8, r9) := H
 have A3 := Aside0.mk A30
 clear A30
 have HC4 := Aside0.mk H
 clear H
 go_enter Try.func48, Try.ntmps48
 go_upto_region 2 with (first | ((with_reducible refine gate_dst (N := 4) rfl ?_); refine box_event ?hg (N := 4) ?hd (cs := #[.bool false, .bool false, .int .i64 0, .int .i64 0, .int .i64 0, .int .i64 0, .int .i64 0, .int .u64 0]) (t := 86) ?hr ?_; (case hd => rfl); (case hg => rfl); (case hr => first | (go_simp; done) | (go_simp; rfl)); intro gb168 hg w5 hbox hb; have n0_ := Aside0.mk (below_step (z3_ HB.out) hb); have n1_ := Aside0.mk (hbox); have n2_ := Aside0.mk ((by rw [hg]; exact (below_size (z3_ HB.out)) : w.heap.size ≤ gb168)); have n3_ := Aside0.mk ((by rw [hg]; exact (below_size (z3_ HB.out)) : w.heap.size ≤ gb168)); clear HB; have HB := n0_; have BK168 := n1_; have GW168 := n2_; have GE168 := n3_; clear n0_ n1_ n2_ n3_; clear hb hbox hg) | ((with_reducible refine gate_callee (f := 47) rfl ?_); refine goesL_ (some 17) rfl rfl Try.func47 (by kernel_rfl) rfl #[.int .i64 a0, .int .u64 a1] rfl z5_ ?_; (with_reducible refine (shape_Kind.calls a0 a1 t169 t170 _ A3.out).mono ?_); rintro e w' ⟨rfl, ⟨nd, rfl⟩⟩; refine ⟨_, rfl, ?_⟩; (try simp only [errW_none, errW_some])))
 (try simp only [Act.put, List.setIfInBounds_toArray, List.set_cons_zero, List.set_cons_succ])
 go_cut [25] (fun v25 wc => ∃ (kq : Nat) (x25_3 : Bool), v25 = .bool x25_3 ∧ Aside0 (codec_Split.j0 kq a0 a1 t170 x25_3 = some (r1, r2, r3, r4, r5, r6, r7, r8, r9)) ∧ Aside0 (kq ≤ k) ∧ Aside0 (wc.heap[gb168]? = some (.cells #[.bool false, .bool false, .int .i64 0, .int .i64 0, .int .i64 0, .int .i64 0, .int .i64 0, .int .u64 0] 86 (0, 0))) ∧ Aside0 (Below w.heap.size w wc))
 case first =>
  have H := HC4.out
  clear HC4
  rcases t170 with _ | q171
  ·have H1 : (codec_Split.j0 k a0 a1 none (t169 != 1)) = some (r1, r2, r3, r4, r5, r6, r7, r8, r9) := by rw [if_pos (show (none : Option Int).isNone = true by rfl)] at H; exact H
   clear H
   have H := H1
   clear H1
   try simp only [errW_none, errW_some]
   have H' := Aside0.mk H
   clear H
   go_wp2
   go_meet
   case rel => exact ⟨_, ((t169 != 1)), (by first | rfl | (simp; done) | (simp [*]; done)), H', ⟨by first | omega | exact Nat.le_refl _⟩, ⟨by refine z2_ ?_; exact BK168.out⟩, ⟨by repeat (first | (with_reducible first | exact HB.out | apply below_alloc | apply pw_below_drewN | apply below_drew1 | refine below_set ?_ GE168.out) | exact HB.out)⟩⟩
  ·have H1 : (codec_Split.j0 k a0 a1 (some q171) true) = some (r1, r2, r3, r4, r5, r6, r7, r8, r9) := by rw [if_neg (show ¬ (some q171).isNone = true by simp)] at H; exact H
   clear H
   have H := H1
   clear H1
   try simp only [errW_none, errW_some]
   have H' := Aside0.mk H
   clear H
   go_wp2
   go_meet
   case rel => exact ⟨_, (true), (by first | rfl | (simp; done) | (simp [*]; done)), H', ⟨by first | omega | exact Nat.le_refl _⟩, ⟨by refine z2_ ?_; exact BK168.out⟩, ⟨by repeat (first | (with_reducible first | exact HB.out | apply below_alloc | apply pw_below_drewN | apply below_drew1 | refine below_set ?_ GE168.out) | exact HB.out)⟩⟩
 case rest =>
  clear HC4
  try clear q1
  try clear p2
  try clear c4
  try clear q171
  obtain ⟨kq, x25_3, rfl, HA, HJ3, BK168, HB⟩ := hcut
  cases kq with
  | zero => exact absurd HA.out (by simp [codec_Split.j0])
  | succ kj3 =>
   have H := HA.out
   clear HA
   simp only [codec_Split.j0] at H
   by_cases c6 : x25_3 = true
   ·subst c6
    have H1 : (some (false, false, 0, 0, 0, 0, 0, 0, t170)) = some (r1, r2, r3, r4, r5, r6, r7, r8, r9) := by rw [if_pos rfl] at H; exact H
    clear H
    have H := H1
    clear H1
    simp only [Option.some.injEq, Prod.mk.injEq] at H
    obtain ⟨rfl, rfl, rfl, rfl, rfl, rfl, rfl, rfl, rfl⟩ := H
    have hcz7_0 := z4_ BK168.out 0 (.bool false) rfl
    have hcz7_1 := z4_ BK168.out 1 (.bool false) rfl
    have hcz7_2 := z4_ BK168.out 2 (.int .i64 0) rfl
    have hcz7_3 := z4_ BK168.out 3 (.int .i64 0) rfl
    have hcz7_4 := z4_ BK168.out 4 (.int .i64 0) rfl
    have hcz7_5 := z4_ BK168.out 5 (.int .i64 0) rfl
    have hcz7_6 := z4_ BK168.out 6 (.int .i64 0) rfl
    have hcz7_7 := z4_ BK168.out 7 (.int .u64 0) rfl
    have hfz7_0 := blk_frozen BK168.out 0
    have hfz7_1 := blk_frozen BK168.out 1
    have hfz7_2 := blk_frozen BK168.out 2
    have hfz7_3 := blk_frozen BK168.out 3
    have hfz7_4 := blk_frozen BK168.out 4
    have hfz7_5 := blk_frozen BK168.out 5
    have hfz7_6 := blk_frozen BK168.out 6
    have hfz7_7 := blk_frozen BK168.out 7
    go_wp2
    refine bodyPost_ret (results_ct rfl _ _ gb168 86 #[.bool false, .bool false, .int .i64 0, .int .i64 0, .int .i64 0, .int .i64 0, .int .i64 0, .int .u64 0] (0, 0) _ rfl (by refine z2_ ?_; refine blk_put (cs := #[.bool false, .bool false, .int .i64 0, .int .i64 0, .int .i64 0, .int .i64 0, .int .i64 0, .int .u64 0]) ?_ 7 _ rfl; refine z2_ ?_; refine blk_put (cs := #[.bool false, .bool false, .int .i64 0, .int .i64 0, .int .i64 0, .int .i64 0, .int .i64 0, .int .u64 0]) ?_ 6 _ rfl; refine z2_ ?_; refine blk_put (cs := #[.bool false, .bool false, .int .i64 0, .int .i64 0, .int .i64 0, .int .i64 0, .int .i64 0, .int .u64 0]) ?_ 5 _ rfl; refine z2_ ?_; refine blk_put (cs := #[.bool false, .bool false, .int .i64 0, .int .i64 0, .int .i64 0, .int .i64 0, .int .i64 0, .int .u64 0]) ?_ 4 _ rfl; refine z2_ ?_; refine blk_put (cs := #[.bool false, .bool false, .int .i64 0, .int .i64 0, .int .i64 0, .int .i64 0, .int .i64 0, .int .u64 0]) ?_ 3 _ rfl; refine z2_ ?_; refine blk_put (cs := #[.bool false, .bool false, .int .i64 0, .int .i64 0, .int .i64 0, .int .i64 0, .int .i64 0, .int .u64 0]) ?_ 2 _ rfl; refine z2_ ?_; refine blk_put (cs := #[.bool false, .bool false, .int .i64 0, .int .i64 0, .int .i64 0, .int .i64 0, .int .i64 0, .int .u64 0]) ?_ 1 _ rfl; refine z2_ ?_; refine blk_put (cs := #[.bool false, .bool false, .int .i64 0, .int .i64 0, .int .i64 0, .int .i64 0, .int .i64 0, .int .u64 0]) ?_ 0 _ rfl; refine z2_ ?_; exact BK168.out) Try.underlying86 rfl (by kernel_rfl)) rfl ?_
    exact ⟨by first | rfl | (simp [errW_none, errW_some] <;> rfl) | (simp [*, errW_none, errW_some] <;> rfl), by repeat (first | (with_reducible first | exact HB.out | apply below_alloc | apply pw_below_drewN | apply below_drew1 | refine below_set ?_ GE168.out) | exact HB.out)⟩
   ·replace c6 := Bool.eq_false_iff.mpr c6
    subst c6
    have H1 : ((shape_Rank.f a0 a1).bind fun bt173 => (if bt173.1 < 0 then (codec_Split.j1 kj3 a0 (IntKind.u64.wrap (-a1)) true false 0 0 0 0 0 0) else (codec_Split.j1 kj3 a0 a1 false false 0 0 0 0 0 0))) = some (r1, r2, r3, r4, r5, r6, r7, r8, r9) := by rw [if_neg (show ¬ (false = true) by decide)] at H; exact H
    clear H
    have H := H1
    clear H1
    replace H := Option.bind_eq_some_iff.mp H
    obtain ⟨⟨t173, t174⟩, A80, H⟩ := H
    replace H : (if t173 < 0 then (codec_Split.j1 kj3 a0 (IntKind.u64.wrap (-a1)) true false 0 0 0 0 0 0) else (codec_Split.j1 kj3 a0 a1 false false 0 0 0 0 0 0)) = some (r1, r2, r3, r4, r5, r6, r7, r8, r9) := H
    have A8 := Aside0.mk A80
    clear A80
    have HC9 := Aside0.mk H
    clear H
    go_upto_if 35 with (first | ((with_reducible refine gate_dst (N := 8) rfl ?_); refine box_event ?hg (N := 8) ?hd (cs := #[.bool false, .bool false, .int .i64 0, .int .i64 0, .int .i64 0, .int .i64 0, .int .i64 0, .int .u64 0]) (t := 86) ?hr ?_; (case hd => rfl); (case hg => rfl); (case hr => first | (go_simp; done) | (go_simp; rfl)); intro gb172 hg w10 hbox hb; have n0_ := Aside0.mk (blk_below (g := gb168) (z1_ BK168.out) hb); have n1_ := Aside0.mk (below_step (z3_ HB.out) hb); have n2_ := Aside0.mk (hbox); have n3_ := Aside0.mk ((by rw [hg]; exact (below_size (z3_ HB.out)) : w.heap.size ≤ gb172)); have n4_ := Aside0.mk ((by rw [hg]; exact (below_size (z3_ HB.out)) : w.heap.size ≤ gb172)); have n5_ := Aside0.mk ((by rw [hg]; exact Nat.ne_of_lt (blk_lt (g := gb168) (o := .cells #[.bool false, .bool false, .int .i64 0, .int .i64 0, .int .i64 0, .int .i64 0, .int .i64 0, .int .u64 0] 86 (0, 0)) (z1_ BK168.out)) : gb168 ≠ gb172)); have n6_ := Aside0.mk ((by rw [hg]; exact Nat.ne_of_gt (blk_lt (g := gb168) (o := .cells #[.bool false, .bool false, .int .i64 0, .int .i64 0, .int .i64 0, .int .i64 0, .int .i64 0, .int .u64 0] 86 (0, 0)) (z1_ BK168.out)) : gb172 ≠ gb168)); clear BK168; clear HB; have BK168 := n0_; have HB := n1_; have BK172 := n2_; have GW172 := n3_; have GE172 := n4_; have NB168_172 := n5_; have NB172_168 := n6_; clear n0_ n1_ n2_ n3_ n4_ n5_ n6_; clear hb hbox hg) | ((with_reducible refine gate_callee (f := 64) rfl ?_); refine goesL_ (some 31) rfl rfl Try.func64 (by kernel_rfl) rfl #[.int .i64 a0, .int .u64 a1] rfl z5_ ?_; (with_reducible refine (shape_Rank.calls a0 a1 t173 t174 _ A8.out).mono ?_); rintro e w' ⟨rfl, ⟨nd, rfl⟩⟩; refine ⟨_, rfl, ?_⟩; (try simp only [errW_none, errW_some])))
    (try simp only [Act.put, List.setIfInBounds_toArray, List.set_cons_zero, List.set_cons_succ])
    go_cut [1] (fun v1 wc => ∃ (kq : Nat) (x1_8 : Int) (x173000_8 : Bool), v1 = .int .u64 x1_8 ∧ Aside0 (codec_Split.j1 kq a0 x1_8 x173000_8 false 0 0 0 0 0 0 = some (r1, r2, r3, r4, r5, r6, r7, r8, r9)) ∧ Aside0 (kq ≤ kj3) ∧ Aside0 (wc.heap[gb168]? = some (.cells #[.bool false, .bool false, .int .i64 0, .int .i64 0, .int .i64 0, .int .i64 0, .int .i64 0, .int .u64 0] 86 (0, 0))) ∧ Aside0 (wc.heap[gb172]? = some (.cells #[.bool x173000_8, .bool false, .int .i64 0, .int .i64 0, .int .i64 0, .int .i64 0, .int .i64 0, .int .u64 0] 86 (0, 0))) ∧ Aside0 (Below w.heap.size w wc))
    case first =>
     have H := HC9.out
     clear HC9
     by_cases c11 : t173 < 0
     ·rw [if_pos c11] at H
      have c11b0 : decide (t173 < 0) = true := decide_eq_true c11
      clear c11
      (first | rw [c11b0] | (simp only [i64_w, i32_w]; rw [c11b0]) | skip)
      have H' := Aside0.mk H
      clear H
      have hnb12 := NB172_168.out
      have hnc12 := NB168_172.out
      have hcz13_0 := z4_ BK172.out 0 (.bool false) rfl
      have hcz13_1 := z4_ BK172.out 1 (.bool false) rfl
      have hcz13_2 := z4_ BK172.out 2 (.int .i64 0) rfl
      have hcz13_3 := z4_ BK172.out 3 (.int .i64 0) rfl
      have hcz13_4 := z4_ BK172.out 4 (.int .i64 0) rfl
      have hcz13_5 := z4_ BK172.out 5 (.int .i64 0) rfl
      have hcz13_6 := z4_ BK172.out 6 (.int .i64 0) rfl
      have hcz13_7 := z4_ BK172.out 7 (.int .u64 0) rfl
      have hfz13_0 := blk_frozen BK172.out 0
      have hfz13_1 := blk_frozen BK172.out 1
      have hfz13_2 := blk_frozen BK172.out 2
      have hfz13_3 := blk_frozen BK172.out 3
      have hfz13_4 := blk_frozen BK172.out 4
      have hfz13_5 := blk_frozen BK172.out 5
      have hfz13_6 := blk_frozen BK172.out 6
      have hfz13_7 := blk_frozen BK172.out 7
      go_wp2
      go_meet
      case rel => exact ⟨_, (IntKind.u64.wrap (-a1)), (true), (by first | rfl | (simp; done) | (simp [*]; done)), H', ⟨by have := HJ3.out; first | omega | exact Nat.le_refl _⟩, ⟨by refine z2_ ?_; refine blk_far ?_ NB168_172.out _; refine z2_ ?_; exact BK168.out⟩, ⟨by refine z2_ ?_; refine blk_put (cs := #[.bool false, .bool false, .int .i64 0, .int .i64 0, .int .i64 0, .int .i64 0, .int .i64 0, .int .u64 0]) ?_ 0 _ rfl; refine z2_ ?_; exact BK172.out⟩, ⟨by repeat (first | (with_reducible first | exact HB.out | apply below_alloc | apply pw_below_drewN | apply below_drew1 | refine below_set ?_ GE168.out | refine below_set ?_ GE172.out) | exact HB.out)⟩⟩
     ·rw [if_neg c11] at H
      have c11b0 : decide (t173 < 0) = false := decide_eq_false c11
      clear c11
      (first | rw [c11b0] | (simp only [i64_w, i32_w]; rw [c11b0]) | skip)
      have H' := Aside0.mk H
      clear H
      go_wp2
      go_meet
      case rel => exact ⟨_, (a1), (false), (by first | rfl | (simp; done) | (simp [*]; done)), H', ⟨by have := HJ3.out; first | omega | exact Nat.le_refl _⟩, ⟨by refine z2_ ?_; exact BK168.out⟩, ⟨by refine z2_ ?_; exact BK172.out⟩, ⟨by repeat (first | (with_reducible first | exact HB.out | apply below_alloc | apply pw_below_drewN | apply below_drew1 | refine below_set ?_ GE168.out | refine below_set ?_ GE172.out) | exact HB.out)⟩⟩
    case rest =>
     clear HC9
     try clear c1
     try clear q1
     try clear p2
     try clear c4
     try clear c6
     try clear c11
     try clear c11b0
     try clear c12
     try clear hcz13_0
     try clear hcz13_1
     try clear hcz13_2
     try clear hcz13_3
     try clear hcz13_4
     try clear hcz13_5
     try clear hcz13_6
     try clear hcz13_7
     try clear hcz7_0
     try clear hcz7_1
     try clear hcz7_2
     try clear hcz7_3
     try clear hcz7_4
     try clear hcz7_5
     try clear hcz7_6
     try clear hcz7_7
     try clear hfz13_0
     try clear hfz13_1
     try clear hfz13_2
     try clear hfz13_3
     try clear hfz13_4
     try clear hfz13_5
     try clear hfz13_6
     try clear hfz13_7
     try clear hfz7_0
     try clear hfz7_1
     try clear hfz7_2
     try clear hfz7_3
     try clear hfz7_4
     try clear hfz7_5
     try clear hfz7_6
     try clear hfz7_7
     try clear p2
     try clear q1
     try clear q171
     obtain ⟨kq, x1_8, x173000_8, rfl, HA, HJ8, BK168, BK172, HB⟩ := hcut
     cases kq with
     | zero => exact absurd HA.out (by simp [codec_Split.j1])
     | succ kj8 =>
      have H := HA.out
      clear HA
      simp only [codec_Split.j1] at H
      replace H := Option.bind_eq_some_iff.mp H
      obtain ⟨⟨t175, t176, t177⟩, A140, H⟩ := H
      replace H : (if t175 = true then ((lead_Field.f x1_8 (wrap64 ((mx (wrap64 ((wrap64 ((wrap64 (a0 - 1)) - t176)) - 1)) 0) - (mn (mx (wrap64 ((wrap64 ((wrap64 (a0 - 1)) - t176)) - 1)) 0) 2))) (mn (mx (wrap64 ((wrap64 ((wrap64 (a0 - 1)) - t176)) - 1)) 0) 2)).bind fun bt178 => ((lead_Field.f x1_8 0 (wrap64 ((mx (wrap64 ((wrap64 ((wrap64 (a0 - 1)) - t176)) - 1)) 0) - (mn (mx (wrap64 ((wrap64 ((wrap64 (a0 - 1)) - t176)) - 1)) 0) 2)))).bind fun bt180 => (some (x173000_8, t175, t176, wrap64 (t176 - 1), mn (mx (wrap64 ((wrap64 ((wrap64 (a0 - 1)) - t176)) - 1)) 0) 2, shl .i64 (wrap64 (bt178.1)) (2 - (mn (mx (wrap64 ((wrap64 ((wrap64 (a0 - 1)) - t176)) - 1)) 0) 2)), wrap64 ((mx (wrap64 ((wrap64 ((wrap64 (a0 - 1)) - t176)) - 1)) 0) - (mn (mx (wrap64 ((wrap64 ((wrap64 (a0 - 1)) - t176)) - 1)) 0) 2)), bt180.1, none)))) else ((lead_Field.f x1_8 (wrap64 ((mx (wrap64 ((wrap64 ((wrap64 (a0 - 1)) - t176)) - 1)) 0) - (mn (mx (wrap64 ((wrap64 ((wrap64 (a0 - 1)) - t176)) - 1)) 0) 2))) (mn (mx (wrap64 ((wrap64 ((wrap64 (a0 - 1)) - t176)) - 1)) 0) 2)).bind fun bt182 => ((lead_Field.f x1_8 0 (wrap64 ((mx (wrap64 ((wrap64 ((wrap64 (a0 - 1)) - t176)) - 1)) 0) - (mn (mx (wrap64 ((wrap64 ((wrap64 (a0 - 1)) - t176)) - 1)) 0) 2)))).bind fun bt184 => (some (x173000_8, t175, t176, wrap64 (-t176), mn (mx (wrap64 ((wrap64 ((wrap64 (a0 - 1)) - t176)) - 1)) 0) 2, shl .i64 (wrap64 (bt182.1)) (2 - (mn (mx (wrap64 ((wrap64 ((wrap64 (a0 - 1)) - t176)) - 1)) 0) 2)), wrap64 ((mx (wrap64 ((wrap64 ((wrap64 (a0 - 1)) - t176)) - 1)) 0) - (mn (mx (wrap64 ((wrap64 ((wrap64 (a0 - 1)) - t176)) - 1)) 0) 2)), bt184.1, none))))) = some (r1, r2, r3, r4, r5, r6, r7, r8, r9) := H
      have A14 := Aside0.mk A140
      clear A140
      by_cases c15 : t175 = true
      ·subst c15
       have H1 : ((lead_Field.f x1_8 (wrap64 ((mx (wrap64 ((wrap64 ((wrap64 (a0 - 1)) - t176)) - 1)) 0) - (mn (mx (wrap64 ((wrap64 ((wrap64 (a0 - 1)) - t176)) - 1)) 0) 2))) (mn (mx (wrap64 ((wrap64 ((wrap64 (a0 - 1)) - t176)) - 1)) 0) 2)).bind fun bt178 => ((lead_Field.f x1_8 0 (wrap64 ((mx (wrap64 ((wrap64 ((wrap64 (a0 - 1)) - t176)) - 1)) 0) - (mn (mx (wrap64 ((wrap64 ((wrap64 (a0 - 1)) - t176)) - 1)) 0) 2)))).bind fun bt180 => (some (x173000_8, true, t176, wrap64 (t176 - 1), mn (mx (wrap64 ((wrap64 ((wrap64 (a0 - 1)) - t176)) - 1)) 0) 2, shl .i64 (wrap64 (bt178.1)) (2 - (mn (mx (wrap64 ((wrap64 ((wrap64 (a0 - 1)) - t176)) - 1)) 0) 2)), wrap64 ((mx (wrap64 ((wrap64 ((wrap64 (a0 - 1)) - t176)) - 1)) 0) - (mn (mx (wrap64 ((wrap64 ((wrap64 (a0 - 1)) - t176)) - 1)) 0) 2)), bt180.1, none)))) = some (r1, r2, r3, r4, r5, r6, r7, r8, r9) := by rw [if_pos rfl] at H; exact H
       clear H
       have H := H1
       clear H1
       obtain ⟨ji16, hji16⟩ : ∃ j_ : Int, (mx (wrap64 ((wrap64 ((wrap64 (a0 - 1)) - t176)) - 1)) 0) = j_ := ⟨_, rfl⟩
       replace H : ((lead_Field.f x1_8 (wrap64 ((ji16) - (mn (ji16) 2))) (mn (ji16) 2)).bind fun bt178 => ((lead_Field.f x1_8 0 (wrap64 ((ji16) - (mn (ji16) 2)))).bind fun bt180 => (some (x173000_8, true, t176, wrap64 (t176 - 1), mn (ji16) 2, shl .i64 (wrap64 (bt178.1)) (2 - (mn (ji16) 2)), wrap64 ((ji16) - (mn (ji16) 2)), bt180.1, none)))) = some (r1, r2, r3, r4, r5, r6, r7, r8, r9) := by first | (rw [hji16] at H; exact H) | (simp only [hji16] at H ⊢; exact H)
       (try rw [hji16] at A14)
       (try (have hji16l : 0 ≤ ji16 := by (rw [← hji16]; unfold mx; (repeat' split) <;> omega)))
       (try (have hji16m : 0 ≤ ji16 := by omega))
       have hji16_ : (if (wrap64 ((wrap64 ((wrap64 (a0 - 1)) - t176)) - 1)) < 0 then 0 else (wrap64 ((wrap64 ((wrap64 (a0 - 1)) - t176)) - 1))) = ji16 := hji16
       obtain ⟨ji17, hji17⟩ : ∃ j_ : Int, (mn (ji16) 2) = j_ := ⟨_, rfl⟩
       replace H : ((lead_Field.f x1_8 (wrap64 ((ji16) - (ji17))) (ji17)).bind fun bt178 => ((lead_Field.f x1_8 0 (wrap64 ((ji16) - (ji17)))).bind fun bt180 => (some (x173000_8, true, t176, wrap64 (t176 - 1), ji17, shl .i64 (wrap64 (bt178.1)) (2 - (ji17)), wrap64 ((ji16) - (ji17)), bt180.1, none)))) = some (r1, r2, r3, r4, r5, r6, r7, r8, r9) := by first | (rw [hji17] at H; exact H) | (simp only [hji17] at H ⊢; exact H)
       (try rw [hji17] at A14)
       (try (have hji17h : ji17 ≤ 2 := by (rw [← hji17]; unfold mn; (repeat' split) <;> omega)))
       (try (have hji17g : ji17 ≤ 64 := by omega))
       (try (have hji17l : 0 ≤ ji17 := by (rw [← hji17]; unfold mn; (repeat' split) <;> omega)))
       (try (have hji17m : 0 ≤ ji17 := by omega))
       have hji17_ : (if 2 < (ji16) then 2 else (ji16)) = ji17 := hji17
       replace H := Option.bind_eq_some_iff.mp H
       obtain ⟨⟨t178, t179⟩, A180, H⟩ := H
       replace H : ((lead_Field.f x1_8 0 (wrap64 ((ji16) - (ji17)))).bind fun bt180 => (some (x173000_8, true, t176, wrap64 (t176 - 1), ji17, shl .i64 (wrap64 (t178)) (2 - (ji17)), wrap64 ((ji16) - (ji17)), bt180.1, none))) = some (r1, r2, r3, r4, r5, r6, r7, r8, r9) := H
       have A18 := Aside0.mk A180
       clear A180
       obtain ⟨ji19, hji19⟩ : ∃ j_ : Int, (shl .i64 (wrap64 (t178)) (2 - (ji17))) = j_ := ⟨_, rfl⟩
       replace H : ((lead_Field.f x1_8 0 (wrap64 ((ji16) - (ji17)))).bind fun bt180 => (some (x173000_8, true, t176, wrap64 (t176 - 1), ji17, ji19, wrap64 ((ji16) - (ji17)), bt180.1, none))) = some (r1, r2, r3, r4, r5, r6, r7, r8, r9) := by first | (rw [hji19] at H; exact H) | (simp only [hji19] at H ⊢; exact H)
       (try rw [hji19] at A14)
       (try rw [hji19] at A18)
       have hji19_ : (IntKind.i64.wrap ((wrap64 (t178)) * 2 ^ min (2 - (ji17)).toNat 64)) = ji19 := hji19
       have hji19z : (2 - (ji17)) ≤ 64 → (IntKind.i64.wrap ((wrap64 (t178)) * 2 ^ (2 - (ji17)).toNat)) = ji19 := shl_small hji19
       (try (have hji19Z_ := hji19z (by omega)))
       have hji19y : (wrap64 ((wrap64 (t178)) * 2 ^ min (2 - (ji17)).toNat 64)) = ji19 := (i64_w _).symm.trans hji19_
       have hji19x : (2 - (ji17)) ≤ 64 → (wrap64 ((wrap64 (t178)) * 2 ^ (2 - (ji17)).toNat)) = ji19 := fun h_ => (i64_w _).symm.trans (hji19z h_)
       (try (have hji19X_ := hji19x (by omega)))
       replace H := Option.bind_eq_some_iff.mp H
       obtain ⟨⟨t180, t181⟩, A200, H⟩ := H
       replace H : (some (x173000_8, true, t176, wrap64 (t176 - 1), ji17, ji19, wrap64 ((ji16) - (ji17)), t180, none)) = some (r1, r2, r3, r4, r5, r6, r7, r8, r9) := H
       have A20 := Aside0.mk A200
       clear A200
       simp only [Option.some.injEq, Prod.mk.injEq] at H
       obtain ⟨rfl, rfl, rfl, rfl, rfl, rfl, rfl, rfl, rfl⟩ := H
       go_wp2_with (first | ((with_reducible refine gate_callee (f := 65) rfl ?_); refine goesL_ (some 44) rfl rfl Try.func65 (by kernel_rfl) rfl #[.int .u64 x1_8, .int .i64 (wrap64 (a0 - 1))] rfl z5_ ?_; (with_reducible refine (lead_Run.calls kj8 x1_8 (wrap64 (a0 - 1)) true t176 t177 _ A14.out).mono ?_); rintro e w21 ⟨rfl, hb⟩; refine ⟨_, rfl, ?_⟩; have n0_ := Aside0.mk (blk_below (g := gb168) (z1_ BK168.out) hb); have n1_ := Aside0.mk (blk_below (g := gb172) (z1_ BK172.out) hb); have n2_ := Aside0.mk (below_step (z3_ HB.out) hb); clear BK168; clear BK172; clear HB; have BK168 := n0_; have BK172 := n1_; have HB := n2_; clear n0_ n1_ n2_; (try clear hb); (try clear hb2); (try clear hk); (try clear hi); (try simp only [errW_none, errW_some]); have hnb22 := NB172_168.out; have hnc22 := NB168_172.out; have hcz23_0 := z4_ BK172.out 0 (.bool x173000_8) rfl; have hcz23_1 := z4_ BK172.out 1 (.bool false) rfl; have hcz23_2 := z4_ BK172.out 2 (.int .i64 0) rfl; have hcz23_3 := z4_ BK172.out 3 (.int .i64 0) rfl; have hcz23_4 := z4_ BK172.out 4 (.int .i64 0) rfl; have hcz23_5 := z4_ BK172.out 5 (.int .i64 0) rfl; have hcz23_6 := z4_ BK172.out 6 (.int .i64 0) rfl; have hcz23_7 := z4_ BK172.out 7 (.int .u64 0) rfl; have hfz23_0 := blk_frozen BK172.out 0; have hfz23_1 := blk_frozen BK172.out 1; have hfz23_2 := blk_frozen BK172.out 2; have hfz23_3 := blk_frozen BK172.out 3; have hfz23_4 := blk_frozen BK172.out 4; have hfz23_5 := blk_frozen BK172.out 5; have hfz23_6 := blk_frozen BK172.out 6; have hfz23_7 := blk_frozen BK172.out 7) | ((with_reducible refine gate_callee (f := 66) rfl ?_); refine goesL_ (some 78) rfl rfl Try.func66 (by kernel_rfl) rfl #[.int .u64 x1_8, .int .i64 (wrap64 ((ji16) - (ji17))), .int .i64 ji17] rfl (by (try simp only [List.map_toArray, List.map_cons, List.map_nil]); first | done | (simp only [hji16, hji17]; rfl) | rfl | (simp only [List.length_drop, List.length_take]; rfl)) ?_; (with_reducible refine (lead_Field.calls x1_8 (wrap64 ((ji16) - (ji17))) ji17 t178 t179 _ A18.out).mono ?_); rintro e w24 ⟨rfl, hb⟩; refine ⟨_, rfl, ?_⟩; have n0_ := Aside0.mk (blk_below (g := gb168) (o := .cells #[.bool false, .bool false, .int .i64 0, .int .i64 0, .int .i64 0, .int .i64 0, .int .i64 0, .int .u64 0] 86 (0, 0)) (by refine z2_ ?_; refine blk_far ?_ NB168_172.out _; refine z2_ ?_; refine blk_far ?_ NB168_172.out _; refine z2_ ?_; refine blk_far ?_ NB168_172.out _; refine z2_ ?_; refine blk_far ?_ NB168_172.out _; refine z2_ ?_; refine blk_far ?_ NB168_172.out _; refine z2_ ?_; exact BK168.out) hb); have n1_ := Aside0.mk (blk_below (g := gb172) (o := .cells #[.bool x173000_8, .bool true, .int .i64 t176, .int .i64 (wrap64 (t176 - 1)), .int .i64 ji17, .int .i64 0, .int .i64 0, .int .u64 0] 86 (0, 0)) (by refine z2_ ?_; refine blk_put (cs := #[.bool x173000_8, .bool true, .int .i64 t176, .int .i64 (wrap64 (t176 - 1)), .int .i64 0, .int .i64 0, .int .i64 0, .int .u64 0]) ?_ 4 _ rfl; refine z2_ ?_; refine blk_put (cs := #[.bool x173000_8, .bool true, .int .i64 t176, .int .i64 (wrap64 (-t176)), .int .i64 0, .int .i64 0, .int .i64 0, .int .u64 0]) ?_ 3 _ rfl; refine z2_ ?_; refine blk_put (cs := #[.bool x173000_8, .bool true, .int .i64 t176, .int .i64 0, .int .i64 0, .int .i64 0, .int .i64 0, .int .u64 0]) ?_ 3 _ rfl; refine z2_ ?_; refine blk_put (cs := #[.bool x173000_8, .bool true, .int .i64 0, .int .i64 0, .int .i64 0, .int .i64 0, .int .i64 0, .int .u64 0]) ?_ 2 _ rfl; refine z2_ ?_; refine blk_put (cs := #[.bool x173000_8, .bool false, .int .i64 0, .int .i64 0, .int .i64 0, .int .i64 0, .int .i64 0, .int .u64 0]) ?_ 1 _ rfl; refine z2_ ?_; exact BK172.out) hb); have n2_ := Aside0.mk (below_step (z3_ HB.out) hb); clear BK168; clear BK172; clear HB; have BK168 := n0_; have BK172 := n1_; have HB := n2_; clear n0_ n1_ n2_; (try clear hb); (try clear hb2); (try clear hk); (try clear hi); (try simp only [errW_none, errW_some]); have hcz25_0 := z4_ BK172.out 0 (.bool x173000_8) rfl; have hcz25_1 := z4_ BK172.out 1 (.bool true) rfl; have hcz25_2 := z4_ BK172.out 2 (.int .i64 t176) rfl; have hcz25_3 := z4_ BK172.out 3 (.int .i64 (wrap64 (t176 - 1))) rfl; have hcz25_4 := z4_ BK172.out 4 (.int .i64 ji17) rfl; have hcz25_5 := z4_ BK172.out 5 (.int .i64 0) rfl; have hcz25_6 := z4_ BK172.out 6 (.int .i64 0) rfl; have hcz25_7 := z4_ BK172.out 7 (.int .u64 0) rfl; have hfz25_0 := blk_frozen BK172.out 0; have hfz25_1 := blk_frozen BK172.out 1; have hfz25_2 := blk_frozen BK172.out 2; have hfz25_3 := blk_frozen BK172.out 3; have hfz25_4 := blk_frozen BK172.out 4; have hfz25_5 := blk_frozen BK172.out 5; have hfz25_6 := blk_frozen BK172.out 6; have hfz25_7 := blk_frozen BK172.out 7) | ((with_reducible refine gate_callee (f := 66) rfl ?_); refine goesL_ (some 93) rfl rfl Try.func66 (by kernel_rfl) rfl #[.int .u64 x1_8, .int .i64 0, .int .i64 (wrap64 ((ji16) - (ji17)))] rfl (by (try simp only [List.map_toArray, List.map_cons, List.map_nil]); first | done | (simp only [hji16, hji17]; rfl) | rfl | (simp only [List.length_drop, List.length_take]; rfl)) ?_; (with_reducible refine (lead_Field.calls x1_8 0 (wrap64 ((ji16) - (ji17))) t180 t181 _ A20.out).mono ?_); rintro e w26 ⟨rfl, hb⟩; refine ⟨_, rfl, ?_⟩; have n0_ := Aside0.mk (blk_below (g := gb168) (o := .cells #[.bool false, .bool false, .int .i64 0, .int .i64 0, .int .i64 0, .int .i64 0, .int .i64 0, .int .u64 0] 86 (0, 0)) (by refine z2_ ?_; refine blk_far ?_ NB168_172.out _; refine z2_ ?_; refine blk_far ?_ NB168_172.out _; refine z2_ ?_; exact BK168.out) hb); have n1_ := Aside0.mk (blk_below (g := gb172) (o := .cells #[.bool x173000_8, .bool true, .int .i64 t176, .int .i64 (wrap64 (t176 - 1)), .int .i64 ji17, .int .i64 ji19, .int .i64 (wrap64 ((ji16) - (ji17))), .int .u64 0] 86 (0, 0)) (by refine z2_ ?_; refine blk_put (cs := #[.bool x173000_8, .bool true, .int .i64 t176, .int .i64 (wrap64 (t176 - 1)), .int .i64 ji17, .int .i64 ji19, .int .i64 0, .int .u64 0]) ?_ 6 _ rfl; refine z2_ ?_; refine blk_put (cs := #[.bool x173000_8, .bool true, .int .i64 t176, .int .i64 (wrap64 (t176 - 1)), .int .i64 ji17, .int .i64 0, .int .i64 0, .int .u64 0]) ?_ 5 _ rfl; refine z2_ ?_; exact BK172.out) hb); have n2_ := Aside0.mk (below_step (z3_ HB.out) hb); clear BK168; clear BK172; clear HB; have BK168 := n0_; have BK172 := n1_; have HB := n2_; clear n0_ n1_ n2_; (try clear hb); (try clear hb2); (try clear hk); (try clear hi); (try simp only [errW_none, errW_some]); have hcz27_0 := z4_ BK172.out 0 (.bool x173000_8) rfl; have hcz27_1 := z4_ BK172.out 1 (.bool true) rfl; have hcz27_2 := z4_ BK172.out 2 (.int .i64 t176) rfl; have hcz27_3 := z4_ BK172.out 3 (.int .i64 (wrap64 (t176 - 1))) rfl; have hcz27_4 := z4_ BK172.out 4 (.int .i64 ji17) rfl; have hcz27_5 := z4_ BK172.out 5 (.int .i64 ji19) rfl; have hcz27_6 := z4_ BK172.out 6 (.int .i64 (wrap64 ((ji16) - (ji17)))) rfl; have hcz27_7 := z4_ BK172.out 7 (.int .u64 0) rfl; have hfz27_0 := blk_frozen BK172.out 0; have hfz27_1 := blk_frozen BK172.out 1; have hfz27_2 := blk_frozen BK172.out 2; have hfz27_3 := blk_frozen BK172.out 3; have hfz27_4 := blk_frozen BK172.out 4; have hfz27_5 := blk_frozen BK172.out 5; have hfz27_6 := blk_frozen BK172.out 6; have hfz27_7 := blk_frozen BK172.out 7; have hcz28_0 := z4_ BK168.out 0 (.bool false) rfl; have hcz28_1 := z4_ BK168.out 1 (.bool false) rfl; have hcz28_2 := z4_ BK168.out 2 (.int .i64 0) rfl; have hcz28_3 := z4_ BK168.out 3 (.int .i64 0) rfl; have hcz28_4 := z4_ BK168.out 4 (.int .i64 0) rfl; have hcz28_5 := z4_ BK168.out 5 (.int .i64 0) rfl; have hcz28_6 := z4_ BK168.out 6 (.int .i64 0) rfl; have hcz28_7 := z4_ BK168.out 7 (.int .u64 0) rfl; have hfz28_0 := blk_frozen BK168.out 0; have hfz28_1 := blk_frozen BK168.out 1; have hfz28_2 := blk_frozen BK168.out 2; have hfz28_3 := blk_frozen BK168.out 3; have hfz28_4 := blk_frozen BK168.out 4; have hfz28_5 := blk_frozen BK168.out 5; have hfz28_6 := blk_frozen BK168.out 6; have hfz28_7 := blk_frozen BK168.out 7))
       refine bodyPost_ret (results_ct rfl _ _ gb168 86 #[.bool x173000_8, .bool true, .int .i64 t176, .int .i64 (wrap64 (t176 - 1)), .int .i64 ji17, .int .i64 ji19, .int .i64 (wrap64 ((ji16) - (ji17))), .int .u64 t180] (0, 0) _ rfl (by refine z2_ ?_; refine blk_put (cs := #[.bool x173000_8, .bool true, .int .i64 t176, .int .i64 (wrap64 (t176 - 1)), .int .i64 ji17, .int .i64 ji19, .int .i64 (wrap64 ((ji16) - (ji17))), .int .u64 0]) ?_ 7 _ rfl; refine z2_ ?_; refine blk_put (cs := #[.bool x173000_8, .bool true, .int .i64 t176, .int .i64 (wrap64 (t176 - 1)), .int .i64 ji17, .int .i64 ji19, .int .i64 0, .int .u64 0]) ?_ 6 _ rfl; refine z2_ ?_; refine blk_put (cs := #[.bool x173000_8, .bool true, .int .i64 t176, .int .i64 (wrap64 (t176 - 1)), .int .i64 ji17, .int .i64 0, .int .i64 0, .int .u64 0]) ?_ 5 _ rfl; refine z2_ ?_; refine blk_put (cs := #[.bool x173000_8, .bool true, .int .i64 t176, .int .i64 (wrap64 (t176 - 1)), .int .i64 0, .int .i64 0, .int .i64 0, .int .u64 0]) ?_ 4 _ rfl; refine z2_ ?_; refine blk_put (cs := #[.bool x173000_8, .bool true, .int .i64 t176, .int .i64 0, .int .i64 0, .int .i64 0, .int .i64 0, .int .u64 0]) ?_ 3 _ rfl; refine z2_ ?_; refine blk_put (cs := #[.bool x173000_8, .bool true, .int .i64 0, .int .i64 0, .int .i64 0, .int .i64 0, .int .i64 0, .int .u64 0]) ?_ 2 _ rfl; refine z2_ ?_; refine blk_put (cs := #[.bool x173000_8, .bool false, .int .i64 0, .int .i64 0, .int .i64 0, .int .i64 0, .int .i64 0, .int .u64 0]) ?_ 1 _ rfl; refine z2_ ?_; refine blk_put (cs := #[.bool false, .bool false, .int .i64 0, .int .i64 0, .int .i64 0, .int .i64 0, .int .i64 0, .int .u64 0]) ?_ 0 _ rfl; refine z2_ ?_; refine blk_far ?_ NB168_172.out _; refine z2_ ?_; exact BK168.out) Try.underlying86 rfl (by kernel_rfl)) rfl ?_
       exact ⟨by first | rfl | (simp [errW_none, errW_some] <;> rfl) | (simp only [← hji16, ← hji17, ← hji19]; first | rfl | (simp [errW_none, errW_some] <;> rfl)) | (simp [*, errW_none, errW_some] <;> rfl), by repeat (first | (with_reducible first | exact HB.out | apply below_alloc | apply pw_below_drewN | apply below_drew1 | refine below_set ?_ GE168.out | refine below_set ?_ GE172.out) | exact HB.out)⟩
      ·replace c15 := Bool.eq_false_iff.mpr c15
       subst c15
       have H1 : ((lead_Field.f x1_8 (wrap64 ((mx (wrap64 ((wrap64 ((wrap64 (a0 - 1)) - t176)) - 1)) 0) - (mn (mx (wrap64 ((wrap64 ((wrap64 (a0 - 1)) - t176)) - 1)) 0) 2))) (mn (mx (wrap64 ((wrap64 ((wrap64 (a0 - 1)) - t176)) - 1)) 0) 2)).bind fun bt182 => ((lead_Field.f x1_8 0 (wrap64 ((mx (wrap64 ((wrap64 ((wrap64 (a0 - 1)) - t176)) - 1)) 0) - (mn (mx (wrap64 ((wrap64 ((wrap64 (a0 - 1)) - t176)) - 1)) 0) 2)))).bind fun bt184 => (some (x173000_8, false, t176, wrap64 (-t176), mn (mx (wrap64 ((wrap64 ((wrap64 (a0 - 1)) - t176)) - 1)) 0) 2, shl .i64 (wrap64 (bt182.1)) (2 - (mn (mx (wrap64 ((wrap64 ((wrap64 (a0 - 1)) - t176)) - 1)) 0) 2)), wrap64 ((mx (wrap64 ((wrap64 ((wrap64 (a0 - 1)) - t176)) - 1)) 0) - (mn (mx (wrap64 ((wrap64 ((wrap64 (a0 - 1)) - t176)) - 1)) 0) 2)), bt184.1, none)))) = some (r1, r2, r3, r4, r5, r6, r7, r8, r9) := by rw [if_neg (show ¬ (false = true) by decide)] at H; exact H
       clear H
       have H := H1
       clear H1
       obtain ⟨ji29, hji29⟩ : ∃ j_ : Int, (mx (wrap64 ((wrap64 ((wrap64 (a0 - 1)) - t176)) - 1)) 0) = j_ := ⟨_, rfl⟩
       replace H : ((lead_Field.f x1_8 (wrap64 ((ji29) - (mn (ji29) 2))) (mn (ji29) 2)).bind fun bt182 => ((lead_Field.f x1_8 0 (wrap64 ((ji29) - (mn (ji29) 2)))).bind fun bt184 => (some (x173000_8, false, t176, wrap64 (-t176), mn (ji29) 2, shl .i64 (wrap64 (bt182.1)) (2 - (mn (ji29) 2)), wrap64 ((ji29) - (mn (ji29) 2)), bt184.1, none)))) = some (r1, r2, r3, r4, r5, r6, r7, r8, r9) := by first | (rw [hji29] at H; exact H) | (simp only [hji29] at H ⊢; exact H)
       (try rw [hji29] at A14)
       (try (have hji29l : 0 ≤ ji29 := by (rw [← hji29]; unfold mx; (repeat' split) <;> omega)))
       (try (have hji29m : 0 ≤ ji29 := by omega))
       have hji29_ : (if (wrap64 ((wrap64 ((wrap64 (a0 - 1)) - t176)) - 1)) < 0 then 0 else (wrap64 ((wrap64 ((wrap64 (a0 - 1)) - t176)) - 1))) = ji29 := hji29
       obtain ⟨ji30, hji30⟩ : ∃ j_ : Int, (mn (ji29) 2) = j_ := ⟨_, rfl⟩
       replace H : ((lead_Field.f x1_8 (wrap64 ((ji29) - (ji30))) (ji30)).bind fun bt182 => ((lead_Field.f x1_8 0 (wrap64 ((ji29) - (ji30)))).bind fun bt184 => (some (x173000_8, false, t176, wrap64 (-t176), ji30, shl .i64 (wrap64 (bt182.1)) (2 - (ji30)), wrap64 ((ji29) - (ji30)), bt184.1, none)))) = some (r1, r2, r3, r4, r5, r6, r7, r8, r9) := by first | (rw [hji30] at H; exact H) | (simp only [hji30] at H ⊢; exact H)
       (try rw [hji30] at A14)
       (try (have hji30h : ji30 ≤ 2 := by (rw [← hji30]; unfold mn; (repeat' split) <;> omega)))
       (try (have hji30g : ji30 ≤ 64 := by omega))
       (try (have hji30l : 0 ≤ ji30 := by (rw [← hji30]; unfold mn; (repeat' split) <;> omega)))
       (try (have hji30m : 0 ≤ ji30 := by omega))
       have hji30_ : (if 2 < (ji29) then 2 else (ji29)) = ji30 := hji30
       replace H := Option.bind_eq_some_iff.mp H
       obtain ⟨⟨t182, t183⟩, A310, H⟩ := H
       replace H : ((lead_Field.f x1_8 0 (wrap64 ((ji29) - (ji30)))).bind fun bt184 => (some (x173000_8, false, t176, wrap64 (-t176), ji30, shl .i64 (wrap64 (t182)) (2 - (ji30)), wrap64 ((ji29) - (ji30)), bt184.1, none))) = some (r1, r2, r3, r4, r5, r6, r7, r8, r9) := H
       have A31 := Aside0.mk A310
       clear A310
       obtain ⟨ji32, hji32⟩ : ∃ j_ : Int, (shl .i64 (wrap64 (t182)) (2 - (ji30))) = j_ := ⟨_, rfl⟩
       replace H : ((lead_Field.f x1_8 0 (wrap64 ((ji29) - (ji30)))).bind fun bt184 => (some (x173000_8, false, t176, wrap64 (-t176), ji30, ji32, wrap64 ((ji29) - (ji30)), bt184.1, none))) = some (r1, r2, r3, r4, r5, r6, r7, r8, r9) := by first | (rw [hji32] at H; exact H) | (simp only [hji32] at H ⊢; exact H)
       (try rw [hji32] at A14)
       (try rw [hji32] at A31)
       have hji32_ : (IntKind.i64.wrap ((wrap64 (t182)) * 2 ^ min (2 - (ji30)).toNat 64)) = ji32 := hji32
       have hji32z : (2 - (ji30)) ≤ 64 → (IntKind.i64.wrap ((wrap64 (t182)) * 2 ^ (2 - (ji30)).toNat)) = ji32 := shl_small hji32
       (try (have hji32Z_ := hji32z (by omega)))
       have hji32y : (wrap64 ((wrap64 (t182)) * 2 ^ min (2 - (ji30)).toNat 64)) = ji32 := (i64_w _).symm.trans hji32_
       have hji32x : (2 - (ji30)) ≤ 64 → (wrap64 ((wrap64 (t182)) * 2 ^ (2 - (ji30)).toNat)) = ji32 := fun h_ => (i64_w _).symm.trans (hji32z h_)
       (try (have hji32X_ := hji32x (by omega)))
       replace H := Option.bind_eq_some_iff.mp H
       obtain ⟨⟨t184, t185⟩, A330, H⟩ := H
       replace H : (some (x173000_8, false, t176, wrap64 (-t176), ji30, ji32, wrap64 ((ji29) - (ji30)), t184, none)) = some (r1, r2, r3, r4, r5, r6, r7, r8, r9) := H
       have A33 := Aside0.mk A330
       clear A330
       simp only [Option.some.injEq, Prod.mk.injEq] at H
       obtain ⟨rfl, rfl, rfl, rfl, rfl, rfl, rfl, rfl, rfl⟩ := H
       go_wp2_with (first | ((with_reducible refine gate_callee (f := 65) rfl ?_); refine goesL_ (some 44) rfl rfl Try.func65 (by kernel_rfl) rfl #[.int .u64 x1_8, .int .i64 (wrap64 (a0 - 1))] rfl z5_ ?_; (with_reducible refine (lead_Run.calls kj8 x1_8 (wrap64 (a0 - 1)) false t176 t177 _ A14.out).mono ?_); rintro e w34 ⟨rfl, hb⟩; refine ⟨_, rfl, ?_⟩; have n0_ := Aside0.mk (blk_below (g := gb168) (z1_ BK168.out) hb); have n1_ := Aside0.mk (blk_below (g := gb172) (z1_ BK172.out) hb); have n2_ := Aside0.mk (below_step (z3_ HB.out) hb); clear BK168; clear BK172; clear HB; have BK168 := n0_; have BK172 := n1_; have HB := n2_; clear n0_ n1_ n2_; (try clear hb); (try clear hb2); (try clear hk); (try clear hi); (try simp only [errW_none, errW_some]); have hnb35 := NB172_168.out; have hnc35 := NB168_172.out; have hcz36_0 := z4_ BK172.out 0 (.bool x173000_8) rfl; have hcz36_1 := z4_ BK172.out 1 (.bool false) rfl; have hcz36_2 := z4_ BK172.out 2 (.int .i64 0) rfl; have hcz36_3 := z4_ BK172.out 3 (.int .i64 0) rfl; have hcz36_4 := z4_ BK172.out 4 (.int .i64 0) rfl; have hcz36_5 := z4_ BK172.out 5 (.int .i64 0) rfl; have hcz36_6 := z4_ BK172.out 6 (.int .i64 0) rfl; have hcz36_7 := z4_ BK172.out 7 (.int .u64 0) rfl; have hfz36_0 := blk_frozen BK172.out 0; have hfz36_1 := blk_frozen BK172.out 1; have hfz36_2 := blk_frozen BK172.out 2; have hfz36_3 := blk_frozen BK172.out 3; have hfz36_4 := blk_frozen BK172.out 4; have hfz36_5 := blk_frozen BK172.out 5; have hfz36_6 := blk_frozen BK172.out 6; have hfz36_7 := blk_frozen BK172.out 7) | ((with_reducible refine gate_callee (f := 66) rfl ?_); refine goesL_ (some 78) rfl rfl Try.func66 (by kernel_rfl) rfl #[.int .u64 x1_8, .int .i64 (wrap64 ((ji29) - (ji30))), .int .i64 ji30] rfl (by (try simp only [List.map_toArray, List.map_cons, List.map_nil]); first | done | (simp only [hji29, hji30]; rfl) | rfl | (simp only [List.length_drop, List.length_take]; rfl)) ?_; (with_reducible refine (lead_Field.calls x1_8 (wrap64 ((ji29) - (ji30))) ji30 t182 t183 _ A31.out).mono ?_); rintro e w37 ⟨rfl, hb⟩; refine ⟨_, rfl, ?_⟩; have n0_ := Aside0.mk (blk_below (g := gb168) (o := .cells #[.bool false, .bool false, .int .i64 0, .int .i64 0, .int .i64 0, .int .i64 0, .int .i64 0, .int .u64 0] 86 (0, 0)) (by refine z2_ ?_; refine blk_far ?_ NB168_172.out _; refine z2_ ?_; refine blk_far ?_ NB168_172.out _; refine z2_ ?_; refine blk_far ?_ NB168_172.out _; refine z2_ ?_; refine blk_far ?_ NB168_172.out _; refine z2_ ?_; exact BK168.out) hb); have n1_ := Aside0.mk (blk_below (g := gb172) (o := .cells #[.bool x173000_8, .bool false, .int .i64 t176, .int .i64 (wrap64 (-t176)), .int .i64 ji30, .int .i64 0, .int .i64 0, .int .u64 0] 86 (0, 0)) (by refine z2_ ?_; refine blk_put (cs := #[.bool x173000_8, .bool false, .int .i64 t176, .int .i64 (wrap64 (-t176)), .int .i64 0, .int .i64 0, .int .i64 0, .int .u64 0]) ?_ 4 _ rfl; refine z2_ ?_; refine blk_put (cs := #[.bool x173000_8, .bool false, .int .i64 t176, .int .i64 0, .int .i64 0, .int .i64 0, .int .i64 0, .int .u64 0]) ?_ 3 _ rfl; refine z2_ ?_; refine blk_put (cs := #[.bool x173000_8, .bool false, .int .i64 0, .int .i64 0, .int .i64 0, .int .i64 0, .int .i64 0, .int .u64 0]) ?_ 2 _ rfl; refine z2_ ?_; refine blk_put (cs := #[.bool x173000_8, .bool false, .int .i64 0, .int .i64 0, .int .i64 0, .int .i64 0, .int .i64 0, .int .u64 0]) ?_ 1 _ rfl; refine z2_ ?_; exact BK172.out) hb); have n2_ := Aside0.mk (below_step (z3_ HB.out) hb); clear BK168; clear BK172; clear HB; have BK168 := n0_; have BK172 := n1_; have HB := n2_; clear n0_ n1_ n2_; (try clear hb); (try clear hb2); (try clear hk); (try clear hi); (try simp only [errW_none, errW_some]); have hcz38_0 := z4_ BK172.out 0 (.bool x173000_8) rfl; have hcz38_1 := z4_ BK172.out 1 (.bool false) rfl; have hcz38_2 := z4_ BK172.out 2 (.int .i64 t176) rfl; have hcz38_3 := z4_ BK172.out 3 (.int .i64 (wrap64 (-t176))) rfl; have hcz38_4 := z4_ BK172.out 4 (.int .i64 ji30) rfl; have hcz38_5 := z4_ BK172.out 5 (.int .i64 0) rfl; have hcz38_6 := z4_ BK172.out 6 (.int .i64 0) rfl; have hcz38_7 := z4_ BK172.out 7 (.int .u64 0) rfl; have hfz38_0 := blk_frozen BK172.out 0; have hfz38_1 := blk_frozen BK172.out 1; have hfz38_2 := blk_frozen BK172.out 2; have hfz38_3 := blk_frozen BK172.out 3; have hfz38_4 := blk_frozen BK172.out 4; have hfz38_5 := blk_frozen BK172.out 5; have hfz38_6 := blk_frozen BK172.out 6; have hfz38_7 := blk_frozen BK172.out 7) | ((with_reducible refine gate_callee (f := 66) rfl ?_); refine goesL_ (some 93) rfl rfl Try.func66 (by kernel_rfl) rfl #[.int .u64 x1_8, .int .i64 0, .int .i64 (wrap64 ((ji29) - (ji30)))] rfl (by (try simp only [List.map_toArray, List.map_cons, List.map_nil]); first | done | (simp only [hji29, hji30]; rfl) | rfl | (simp only [List.length_drop, List.length_take]; rfl)) ?_; (with_reducible refine (lead_Field.calls x1_8 0 (wrap64 ((ji29) - (ji30))) t184 t185 _ A33.out).mono ?_); rintro e w39 ⟨rfl, hb⟩; refine ⟨_, rfl, ?_⟩; have n0_ := Aside0.mk (blk_below (g := gb168) (o := .cells #[.bool false, .bool false, .int .i64 0, .int .i64 0, .int .i64 0, .int .i64 0, .int .i64 0, .int .u64 0] 86 (0, 0)) (by refine z2_ ?_; refine blk_far ?_ NB168_172.out _; refine z2_ ?_; refine blk_far ?_ NB168_172.out _; refine z2_ ?_; exact BK168.out) hb); have n1_ := Aside0.mk (blk_below (g := gb172) (o := .cells #[.bool x173000_8, .bool false, .int .i64 t176, .int .i64 (wrap64 (-t176)), .int .i64 ji30, .int .i64 ji32, .int .i64 (wrap64 ((ji29) - (ji30))), .int .u64 0] 86 (0, 0)) (by refine z2_ ?_; refine blk_put (cs := #[.bool x173000_8, .bool false, .int .i64 t176, .int .i64 (wrap64 (-t176)), .int .i64 ji30, .int .i64 ji32, .int .i64 0, .int .u64 0]) ?_ 6 _ rfl; refine z2_ ?_; refine blk_put (cs := #[.bool x173000_8, .bool false, .int .i64 t176, .int .i64 (wrap64 (-t176)), .int .i64 ji30, .int .i64 0, .int .i64 0, .int .u64 0]) ?_ 5 _ rfl; refine z2_ ?_; exact BK172.out) hb); have n2_ := Aside0.mk (below_step (z3_ HB.out) hb); clear BK168; clear BK172; clear HB; have BK168 := n0_; have BK172 := n1_; have HB := n2_; clear n0_ n1_ n2_; (try clear hb); (try clear hb2); (try clear hk); (try clear hi); (try simp only [errW_none, errW_some]); have hcz40_0 := z4_ BK172.out 0 (.bool x173000_8) rfl; have hcz40_1 := z4_ BK172.out 1 (.bool false) rfl; have hcz40_2 := z4_ BK172.out 2 (.int .i64 t176) rfl; have hcz40_3 := z4_ BK172.out 3 (.int .i64 (wrap64 (-t176))) rfl; have hcz40_4 := z4_ BK172.out 4 (.int .i64 ji30) rfl; have hcz40_5 := z4_ BK172.out 5 (.int .i64 ji32) rfl; have hcz40_6 := z4_ BK172.out 6 (.int .i64 (wrap64 ((ji29) - (ji30)))) rfl; have hcz40_7 := z4_ BK172.out 7 (.int .u64 0) rfl; have hfz40_0 := blk_frozen BK172.out 0; have hfz40_1 := blk_frozen BK172.out 1; have hfz40_2 := blk_frozen BK172.out 2; have hfz40_3 := blk_frozen BK172.out 3; have hfz40_4 := blk_frozen BK172.out 4; have hfz40_5 := blk_frozen BK172.out 5; have hfz40_6 := blk_frozen BK172.out 6; have hfz40_7 := blk_frozen BK172.out 7; have hcz41_0 := z4_ BK168.out 0 (.bool false) rfl; have hcz41_1 := z4_ BK168.out 1 (.bool false) rfl; have hcz41_2 := z4_ BK168.out 2 (.int .i64 0) rfl; have hcz41_3 := z4_ BK168.out 3 (.int .i64 0) rfl; have hcz41_4 := z4_ BK168.out 4 (.int .i64 0) rfl; have hcz41_5 := z4_ BK168.out 5 (.int .i64 0) rfl; have hcz41_6 := z4_ BK168.out 6 (.int .i64 0) rfl; have hcz41_7 := z4_ BK168.out 7 (.int .u64 0) rfl; have hfz41_0 := blk_frozen BK168.out 0; have hfz41_1 := blk_frozen BK168.out 1; have hfz41_2 := blk_frozen BK168.out 2; have hfz41_3 := blk_frozen BK168.out 3; have hfz41_4 := blk_frozen BK168.out 4; have hfz41_5 := blk_frozen BK168.out 5; have hfz41_6 := blk_frozen BK168.out 6; have hfz41_7 := blk_frozen BK168.out 7))
       refine bodyPost_ret (results_ct rfl _ _ gb168 86 #[.bool x173000_8, .bool false, .int .i64 t176, .int .i64 (wrap64 (-t176)), .int .i64 ji30, .int .i64 ji32, .int .i64 (wrap64 ((ji29) - (ji30))), .int .u64 t184] (0, 0) _ rfl (by refine z2_ ?_; refine blk_put (cs := #[.bool x173000_8, .bool false, .int .i64 t176, .int .i64 (wrap64 (-t176)), .int .i64 ji30, .int .i64 ji32, .int .i64 (wrap64 ((ji29) - (ji30))), .int .u64 0]) ?_ 7 _ rfl; refine z2_ ?_; refine blk_put (cs := #[.bool x173000_8, .bool false, .int .i64 t176, .int .i64 (wrap64 (-t176)), .int .i64 ji30, .int .i64 ji32, .int .i64 0, .int .u64 0]) ?_ 6 _ rfl; refine z2_ ?_; refine blk_put (cs := #[.bool x173000_8, .bool false, .int .i64 t176, .int .i64 (wrap64 (-t176)), .int .i64 ji30, .int .i64 0, .int .i64 0, .int .u64 0]) ?_ 5 _ rfl; refine z2_ ?_; refine blk_put (cs := #[.bool x173000_8, .bool false, .int .i64 t176, .int .i64 (wrap64 (-t176)), .int .i64 0, .int .i64 0, .int .i64 0, .int .u64 0]) ?_ 4 _ rfl; refine z2_ ?_; refine blk_put (cs := #[.bool x173000_8, .bool false, .int .i64 t176, .int .i64 0, .int .i64 0, .int .i64 0, .int .i64 0, .int .u64 0]) ?_ 3 _ rfl; refine z2_ ?_; refine blk_put (cs := #[.bool x173000_8, .bool false, .int .i64 0, .int .i64 0, .int .i64 0, .int .i64 0, .int .i64 0, .int .u64 0]) ?_ 2 _ rfl; refine z2_ ?_; refine blk_put (cs := #[.bool x173000_8, .bool false, .int .i64 0, .int .i64 0, .int .i64 0, .int .i64 0, .int .i64 0, .int .u64 0]) ?_ 1 _ rfl; refine z2_ ?_; refine blk_put (cs := #[.bool false, .bool false, .int .i64 0, .int .i64 0, .int .i64 0, .int .i64 0, .int .i64 0, .int .u64 0]) ?_ 0 _ rfl; refine z2_ ?_; refine blk_far ?_ NB168_172.out _; refine z2_ ?_; exact BK168.out) Try.underlying86 rfl (by kernel_rfl)) rfl ?_
       exact ⟨by first | rfl | (simp [errW_none, errW_some] <;> rfl) | (simp only [← hji29, ← hji30, ← hji32]; first | rfl | (simp [errW_none, errW_some] <;> rfl)) | (simp [*, errW_none, errW_some] <;> rfl), by repeat (first | (with_reducible first | exact HB.out | apply below_alloc | apply pw_below_drewN | apply below_drew1 | refine below_set ?_ GE168.out | refine below_set ?_ GE172.out) | exact HB.out)⟩
end Go.Proofs.Ytebhpipfkomhjaa.PAll
namespace Go.Proofs.Ytebhpipfkomhjaa.PAll
open Go.RowKit Go.Proofs.YtebhpipfkomhjaaW.PrintWords Go.Proofs.YtebhpipfkomhjaaW.PrintLast Go.Proofs.YtebhpipfkomhjaaW.PrintMore
attribute [local go_sem] max2_int min2_int max_two min_two max_three min_three max_four min_four
set_option linter.unusedVariables false
set_option linter.unusedSimpArgs false
def codec_Decode.f (k : Nat) (a0 : Int) (a1 : Int) : Option (Int × Bool × Int × Int × Option Int) := (shape_Kind.f a0 a1).bind fun bt187 => (if bt187.2.isNone = true then (if bt187.1 = 1 then ((codec_Split.f k a0 a1).bind fun bt190 => (if 0 ≤ (wrap64 (63 - bt190.2.2.2.2.2.2.1)) then (some (bt187.1, bt190.1, wrap64 ((wrap64 (4 * bt190.2.2.2.1)) + bt190.2.2.2.2.2.1), Go.bits .or .u64 9223372036854775808 (shl .u64 bt190.2.2.2.2.2.2.2.1 (wrap64 (63 - bt190.2.2.2.2.2.2.1))), none)) else (none))) else (some (bt187.1, false, 0, 0, none))) else (some (bt187.1, false, 0, 0, some (bt187.2.getD 0))))
theorem codec_Decode.mono : ∀ a0 a1 k, LeO (codec_Decode.f k a0 a1) (codec_Decode.f (k + 1) a0 a1) := by
 intro a0 a1 k
 unfold codec_Decode.f
 repeat' first
   | (with_reducible exact codec_Split.mono _ _ _)
   | (with_reducible exact LeO.refl _)
   | (with_reducible exact LeO.none _)
   | (with_reducible refine LeO.ite ?_ ?_)
   | (with_reducible refine LeO.bind ?_ (fun _ => ?_))
   | exact codec_Split.mono _ _ _
   | exact LeO.none _
   | refine LeO.ite ?_ ?_
   | refine LeO.bind ?_ (fun _ => ?_)
def codec_Decode.T5 : Bool × List (List Nat × List Nat) := (true, [([], []), ([], []), ([1], [1]), ([], []), ([3], [3]), ([4], [4]), ([], []), ([6], [6]), ([5, 7], [5, 7]), ([], []), ([9], [9]), ([], []), ([11], [11]), ([12], [12]), ([10, 13], [10, 13]), ([14], [14]), ([0, 2, 8, 15], [0, 2, 8, 15]), ([16, 0, 1, 2, 3, 4, 5, 6, 7, 8, 9, 10, 11, 12, 13, 14, 15, 16], [16]), ([17, 0, 1, 2, 3, 4, 5, 6, 7, 8, 9, 10, 11, 12, 13, 14, 15, 16, 17], [])])
def codec_Decode.B5 : List Nat := [0, 0, 2, 0, 8, 24, 0, 64, 248, 0, 512, 0, 2048, 6144, 15872, 32256, 65535, 131071, 262143]
theorem codec_Decode.tab5 : rtab .any (opsOf Try.f29 5) = codec_Decode.T5 := by kernel_rfl
theorem codec_Decode.bits5 : waitsOk codec_Decode.T5.2 codec_Decode.B5 = true := by kernel_rfl
set_option maxHeartbeats 8000000 in
set_option maxRecDepth 100000 in
theorem codec_Decode.calls (k : Nat) (a0 : Int) (a1 : Int) (r1 : Int) (r2 : Bool) (r3 : Int) (r4 : Int) (r5 : Option Int) (w : World) (h : codec_Decode.f k a0 a1 = some (r1, r2, r3, r4, r5)) :
  Calls Try.prog 29 #[.int .i64 a0, .int .u64 a1] w fun e w' => e = .returned (.tuple #[.agg #[.int .i64 r1, .bool r2, .int .i64 r3, .int .u64 r4], errW r5]) ∧ Below w.heap.size w w' := by
 have hu24 := Try.underlying24
 have hu86 := Try.underlying86
 have hu29 := Try.underlying29
 have hu42 := Try.underlying42
 have HB := Aside0.mk (Below.refl w.heap.size w)
 have H : ((shape_Kind.f a0 a1).bind fun bt187 => (if bt187.2.isNone = true then (if bt187.1 = 1 then ((codec_Split.f k a0 a1).bind fun bt190 => (if 0 ≤ (wrap64 (63 - bt190.2.2.2.2.2.2.1)) then (some (bt187.1, bt190.1, wrap64 ((wrap64 (4 * bt190.2.2.2.1)) + bt190.2.2.2.2.2.1), Go.bits .or .u64 9223372036854775808 (shl .u64 bt190.2.2.2.2.2.2.2.1 (wrap64 (63 - bt190.2.2.2.2.2.2.1))), none)) else (none))) else (some (bt187.1, false, 0, 0, none))) else (some (bt187.1, false, 0, 0, some (bt187.2.getD 0))))) = some (r1, r2, r3, r4, r5) := h
 clear h
 replace H := Option.bind_eq_some_iff.mp H
 obtain ⟨⟨t187, t188⟩, A30, H⟩ := H
 replace H : (if t188.isNone = true then (if t187 = 1 then ((codec_Split.f k a0 a1).bind fun bt190 => (if 0 ≤ (wrap64 (63 - bt190.2.2.2.2.2.2.1)) then (some (t187, bt190.1, wrap64 ((wrap64 (4 * bt190.2.2.2.1)) + bt190.2.2.2.2.2.1), Go.bits .or .u64 9223372036854775808 (shl .u64 bt190.2.2.2.2.2.2.2.1 (wrap64 (63 - bt190.2.2.2.2.2.2.1))), none)) else (none))) else (some (t187, false, 0, 0, none))) else (some (t187, false, 0, 0, some (t188.getD 0)))) = some (r1, r2, r3, r4, r5) := H
 have A3 := Aside0.mk A30
 clear A30
 rcases t188 with _ | q189
 ·have H1 : (if t187 = 1 then ((codec_Split.f k a0 a1).bind fun bt190 => (if 0 ≤ (wrap64 (63 - bt190.2.2.2.2.2.2.1)) then (some (t187, bt190.1, wrap64 ((wrap64 (4 * bt190.2.2.2.1)) + bt190.2.2.2.2.2.1), Go.bits .or .u64 9223372036854775808 (shl .u64 bt190.2.2.2.2.2.2.2.1 (wrap64 (63 - bt190.2.2.2.2.2.2.1))), none)) else (none))) else (some (t187, false, 0, 0, none))) = some (r1, r2, r3, r4, r5) := by rw [if_pos (show (none : Option Int).isNone = true by rfl)] at H; exact H
  clear H
  have H := H1
  clear H1
  try simp only [errW_none, errW_some]
  by_cases c4 : t187 = 1
  ·rw [if_pos c4] at H
   have c4b0 : (t187 == 1) = true := beq_iff_eq.mpr c4
   have c4b1 : (t187 != 1) = false := bne_eq_false_iff_eq.mpr c4
   clear c4
   replace H := Option.bind_eq_some_iff.mp H
   obtain ⟨⟨t190, t191, t192, t193, t194, t195, t196, t197, t198⟩, A50, H⟩ := H
   replace H : (if 0 ≤ (wrap64 (63 - t196)) then (some (t187, t190, wrap64 ((wrap64 (4 * t193)) + t195), Go.bits .or .u64 9223372036854775808 (shl .u64 t197 (wrap64 (63 - t196))), none)) else (none)) = some (r1, r2, r3, r4, r5) := H
   have A5 := Aside0.mk A50
   clear A50
   obtain ⟨ji6, hji6⟩ : ∃ j_ : Int, (wrap64 (63 - t196)) = j_ := ⟨_, rfl⟩
   replace H : (if 0 ≤ (ji6) then (some (t187, t190, wrap64 ((wrap64 (4 * t193)) + t195), Go.bits .or .u64 9223372036854775808 (shl .u64 t197 (ji6)), none)) else (none)) = some (r1, r2, r3, r4, r5) := by first | (rw [hji6] at H; exact H) | (simp only [hji6] at H ⊢; exact H)
   (try rw [hji6] at A3)
   (try rw [hji6] at A5)
   have hji6w : (IntKind.i64.wrap (63 - t196)) = ji6 := (i64_w _).trans hji6
   by_cases c7 : 0 ≤ (ji6)
   ·rw [if_pos c7] at H
    have c7b0 := eq_true c7
    have c7b1 : decide (0 ≤ (ji6)) = true := decide_eq_true c7
    clear c7
    obtain ⟨ji8, hji8⟩ : ∃ j_ : Int, (shl .u64 t197 (ji6)) = j_ := ⟨_, rfl⟩
    replace H : (some (t187, t190, wrap64 ((wrap64 (4 * t193)) + t195), Go.bits .or .u64 9223372036854775808 (ji8), none)) = some (r1, r2, r3, r4, r5) := by first | (rw [hji8] at H; exact H) | (simp only [hji8] at H ⊢; exact H)
    (try rw [hji8] at A3)
    (try rw [hji8] at A5)
    have hji8_ : (IntKind.u64.wrap (t197 * 2 ^ min (ji6).toNat 64)) = ji8 := hji8
    have hji8z : (ji6) ≤ 64 → (IntKind.u64.wrap (t197 * 2 ^ (ji6).toNat)) = ji8 := shl_small hji8
    (try (have hji8Z_ := hji8z (by omega)))
    simp only [Option.some.injEq, Prod.mk.injEq] at H
    obtain ⟨rfl, rfl, rfl, rfl, rfl⟩ := H
    go_enter Try.func29, Try.ntmps29
    try go_wp2_with (first | ((with_reducible refine gate_dst (N := 4) rfl ?_); refine box_event ?hg (N := 4) ?hd (cs := #[.int .i64 0, .bool false, .int .i64 0, .int .u64 0]) (t := 24) ?hr ?_; (case hd => rfl); (case hg => rfl); (case hr => first | (go_simp; done) | (go_simp; rfl)); intro gb186 hg w9 hbox hb; have n0_ := Aside0.mk (below_step (z3_ HB.out) hb); have n1_ := Aside0.mk (hbox); have n2_ := Aside0.mk ((by rw [hg]; exact (below_size (z3_ HB.out)) : w.heap.size ≤ gb186)); have n3_ := Aside0.mk ((by rw [hg]; exact (below_size (z3_ HB.out)) : w.heap.size ≤ gb186)); clear HB; have HB := n0_; have BK186 := n1_; have GW186 := n2_; have GE186 := n3_; clear n0_ n1_ n2_ n3_; clear hb hbox hg) | ((with_reducible refine gate_callee (f := 47) rfl ?_); refine goesL_ (some 13) rfl rfl Try.func47 (by kernel_rfl) rfl #[.int .i64 a0, .int .u64 a1] rfl z5_ ?_; (with_reducible refine (shape_Kind.calls a0 a1 t187 none _ A3.out).mono ?_); rintro e w' ⟨rfl, ⟨nd, rfl⟩⟩; refine ⟨_, rfl, ?_⟩; (try simp only [errW_none, errW_some]); (try (rw [drewN_self w9]; generalize hq_ : World.drewN w9 _ = w9; have n0_ : Aside0 (w9.heap[gb186]? = some (.cells #[.int .i64 0, .bool false, .int .i64 0, .int .u64 0] 24 (0, 0))) := ⟨by rw [← hq_]; exact (z1_ BK186.out)⟩; have n1_ : Aside0 (Below w.heap.size w w9) := ⟨by rw [← hq_]; exact (z3_ HB.out)⟩; clear BK186 HB hq_; have BK186 := n0_; have HB := n1_; clear n0_ n1_))) | ((with_reducible refine gate_callee (f := 48) rfl ?_); refine goesL_ (some 28) rfl rfl Try.func48 (by kernel_rfl) rfl #[.int .i64 a0, .int .u64 a1] rfl z5_ ?_; (with_reducible refine (codec_Split.calls k a0 a1 t190 t191 t192 t193 t194 t195 t196 t197 t198 _ A5.out).mono ?_); rintro e w10 ⟨rfl, hb⟩; refine ⟨_, rfl, ?_⟩; have n0_ := Aside0.mk (blk_below (g := gb186) (z1_ BK186.out) hb); have n1_ := Aside0.mk (below_step (z3_ HB.out) hb); clear BK186; clear HB; have BK186 := n0_; have HB := n1_; clear n0_ n1_; (try clear hb); (try clear hb2); (try clear hk); (try clear hi); (try simp only [errW_none, errW_some])) | ((with_reducible refine gate_dst (N := 8) rfl ?_); refine box_event ?hg (N := 8) ?hd (cs := #[.bool false, .bool false, .int .i64 0, .int .i64 0, .int .i64 0, .int .i64 0, .int .i64 0, .int .u64 0]) (t := 86) ?hr ?_; (case hd => rfl); (case hg => rfl); (case hr => first | (go_simp; done) | (go_simp; rfl)); intro gb199 hg w11 hbox hb; have n0_ := Aside0.mk (blk_below (g := gb186) (z1_ BK186.out) hb); have n1_ := Aside0.mk (below_step (z3_ HB.out) hb); have n2_ := Aside0.mk (hbox); have n3_ := Aside0.mk ((by rw [hg]; exact (below_size (z3_ HB.out)) : w.heap.size ≤ gb199)); have n4_ := Aside0.mk ((by rw [hg]; exact (below_size (z3_ HB.out)) : w.heap.size ≤ gb199)); have n5_ := Aside0.mk ((by rw [hg]; exact Nat.ne_of_lt (blk_lt (g := gb186) (o := .cells #[.int .i64 0, .bool false, .int .i64 0, .int .u64 0] 24 (0, 0)) (z1_ BK186.out)) : gb186 ≠ gb199)); have n6_ := Aside0.mk ((by rw [hg]; exact Nat.ne_of_gt (blk_lt (g := gb186) (o := .cells #[.int .i64 0, .bool false, .int .i64 0, .int .u64 0] 24 (0, 0)) (z1_ BK186.out)) : gb199 ≠ gb186)); clear BK186; clear HB; have BK186 := n0_; have HB := n1_; have BK199 := n2_; have GW199 := n3_; have GE199 := n4_; have NB186_199 := n5_; have NB199_186 := n6_; clear n0_ n1_ n2_ n3_ n4_ n5_ n6_; clear hb hbox hg; have hnb12 := NB199_186.out; have hnc12 := NB186_199.out; have hcz13_0 := z4_ BK199.out 0 (.bool false) rfl; have hcz13_1 := z4_ BK199.out 1 (.bool false) rfl; have hcz13_2 := z4_ BK199.out 2 (.int .i64 0) rfl; have hcz13_3 := z4_ BK199.out 3 (.int .i64 0) rfl; have hcz13_4 := z4_ BK199.out 4 (.int .i64 0) rfl; have hcz13_5 := z4_ BK199.out 5 (.int .i64 0) rfl; have hcz13_6 := z4_ BK199.out 6 (.int .i64 0) rfl; have hcz13_7 := z4_ BK199.out 7 (.int .u64 0) rfl; have hfz13_0 := blk_frozen BK199.out 0; have hfz13_1 := blk_frozen BK199.out 1; have hfz13_2 := blk_frozen BK199.out 2; have hfz13_3 := blk_frozen BK199.out 3; have hfz13_4 := blk_frozen BK199.out 4; have hfz13_5 := blk_frozen BK199.out 5; have hfz13_6 := blk_frozen BK199.out 6; have hfz13_7 := blk_frozen BK199.out 7))
    have n0_ : Aside0 (((((((((w11.setCell ⟨gb199, 0, none⟩ (.bool t190)).setCell ⟨gb199, 1, none⟩ (.bool t191)).setCell ⟨gb199, 2, none⟩ (.int .i64 t192)).setCell ⟨gb199, 3, none⟩ (.int .i64 t193)).setCell ⟨gb199, 4, none⟩ (.int .i64 t194)).setCell ⟨gb199, 5, none⟩ (.int .i64 t195)).setCell ⟨gb199, 6, none⟩ (.int .i64 t196)).setCell ⟨gb199, 7, none⟩ (.int .u64 t197)).heap[gb186]? = some (.cells #[.int .i64 0, .bool false, .int .i64 0, .int .u64 0] 24 (0, 0))) := ⟨by refine z2_ ?_; refine blk_far ?_ NB186_199.out _; refine z2_ ?_; refine blk_far ?_ NB186_199.out _; refine z2_ ?_; refine blk_far ?_ NB186_199.out _; refine z2_ ?_; refine blk_far ?_ NB186_199.out _; refine z2_ ?_; refine blk_far ?_ NB186_199.out _; refine z2_ ?_; refine blk_far ?_ NB186_199.out _; refine z2_ ?_; refine blk_far ?_ NB186_199.out _; refine z2_ ?_; refine blk_far ?_ NB186_199.out _; refine z2_ ?_; exact BK186.out⟩
    have n1_ : Aside0 (((((((((w11.setCell ⟨gb199, 0, none⟩ (.bool t190)).setCell ⟨gb199, 1, none⟩ (.bool t191)).setCell ⟨gb199, 2, none⟩ (.int .i64 t192)).setCell ⟨gb199, 3, none⟩ (.int .i64 t193)).setCell ⟨gb199, 4, none⟩ (.int .i64 t194)).setCell ⟨gb199, 5, none⟩ (.int .i64 t195)).setCell ⟨gb199, 6, none⟩ (.int .i64 t196)).setCell ⟨gb199, 7, none⟩ (.int .u64 t197)).heap[gb199]? = some (.cells #[.bool t190, .bool t191, .int .i64 t192, .int .i64 t193, .int .i64 t194, .int .i64 t195, .int .i64 t196, .int .u64 t197] 86 (0, 0))) := ⟨by refine z2_ ?_; refine blk_put (cs := #[.bool t190, .bool t191, .int .i64 t192, .int .i64 t193, .int .i64 t194, .int .i64 t195, .int .i64 t196, .int .u64 0]) ?_ 7 _ rfl; refine z2_ ?_; refine blk_put (cs := #[.bool t190, .bool t191, .int .i64 t192, .int .i64 t193, .int .i64 t194, .int .i64 t195, .int .i64 0, .int .u64 0]) ?_ 6 _ rfl; refine z2_ ?_; refine blk_put (cs := #[.bool t190, .bool t191, .int .i64 t192, .int .i64 t193, .int .i64 t194, .int .i64 0, .int .i64 0, .int .u64 0]) ?_ 5 _ rfl; refine z2_ ?_; refine blk_put (cs := #[.bool t190, .bool t191, .int .i64 t192, .int .i64 t193, .int .i64 0, .int .i64 0, .int .i64 0, .int .u64 0]) ?_ 4 _ rfl; refine z2_ ?_; refine blk_put (cs := #[.bool t190, .bool t191, .int .i64 t192, .int .i64 0, .int .i64 0, .int .i64 0, .int .i64 0, .int .u64 0]) ?_ 3 _ rfl; refine z2_ ?_; refine blk_put (cs := #[.bool t190, .bool t191, .int .i64 0, .int .i64 0, .int .i64 0, .int .i64 0, .int .i64 0, .int .u64 0]) ?_ 2 _ rfl; refine z2_ ?_; refine blk_put (cs := #[.bool t190, .bool false, .int .i64 0, .int .i64 0, .int .i64 0, .int .i64 0, .int .i64 0, .int .u64 0]) ?_ 1 _ rfl; refine z2_ ?_; refine blk_put (cs := #[.bool false, .bool false, .int .i64 0, .int .i64 0, .int .i64 0, .int .i64 0, .int .i64 0, .int .u64 0]) ?_ 0 _ rfl; refine z2_ ?_; exact BK199.out⟩
    have n2_ : Aside0 (Below w.heap.size w ((((((((w11.setCell ⟨gb199, 0, none⟩ (.bool t190)).setCell ⟨gb199, 1, none⟩ (.bool t191)).setCell ⟨gb199, 2, none⟩ (.int .i64 t192)).setCell ⟨gb199, 3, none⟩ (.int .i64 t193)).setCell ⟨gb199, 4, none⟩ (.int .i64 t194)).setCell ⟨gb199, 5, none⟩ (.int .i64 t195)).setCell ⟨gb199, 6, none⟩ (.int .i64 t196)).setCell ⟨gb199, 7, none⟩ (.int .u64 t197))) := ⟨by repeat (first | (with_reducible first | exact HB.out | apply below_alloc | apply pw_below_drewN | apply below_drew1 | refine below_set ?_ GE186.out | refine below_set ?_ GE199.out) | exact HB.out)⟩
    (try clear BK186)
    (try clear BK199)
    (try clear HB)
    generalize ((((((((w11.setCell ⟨gb199, 0, none⟩ (.bool t190)).setCell ⟨gb199, 1, none⟩ (.bool t191)).setCell ⟨gb199, 2, none⟩ (.int .i64 t192)).setCell ⟨gb199, 3, none⟩ (.int .i64 t193)).setCell ⟨gb199, 4, none⟩ (.int .i64 t194)).setCell ⟨gb199, 5, none⟩ (.int .i64 t195)).setCell ⟨gb199, 6, none⟩ (.int .i64 t196)).setCell ⟨gb199, 7, none⟩ (.int .u64 t197)) = w14 at n0_ n1_ n2_ ⊢
    have BK186 := n0_
    have BK199 := n1_
    have HB := n2_
    clear n0_ n1_ n2_
    have n0_ := Aside0.mk (blk_drew BK186.out)
    have n1_ := Aside0.mk (blk_drew BK199.out)
    have n2_ := Aside0.mk (below_drew1 HB.out)
    clear BK186
    clear BK199
    clear HB
    have BK186 := n0_
    have BK199 := n1_
    have HB := n2_
    clear n0_ n1_ n2_
    refine start_ (n := 19) (S := fun w' => w'.cell? ⟨gb199, 0, none⟩ = some (.bool t190) ∧ w'.cell? ⟨gb199, 1, none⟩ = some (.bool t191) ∧ w'.cell? ⟨gb199, 2, none⟩ = some (.int .i64 t192) ∧ w'.cell? ⟨gb199, 3, none⟩ = some (.int .i64 t193) ∧ w'.cell? ⟨gb199, 4, none⟩ = some (.int .i64 t194) ∧ w'.cell? ⟨gb199, 5, none⟩ = some (.int .i64 t195) ∧ w'.cell? ⟨gb199, 6, none⟩ = some (.int .i64 t196) ∧ w'.cell? ⟨gb199, 7, none⟩ = some (.int .u64 t197)) (ds := []) #[false, false, false, false, false, false, false, false, false, false, false, false, false, false, false, false, false, false, false] (by kernel_rfl) rfl rfl ⟨(blk_cell BK199.out 0).trans rfl, (blk_cell BK199.out 1).trans rfl, (blk_cell BK199.out 2).trans rfl, (blk_cell BK199.out 3).trans rfl, (blk_cell BK199.out 4).trans rfl, (blk_cell BK199.out 5).trans rfl, (blk_cell BK199.out 6).trans rfl, (blk_cell BK199.out 7).trans rfl⟩ (fun hHeld => ?_); refine with_tabW codec_Decode.tab5 codec_Decode.bits5 (fun HT_ HW_ => ?_)
    generalize w14.drew = w15 at BK186 BK199 HB hHeld ⊢
    refine pure_ (i := 0) (N := some 31) (v := ?_) (a' := ?_) #[true, false, false, false, false, false, false, false, false, false, false, false, false, false, false, false, false, false, false] rfl rfl (any_of HT_.out (by kernel_rfl)) (fun _ _ _ h => h) (Or.inl ⟨by rfl, ?_⟩) ?_ ?_
    rotate_left
    ·intro w'
     go_simp
     with_reducible rfl
    rotate_left
    ·simp only [Act.put, List.setIfInBounds_toArray, List.set_cons_zero, List.set_cons_succ, i64_w, i32_w]
     rfl
    refine pure_ (i := 1) (N := some 32) (v := ?_) (a' := ?_) #[true, true, false, false, false, false, false, false, false, false, false, false, false, false, false, false, false, false, false] rfl rfl (any_of HT_.out (by kernel_rfl)) (fun _ _ _ h => h) (Or.inl ⟨by rfl, ?_⟩) ?_ ?_
    rotate_left
    ·intro w'
     go_simp
     with_reducible rfl
    rotate_left
    ·simp only [Act.put, List.setIfInBounds_toArray, List.set_cons_zero, List.set_cons_succ, i64_w, i32_w]
     rfl
    refine pure_ (i := 3) (N := some 34) (v := ?_) (a' := ?_) #[true, true, false, true, false, false, false, false, false, false, false, false, false, false, false, false, false, false, false] rfl rfl (any_of HT_.out (by kernel_rfl)) (fun _ _ _ h => h) (Or.inl ⟨by rfl, ?_⟩) ?_ ?_
    rotate_left
    ·intro w'
     go_simp
     with_reducible rfl
    rotate_left
    ·simp only [Act.put, List.setIfInBounds_toArray, List.set_cons_zero, List.set_cons_succ, i64_w, i32_w]
     rfl
    refine pure_ (i := 6) (N := some 37) (v := ?_) (a' := ?_) #[true, true, false, true, false, false, true, false, false, false, false, false, false, false, false, false, false, false, false] rfl rfl (any_of HT_.out (by kernel_rfl)) (fun _ _ _ h => h) (Or.inl ⟨by rfl, ?_⟩) ?_ ?_
    rotate_left
    ·intro w'
     go_simp
     with_reducible rfl
    rotate_left
    ·simp only [Act.put, List.setIfInBounds_toArray, List.set_cons_zero, List.set_cons_succ, i64_w, i32_w]
     rfl
    refine pure_ (i := 9) (N := some 40) (v := ?_) (a' := ?_) #[true, true, false, true, false, false, true, false, false, true, false, false, false, false, false, false, false, false, false] rfl rfl (any_of HT_.out (by kernel_rfl)) (fun _ _ _ h => h) (Or.inl ⟨by rfl, ?_⟩) ?_ ?_
    rotate_left
    ·intro w'
     go_simp
     with_reducible rfl
    rotate_left
    ·simp only [Act.put, List.setIfInBounds_toArray, List.set_cons_zero, List.set_cons_succ, i64_w, i32_w]
     rfl
    refine pure_ (i := 11) (N := some 42) (v := ?_) (a' := ?_) #[true, true, false, true, false, false, true, false, false, true, false, true, false, false, false, false, false, false, false] rfl rfl (any_of HT_.out (by kernel_rfl)) (fun _ _ _ h => h) (Or.inl ⟨by rfl, ?_⟩) ?_ ?_
    rotate_left
    ·intro w'
     go_simp
     with_reducible rfl
    rotate_left
    ·simp only [Act.put, List.setIfInBounds_toArray, List.set_cons_zero, List.set_cons_succ, i64_w, i32_w]
     rfl
    refine take_ (i := 2) (N := some 33) (v := ?_) (a' := ?_) #[true, true, true, true, false, false, true, false, false, true, false, true, false, false, false, false, false, false, false] rfl rfl (take_ofW HT_.out HW_.out (by kernel_rfl)) (fun _ _ _ h => h) (Or.inl ⟨by rfl, ?_⟩) hHeld ?_ ?_
    rotate_left
    ·rintro w' ⟨s0, s1, s2, s3, s4, s5, s6, s7⟩
     go_simp
     with_reducible rfl
    rotate_left
    ·simp only [Act.put, List.setIfInBounds_toArray, List.set_cons_zero, List.set_cons_succ, i64_w, i32_w]
     rfl
    refine take_ (i := 4) (N := some 35) (v := ?_) (a' := ?_) #[true, true, true, true, true, false, true, false, false, true, false, true, false, false, false, false, false, false, false] rfl rfl (take_ofW HT_.out HW_.out (by kernel_rfl)) (fun _ _ _ h => h) (Or.inl ⟨by rfl, ?_⟩) hHeld ?_ ?_
    rotate_left
    ·rintro w' ⟨s0, s1, s2, s3, s4, s5, s6, s7⟩
     go_simp
     with_reducible rfl
    rotate_left
    ·simp only [Act.put, List.setIfInBounds_toArray, List.set_cons_zero, List.set_cons_succ, i64_w, i32_w]
     rfl
    refine pure_ (i := 5) (N := some 36) (v := ?_) (a' := ?_) #[true, true, true, true, true, true, true, false, false, true, false, true, false, false, false, false, false, false, false] rfl rfl (any_of HT_.out (by kernel_rfl)) (fun _ _ _ h => h) (Or.inl ⟨by rfl, ?_⟩) ?_ ?_
    rotate_left
    ·intro w'
     go_simp
     with_reducible rfl
    rotate_left
    ·simp only [Act.put, List.setIfInBounds_toArray, List.set_cons_zero, List.set_cons_succ, i64_w, i32_w]
     rfl
    refine take_ (i := 7) (N := some 38) (v := ?_) (a' := ?_) #[true, true, true, true, true, true, true, true, false, true, false, true, false, false, false, false, false, false, false] rfl rfl (take_ofW HT_.out HW_.out (by kernel_rfl)) (fun _ _ _ h => h) (Or.inl ⟨by rfl, ?_⟩) hHeld ?_ ?_
    rotate_left
    ·rintro w' ⟨s0, s1, s2, s3, s4, s5, s6, s7⟩
     go_simp
     with_reducible rfl
    rotate_left
    ·simp only [Act.put, List.setIfInBounds_toArray, List.set_cons_zero, List.set_cons_succ, i64_w, i32_w]
     rfl
    refine pure_ (i := 8) (N := some 39) (v := ?_) (a' := ?_) #[true, true, true, true, true, true, true, true, true, true, false, true, false, false, false, false, false, false, false] rfl rfl (any_of HT_.out (by kernel_rfl)) (fun _ _ _ h => h) (Or.inl ⟨by rfl, ?_⟩) ?_ ?_
    rotate_left
    ·intro w'
     go_simp
     with_reducible rfl
    rotate_left
    ·simp only [Act.put, List.setIfInBounds_toArray, List.set_cons_zero, List.set_cons_succ, i64_w, i32_w]
     rfl
    refine take_ (i := 10) (N := some 41) (v := ?_) (a' := ?_) #[true, true, true, true, true, true, true, true, true, true, true, true, false, false, false, false, false, false, false] rfl rfl (take_ofW HT_.out HW_.out (by kernel_rfl)) (fun _ _ _ h => h) (Or.inl ⟨by rfl, ?_⟩) hHeld ?_ ?_
    rotate_left
    ·rintro w' ⟨s0, s1, s2, s3, s4, s5, s6, s7⟩
     go_simp
     with_reducible rfl
    rotate_left
    ·simp only [Act.put, List.setIfInBounds_toArray, List.set_cons_zero, List.set_cons_succ, i64_w, i32_w]
     rfl
    refine take_ (i := 12) (N := some 43) (v := ?_) (a' := ?_) #[true, true, true, true, true, true, true, true, true, true, true, true, true, false, false, false, false, false, false] rfl rfl (take_ofW HT_.out HW_.out (by kernel_rfl)) (fun _ _ _ h => h) (Or.inl ⟨by rfl, ?_⟩) hHeld ?_ ?_
    rotate_left
    ·rintro w' ⟨s0, s1, s2, s3, s4, s5, s6, s7⟩
     go_simp
     with_reducible rfl
    rotate_left
    ·simp only [Act.put, List.setIfInBounds_toArray, List.set_cons_zero, List.set_cons_succ, i64_w, i32_w]
     rfl
    refine pure_ (i := 13) (N := some 44) (v := ?_) (a' := ?_) #[true, true, true, true, true, true, true, true, true, true, true, true, true, true, false, false, false, false, false] rfl rfl (any_of HT_.out (by kernel_rfl)) (fun _ _ _ h => h) (Or.inl ⟨by rfl, ?_⟩) ?_ ?_
    rotate_left
    ·intro w'
     go_simp
     with_reducible rfl
    rotate_left
    ·simp only [Act.put, List.setIfInBounds_toArray, List.set_cons_zero, List.set_cons_succ, i64_w, i32_w]
     rfl
    refine pure_ (i := 14) (N := some 45) (v := ?_) (a' := ?_) #[true, true, true, true, true, true, true, true, true, true, true, true, true, true, true, false, false, false, false] rfl rfl (any_of HT_.out (by kernel_rfl)) (fun _ _ _ h => h) (Or.inl ⟨by rfl, ?_⟩) ?_ ?_
    rotate_left
    ·intro w'
     go_simp
     with_reducible rfl
    rotate_left
    ·simp only [Act.put, List.setIfInBounds_toArray, List.set_cons_zero, List.set_cons_succ, i64_w, i32_w]
     rfl
    refine pure_ (i := 15) (N := some 46) (v := ?_) (a' := ?_) #[true, true, true, true, true, true, true, true, true, true, true, true, true, true, true, true, false, false, false] rfl rfl (any_of HT_.out (by kernel_rfl)) (fun _ _ _ h => h) (Or.inl ⟨by rfl, ?_⟩) ?_ ?_
    rotate_left
    ·intro w'
     go_simp
     with_reducible rfl
    rotate_left
    ·simp only [Act.put, List.setIfInBounds_toArray, List.set_cons_zero, List.set_cons_succ, i64_w, i32_w]
     rfl
    refine pure_ (i := 16) (N := some 47) (v := ?_) (a' := ?_) #[true, true, true, true, true, true, true, true, true, true, true, true, true, true, true, true, true, false, false] rfl rfl (any_of HT_.out (by kernel_rfl)) (fun _ _ _ h => h) (Or.inl ⟨by rfl, ?_⟩) ?_ ?_
    rotate_left
    ·intro w'
     go_simp
     with_reducible rfl
    rotate_left
    ·simp only [Act.put, List.setIfInBounds_toArray, List.set_cons_zero, List.set_cons_succ, i64_w, i32_w]
     rfl
    refine one_ (i := 17) (N := none) #[true, true, true, true, true, true, true, true, true, true, true, true, true, true, true, true, true, true, false] rfl rfl (one_of HT_.out (by kernel_rfl)) (by decide) (fun K hK => ?_)
    have hs16 : w15.cell? ⟨gb186, 0, none⟩ = some (.int .i64 0) := (blk_cell BK186.out 0).trans rfl
    have hfs16 := blk_frozen BK186.out 0
    have hns16_1 := NB199_186.out
    have hms16_1 := NB186_199.out
    have hs17 : w15.cell? ⟨gb186, 1, none⟩ = some (.bool false) := (blk_cell BK186.out 1).trans rfl
    have hfs17 := blk_frozen BK186.out 1
    have hns17_1 := NB199_186.out
    have hms17_1 := NB186_199.out
    have hs18 : w15.cell? ⟨gb186, 2, none⟩ = some (.int .i64 0) := (blk_cell BK186.out 2).trans rfl
    have hfs18 := blk_frozen BK186.out 2
    have hns18_1 := NB199_186.out
    have hms18_1 := NB186_199.out
    have hs19 : w15.cell? ⟨gb186, 3, none⟩ = some (.int .u64 0) := (blk_cell BK186.out 3).trans rfl
    have hfs19 := blk_frozen BK186.out 3
    have hns19_1 := NB199_186.out
    have hms19_1 := NB186_199.out
    refine skip_ (w1 := ?_) (by rfl) rfl ?_ ?_
    rotate_left
    ·go_simp
     rfl
    refine hK.out _ _ ⟨((cell_far (p := ⟨gb186, _, none⟩) NB199_186.out _).trans (((cell_far (p := ⟨gb186, _, none⟩) NB199_186.out _).trans (((cell_far (p := ⟨gb186, _, none⟩) NB199_186.out _).trans (((cell_far (p := ⟨gb186, _, none⟩) NB199_186.out _).trans (hHeld.1)))))))), ((cell_far (p := ⟨gb186, _, none⟩) NB199_186.out _).trans (((cell_far (p := ⟨gb186, _, none⟩) NB199_186.out _).trans (((cell_far (p := ⟨gb186, _, none⟩) NB199_186.out _).trans (((cell_far (p := ⟨gb186, _, none⟩) NB199_186.out _).trans (hHeld.2.1)))))))), ((cell_far (p := ⟨gb186, _, none⟩) NB199_186.out _).trans (((cell_far (p := ⟨gb186, _, none⟩) NB199_186.out _).trans (((cell_far (p := ⟨gb186, _, none⟩) NB199_186.out _).trans (((cell_far (p := ⟨gb186, _, none⟩) NB199_186.out _).trans (hHeld.2.2.1)))))))), ((cell_far (p := ⟨gb186, _, none⟩) NB199_186.out _).trans (((cell_far (p := ⟨gb186, _, none⟩) NB199_186.out _).trans (((cell_far (p := ⟨gb186, _, none⟩) NB199_186.out _).trans (((cell_far (p := ⟨gb186, _, none⟩) NB199_186.out _).trans (hHeld.2.2.2.1)))))))), ((cell_far (p := ⟨gb186, _, none⟩) NB199_186.out _).trans (((cell_far (p := ⟨gb186, _, none⟩) NB199_186.out _).trans (((cell_far (p := ⟨gb186, _, none⟩) NB199_186.out _).trans (((cell_far (p := ⟨gb186, _, none⟩) NB199_186.out _).trans (hHeld.2.2.2.2.1)))))))), ((cell_far (p := ⟨gb186, _, none⟩) NB199_186.out _).trans (((cell_far (p := ⟨gb186, _, none⟩) NB199_186.out _).trans (((cell_far (p := ⟨gb186, _, none⟩) NB199_186.out _).trans (((cell_far (p := ⟨gb186, _, none⟩) NB199_186.out _).trans (hHeld.2.2.2.2.2.1)))))))), ((cell_far (p := ⟨gb186, _, none⟩) NB199_186.out _).trans (((cell_far (p := ⟨gb186, _, none⟩) NB199_186.out _).trans (((cell_far (p := ⟨gb186, _, none⟩) NB199_186.out _).trans (((cell_far (p := ⟨gb186, _, none⟩) NB199_186.out _).trans (hHeld.2.2.2.2.2.2.1)))))))), ((cell_far (p := ⟨gb186, _, none⟩) NB199_186.out _).trans (((cell_far (p := ⟨gb186, _, none⟩) NB199_186.out _).trans (((cell_far (p := ⟨gb186, _, none⟩) NB199_186.out _).trans (((cell_far (p := ⟨gb186, _, none⟩) NB199_186.out _).trans (hHeld.2.2.2.2.2.2.2))))))))⟩ (fun hHeld => ?_)
    clear hK K
    refine pure_ (i := 18) (N := some 5) (v := ?_) (a' := ?_) #[true, true, true, true, true, true, true, true, true, true, true, true, true, true, true, true, true, true, true] rfl rfl (any_of HT_.out (by kernel_rfl)) (fun _ _ _ h => h) (Or.inl ⟨by rfl, ?_⟩) ?_ ?_
    rotate_left
    ·intro w'
     go_simp
     with_reducible rfl
    rotate_left
    ·simp only [Act.put, List.setIfInBounds_toArray, List.set_cons_zero, List.set_cons_succ, i64_w, i32_w]
     rfl
    refine done_ (done_of HT_.out (by kernel_rfl)) ?_
    try go_wp2
    refine bodyPost_ret (results_ct rfl _ _ gb186 24 #[.int .i64 t187, .bool t190, .int .i64 (wrap64 ((wrap64 (4 * t193)) + t195)), .int .u64 (Go.bits .or .u64 9223372036854775808 (ji8))] (0, 0) _ rfl (by refine z2_ ?_; refine blk_put (cs := #[.int .i64 t187, .bool t190, .int .i64 (wrap64 ((wrap64 (4 * t193)) + t195)), .int .u64 0]) ?_ 3 _ rfl; refine z2_ ?_; refine blk_put (cs := #[.int .i64 t187, .bool t190, .int .i64 0, .int .u64 0]) ?_ 2 _ rfl; refine z2_ ?_; refine blk_put (cs := #[.int .i64 t187, .bool false, .int .i64 0, .int .u64 0]) ?_ 1 _ rfl; refine z2_ ?_; refine blk_put (cs := #[.int .i64 0, .bool false, .int .i64 0, .int .u64 0]) ?_ 0 _ rfl; refine z2_ ?_; exact BK186.out) Try.underlying24 rfl (by kernel_rfl)) rfl ?_
    exact ⟨by first | rfl | (simp [errW_none, errW_some] <;> rfl) | (simp only [← hji6, ← hji8]; first | rfl | (simp [errW_none, errW_some] <;> rfl)) | (simp [*, errW_none, errW_some] <;> rfl), by repeat (first | (with_reducible first | exact HB.out | apply below_alloc | apply pw_below_drewN | apply below_drew1 | refine below_set ?_ GE186.out | refine below_set ?_ GE199.out) | exact HB.out)⟩
   ·rw [if_neg c7] at H
    exact absurd H (by simp)
  ·rw [if_neg c4] at H
   have c4b0 : (t187 == 1) = false := beq_eq_false_iff_ne.mpr c4
   have c4b1 : (t187 != 1) = true := bne_iff_ne.mpr c4
   simp only [Option.some.injEq, Prod.mk.injEq] at H
   obtain ⟨rfl, rfl, rfl, rfl, rfl⟩ := H
   go_enter Try.func29, Try.ntmps29
   go_wp2_with (first | ((with_reducible refine gate_dst (N := 4) rfl ?_); refine box_event ?hg (N := 4) ?hd (cs := #[.int .i64 0, .bool false, .int .i64 0, .int .u64 0]) (t := 24) ?hr ?_; (case hd => rfl); (case hg => rfl); (case hr => first | (go_simp; done) | (go_simp; rfl)); intro gb186 hg w20 hbox hb; have n0_ := Aside0.mk (below_step (z3_ HB.out) hb); have n1_ := Aside0.mk (hbox); have n2_ := Aside0.mk ((by rw [hg]; exact (below_size (z3_ HB.out)) : w.heap.size ≤ gb186)); have n3_ := Aside0.mk ((by rw [hg]; exact (below_size (z3_ HB.out)) : w.heap.size ≤ gb186)); clear HB; have HB := n0_; have BK186 := n1_; have GW186 := n2_; have GE186 := n3_; clear n0_ n1_ n2_ n3_; clear hb hbox hg) | ((with_reducible refine gate_callee (f := 47) rfl ?_); refine goesL_ (some 13) rfl rfl Try.func47 (by kernel_rfl) rfl #[.int .i64 a0, .int .u64 a1] rfl z5_ ?_; (with_reducible refine (shape_Kind.calls a0 a1 t187 none _ A3.out).mono ?_); rintro e w' ⟨rfl, ⟨nd, rfl⟩⟩; refine ⟨_, rfl, ?_⟩; (try simp only [errW_none, errW_some]); (try (rw [drewN_self w20]; generalize hq_ : World.drewN w20 _ = w20; have n0_ : Aside0 (w20.heap[gb186]? = some (.cells #[.int .i64 0, .bool false, .int .i64 0, .int .u64 0] 24 (0, 0))) := ⟨by rw [← hq_]; exact (z1_ BK186.out)⟩; have n1_ : Aside0 (Below w.heap.size w w20) := ⟨by rw [← hq_]; exact (z3_ HB.out)⟩; clear BK186 HB hq_; have BK186 := n0_; have HB := n1_; clear n0_ n1_)); have hcz21_0 := z4_ BK186.out 0 (.int .i64 0) rfl; have hcz21_1 := z4_ BK186.out 1 (.bool false) rfl; have hcz21_2 := z4_ BK186.out 2 (.int .i64 0) rfl; have hcz21_3 := z4_ BK186.out 3 (.int .u64 0) rfl; have hfz21_0 := blk_frozen BK186.out 0; have hfz21_1 := blk_frozen BK186.out 1; have hfz21_2 := blk_frozen BK186.out 2; have hfz21_3 := blk_frozen BK186.out 3))
   refine bodyPost_ret (results_ct rfl _ _ gb186 24 #[.int .i64 t187, .bool false, .int .i64 0, .int .u64 0] (0, 0) _ rfl (by refine z2_ ?_; refine blk_put (cs := #[.int .i64 t187, .bool false, .int .i64 0, .int .u64 0]) ?_ 3 _ rfl; refine z2_ ?_; refine blk_put (cs := #[.int .i64 t187, .bool false, .int .i64 0, .int .u64 0]) ?_ 2 _ rfl; refine z2_ ?_; refine blk_put (cs := #[.int .i64 t187, .bool false, .int .i64 0, .int .u64 0]) ?_ 1 _ rfl; refine z2_ ?_; refine blk_put (cs := #[.int .i64 0, .bool false, .int .i64 0, .int .u64 0]) ?_ 0 _ rfl; refine z2_ ?_; exact BK186.out) Try.underlying24 rfl (by kernel_rfl)) rfl ?_
   exact ⟨by first | rfl | (simp [errW_none, errW_some] <;> rfl) | (simp [*, errW_none, errW_some] <;> rfl), by repeat (first | (with_reducible first | exact HB.out | apply below_alloc | apply pw_below_drewN | apply below_drew1 | refine below_set ?_ GE186.out) | exact HB.out)⟩
 ·have H1 : (some (t187, false, 0, 0, some q189)) = some (r1, r2, r3, r4, r5) := by rw [if_neg (show ¬ (some q189).isNone = true by simp)] at H; exact H
  clear H
  have H := H1
  clear H1
  try simp only [errW_none, errW_some]
  simp only [Option.some.injEq, Prod.mk.injEq] at H
  obtain ⟨rfl, rfl, rfl, rfl, rfl⟩ := H
  go_enter Try.func29, Try.ntmps29
  go_wp2_with (first | ((with_reducible refine gate_dst (N := 4) rfl ?_); refine box_event ?hg (N := 4) ?hd (cs := #[.int .i64 0, .bool false, .int .i64 0, .int .u64 0]) (t := 24) ?hr ?_; (case hd => rfl); (case hg => rfl); (case hr => first | (go_simp; done) | (go_simp; rfl)); intro gb186 hg w22 hbox hb; have n0_ := Aside0.mk (below_step (z3_ HB.out) hb); have n1_ := Aside0.mk (hbox); have n2_ := Aside0.mk ((by rw [hg]; exact (below_size (z3_ HB.out)) : w.heap.size ≤ gb186)); have n3_ := Aside0.mk ((by rw [hg]; exact (below_size (z3_ HB.out)) : w.heap.size ≤ gb186)); clear HB; have HB := n0_; have BK186 := n1_; have GW186 := n2_; have GE186 := n3_; clear n0_ n1_ n2_ n3_; clear hb hbox hg) | ((with_reducible refine gate_callee (f := 47) rfl ?_); refine goesL_ (some 13) rfl rfl Try.func47 (by kernel_rfl) rfl #[.int .i64 a0, .int .u64 a1] rfl z5_ ?_; (with_reducible refine (shape_Kind.calls a0 a1 t187 (some q189) _ A3.out).mono ?_); rintro e w' ⟨rfl, ⟨nd, rfl⟩⟩; refine ⟨_, rfl, ?_⟩; (try simp only [errW_none, errW_some]); (try (rw [drewN_self w22]; generalize hq_ : World.drewN w22 _ = w22; have n0_ : Aside0 (w22.heap[gb186]? = some (.cells #[.int .i64 0, .bool false, .int .i64 0, .int .u64 0] 24 (0, 0))) := ⟨by rw [← hq_]; exact (z1_ BK186.out)⟩; have n1_ : Aside0 (Below w.heap.size w w22) := ⟨by rw [← hq_]; exact (z3_ HB.out)⟩; clear BK186 HB hq_; have BK186 := n0_; have HB := n1_; clear n0_ n1_)); have hcz23_0 := z4_ BK186.out 0 (.int .i64 0) rfl; have hcz23_1 := z4_ BK186.out 1 (.bool false) rfl; have hcz23_2 := z4_ BK186.out 2 (.int .i64 0) rfl; have hcz23_3 := z4_ BK186.out 3 (.int .u64 0) rfl; have hfz23_0 := blk_frozen BK186.out 0; have hfz23_1 := blk_frozen BK186.out 1; have hfz23_2 := blk_frozen BK186.out 2; have hfz23_3 := blk_frozen BK186.out 3))
  refine bodyPost_ret (results_ct rfl _ _ gb186 24 #[.int .i64 t187, .bool false, .int .i64 0, .int .u64 0] (0, 0) _ rfl (by refine z2_ ?_; refine blk_put (cs := #[.int .i64 t187, .bool false, .int .i64 0, .int .u64 0]) ?_ 3 _ rfl; refine z2_ ?_; refine blk_put (cs := #[.int .i64 t187, .bool false, .int .i64 0, .int .u64 0]) ?_ 2 _ rfl; refine z2_ ?_; refine blk_put (cs := #[.int .i64 t187, .bool false, .int .i64 0, .int .u64 0]) ?_ 1 _ rfl; refine z2_ ?_; refine blk_put (cs := #[.int .i64 0, .bool false, .int .i64 0, .int .u64 0]) ?_ 0 _ rfl; refine z2_ ?_; exact BK186.out) Try.underlying24 rfl (by kernel_rfl)) rfl ?_
  exact ⟨by first | rfl | (simp [errW_none, errW_some] <;> rfl) | (simp [*, errW_none, errW_some] <;> rfl), by repeat (first | (with_reducible first | exact HB.out | apply below_alloc | apply pw_below_drewN | apply below_drew1 | refine below_set ?_ GE186.out) | exact HB.out)⟩
end Go.Proofs.Ytebhpipfkomhjaa.PAll
namespace Go.Proofs.Ytebhpipfkomhjaa.PAll
open Go.RowKit Go.Proofs.YtebhpipfkomhjaaW.PrintWords Go.Proofs.YtebhpipfkomhjaaW.PrintLast Go.Proofs.YtebhpipfkomhjaaW.PrintMore
attribute [local go_sem] max2_int min2_int max_two min_two max_three min_three max_four min_four
set_option linter.unusedVariables false
set_option linter.unusedSimpArgs false
def shape_Of.f (a0 : Int) : Option (Int × Int × Int × Int × Int × Option Int) := (shape_is.f a0).bind fun t201 => (if t201 = true then (if 0 ≤ (wrap64 (a0 - 1)) then (some (a0, IntKind.u64.wrap ((shl .u64 1 (wrap64 (a0 - 1))) - 1), 1, shl .u64 1 (wrap64 (a0 - 1)), wrap64 ((wrap64 (4 * a0)) - 8), none)) else (none)) else (some (0, 0, 0, 0, 0, some 2)))
set_option maxHeartbeats 8000000 in
set_option maxRecDepth 100000 in
theorem shape_Of.calls (a0 : Int) (r1 : Int) (r2 : Int) (r3 : Int) (r4 : Int) (r5 : Int) (r6 : Option Int) (w : World) (h : shape_Of.f a0 = some (r1, r2, r3, r4, r5, r6)) :
  Calls Try.prog 56 #[.int .i64 a0] w fun e w' => e = .returned (.tuple #[.agg #[.int .i64 r1, .int .u64 r2, .int .u64 r3, .int .u64 r4, .int .i64 r5], errW r6]) ∧ Below w.heap.size w w' := by
 have hu98 := Try.underlying98
 have hu29 := Try.underlying29
 have hu42 := Try.underlying42
 have HB := Aside0.mk (Below.refl w.heap.size w)
 have H : ((shape_is.f a0).bind fun t201 => (if t201 = true then (if 0 ≤ (wrap64 (a0 - 1)) then (some (a0, IntKind.u64.wrap ((shl .u64 1 (wrap64 (a0 - 1))) - 1), 1, shl .u64 1 (wrap64 (a0 - 1)), wrap64 ((wrap64 (4 * a0)) - 8), none)) else (none)) else (some (0, 0, 0, 0, 0, some 2)))) = some (r1, r2, r3, r4, r5, r6) := h
 clear h
 replace H := Option.bind_eq_some_iff.mp H
 obtain ⟨t201, A20, H⟩ := H
 replace H : (if t201 = true then (if 0 ≤ (wrap64 (a0 - 1)) then (some (a0, IntKind.u64.wrap ((shl .u64 1 (wrap64 (a0 - 1))) - 1), 1, shl .u64 1 (wrap64 (a0 - 1)), wrap64 ((wrap64 (4 * a0)) - 8), none)) else (none)) else (some (0, 0, 0, 0, 0, some 2))) = some (r1, r2, r3, r4, r5, r6) := H
 have A2 := Aside0.mk A20
 clear A20
 by_cases c3 : t201 = true
 ·subst c3
  have H1 : (if 0 ≤ (wrap64 (a0 - 1)) then (some (a0, IntKind.u64.wrap ((shl .u64 1 (wrap64 (a0 - 1))) - 1), 1, shl .u64 1 (wrap64 (a0 - 1)), wrap64 ((wrap64 (4 * a0)) - 8), none)) else (none)) = some (r1, r2, r3, r4, r5, r6) := by rw [if_pos rfl] at H; exact H
  clear H
  have H := H1
  clear H1
  obtain ⟨ji4, hji4⟩ : ∃ j_ : Int, (wrap64 (a0 - 1)) = j_ := ⟨_, rfl⟩
  replace H : (if 0 ≤ (ji4) then (some (a0, IntKind.u64.wrap ((shl .u64 1 (ji4)) - 1), 1, shl .u64 1 (ji4), wrap64 ((wrap64 (4 * a0)) - 8), none)) else (none)) = some (r1, r2, r3, r4, r5, r6) := by first | (rw [hji4] at H; exact H) | (simp only [hji4] at H ⊢; exact H)
  (try rw [hji4] at A2)
  have hji4w : (IntKind.i64.wrap (a0 - 1)) = ji4 := (i64_w _).trans hji4
  by_cases c5 : 0 ≤ (ji4)
  ·rw [if_pos c5] at H
   have c5b0 := eq_true c5
   have c5b1 : decide (0 ≤ (ji4)) = true := decide_eq_true c5
   clear c5
   obtain ⟨ji6, hji6⟩ : ∃ j_ : Int, (shl .u64 1 (ji4)) = j_ := ⟨_, rfl⟩
   replace H : (some (a0, IntKind.u64.wrap ((ji6) - 1), 1, ji6, wrap64 ((wrap64 (4 * a0)) - 8), none)) = some (r1, r2, r3, r4, r5, r6) := by first | (rw [hji6] at H; exact H) | (simp only [hji6] at H ⊢; exact H)
   (try rw [hji6] at A2)
   have hji6_ : (IntKind.u64.wrap (1 * 2 ^ min (ji4).toNat 64)) = ji6 := hji6
   have hji6z : (ji4) ≤ 64 → (IntKind.u64.wrap (1 * 2 ^ (ji4).toNat)) = ji6 := shl_small hji6
   (try (have hji6Z_ := hji6z (by omega)))
   have hji6u : (IntKind.u64.wrap (2 ^ min (ji4).toNat 64)) = ji6 := by have h_ := hji6_; rw [Int.one_mul] at h_; exact h_
   have hji6v : (ji4) ≤ 64 → (IntKind.u64.wrap (2 ^ (ji4).toNat)) = ji6 := fun hle_ => by have h_ := hji6z hle_; rw [Int.one_mul] at h_; exact h_
   simp only [Option.some.injEq, Prod.mk.injEq] at H
   obtain ⟨rfl, rfl, rfl, rfl, rfl, rfl⟩ := H
   go_enter Try.func56, Try.ntmps56
   go_wp2_with (first | ((with_reducible refine gate_dst (N := 2) rfl ?_); refine box_event ?hg (N := 2) ?hd (cs := #[.int .i64 0, .int .u64 0, .int .u64 0, .int .u64 0, .int .i64 0]) (t := 98) ?hr ?_; (case hd => rfl); (case hg => rfl); (case hr => first | (go_simp; done) | (go_simp; rfl)); intro gb200 hg w7 hbox hb; have n0_ := Aside0.mk (below_step (z3_ HB.out) hb); have n1_ := Aside0.mk (hbox); have n2_ := Aside0.mk ((by rw [hg]; exact (below_size (z3_ HB.out)) : w.heap.size ≤ gb200)); have n3_ := Aside0.mk ((by rw [hg]; exact (below_size (z3_ HB.out)) : w.heap.size ≤ gb200)); clear HB; have HB := n0_; have BK200 := n1_; have GW200 := n2_; have GE200 := n3_; clear n0_ n1_ n2_ n3_; clear hb hbox hg) | ((with_reducible refine gate_callee (f := 70) rfl ?_); refine goesL_ (some 6) rfl rfl Try.func70 (by kernel_rfl) rfl #[.int .i64 a0] rfl z5_ ?_; (with_reducible refine (shape_is.calls a0 true _ A2.out).mono ?_); rintro e w' ⟨rfl, ⟨nd, rfl⟩⟩; refine ⟨_, rfl, ?_⟩; (try (rw [drewN_self w7]; generalize hq_ : World.drewN w7 _ = w7; have n0_ : Aside0 (w7.heap[gb200]? = some (.cells #[.int .i64 0, .int .u64 0, .int .u64 0, .int .u64 0, .int .i64 0] 98 (0, 0))) := ⟨by rw [← hq_]; exact (z1_ BK200.out)⟩; have n1_ : Aside0 (Below w.heap.size w w7) := ⟨by rw [← hq_]; exact (z3_ HB.out)⟩; clear BK200 HB hq_; have BK200 := n0_; have HB := n1_; clear n0_ n1_)); have hcz8_0 := z4_ BK200.out 0 (.int .i64 0) rfl; have hcz8_1 := z4_ BK200.out 1 (.int .u64 0) rfl; have hcz8_2 := z4_ BK200.out 2 (.int .u64 0) rfl; have hcz8_3 := z4_ BK200.out 3 (.int .u64 0) rfl; have hcz8_4 := z4_ BK200.out 4 (.int .i64 0) rfl; have hfz8_0 := blk_frozen BK200.out 0; have hfz8_1 := blk_frozen BK200.out 1; have hfz8_2 := blk_frozen BK200.out 2; have hfz8_3 := blk_frozen BK200.out 3; have hfz8_4 := blk_frozen BK200.out 4))
   refine bodyPost_ret (results_ct rfl _ _ gb200 98 #[.int .i64 a0, .int .u64 (IntKind.u64.wrap ((ji6) - 1)), .int .u64 1, .int .u64 ji6, .int .i64 (wrap64 ((wrap64 (4 * a0)) - 8))] (0, 0) _ rfl (by refine z2_ ?_; refine blk_put (cs := #[.int .i64 a0, .int .u64 (IntKind.u64.wrap ((ji6) - 1)), .int .u64 1, .int .u64 ji6, .int .i64 0]) ?_ 4 _ rfl; refine z2_ ?_; refine blk_put (cs := #[.int .i64 a0, .int .u64 (IntKind.u64.wrap ((ji6) - 1)), .int .u64 1, .int .u64 0, .int .i64 0]) ?_ 3 _ rfl; refine z2_ ?_; refine blk_put (cs := #[.int .i64 a0, .int .u64 (IntKind.u64.wrap ((ji6) - 1)), .int .u64 0, .int .u64 0, .int .i64 0]) ?_ 2 _ rfl; refine z2_ ?_; refine blk_put (cs := #[.int .i64 a0, .int .u64 0, .int .u64 0, .int .u64 0, .int .i64 0]) ?_ 1 _ rfl; refine z2_ ?_; refine blk_put (cs := #[.int .i64 0, .int .u64 0, .int .u64 0, .int .u64 0, .int .i64 0]) ?_ 0 _ rfl; refine z2_ ?_; exact BK200.out) Try.underlying98 rfl (by kernel_rfl)) rfl ?_
   exact ⟨by first | rfl | (simp [errW_none, errW_some] <;> rfl) | (simp only [← hji4, ← hji6]; first | rfl | (simp [errW_none, errW_some] <;> rfl)) | (simp [*, errW_none, errW_some] <;> rfl), by repeat (first | (with_reducible first | exact HB.out | apply below_alloc | apply pw_below_drewN | apply below_drew1 | refine below_set ?_ GE200.out) | exact HB.out)⟩
  ·rw [if_neg c5] at H
   exact absurd H (by simp)
 ·replace c3 := Bool.eq_false_iff.mpr c3
  subst c3
  have H1 : (some (0, 0, 0, 0, 0, some 2)) = some (r1, r2, r3, r4, r5, r6) := by rw [if_neg (show ¬ (false = true) by decide)] at H; exact H
  clear H
  have H := H1
  clear H1
  simp only [Option.some.injEq, Prod.mk.injEq] at H
  obtain ⟨rfl, rfl, rfl, rfl, rfl, rfl⟩ := H
  go_enter Try.func56, Try.ntmps56
  go_wp2_with (first | ((with_reducible refine gate_dst (N := 2) rfl ?_); refine box_event ?hg (N := 2) ?hd (cs := #[.int .i64 0, .int .u64 0, .int .u64 0, .int .u64 0, .int .i64 0]) (t := 98) ?hr ?_; (case hd => rfl); (case hg => rfl); (case hr => first | (go_simp; done) | (go_simp; rfl)); intro gb200 hg w9 hbox hb; have n0_ := Aside0.mk (below_step (z3_ HB.out) hb); have n1_ := Aside0.mk (hbox); have n2_ := Aside0.mk ((by rw [hg]; exact (below_size (z3_ HB.out)) : w.heap.size ≤ gb200)); have n3_ := Aside0.mk ((by rw [hg]; exact (below_size (z3_ HB.out)) : w.heap.size ≤ gb200)); clear HB; have HB := n0_; have BK200 := n1_; have GW200 := n2_; have GE200 := n3_; clear n0_ n1_ n2_ n3_; clear hb hbox hg) | ((with_reducible refine gate_callee (f := 70) rfl ?_); refine goesL_ (some 6) rfl rfl Try.func70 (by kernel_rfl) rfl #[.int .i64 a0] rfl z5_ ?_; (with_reducible refine (shape_is.calls a0 false _ A2.out).mono ?_); rintro e w' ⟨rfl, ⟨nd, rfl⟩⟩; refine ⟨_, rfl, ?_⟩; (try (rw [drewN_self w9]; generalize hq_ : World.drewN w9 _ = w9; have n0_ : Aside0 (w9.heap[gb200]? = some (.cells #[.int .i64 0, .int .u64 0, .int .u64 0, .int .u64 0, .int .i64 0] 98 (0, 0))) := ⟨by rw [← hq_]; exact (z1_ BK200.out)⟩; have n1_ : Aside0 (Below w.heap.size w w9) := ⟨by rw [← hq_]; exact (z3_ HB.out)⟩; clear BK200 HB hq_; have BK200 := n0_; have HB := n1_; clear n0_ n1_)); have hcz10_0 := z4_ BK200.out 0 (.int .i64 0) rfl; have hcz10_1 := z4_ BK200.out 1 (.int .u64 0) rfl; have hcz10_2 := z4_ BK200.out 2 (.int .u64 0) rfl; have hcz10_3 := z4_ BK200.out 3 (.int .u64 0) rfl; have hcz10_4 := z4_ BK200.out 4 (.int .i64 0) rfl; have hfz10_0 := blk_frozen BK200.out 0; have hfz10_1 := blk_frozen BK200.out 1; have hfz10_2 := blk_frozen BK200.out 2; have hfz10_3 := blk_frozen BK200.out 3; have hfz10_4 := blk_frozen BK200.out 4))
  refine bodyPost_ret (results_ct rfl _ _ gb200 98 #[.int .i64 0, .int .u64 0, .int .u64 0, .int .u64 0, .int .i64 0] (0, 0) _ rfl (by refine z2_ ?_; refine blk_put (cs := #[.int .i64 0, .int .u64 0, .int .u64 0, .int .u64 0, .int .i64 0]) ?_ 4 _ rfl; refine z2_ ?_; refine blk_put (cs := #[.int .i64 0, .int .u64 0, .int .u64 0, .int .u64 0, .int .i64 0]) ?_ 3 _ rfl; refine z2_ ?_; refine blk_put (cs := #[.int .i64 0, .int .u64 0, .int .u64 0, .int .u64 0, .int .i64 0]) ?_ 2 _ rfl; refine z2_ ?_; refine blk_put (cs := #[.int .i64 0, .int .u64 0, .int .u64 0, .int .u64 0, .int .i64 0]) ?_ 1 _ rfl; refine z2_ ?_; refine blk_put (cs := #[.int .i64 0, .int .u64 0, .int .u64 0, .int .u64 0, .int .i64 0]) ?_ 0 _ rfl; refine z2_ ?_; exact BK200.out) Try.underlying98 rfl (by kernel_rfl)) rfl ?_
  exact ⟨by first | rfl | (simp [errW_none, errW_some] <;> rfl) | (simp [*, errW_none, errW_some] <;> rfl), by repeat (first | (with_reducible first | exact HB.out | apply below_alloc | apply pw_below_drewN | apply below_drew1 | refine below_set ?_ GE200.out) | exact HB.out)⟩
end Go.Proofs.Ytebhpipfkomhjaa.PAll
namespace Go.Proofs.Ytebhpipfkomhjaa.PAll
open Go.RowKit Go.Proofs.YtebhpipfkomhjaaW.PrintWords Go.Proofs.YtebhpipfkomhjaaW.PrintLast Go.Proofs.YtebhpipfkomhjaaW.PrintMore
attribute [local go_sem] max2_int min2_int max_two min_two max_three min_three max_four min_four
set_option linter.unusedVariables false
set_option linter.unusedSimpArgs false
def twin_Shl.f (a0_0 : Int) (a0_1 : Int) (a1 : Int) : Option (Int × Int × Bool × Option Int) := if a1 < 0 then (some (0, 0, false, some 1)) else ((twin_shl.f a0_0 a0_1 (mn a1 128)).bind fun bt204 => ((twin_Len.f a0_0 a0_1).bind fun t206 => (some (bt204.1, bt204.2, decide (t206 > (wrap64 (128 - (mn a1 128)))), none))))
def twin_Shl.T4 : Bool × List (List Nat × List Nat) := (true, [([], []), ([], []), ([0, 1], [0, 1]), ([], []), ([3, 2], [3]), ([], []), ([5], [5]), ([4, 6], [4, 6]), ([2, 4, 0, 1, 2], [2]), ([7, 8, 0, 1, 2, 3, 4, 5, 6, 7, 8], [7]), ([9, 0, 1, 2, 3, 4, 5, 6, 7, 8, 9], [])])
def twin_Shl.B4 : List Nat := [0, 0, 3, 0, 15, 0, 32, 127, 31, 511, 1023]
theorem twin_Shl.tab4 : rtab .any (opsOf Try.f67 4) = twin_Shl.T4 := by kernel_rfl
theorem twin_Shl.bits4 : waitsOk twin_Shl.T4.2 twin_Shl.B4 = true := by kernel_rfl
set_option maxHeartbeats 8000000 in
set_option maxRecDepth 100000 in
theorem twin_Shl.calls (a0_0 : Int) (a0_1 : Int) (a1 : Int) (r1 : Int) (r2 : Int) (r3 : Bool) (r4 : Option Int) (w : World) (h : twin_Shl.f a0_0 a0_1 a1 = some (r1, r2, r3, r4)) :
  Calls Try.prog 67 #[.agg #[.int .u64 a0_0, .int .u64 a0_1], .int .i64 a1] w fun e w' => e = .returned (.tuple #[.agg #[.int .u64 r1, .int .u64 r2], .bool r3, errW r4]) ∧ Below w.heap.size w w' := by
 have hu54 := Try.underlying54
 have hu29 := Try.underlying29
 have hu42 := Try.underlying42
 have HB := Aside0.mk (Below.refl w.heap.size w)
 have H : (if a1 < 0 then (some (0, 0, false, some 1)) else ((twin_shl.f a0_0 a0_1 (mn a1 128)).bind fun bt204 => ((twin_Len.f a0_0 a0_1).bind fun t206 => (some (bt204.1, bt204.2, decide (t206 > (wrap64 (128 - (mn a1 128)))), none))))) = some (r1, r2, r3, r4) := h
 clear h
 by_cases c3 : a1 < 0
 ·rw [if_pos c3] at H
  have c3b0 : decide (a1 < 0) = true := decide_eq_true c3
  clear c3
  simp only [Option.some.injEq, Prod.mk.injEq] at H
  obtain ⟨rfl, rfl, rfl, rfl⟩ := H
  go_enter Try.func67, Try.ntmps67
  go_wp2_with (first | ((with_reducible refine gate_dst (N := 2) rfl ?_); refine box_event ?hg (N := 2) ?hd (cs := #[.int .u64 a0_0, .int .u64 a0_1]) (t := 54) ?hr ?_; (case hd => rfl); (case hg => rfl); (case hr => first | (go_simp; done) | (go_simp; rfl)); intro gb202 hg w4 hbox hb; have n0_ := Aside0.mk (below_step (z3_ HB.out) hb); have n1_ := Aside0.mk (hbox); have n2_ := Aside0.mk ((by rw [hg]; exact (below_size (z3_ HB.out)) : w.heap.size ≤ gb202)); have n3_ := Aside0.mk ((by rw [hg]; exact (below_size (z3_ HB.out)) : w.heap.size ≤ gb202)); clear HB; have HB := n0_; have BK202 := n1_; have GW202 := n2_; have GE202 := n3_; clear n0_ n1_ n2_ n3_; clear hb hbox hg) | ((with_reducible refine gate_dst (N := 4) rfl ?_); refine box_event ?hg (N := 4) ?hd (cs := #[.int .u64 0, .int .u64 0]) (t := 54) ?hr ?_; (case hd => rfl); (case hg => rfl); (case hr => first | (go_simp; done) | (go_simp; rfl)); intro gb203 hg w5 hbox hb; have n0_ := Aside0.mk (blk_below (g := gb202) (z1_ BK202.out) hb); have n1_ := Aside0.mk (below_step (z3_ HB.out) hb); have n2_ := Aside0.mk (hbox); have n3_ := Aside0.mk ((by rw [hg]; exact (below_size (z3_ HB.out)) : w.heap.size ≤ gb203)); have n4_ := Aside0.mk ((by rw [hg]; exact (below_size (z3_ HB.out)) : w.heap.size ≤ gb203)); have n5_ := Aside0.mk ((by rw [hg]; exact Nat.ne_of_lt (blk_lt (g := gb202) (o := .cells #[.int .u64 a0_0, .int .u64 a0_1] 54 (0, 0)) (z1_ BK202.out)) : gb202 ≠ gb203)); have n6_ := Aside0.mk ((by rw [hg]; exact Nat.ne_of_gt (blk_lt (g := gb202) (o := .cells #[.int .u64 a0_0, .int .u64 a0_1] 54 (0, 0)) (z1_ BK202.out)) : gb203 ≠ gb202)); clear BK202; clear HB; have BK202 := n0_; have HB := n1_; have BK203 := n2_; have GW203 := n3_; have GE203 := n4_; have NB202_203 := n5_; have NB203_202 := n6_; clear n0_ n1_ n2_ n3_ n4_ n5_ n6_; clear hb hbox hg; have hnb6 := NB203_202.out; have hnc6 := NB202_203.out; have hcz7_0 := z4_ BK203.out 0 (.int .u64 0) rfl; have hcz7_1 := z4_ BK203.out 1 (.int .u64 0) rfl; have hfz7_0 := blk_frozen BK203.out 0; have hfz7_1 := blk_frozen BK203.out 1))
  refine bodyPost_ret (results_ctt rfl _ _ gb203 54 #[.int .u64 0, .int .u64 0] (0, 0) _ rfl (by refine z2_ ?_; refine blk_put (cs := #[.int .u64 0, .int .u64 0]) ?_ 1 _ rfl; refine z2_ ?_; refine blk_put (cs := #[.int .u64 0, .int .u64 0]) ?_ 0 _ rfl; refine z2_ ?_; exact BK203.out) Try.underlying54 rfl (by kernel_rfl)) rfl ?_
  exact ⟨by first | rfl | (simp [errW_none, errW_some] <;> rfl) | (simp [*, errW_none, errW_some] <;> rfl), by repeat (first | (with_reducible first | exact HB.out | apply below_alloc | apply pw_below_drewN | apply below_drew1 | refine below_set ?_ GE202.out | refine below_set ?_ GE203.out) | exact HB.out)⟩
 ·rw [if_neg c3] at H
  have c3b0 : decide (a1 < 0) = false := decide_eq_false c3
  clear c3
  obtain ⟨ji8, hji8⟩ : ∃ j_ : Int, (mn a1 128) = j_ := ⟨_, rfl⟩
  replace H : ((twin_shl.f a0_0 a0_1 (ji8)).bind fun bt204 => ((twin_Len.f a0_0 a0_1).bind fun t206 => (some (bt204.1, bt204.2, decide (t206 > (wrap64 (128 - (ji8)))), none)))) = some (r1, r2, r3, r4) := by first | (rw [hji8] at H; exact H) | (simp only [hji8] at H ⊢; exact H)
  (try (have hji8h : ji8 ≤ 128 := by (rw [← hji8]; unfold mn; (repeat' split) <;> omega)))
  (try (have hji8g : ji8 ≤ 64 := by omega))
  have hji8_ : (if 128 < a1 then 128 else a1) = ji8 := hji8
  replace H := Option.bind_eq_some_iff.mp H
  obtain ⟨⟨t204, t205⟩, A90, H⟩ := H
  replace H : ((twin_Len.f a0_0 a0_1).bind fun t206 => (some (t204, t205, decide (t206 > (wrap64 (128 - (ji8)))), none))) = some (r1, r2, r3, r4) := H
  have A9 := Aside0.mk A90
  clear A90
  replace H := Option.bind_eq_some_iff.mp H
  obtain ⟨t206, A100, H⟩ := H
  replace H : (some (t204, t205, decide (t206 > (wrap64 (128 - (ji8)))), none)) = some (r1, r2, r3, r4) := H
  have A10 := Aside0.mk A100
  clear A100
  simp only [Option.some.injEq, Prod.mk.injEq] at H
  obtain ⟨rfl, rfl, rfl, rfl⟩ := H
  go_enter Try.func67, Try.ntmps67
  try go_wp2_with (first | ((with_reducible refine gate_dst (N := 2) rfl ?_); refine box_event ?hg (N := 2) ?hd (cs := #[.int .u64 a0_0, .int .u64 a0_1]) (t := 54) ?hr ?_; (case hd => rfl); (case hg => rfl); (case hr => first | (go_simp; done) | (go_simp; rfl)); intro gb202 hg w11 hbox hb; have n0_ := Aside0.mk (below_step (z3_ HB.out) hb); have n1_ := Aside0.mk (hbox); have n2_ := Aside0.mk ((by rw [hg]; exact (below_size (z3_ HB.out)) : w.heap.size ≤ gb202)); have n3_ := Aside0.mk ((by rw [hg]; exact (below_size (z3_ HB.out)) : w.heap.size ≤ gb202)); clear HB; have HB := n0_; have BK202 := n1_; have GW202 := n2_; have GE202 := n3_; clear n0_ n1_ n2_ n3_; clear hb hbox hg) | ((with_reducible refine gate_dst (N := 4) rfl ?_); refine box_event ?hg (N := 4) ?hd (cs := #[.int .u64 0, .int .u64 0]) (t := 54) ?hr ?_; (case hd => rfl); (case hg => rfl); (case hr => first | (go_simp; done) | (go_simp; rfl)); intro gb203 hg w12 hbox hb; have n0_ := Aside0.mk (blk_below (g := gb202) (z1_ BK202.out) hb); have n1_ := Aside0.mk (below_step (z3_ HB.out) hb); have n2_ := Aside0.mk (hbox); have n3_ := Aside0.mk ((by rw [hg]; exact (below_size (z3_ HB.out)) : w.heap.size ≤ gb203)); have n4_ := Aside0.mk ((by rw [hg]; exact (below_size (z3_ HB.out)) : w.heap.size ≤ gb203)); have n5_ := Aside0.mk ((by rw [hg]; exact Nat.ne_of_lt (blk_lt (g := gb202) (o := .cells #[.int .u64 a0_0, .int .u64 a0_1] 54 (0, 0)) (z1_ BK202.out)) : gb202 ≠ gb203)); have n6_ := Aside0.mk ((by rw [hg]; exact Nat.ne_of_gt (blk_lt (g := gb202) (o := .cells #[.int .u64 a0_0, .int .u64 a0_1] 54 (0, 0)) (z1_ BK202.out)) : gb203 ≠ gb202)); clear BK202; clear HB; have BK202 := n0_; have HB := n1_; have BK203 := n2_; have GW203 := n3_; have GE203 := n4_; have NB202_203 := n5_; have NB203_202 := n6_; clear n0_ n1_ n2_ n3_ n4_ n5_ n6_; clear hb hbox hg))
  have n0_ := Aside0.mk (blk_drew BK202.out)
  have n1_ := Aside0.mk (blk_drew BK203.out)
  have n2_ := Aside0.mk (below_drew1 HB.out)
  clear BK202
  clear BK203
  clear HB
  have BK202 := n0_
  have BK203 := n1_
  have HB := n2_
  clear n0_ n1_ n2_
  refine start_ (n := 11) (S := fun w' => w'.cell? ⟨gb202, 0, none⟩ = some (.int .u64 a0_0) ∧ w'.cell? ⟨gb202, 1, none⟩ = some (.int .u64 a0_1)) (ds := []) #[false, false, false, false, false, false, false, false, false, false, false] (by kernel_rfl) rfl rfl ⟨(blk_cell BK202.out 0).trans rfl, (blk_cell BK202.out 1).trans rfl⟩ (fun hHeld => ?_); refine with_tabW twin_Shl.tab4 twin_Shl.bits4 (fun HT_ HW_ => ?_)
  generalize w12.drew = w13 at BK202 BK203 HB hHeld ⊢
  refine pure_ (i := 1) (N := some 14) (v := ?_) (a' := ?_) #[false, true, false, false, false, false, false, false, false, false, false] rfl rfl (any_of HT_.out (by kernel_rfl)) (fun _ _ _ h => h) (Or.inl ⟨by rfl, ?_⟩) ?_ ?_
  rotate_left
  ·intro w'
   go_simp
   with_reducible rfl
  rotate_left
  ·simp only [Act.put, List.setIfInBounds_toArray, List.set_cons_zero, List.set_cons_succ, i64_w, i32_w]
   rfl
  refine pure_ (i := 5) (N := some 18) (v := ?_) (a' := ?_) #[false, true, false, false, false, true, false, false, false, false, false] rfl rfl (any_of HT_.out (by kernel_rfl)) (fun _ _ _ h => h) (Or.inl ⟨by rfl, ?_⟩) ?_ ?_
  rotate_left
  ·intro w'
   go_simp
   with_reducible rfl
  rotate_left
  ·simp only [Act.put, List.setIfInBounds_toArray, List.set_cons_zero, List.set_cons_succ, i64_w, i32_w]
   rfl
  refine pure_ (i := 6) (N := some 19) (v := ?_) (a' := ?_) #[false, true, false, false, false, true, true, false, false, false, false] rfl rfl (any_of HT_.out (by kernel_rfl)) (fun _ _ _ h => h) (Or.inl ⟨by rfl, ?_⟩) ?_ ?_
  rotate_left
  ·intro w'
   go_simp
   with_reducible rfl
  rotate_left
  ·simp only [Act.put, List.setIfInBounds_toArray, List.set_cons_zero, List.set_cons_succ, i64_w, i32_w]
   rfl
  refine take_ (i := 0) (N := some 13) (v := ?_) (a' := ?_) #[true, true, false, false, false, true, true, false, false, false, false] rfl rfl (take_ofW HT_.out HW_.out (by kernel_rfl)) (fun _ _ _ h => h) (Or.inl ⟨by rfl, ?_⟩) hHeld ?_ ?_
  rotate_left
  ·rintro w' ⟨s0, s1⟩
   go_simp
   with_reducible rfl
  rotate_left
  ·simp only [Act.put, List.setIfInBounds_toArray, List.set_cons_zero, List.set_cons_succ, i64_w, i32_w]
   rfl
  refine take_ (i := 3) (N := some 16) (v := ?_) (a' := ?_) #[true, true, false, true, false, true, true, false, false, false, false] rfl rfl (take_ofW HT_.out HW_.out (by kernel_rfl)) (fun _ _ _ h => h) (Or.inl ⟨by rfl, ?_⟩) hHeld ?_ ?_
  rotate_left
  ·rintro w' ⟨s0, s1⟩
   go_simp
   with_reducible rfl
  rotate_left
  ·simp only [Act.put, List.setIfInBounds_toArray, List.set_cons_zero, List.set_cons_succ, i64_w, i32_w]
   rfl
  refine one_ (i := 2) (N := some 15) #[true, true, true, true, false, true, true, false, false, false, false] rfl rfl (one_of HT_.out (by kernel_rfl)) (by decide) (fun K hK => ?_)
  refine goes_ Try.func60 (by kernel_rfl) rfl #[.agg #[.int .u64 a0_0, .int .u64 a0_1], .int .i64 ji8] (by rfl) rfl rfl (by (try simp only [List.map_toArray, List.map_cons, List.map_nil]); first | done | (simp only [hji8]; rfl) | rfl | (simp only [List.length_drop, List.length_take]; rfl)) ?_
  with_reducible refine (twin_shl.calls a0_0 a0_1 ji8 t204 t205 _ A9.out).mono ?_
  rintro e w14 ⟨rfl, hb⟩
  refine ⟨_, rfl, ?_⟩
  have n0_ := Aside0.mk (blk_below (g := gb202) (z1_ BK202.out) hb)
  have n1_ := Aside0.mk (blk_below (g := gb203) (z1_ BK203.out) hb)
  have n2_ := Aside0.mk (below_step (z3_ HB.out) hb)
  clear BK202
  clear BK203
  clear HB
  have BK202 := n0_
  have BK203 := n1_
  have HB := n2_
  clear n0_ n1_ n2_
  (try clear hb)
  (try clear hb2)
  (try clear hk)
  (try clear hi)
  refine hK.out _ _ ⟨(blk_cell BK202.out 0).trans rfl, (blk_cell BK202.out 1).trans rfl⟩ (fun hHeld => ?_)
  clear hK K
  refine norm_ (a' := ?_) ?_ ?_
  rotate_left
  ·show Act.put _ (some 15) _ = _
   simp only [Act.put, List.setIfInBounds_toArray, List.set_cons_zero, List.set_cons_succ, i64_w, i32_w]
   rfl
  refine one_ (i := 4) (N := some 17) #[true, true, true, true, true, true, true, false, false, false, false] rfl rfl (one_of HT_.out (by kernel_rfl)) (by decide) (fun K hK => ?_)
  refine goes_ Try.func59 (by kernel_rfl) rfl #[.agg #[.int .u64 a0_0, .int .u64 a0_1]] (by rfl) rfl rfl z5_ ?_
  with_reducible refine (twin_Len.calls a0_0 a0_1 t206 _ A10.out).mono ?_
  rintro e w15 ⟨rfl, hb⟩
  refine ⟨_, rfl, ?_⟩
  have n0_ := Aside0.mk (blk_below (g := gb202) (z1_ BK202.out) hb)
  have n1_ := Aside0.mk (blk_below (g := gb203) (z1_ BK203.out) hb)
  have n2_ := Aside0.mk (below_step (z3_ HB.out) hb)
  clear BK202
  clear BK203
  clear HB
  have BK202 := n0_
  have BK203 := n1_
  have HB := n2_
  clear n0_ n1_ n2_
  (try clear hb)
  (try clear hb2)
  (try clear hk)
  (try clear hi)
  refine hK.out _ _ ⟨(blk_cell BK202.out 0).trans rfl, (blk_cell BK202.out 1).trans rfl⟩ (fun hHeld => ?_)
  clear hK K
  refine norm_ (a' := ?_) ?_ ?_
  rotate_left
  ·show Act.put _ (some 17) _ = _
   simp only [Act.put, List.setIfInBounds_toArray, List.set_cons_zero, List.set_cons_succ, i64_w, i32_w]
   rfl
  refine pure_ (i := 7) (N := some 20) (v := ?_) (a' := ?_) #[true, true, true, true, true, true, true, true, false, false, false] rfl rfl (any_of HT_.out (by kernel_rfl)) (fun _ _ _ h => h) (Or.inl ⟨by rfl, ?_⟩) ?_ ?_
  rotate_left
  ·intro w'
   go_simp
   with_reducible rfl
  rotate_left
  ·simp only [Act.put, List.setIfInBounds_toArray, List.set_cons_zero, List.set_cons_succ, i64_w, i32_w]
   rfl
  refine one_ (i := 8) (N := none) #[true, true, true, true, true, true, true, true, true, false, false] rfl rfl (one_of HT_.out (by kernel_rfl)) (by decide) (fun K hK => ?_)
  have hs16 : w15.cell? ⟨gb203, 0, none⟩ = some (.int .u64 0) := (blk_cell BK203.out 0).trans rfl
  have hfs16 := blk_frozen BK203.out 0
  have hns16_0 := NB202_203.out
  have hms16_0 := NB203_202.out
  have hs17 : w15.cell? ⟨gb203, 1, none⟩ = some (.int .u64 0) := (blk_cell BK203.out 1).trans rfl
  have hfs17 := blk_frozen BK203.out 1
  have hns17_0 := NB202_203.out
  have hms17_0 := NB203_202.out
  refine skip_ (w1 := ?_) (by rfl) rfl ?_ ?_
  rotate_left
  ·go_simp
   rfl
  refine hK.out _ _ ⟨((cell_far (p := ⟨gb203, _, none⟩) NB202_203.out _).trans (((cell_far (p := ⟨gb203, _, none⟩) NB202_203.out _).trans (hHeld.1)))), ((cell_far (p := ⟨gb203, _, none⟩) NB202_203.out _).trans (((cell_far (p := ⟨gb203, _, none⟩) NB202_203.out _).trans (hHeld.2))))⟩ (fun hHeld => ?_)
  clear hK K
  refine pure_ (i := 9) (N := some 5) (v := ?_) (a' := ?_) #[true, true, true, true, true, true, true, true, true, true, false] rfl rfl (any_of HT_.out (by kernel_rfl)) (fun _ _ _ h => h) (Or.inl ⟨by rfl, ?_⟩) ?_ ?_
  rotate_left
  ·intro w'
   go_simp
   with_reducible rfl
  rotate_left
  ·simp only [Act.put, List.setIfInBounds_toArray, List.set_cons_zero, List.set_cons_succ, i64_w, i32_w]
   rfl
  refine pure_ (i := 10) (N := some 6) (v := ?_) (a' := ?_) #[true, true, true, true, true, true, true, true, true, true, true] rfl rfl (any_of HT_.out (by kernel_rfl)) (fun _ _ _ h => h) (Or.inl ⟨by rfl, ?_⟩) ?_ ?_
  rotate_left
  ·intro w'
   go_simp
   with_reducible rfl
  rotate_left
  ·simp only [Act.put, List.setIfInBounds_toArray, List.set_cons_zero, List.set_cons_succ, i64_w, i32_w]
   rfl
  refine done_ (done_of HT_.out (by kernel_rfl)) ?_
  try go_wp2
  refine bodyPost_ret (results_ctt rfl _ _ gb203 54 #[.int .u64 t204, .int .u64 t205] (0, 0) _ rfl (by refine z2_ ?_; refine blk_put (cs := #[.int .u64 t204, .int .u64 0]) ?_ 1 _ rfl; refine z2_ ?_; refine blk_put (cs := #[.int .u64 0, .int .u64 0]) ?_ 0 _ rfl; refine z2_ ?_; exact BK203.out) Try.underlying54 rfl (by kernel_rfl)) rfl ?_
  exact ⟨by first | rfl | (simp [errW_none, errW_some] <;> rfl) | (simp only [← hji8]; first | rfl | (simp [errW_none, errW_some] <;> rfl)) | (simp [*, errW_none, errW_some] <;> rfl), by repeat (first | (with_reducible first | exact HB.out | apply below_alloc | apply pw_below_drewN | apply below_drew1 | refine below_set ?_ GE202.out | refine below_set ?_ GE203.out) | exact HB.out)⟩
end Go.Proofs.Ytebhpipfkomhjaa.PAll
namespace Go.Proofs.Ytebhpipfkomhjaa.PAll
open Go.RowKit Go.Proofs.YtebhpipfkomhjaaW.PrintWords Go.Proofs.YtebhpipfkomhjaaW.PrintLast Go.Proofs.YtebhpipfkomhjaaW.PrintMore
attribute [local go_sem] max2_int min2_int max_two min_two max_three min_three max_four min_four
set_option linter.unusedVariables false
set_option linter.unusedSimpArgs false
def twin_shr.f (a0_0 : Int) (a0_1 : Int) (a1 : Int) : Option (Int × Int) := if a1 ≥ 64 then (if 0 ≤ (wrap64 (a1 - 64)) then (some (0, shr .u64 a0_0 (wrap64 (a1 - 64)))) else (none)) else (if 0 ≤ a1 then (if 0 ≤ (wrap64 (64 - a1)) then (some (shr .u64 a0_0 a1, Go.bits .or .u64 (shr .u64 a0_1 a1) (shl .u64 a0_0 (wrap64 (64 - a1))))) else (none)) else (none))
def twin_shr.T3 : Bool × List (List Nat × List Nat) := (true, [([], []), ([0], [0]), ([], []), ([1, 2], [1, 2]), ([], []), ([4], [4]), ([], []), ([5, 6], [5, 6]), ([], []), ([8], [8]), ([], []), ([10], [10]), ([9, 11], [9, 11]), ([7, 12], [7, 12]), ([3, 13], [3, 13]), ([14, 0, 1, 2, 3, 4, 5, 6, 7, 8, 9, 10, 11, 12, 13, 14], [14])])
def twin_shr.B3 : List Nat := [0, 1, 0, 7, 0, 16, 0, 112, 0, 256, 0, 1024, 3840, 8176, 16383, 32767]
theorem twin_shr.tab3 : rtab .any (opsOf Try.f84 3) = twin_shr.T3 := by kernel_rfl
theorem twin_shr.bits3 : waitsOk twin_shr.T3.2 twin_shr.B3 = true := by kernel_rfl
set_option maxHeartbeats 8000000 in
set_option maxRecDepth 100000 in
theorem twin_shr.calls (a0_0 : Int) (a0_1 : Int) (a1 : Int) (r1 : Int) (r2 : Int) (w : World) (h : twin_shr.f a0_0 a0_1 a1 = some (r1, r2)) :
  Calls Try.prog 84 #[.agg #[.int .u64 a0_0, .int .u64 a0_1], .int .i64 a1] w fun e w' => e = .returned (.agg #[.int .u64 r1, .int .u64 r2]) ∧ Below w.heap.size w w' := by
 have hu54 := Try.underlying54
 have HB := Aside0.mk (Below.refl w.heap.size w)
 have H : (if a1 ≥ 64 then (if 0 ≤ (wrap64 (a1 - 64)) then (some (0, shr .u64 a0_0 (wrap64 (a1 - 64)))) else (none)) else (if 0 ≤ a1 then (if 0 ≤ (wrap64 (64 - a1)) then (some (shr .u64 a0_0 a1, Go.bits .or .u64 (shr .u64 a0_1 a1) (shl .u64 a0_0 (wrap64 (64 - a1))))) else (none)) else (none))) = some (r1, r2) := h
 clear h
 by_cases c3 : a1 ≥ 64
 ·rw [if_pos c3] at H
  have c3b0 : decide (64 ≤ a1) = true := decide_eq_true c3
  clear c3
  obtain ⟨ji4, hji4⟩ : ∃ j_ : Int, (wrap64 (a1 - 64)) = j_ := ⟨_, rfl⟩
  replace H : (if 0 ≤ (ji4) then (some (0, shr .u64 a0_0 (ji4))) else (none)) = some (r1, r2) := by first | (rw [hji4] at H; exact H) | (simp only [hji4] at H ⊢; exact H)
  have hji4w : (IntKind.i64.wrap (a1 - 64)) = ji4 := (i64_w _).trans hji4
  by_cases c5 : 0 ≤ (ji4)
  ·rw [if_pos c5] at H
   have c5b0 := eq_true c5
   have c5b1 : decide (0 ≤ (ji4)) = true := decide_eq_true c5
   clear c5
   obtain ⟨ji6, hji6⟩ : ∃ j_ : Int, (shr .u64 a0_0 (ji4)) = j_ := ⟨_, rfl⟩
   replace H : (some (0, ji6)) = some (r1, r2) := by first | (rw [hji6] at H; exact H) | (simp only [hji6] at H ⊢; exact H)
   have hji6_ : (a0_0 / 2 ^ min (ji4).toNat 64) = ji6 := hji6
   have hji6z : (ji4) ≤ 64 → (a0_0 / 2 ^ (ji4).toNat) = ji6 := shr_small hji6
   (try (have hji6Z_ := hji6z (by omega)))
   simp only [Option.some.injEq, Prod.mk.injEq] at H
   obtain ⟨rfl, rfl⟩ := H
   go_enter Try.func84, Try.ntmps84
   go_wp2_with (first | ((with_reducible refine gate_dst (N := 2) rfl ?_); refine box_event ?hg (N := 2) ?hd (cs := #[.int .u64 a0_0, .int .u64 a0_1]) (t := 54) ?hr ?_; (case hd => rfl); (case hg => rfl); (case hr => first | (go_simp; done) | (go_simp; rfl)); intro gb207 hg w7 hbox hb; have n0_ := Aside0.mk (below_step (z3_ HB.out) hb); have n1_ := Aside0.mk (hbox); have n2_ := Aside0.mk ((by rw [hg]; exact (below_size (z3_ HB.out)) : w.heap.size ≤ gb207)); have n3_ := Aside0.mk ((by rw [hg]; exact (below_size (z3_ HB.out)) : w.heap.size ≤ gb207)); clear HB; have HB := n0_; have BK207 := n1_; have GW207 := n2_; have GE207 := n3_; clear n0_ n1_ n2_ n3_; clear hb hbox hg) | ((with_reducible refine gate_dst (N := 4) rfl ?_); refine box_event ?hg (N := 4) ?hd (cs := #[.int .u64 0, .int .u64 0]) (t := 54) ?hr ?_; (case hd => rfl); (case hg => rfl); (case hr => first | (go_simp; done) | (go_simp; rfl)); intro gb208 hg w8 hbox hb; have n0_ := Aside0.mk (blk_below (g := gb207) (z1_ BK207.out) hb); have n1_ := Aside0.mk (below_step (z3_ HB.out) hb); have n2_ := Aside0.mk (hbox); have n3_ := Aside0.mk ((by rw [hg]; exact (below_size (z3_ HB.out)) : w.heap.size ≤ gb208)); have n4_ := Aside0.mk ((by rw [hg]; exact (below_size (z3_ HB.out)) : w.heap.size ≤ gb208)); have n5_ := Aside0.mk ((by rw [hg]; exact Nat.ne_of_lt (blk_lt (g := gb207) (o := .cells #[.int .u64 a0_0, .int .u64 a0_1] 54 (0, 0)) (z1_ BK207.out)) : gb207 ≠ gb208)); have n6_ := Aside0.mk ((by rw [hg]; exact Nat.ne_of_gt (blk_lt (g := gb207) (o := .cells #[.int .u64 a0_0, .int .u64 a0_1] 54 (0, 0)) (z1_ BK207.out)) : gb208 ≠ gb207)); clear BK207; clear HB; have BK207 := n0_; have HB := n1_; have BK208 := n2_; have GW208 := n3_; have GE208 := n4_; have NB207_208 := n5_; have NB208_207 := n6_; clear n0_ n1_ n2_ n3_ n4_ n5_ n6_; clear hb hbox hg; have hnb9 := NB207_208.out; have hnc9 := NB208_207.out; have hcz10_0 := z4_ BK207.out 0 (.int .u64 a0_0) rfl; have hcz10_1 := z4_ BK207.out 1 (.int .u64 a0_1) rfl; have hfz10_0 := blk_frozen BK207.out 0; have hfz10_1 := blk_frozen BK207.out 1; have hcz11_0 := z4_ BK208.out 0 (.int .u64 0) rfl; have hcz11_1 := z4_ BK208.out 1 (.int .u64 0) rfl; have hfz11_0 := blk_frozen BK208.out 0; have hfz11_1 := blk_frozen BK208.out 1))
   refine bodyPost_ret (results_cell_row rfl _ _ gb208 54 #[.int .u64 0, .int .u64 ji6] (0, 0) _ rfl (by refine z2_ ?_; refine blk_put (cs := #[.int .u64 0, .int .u64 0]) ?_ 1 _ rfl; refine z2_ ?_; refine blk_put (cs := #[.int .u64 0, .int .u64 0]) ?_ 0 _ rfl; refine z2_ ?_; exact BK208.out) Try.underlying54 rfl (by kernel_rfl)) rfl ?_
   exact ⟨by first | rfl | (simp [errW_none, errW_some] <;> rfl) | (simp only [← hji4, ← hji6]; first | rfl | (simp [errW_none, errW_some] <;> rfl)) | (simp [*, errW_none, errW_some] <;> rfl), by repeat (first | (with_reducible first | exact HB.out | apply below_alloc | apply pw_below_drewN | apply below_drew1 | refine below_set ?_ GE207.out | refine below_set ?_ GE208.out) | exact HB.out)⟩
  ·rw [if_neg c5] at H
   exact absurd H (by simp)
 ·rw [if_neg c3] at H
  have c3b0 : decide (64 ≤ a1) = false := decide_eq_false c3
  clear c3
  by_cases c12 : 0 ≤ a1
  ·rw [if_pos c12] at H
   have c12b0 := eq_true c12
   have c12b1 : decide (0 ≤ a1) = true := decide_eq_true c12
   clear c12
   obtain ⟨ji13, hji13⟩ : ∃ j_ : Int, (shr .u64 a0_0 a1) = j_ := ⟨_, rfl⟩
   replace H : (if 0 ≤ (wrap64 (64 - a1)) then (some (ji13, Go.bits .or .u64 (shr .u64 a0_1 a1) (shl .u64 a0_0 (wrap64 (64 - a1))))) else (none)) = some (r1, r2) := by first | (rw [hji13] at H; exact H) | (simp only [hji13] at H ⊢; exact H)
   have hji13_ : (a0_0 / 2 ^ min a1.toNat 64) = ji13 := hji13
   have hji13z : a1 ≤ 64 → (a0_0 / 2 ^ a1.toNat) = ji13 := shr_small hji13
   (try (have hji13Z_ := hji13z (by omega)))
   have c14b0 := eq_true (of_decide_eq_true (by first | (with_reducible assumption) | assumption) : 0 ≤ a1)
   obtain ⟨ji15, hji15⟩ : ∃ j_ : Int, (shr .u64 a0_1 a1) = j_ := ⟨_, rfl⟩
   replace H : (if 0 ≤ (wrap64 (64 - a1)) then (some (ji13, Go.bits .or .u64 (ji15) (shl .u64 a0_0 (wrap64 (64 - a1))))) else (none)) = some (r1, r2) := by first | (rw [hji15] at H; exact H) | (simp only [hji15] at H ⊢; exact H)
   have hji15_ : (a0_1 / 2 ^ min a1.toNat 64) = ji15 := hji15
   have hji15z : a1 ≤ 64 → (a0_1 / 2 ^ a1.toNat) = ji15 := shr_small hji15
   (try (have hji15Z_ := hji15z (by omega)))
   obtain ⟨ji16, hji16⟩ : ∃ j_ : Int, (wrap64 (64 - a1)) = j_ := ⟨_, rfl⟩
   replace H : (if 0 ≤ (ji16) then (some (ji13, Go.bits .or .u64 (ji15) (shl .u64 a0_0 (ji16)))) else (none)) = some (r1, r2) := by first | (rw [hji16] at H; exact H) | (simp only [hji16] at H ⊢; exact H)
   have hji16w : (IntKind.i64.wrap (64 - a1)) = ji16 := (i64_w _).trans hji16
   by_cases c17 : 0 ≤ (ji16)
   ·rw [if_pos c17] at H
    have c17b0 := eq_true c17
    have c17b1 : decide (0 ≤ (ji16)) = true := decide_eq_true c17
    clear c17
    obtain ⟨ji18, hji18⟩ : ∃ j_ : Int, (shl .u64 a0_0 (ji16)) = j_ := ⟨_, rfl⟩
    replace H : (some (ji13, Go.bits .or .u64 (ji15) (ji18))) = some (r1, r2) := by first | (rw [hji18] at H; exact H) | (simp only [hji18] at H ⊢; exact H)
    have hji18_ : (IntKind.u64.wrap (a0_0 * 2 ^ min (ji16).toNat 64)) = ji18 := hji18
    have hji18z : (ji16) ≤ 64 → (IntKind.u64.wrap (a0_0 * 2 ^ (ji16).toNat)) = ji18 := shl_small hji18
    (try (have hji18Z_ := hji18z (by omega)))
    simp only [Option.some.injEq, Prod.mk.injEq] at H
    obtain ⟨rfl, rfl⟩ := H
    go_enter Try.func84, Try.ntmps84
    try go_wp2_with (first | ((with_reducible refine gate_dst (N := 2) rfl ?_); refine box_event ?hg (N := 2) ?hd (cs := #[.int .u64 a0_0, .int .u64 a0_1]) (t := 54) ?hr ?_; (case hd => rfl); (case hg => rfl); (case hr => first | (go_simp; done) | (go_simp; rfl)); intro gb207 hg w19 hbox hb; have n0_ := Aside0.mk (below_step (z3_ HB.out) hb); have n1_ := Aside0.mk (hbox); have n2_ := Aside0.mk ((by rw [hg]; exact (below_size (z3_ HB.out)) : w.heap.size ≤ gb207)); have n3_ := Aside0.mk ((by rw [hg]; exact (below_size (z3_ HB.out)) : w.heap.size ≤ gb207)); clear HB; have HB := n0_; have BK207 := n1_; have GW207 := n2_; have GE207 := n3_; clear n0_ n1_ n2_ n3_; clear hb hbox hg) | ((with_reducible refine gate_dst (N := 4) rfl ?_); refine box_event ?hg (N := 4) ?hd (cs := #[.int .u64 0, .int .u64 0]) (t := 54) ?hr ?_; (case hd => rfl); (case hg => rfl); (case hr => first | (go_simp; done) | (go_simp; rfl)); intro gb208 hg w20 hbox hb; have n0_ := Aside0.mk (blk_below (g := gb207) (z1_ BK207.out) hb); have n1_ := Aside0.mk (below_step (z3_ HB.out) hb); have n2_ := Aside0.mk (hbox); have n3_ := Aside0.mk ((by rw [hg]; exact (below_size (z3_ HB.out)) : w.heap.size ≤ gb208)); have n4_ := Aside0.mk ((by rw [hg]; exact (below_size (z3_ HB.out)) : w.heap.size ≤ gb208)); have n5_ := Aside0.mk ((by rw [hg]; exact Nat.ne_of_lt (blk_lt (g := gb207) (o := .cells #[.int .u64 a0_0, .int .u64 a0_1] 54 (0, 0)) (z1_ BK207.out)) : gb207 ≠ gb208)); have n6_ := Aside0.mk ((by rw [hg]; exact Nat.ne_of_gt (blk_lt (g := gb207) (o := .cells #[.int .u64 a0_0, .int .u64 a0_1] 54 (0, 0)) (z1_ BK207.out)) : gb208 ≠ gb207)); clear BK207; clear HB; have BK207 := n0_; have HB := n1_; have BK208 := n2_; have GW208 := n3_; have GE208 := n4_; have NB207_208 := n5_; have NB208_207 := n6_; clear n0_ n1_ n2_ n3_ n4_ n5_ n6_; clear hb hbox hg))
    have n0_ := Aside0.mk (blk_drew BK207.out)
    have n1_ := Aside0.mk (blk_drew BK208.out)
    have n2_ := Aside0.mk (below_drew1 HB.out)
    clear BK207
    clear BK208
    clear HB
    have BK207 := n0_
    have BK208 := n1_
    have HB := n2_
    clear n0_ n1_ n2_
    refine start_ (n := 16) (S := fun w' => w'.cell? ⟨gb207, 0, none⟩ = some (.int .u64 a0_0) ∧ w'.cell? ⟨gb207, 1, none⟩ = some (.int .u64 a0_1)) (ds := []) #[false, false, false, false, false, false, false, false, false, false, false, false, false, false, false, false] (by kernel_rfl) rfl rfl ⟨(blk_cell BK207.out 0).trans rfl, (blk_cell BK207.out 1).trans rfl⟩ (fun hHeld => ?_); refine with_tabW twin_shr.tab3 twin_shr.bits3 (fun HT_ HW_ => ?_)
    generalize w20.drew = w21 at BK207 BK208 HB hHeld ⊢
    refine pure_ (i := 0) (N := some 13) (v := ?_) (a' := ?_) #[true, false, false, false, false, false, false, false, false, false, false, false, false, false, false, false] rfl rfl (any_of HT_.out (by kernel_rfl)) (fun _ _ _ h => h) (Or.inl ⟨by rfl, ?_⟩) ?_ ?_
    rotate_left
    ·intro w'
     go_simp
     with_reducible rfl
    rotate_left
    ·simp only [Act.put, List.setIfInBounds_toArray, List.set_cons_zero, List.set_cons_succ, i64_w, i32_w]
     rfl
    refine pure_ (i := 2) (N := some 15) (v := ?_) (a' := ?_) #[true, false, true, false, false, false, false, false, false, false, false, false, false, false, false, false] rfl rfl (any_of HT_.out (by kernel_rfl)) (fun _ _ _ h => h) (Or.inl ⟨by rfl, ?_⟩) ?_ ?_
    rotate_left
    ·intro w'
     go_simp
     with_reducible rfl
    rotate_left
    ·simp only [Act.put, List.setIfInBounds_toArray, List.set_cons_zero, List.set_cons_succ, i64_w, i32_w]
     rfl
    refine pure_ (i := 4) (N := some 17) (v := ?_) (a' := ?_) #[true, false, true, false, true, false, false, false, false, false, false, false, false, false, false, false] rfl rfl (any_of HT_.out (by kernel_rfl)) (fun _ _ _ h => h) (Or.inl ⟨by rfl, ?_⟩) ?_ ?_
    rotate_left
    ·intro w'
     go_simp
     with_reducible rfl
    rotate_left
    ·simp only [Act.put, List.setIfInBounds_toArray, List.set_cons_zero, List.set_cons_succ, i64_w, i32_w]
     rfl
    refine pure_ (i := 6) (N := some 19) (v := ?_) (a' := ?_) #[true, false, true, false, true, false, true, false, false, false, false, false, false, false, false, false] rfl rfl (any_of HT_.out (by kernel_rfl)) (fun _ _ _ h => h) (Or.inl ⟨by rfl, ?_⟩) ?_ ?_
    rotate_left
    ·intro w'
     go_simp
     with_reducible rfl
    rotate_left
    ·simp only [Act.put, List.setIfInBounds_toArray, List.set_cons_zero, List.set_cons_succ, i64_w, i32_w]
     rfl
    refine pure_ (i := 8) (N := some 21) (v := ?_) (a' := ?_) #[true, false, true, false, true, false, true, false, true, false, false, false, false, false, false, false] rfl rfl (any_of HT_.out (by kernel_rfl)) (fun _ _ _ h => h) (Or.inl ⟨by rfl, ?_⟩) ?_ ?_
    rotate_left
    ·intro w'
     go_simp
     with_reducible rfl
    rotate_left
    ·simp only [Act.put, List.setIfInBounds_toArray, List.set_cons_zero, List.set_cons_succ, i64_w, i32_w]
     rfl
    refine pure_ (i := 10) (N := some 23) (v := ?_) (a' := ?_) #[true, false, true, false, true, false, true, false, true, false, true, false, false, false, false, false] rfl rfl (any_of HT_.out (by kernel_rfl)) (fun _ _ _ h => h) (Or.inl ⟨by rfl, ?_⟩) ?_ ?_
    rotate_left
    ·intro w'
     go_simp
     with_reducible rfl
    rotate_left
    ·simp only [Act.put, List.setIfInBounds_toArray, List.set_cons_zero, List.set_cons_succ, i64_w, i32_w]
     rfl
    refine pure_ (i := 11) (N := some 24) (v := ?_) (a' := ?_) #[true, false, true, false, true, false, true, false, true, false, true, true, false, false, false, false] rfl rfl (any_of HT_.out (by kernel_rfl)) (fun _ _ _ h => h) (Or.inl ⟨by rfl, ?_⟩) ?_ ?_
    rotate_left
    ·intro w'
     go_simp
     with_reducible rfl
    rotate_left
    ·simp only [Act.put, List.setIfInBounds_toArray, List.set_cons_zero, List.set_cons_succ, i64_w, i32_w]
     rfl
    refine take_ (i := 1) (N := some 14) (v := ?_) (a' := ?_) #[true, true, true, false, true, false, true, false, true, false, true, true, false, false, false, false] rfl rfl (take_ofW HT_.out HW_.out (by kernel_rfl)) (fun _ _ _ h => h) (Or.inl ⟨by rfl, ?_⟩) hHeld ?_ ?_
    rotate_left
    ·rintro w' ⟨s0, s1⟩
     go_simp
     with_reducible rfl
    rotate_left
    ·simp only [Act.put, List.setIfInBounds_toArray, List.set_cons_zero, List.set_cons_succ, i64_w, i32_w]
     rfl
    refine pure_ (i := 3) (N := some 16) (v := ?_) (a' := ?_) #[true, true, true, true, true, false, true, false, true, false, true, true, false, false, false, false] rfl rfl (any_of HT_.out (by kernel_rfl)) (fun _ _ _ h => h) (Or.inl ⟨by rfl, ?_⟩) ?_ ?_
    rotate_left
    ·intro w'
     go_simp
     with_reducible rfl
    rotate_left
    ·simp only [Act.put, List.setIfInBounds_toArray, List.set_cons_zero, List.set_cons_succ, i64_w, i32_w]
     rfl
    refine take_ (i := 5) (N := some 18) (v := ?_) (a' := ?_) #[true, true, true, true, true, true, true, false, true, false, true, true, false, false, false, false] rfl rfl (take_ofW HT_.out HW_.out (by kernel_rfl)) (fun _ _ _ h => h) (Or.inl ⟨by rfl, ?_⟩) hHeld ?_ ?_
    rotate_left
    ·rintro w' ⟨s0, s1⟩
     go_simp
     with_reducible rfl
    rotate_left
    ·simp only [Act.put, List.setIfInBounds_toArray, List.set_cons_zero, List.set_cons_succ, i64_w, i32_w]
     rfl
    refine pure_ (i := 7) (N := some 20) (v := ?_) (a' := ?_) #[true, true, true, true, true, true, true, true, true, false, true, true, false, false, false, false] rfl rfl (any_of HT_.out (by kernel_rfl)) (fun _ _ _ h => h) (Or.inl ⟨by rfl, ?_⟩) ?_ ?_
    rotate_left
    ·intro w'
     go_simp
     with_reducible rfl
    rotate_left
    ·simp only [Act.put, List.setIfInBounds_toArray, List.set_cons_zero, List.set_cons_succ, i64_w, i32_w]
     rfl
    refine take_ (i := 9) (N := some 22) (v := ?_) (a' := ?_) #[true, true, true, true, true, true, true, true, true, true, true, true, false, false, false, false] rfl rfl (take_ofW HT_.out HW_.out (by kernel_rfl)) (fun _ _ _ h => h) (Or.inl ⟨by rfl, ?_⟩) hHeld ?_ ?_
    rotate_left
    ·rintro w' ⟨s0, s1⟩
     go_simp
     with_reducible rfl
    rotate_left
    ·simp only [Act.put, List.setIfInBounds_toArray, List.set_cons_zero, List.set_cons_succ, i64_w, i32_w]
     rfl
    refine pure_ (i := 12) (N := some 25) (v := ?_) (a' := ?_) #[true, true, true, true, true, true, true, true, true, true, true, true, true, false, false, false] rfl rfl (any_of HT_.out (by kernel_rfl)) (fun _ _ _ h => h) (Or.inl ⟨by rfl, ?_⟩) ?_ ?_
    rotate_left
    ·intro w'
     go_simp
     with_reducible rfl
    rotate_left
    ·simp only [Act.put, List.setIfInBounds_toArray, List.set_cons_zero, List.set_cons_succ, i64_w, i32_w]
     rfl
    refine pure_ (i := 13) (N := some 26) (v := ?_) (a' := ?_) #[true, true, true, true, true, true, true, true, true, true, true, true, true, true, false, false] rfl rfl (any_of HT_.out (by kernel_rfl)) (fun _ _ _ h => h) (Or.inl ⟨by rfl, ?_⟩) ?_ ?_
    rotate_left
    ·intro w'
     go_simp
     with_reducible rfl
    rotate_left
    ·simp only [Act.put, List.setIfInBounds_toArray, List.set_cons_zero, List.set_cons_succ, i64_w, i32_w]
     rfl
    refine pure_ (i := 14) (N := some 27) (v := ?_) (a' := ?_) #[true, true, true, true, true, true, true, true, true, true, true, true, true, true, true, false] rfl rfl (any_of HT_.out (by kernel_rfl)) (fun _ _ _ h => h) (Or.inl ⟨by rfl, ?_⟩) ?_ ?_
    rotate_left
    ·intro w'
     go_simp
     with_reducible rfl
    rotate_left
    ·simp only [Act.put, List.setIfInBounds_toArray, List.set_cons_zero, List.set_cons_succ, i64_w, i32_w]
     rfl
    refine one_ (i := 15) (N := none) #[true, true, true, true, true, true, true, true, true, true, true, true, true, true, true, true] rfl rfl (one_of HT_.out (by kernel_rfl)) (by decide) (fun K hK => ?_)
    have hs22 : w21.cell? ⟨gb208, 0, none⟩ = some (.int .u64 0) := (blk_cell BK208.out 0).trans rfl
    have hfs22 := blk_frozen BK208.out 0
    have hns22_0 := NB207_208.out
    have hms22_0 := NB208_207.out
    have hs23 : w21.cell? ⟨gb208, 1, none⟩ = some (.int .u64 0) := (blk_cell BK208.out 1).trans rfl
    have hfs23 := blk_frozen BK208.out 1
    have hns23_0 := NB207_208.out
    have hms23_0 := NB208_207.out
    refine skip_ (w1 := ?_) (by rfl) rfl ?_ ?_
    rotate_left
    ·go_simp
     rfl
    refine hK.out _ _ ⟨((cell_far (p := ⟨gb208, _, none⟩) NB207_208.out _).trans (((cell_far (p := ⟨gb208, _, none⟩) NB207_208.out _).trans (hHeld.1)))), ((cell_far (p := ⟨gb208, _, none⟩) NB207_208.out _).trans (((cell_far (p := ⟨gb208, _, none⟩) NB207_208.out _).trans (hHeld.2))))⟩ (fun hHeld => ?_)
    clear hK K
    refine done_ (done_of HT_.out (by kernel_rfl)) ?_
    try go_wp2
    refine bodyPost_ret (results_cell_row rfl _ _ gb208 54 #[.int .u64 ji13, .int .u64 (Go.bits .or .u64 (ji15) (ji18))] (0, 0) _ rfl (by refine z2_ ?_; refine blk_put (cs := #[.int .u64 ji13, .int .u64 0]) ?_ 1 _ rfl; refine z2_ ?_; refine blk_put (cs := #[.int .u64 0, .int .u64 0]) ?_ 0 _ rfl; refine z2_ ?_; exact BK208.out) Try.underlying54 rfl (by kernel_rfl)) rfl ?_
    exact ⟨by first | rfl | (simp [errW_none, errW_some] <;> rfl) | (simp only [← hji13, ← hji15, ← hji16, ← hji18]; first | rfl | (simp [errW_none, errW_some] <;> rfl)) | (simp [*, errW_none, errW_some] <;> rfl), by repeat (first | (with_reducible first | exact HB.out | apply below_alloc | apply pw_below_drewN | apply below_drew1 | refine below_set ?_ GE207.out | refine below_set ?_ GE208.out) | exact HB.out)⟩
   ·rw [if_neg c17] at H
    exact absurd H (by simp)
  ·rw [if_neg c12] at H
   exact absurd H (by simp)
end Go.Proofs.Ytebhpipfkomhjaa.PAll
namespace Go.Proofs.Ytebhpipfkomhjaa.PAll
open Go.RowKit Go.Proofs.YtebhpipfkomhjaaW.PrintWords Go.Proofs.YtebhpipfkomhjaaW.PrintLast Go.Proofs.YtebhpipfkomhjaaW.PrintMore
attribute [local go_sem] max2_int min2_int max_two min_two max_three min_three max_four min_four
set_option linter.unusedVariables false
set_option linter.unusedSimpArgs false
attribute [local go_sem high] eqA54
def twin_Shr.f (a0_0 : Int) (a0_1 : Int) (a1 : Int) : Option (Int × Int × Bool × Option Int) := if a1 < 0 then (some (0, 0, false, some 1)) else ((twin_shr.f a0_0 a0_1 (mn a1 128)).bind fun bt211 => ((twin_shl.f bt211.1 bt211.2 (mn a1 128)).bind fun bt214 => (some (bt211.1, bt211.2, (!(bt214.1 == a0_0) || (!(bt214.2 == a0_1))), none))))
def twin_Shr.T5 : Bool × List (List Nat × List Nat) := (true, [([], []), ([], []), ([], []), ([1, 2], [1, 2]), ([], []), ([3, 4], [3, 4]), ([0, 3, 0], [0]), ([5, 6, 0, 1, 2, 3, 4, 5, 6], [5]), ([7, 0, 1, 2, 3, 4, 5, 6, 7], [])])
def twin_Shr.B5 : List Nat := [0, 0, 0, 6, 0, 30, 15, 127, 255]
theorem twin_Shr.tab5 : rtab .any (opsOf Try.f81 5) = twin_Shr.T5 := by kernel_rfl
theorem twin_Shr.bits5 : waitsOk twin_Shr.T5.2 twin_Shr.B5 = true := by kernel_rfl
set_option maxHeartbeats 8000000 in
set_option maxRecDepth 100000 in
theorem twin_Shr.calls (a0_0 : Int) (a0_1 : Int) (a1 : Int) (r1 : Int) (r2 : Int) (r3 : Bool) (r4 : Option Int) (w : World) (h : twin_Shr.f a0_0 a0_1 a1 = some (r1, r2, r3, r4)) :
  Calls Try.prog 81 #[.agg #[.int .u64 a0_0, .int .u64 a0_1], .int .i64 a1] w fun e w' => e = .returned (.tuple #[.agg #[.int .u64 r1, .int .u64 r2], .bool r3, errW r4]) ∧ Below w.heap.size w w' := by
 have hu54 := Try.underlying54
 have hu29 := Try.underlying29
 have hu42 := Try.underlying42
 have HB := Aside0.mk (Below.refl w.heap.size w)
 have H : (if a1 < 0 then (some (0, 0, false, some 1)) else ((twin_shr.f a0_0 a0_1 (mn a1 128)).bind fun bt211 => ((twin_shl.f bt211.1 bt211.2 (mn a1 128)).bind fun bt214 => (some (bt211.1, bt211.2, (!(bt214.1 == a0_0) || (!(bt214.2 == a0_1))), none))))) = some (r1, r2, r3, r4) := h
 clear h
 by_cases c3 : a1 < 0
 ·rw [if_pos c3] at H
  have c3b0 : decide (a1 < 0) = true := decide_eq_true c3
  clear c3
  simp only [Option.some.injEq, Prod.mk.injEq] at H
  obtain ⟨rfl, rfl, rfl, rfl⟩ := H
  go_enter Try.func81, Try.ntmps81
  go_wp2_with (first | ((with_reducible refine gate_dst (N := 2) rfl ?_); refine box_event ?hg (N := 2) ?hd (cs := #[.int .u64 a0_0, .int .u64 a0_1]) (t := 54) ?hr ?_; (case hd => rfl); (case hg => rfl); (case hr => first | (go_simp; done) | (go_simp; rfl)); intro gb209 hg w4 hbox hb; have n0_ := Aside0.mk (below_step (z3_ HB.out) hb); have n1_ := Aside0.mk (hbox); have n2_ := Aside0.mk ((by rw [hg]; exact (below_size (z3_ HB.out)) : w.heap.size ≤ gb209)); have n3_ := Aside0.mk ((by rw [hg]; exact (below_size (z3_ HB.out)) : w.heap.size ≤ gb209)); clear HB; have HB := n0_; have BK209 := n1_; have GW209 := n2_; have GE209 := n3_; clear n0_ n1_ n2_ n3_; clear hb hbox hg) | ((with_reducible refine gate_dst (N := 4) rfl ?_); refine box_event ?hg (N := 4) ?hd (cs := #[.int .u64 0, .int .u64 0]) (t := 54) ?hr ?_; (case hd => rfl); (case hg => rfl); (case hr => first | (go_simp; done) | (go_simp; rfl)); intro gb210 hg w5 hbox hb; have n0_ := Aside0.mk (blk_below (g := gb209) (z1_ BK209.out) hb); have n1_ := Aside0.mk (below_step (z3_ HB.out) hb); have n2_ := Aside0.mk (hbox); have n3_ := Aside0.mk ((by rw [hg]; exact (below_size (z3_ HB.out)) : w.heap.size ≤ gb210)); have n4_ := Aside0.mk ((by rw [hg]; exact (below_size (z3_ HB.out)) : w.heap.size ≤ gb210)); have n5_ := Aside0.mk ((by rw [hg]; exact Nat.ne_of_lt (blk_lt (g := gb209) (o := .cells #[.int .u64 a0_0, .int .u64 a0_1] 54 (0, 0)) (z1_ BK209.out)) : gb209 ≠ gb210)); have n6_ := Aside0.mk ((by rw [hg]; exact Nat.ne_of_gt (blk_lt (g := gb209) (o := .cells #[.int .u64 a0_0, .int .u64 a0_1] 54 (0, 0)) (z1_ BK209.out)) : gb210 ≠ gb209)); clear BK209; clear HB; have BK209 := n0_; have HB := n1_; have BK210 := n2_; have GW210 := n3_; have GE210 := n4_; have NB209_210 := n5_; have NB210_209 := n6_; clear n0_ n1_ n2_ n3_ n4_ n5_ n6_; clear hb hbox hg; have hnb6 := NB210_209.out; have hnc6 := NB209_210.out; have hcz7_0 := z4_ BK210.out 0 (.int .u64 0) rfl; have hcz7_1 := z4_ BK210.out 1 (.int .u64 0) rfl; have hfz7_0 := blk_frozen BK210.out 0; have hfz7_1 := blk_frozen BK210.out 1))
  refine bodyPost_ret (results_ctt rfl _ _ gb210 54 #[.int .u64 0, .int .u64 0] (0, 0) _ rfl (by refine z2_ ?_; refine blk_put (cs := #[.int .u64 0, .int .u64 0]) ?_ 1 _ rfl; refine z2_ ?_; refine blk_put (cs := #[.int .u64 0, .int .u64 0]) ?_ 0 _ rfl; refine z2_ ?_; exact BK210.out) Try.underlying54 rfl (by kernel_rfl)) rfl ?_
  exact ⟨by first | rfl | (simp [errW_none, errW_some] <;> rfl) | (simp [*, errW_none, errW_some] <;> rfl), by repeat (first | (with_reducible first | exact HB.out | apply below_alloc | apply pw_below_drewN | apply below_drew1 | refine below_set ?_ GE209.out | refine below_set ?_ GE210.out) | exact HB.out)⟩
 ·rw [if_neg c3] at H
  have c3b0 : decide (a1 < 0) = false := decide_eq_false c3
  clear c3
  obtain ⟨ji8, hji8⟩ : ∃ j_ : Int, (mn a1 128) = j_ := ⟨_, rfl⟩
  replace H : ((twin_shr.f a0_0 a0_1 (ji8)).bind fun bt211 => ((twin_shl.f bt211.1 bt211.2 (ji8)).bind fun bt214 => (some (bt211.1, bt211.2, (!(bt214.1 == a0_0) || (!(bt214.2 == a0_1))), none)))) = some (r1, r2, r3, r4) := by first | (rw [hji8] at H; exact H) | (simp only [hji8] at H ⊢; exact H)
  (try (have hji8h : ji8 ≤ 128 := by (rw [← hji8]; unfold mn; (repeat' split) <;> omega)))
  (try (have hji8g : ji8 ≤ 64 := by omega))
  have hji8_ : (if 128 < a1 then 128 else a1) = ji8 := hji8
  replace H := Option.bind_eq_some_iff.mp H
  obtain ⟨⟨t211, t212⟩, A90, H⟩ := H
  replace H : ((twin_shl.f t211 t212 (ji8)).bind fun bt214 => (some (t211, t212, (!(bt214.1 == a0_0) || (!(bt214.2 == a0_1))), none))) = some (r1, r2, r3, r4) := H
  have A9 := Aside0.mk A90
  clear A90
  replace H := Option.bind_eq_some_iff.mp H
  obtain ⟨⟨t214, t215⟩, A100, H⟩ := H
  replace H : (some (t211, t212, (!(t214 == a0_0) || (!(t215 == a0_1))), none)) = some (r1, r2, r3, r4) := H
  have A10 := Aside0.mk A100
  clear A100
  simp only [Option.some.injEq, Prod.mk.injEq] at H
  obtain ⟨rfl, rfl, rfl, rfl⟩ := H
  go_enter Try.func81, Try.ntmps81
  try go_wp2_with (first | ((with_reducible refine gate_dst (N := 2) rfl ?_); refine box_event ?hg (N := 2) ?hd (cs := #[.int .u64 a0_0, .int .u64 a0_1]) (t := 54) ?hr ?_; (case hd => rfl); (case hg => rfl); (case hr => first | (go_simp; done) | (go_simp; rfl)); intro gb209 hg w11 hbox hb; have n0_ := Aside0.mk (below_step (z3_ HB.out) hb); have n1_ := Aside0.mk (hbox); have n2_ := Aside0.mk ((by rw [hg]; exact (below_size (z3_ HB.out)) : w.heap.size ≤ gb209)); have n3_ := Aside0.mk ((by rw [hg]; exact (below_size (z3_ HB.out)) : w.heap.size ≤ gb209)); clear HB; have HB := n0_; have BK209 := n1_; have GW209 := n2_; have GE209 := n3_; clear n0_ n1_ n2_ n3_; clear hb hbox hg) | ((with_reducible refine gate_dst (N := 4) rfl ?_); refine box_event ?hg (N := 4) ?hd (cs := #[.int .u64 0, .int .u64 0]) (t := 54) ?hr ?_; (case hd => rfl); (case hg => rfl); (case hr => first | (go_simp; done) | (go_simp; rfl)); intro gb210 hg w12 hbox hb; have n0_ := Aside0.mk (blk_below (g := gb209) (z1_ BK209.out) hb); have n1_ := Aside0.mk (below_step (z3_ HB.out) hb); have n2_ := Aside0.mk (hbox); have n3_ := Aside0.mk ((by rw [hg]; exact (below_size (z3_ HB.out)) : w.heap.size ≤ gb210)); have n4_ := Aside0.mk ((by rw [hg]; exact (below_size (z3_ HB.out)) : w.heap.size ≤ gb210)); have n5_ := Aside0.mk ((by rw [hg]; exact Nat.ne_of_lt (blk_lt (g := gb209) (o := .cells #[.int .u64 a0_0, .int .u64 a0_1] 54 (0, 0)) (z1_ BK209.out)) : gb209 ≠ gb210)); have n6_ := Aside0.mk ((by rw [hg]; exact Nat.ne_of_gt (blk_lt (g := gb209) (o := .cells #[.int .u64 a0_0, .int .u64 a0_1] 54 (0, 0)) (z1_ BK209.out)) : gb210 ≠ gb209)); clear BK209; clear HB; have BK209 := n0_; have HB := n1_; have BK210 := n2_; have GW210 := n3_; have GE210 := n4_; have NB209_210 := n5_; have NB210_209 := n6_; clear n0_ n1_ n2_ n3_ n4_ n5_ n6_; clear hb hbox hg; have hnb13 := NB209_210.out; have hnc13 := NB210_209.out; have hcz14_0 := z4_ BK209.out 0 (.int .u64 a0_0) rfl; have hcz14_1 := z4_ BK209.out 1 (.int .u64 a0_1) rfl; have hfz14_0 := blk_frozen BK209.out 0; have hfz14_1 := blk_frozen BK209.out 1) | ((with_reducible refine gate_callee (f := 84) rfl ?_); refine goesL_ (some 16) rfl rfl Try.func84 (by kernel_rfl) rfl #[.agg #[.int .u64 a0_0, .int .u64 a0_1], .int .i64 ji8] rfl (by (try simp only [List.map_toArray, List.map_cons, List.map_nil]); first | done | (simp only [hji8]; rfl) | rfl | (simp only [List.length_drop, List.length_take]; rfl)) ?_; (with_reducible refine (twin_shr.calls a0_0 a0_1 ji8 t211 t212 _ A9.out).mono ?_); rintro e w15 ⟨rfl, hb⟩; refine ⟨_, rfl, ?_⟩; have n0_ := Aside0.mk (blk_below (g := gb209) (z1_ BK209.out) hb); have n1_ := Aside0.mk (blk_below (g := gb210) (z1_ BK210.out) hb); have n2_ := Aside0.mk (below_step (z3_ HB.out) hb); clear BK209; clear BK210; clear HB; have BK209 := n0_; have BK210 := n1_; have HB := n2_; clear n0_ n1_ n2_; (try clear hb); (try clear hb2); (try clear hk); (try clear hi)) | ((with_reducible refine gate_dst (N := 7) rfl ?_); refine box_event ?hg (N := 7) ?hd (cs := #[.int .u64 0, .int .u64 0]) (t := 54) ?hr ?_; (case hd => rfl); (case hg => rfl); (case hr => first | (go_simp; done) | (go_simp; rfl)); intro gb213 hg w16 hbox hb; have n0_ := Aside0.mk (blk_below (g := gb209) (z1_ BK209.out) hb); have n1_ := Aside0.mk (blk_below (g := gb210) (z1_ BK210.out) hb); have n2_ := Aside0.mk (below_step (z3_ HB.out) hb); have n3_ := Aside0.mk (hbox); have n4_ := Aside0.mk ((by rw [hg]; exact (below_size (z3_ HB.out)) : w.heap.size ≤ gb213)); have n5_ := Aside0.mk ((by rw [hg]; exact (below_size (z3_ HB.out)) : w.heap.size ≤ gb213)); have n6_ := Aside0.mk ((by rw [hg]; exact Nat.ne_of_lt (blk_lt (g := gb209) (o := .cells #[.int .u64 a0_0, .int .u64 a0_1] 54 (0, 0)) (z1_ BK209.out)) : gb209 ≠ gb213)); have n7_ := Aside0.mk ((by rw [hg]; exact Nat.ne_of_gt (blk_lt (g := gb209) (o := .cells #[.int .u64 a0_0, .int .u64 a0_1] 54 (0, 0)) (z1_ BK209.out)) : gb213 ≠ gb209)); have n8_ := Aside0.mk ((by rw [hg]; exact Nat.ne_of_lt (blk_lt (g := gb210) (o := .cells #[.int .u64 0, .int .u64 0] 54 (0, 0)) (z1_ BK210.out)) : gb210 ≠ gb213)); have n9_ := Aside0.mk ((by rw [hg]; exact Nat.ne_of_gt (blk_lt (g := gb210) (o := .cells #[.int .u64 0, .int .u64 0] 54 (0, 0)) (z1_ BK210.out)) : gb213 ≠ gb210)); clear BK209; clear BK210; clear HB; have BK209 := n0_; have BK210 := n1_; have HB := n2_; have BK213 := n3_; have GW213 := n4_; have GE213 := n5_; have NB209_213 := n6_; have NB213_209 := n7_; have NB210_213 := n8_; have NB213_210 := n9_; clear n0_ n1_ n2_ n3_ n4_ n5_ n6_ n7_ n8_ n9_; clear hb hbox hg; have hnb17 := NB213_209.out; have hnc17 := NB209_213.out; have hnb18 := NB213_210.out; have hnc18 := NB210_213.out; have hcz19_0 := z4_ BK213.out 0 (.int .u64 0) rfl; have hcz19_1 := z4_ BK213.out 1 (.int .u64 0) rfl; have hfz19_0 := blk_frozen BK213.out 0; have hfz19_1 := blk_frozen BK213.out 1))
  have n0_ : Aside0 (((w16.setCell ⟨gb213, 0, none⟩ (.int .u64 t211)).setCell ⟨gb213, 1, none⟩ (.int .u64 t212)).heap[gb209]? = some (.cells #[.int .u64 a0_0, .int .u64 a0_1] 54 (0, 0))) := ⟨by refine z2_ ?_; refine blk_far ?_ NB209_213.out _; refine z2_ ?_; refine blk_far ?_ NB209_213.out _; refine z2_ ?_; exact BK209.out⟩
  have n1_ : Aside0 (((w16.setCell ⟨gb213, 0, none⟩ (.int .u64 t211)).setCell ⟨gb213, 1, none⟩ (.int .u64 t212)).heap[gb210]? = some (.cells #[.int .u64 0, .int .u64 0] 54 (0, 0))) := ⟨by refine z2_ ?_; refine blk_far ?_ NB210_213.out _; refine z2_ ?_; refine blk_far ?_ NB210_213.out _; refine z2_ ?_; exact BK210.out⟩
  have n2_ : Aside0 (((w16.setCell ⟨gb213, 0, none⟩ (.int .u64 t211)).setCell ⟨gb213, 1, none⟩ (.int .u64 t212)).heap[gb213]? = some (.cells #[.int .u64 t211, .int .u64 t212] 54 (0, 0))) := ⟨by refine z2_ ?_; refine blk_put (cs := #[.int .u64 t211, .int .u64 0]) ?_ 1 _ rfl; refine z2_ ?_; refine blk_put (cs := #[.int .u64 0, .int .u64 0]) ?_ 0 _ rfl; refine z2_ ?_; exact BK213.out⟩
  have n3_ : Aside0 (Below w.heap.size w ((w16.setCell ⟨gb213, 0, none⟩ (.int .u64 t211)).setCell ⟨gb213, 1, none⟩ (.int .u64 t212))) := ⟨by repeat (first | (with_reducible first | exact HB.out | apply below_alloc | apply pw_below_drewN | apply below_drew1 | refine below_set ?_ GE209.out | refine below_set ?_ GE210.out | refine below_set ?_ GE213.out) | exact HB.out)⟩
  (try clear BK209)
  (try clear BK210)
  (try clear BK213)
  (try clear HB)
  generalize ((w16.setCell ⟨gb213, 0, none⟩ (.int .u64 t211)).setCell ⟨gb213, 1, none⟩ (.int .u64 t212)) = w20 at n0_ n1_ n2_ n3_ ⊢
  have BK209 := n0_
  have BK210 := n1_
  have BK213 := n2_
  have HB := n3_
  clear n0_ n1_ n2_ n3_
  have n0_ := Aside0.mk (blk_drew BK209.out)
  have n1_ := Aside0.mk (blk_drew BK210.out)
  have n2_ := Aside0.mk (blk_drew BK213.out)
  have n3_ := Aside0.mk (below_drew1 HB.out)
  clear BK209
  clear BK210
  clear BK213
  clear HB
  have BK209 := n0_
  have BK210 := n1_
  have BK213 := n2_
  have HB := n3_
  clear n0_ n1_ n2_ n3_
  refine start_ (n := 9) (S := fun w' => w'.cell? ⟨gb213, 0, none⟩ = some (.int .u64 t211) ∧ w'.cell? ⟨gb213, 1, none⟩ = some (.int .u64 t212) ∧ w'.cell? ⟨gb209, 0, none⟩ = some (.int .u64 a0_0) ∧ w'.cell? ⟨gb209, 1, none⟩ = some (.int .u64 a0_1)) (ds := []) #[false, false, false, false, false, false, false, false, false] (by kernel_rfl) rfl rfl ⟨(blk_cell BK213.out 0).trans rfl, (blk_cell BK213.out 1).trans rfl, (blk_cell BK209.out 0).trans rfl, (blk_cell BK209.out 1).trans rfl⟩ (fun hHeld => ?_); refine with_tabW twin_Shr.tab5 twin_Shr.bits5 (fun HT_ HW_ => ?_)
  generalize w20.drew = w21 at BK209 BK210 BK213 HB hHeld ⊢
  refine pure_ (i := 2) (N := some 19) (v := ?_) (a' := ?_) #[false, false, true, false, false, false, false, false, false] rfl rfl (any_of HT_.out (by kernel_rfl)) (fun _ _ _ h => h) (Or.inl ⟨by rfl, ?_⟩) ?_ ?_
  rotate_left
  ·intro w'
   go_simp
   with_reducible rfl
  rotate_left
  ·simp only [Act.put, List.setIfInBounds_toArray, List.set_cons_zero, List.set_cons_succ, i64_w, i32_w]
   rfl
  refine take_ (i := 0) (N := some 17) (v := ?_) (a' := ?_) #[true, false, true, false, false, false, false, false, false] rfl rfl (take_ofW HT_.out HW_.out (by kernel_rfl)) (fun _ _ _ h => h) (Or.inl ⟨by rfl, ?_⟩) hHeld ?_ ?_
  rotate_left
  ·rintro w' ⟨s0, s1, s2, s3⟩
   go_simp
   with_reducible rfl
  rotate_left
  ·simp only [Act.put, List.setIfInBounds_toArray, List.set_cons_zero, List.set_cons_succ, i64_w, i32_w]
   rfl
  refine take_ (i := 1) (N := some 18) (v := ?_) (a' := ?_) #[true, true, true, false, false, false, false, false, false] rfl rfl (take_ofW HT_.out HW_.out (by kernel_rfl)) (fun _ _ _ h => h) (Or.inl ⟨by rfl, ?_⟩) hHeld ?_ ?_
  rotate_left
  ·rintro w' ⟨s0, s1, s2, s3⟩
   go_simp
   with_reducible rfl
  rotate_left
  ·simp only [Act.put, List.setIfInBounds_toArray, List.set_cons_zero, List.set_cons_succ, i64_w, i32_w]
   rfl
  refine take_ (i := 4) (N := some 21) (v := ?_) (a' := ?_) #[true, true, true, false, true, false, false, false, false] rfl rfl (take_ofW HT_.out HW_.out (by kernel_rfl)) (fun _ _ _ h => h) (Or.inl ⟨by rfl, ?_⟩) hHeld ?_ ?_
  rotate_left
  ·rintro w' ⟨s0, s1, s2, s3⟩
   go_simp
   with_reducible rfl
  rotate_left
  ·simp only [Act.put, List.setIfInBounds_toArray, List.set_cons_zero, List.set_cons_succ, i64_w, i32_w]
   rfl
  refine one_ (i := 3) (N := some 20) #[true, true, true, true, true, false, false, false, false] rfl rfl (one_of HT_.out (by kernel_rfl)) (by decide) (fun K hK => ?_)
  refine goes_ Try.func60 (by kernel_rfl) rfl #[.agg #[.int .u64 t211, .int .u64 t212], .int .i64 ji8] (by rfl) rfl rfl (by (try simp only [List.map_toArray, List.map_cons, List.map_nil]); first | done | (simp only [hji8]; rfl) | rfl | (simp only [List.length_drop, List.length_take]; rfl)) ?_
  with_reducible refine (twin_shl.calls t211 t212 ji8 t214 t215 _ A10.out).mono ?_
  rintro e w22 ⟨rfl, hb⟩
  refine ⟨_, rfl, ?_⟩
  have n0_ := Aside0.mk (blk_below (g := gb209) (z1_ BK209.out) hb)
  have n1_ := Aside0.mk (blk_below (g := gb210) (z1_ BK210.out) hb)
  have n2_ := Aside0.mk (blk_below (g := gb213) (z1_ BK213.out) hb)
  have n3_ := Aside0.mk (below_step (z3_ HB.out) hb)
  clear BK209
  clear BK210
  clear BK213
  clear HB
  have BK209 := n0_
  have BK210 := n1_
  have BK213 := n2_
  have HB := n3_
  clear n0_ n1_ n2_ n3_
  (try clear hb)
  (try clear hb2)
  (try clear hk)
  (try clear hi)
  refine hK.out _ _ ⟨(blk_cell BK213.out 0).trans rfl, (blk_cell BK213.out 1).trans rfl, (blk_cell BK209.out 0).trans rfl, (blk_cell BK209.out 1).trans rfl⟩ (fun hHeld => ?_)
  clear hK K
  refine norm_ (a' := ?_) ?_ ?_
  rotate_left
  ·show Act.put _ (some 20) _ = _
   simp only [Act.put, List.setIfInBounds_toArray, List.set_cons_zero, List.set_cons_succ, i64_w, i32_w]
   rfl
  refine pure_ (i := 5) (N := some 22) (v := ?_) (a' := ?_) #[true, true, true, true, true, true, false, false, false] rfl rfl (any_of HT_.out (by kernel_rfl)) (fun _ _ _ h => h) (Or.inl ⟨by rfl, ?_⟩) ?_ ?_
  rotate_left
  ·intro w'
   go_simp
   with_reducible rfl
  rotate_left
  ·simp only [Act.put, List.setIfInBounds_toArray, List.set_cons_zero, List.set_cons_succ, i64_w, i32_w]
   rfl
  refine one_ (i := 6) (N := none) #[true, true, true, true, true, true, true, false, false] rfl rfl (one_of HT_.out (by kernel_rfl)) (by decide) (fun K hK => ?_)
  have hs23 : w22.cell? ⟨gb210, 0, none⟩ = some (.int .u64 0) := (blk_cell BK210.out 0).trans rfl
  have hfs23 := blk_frozen BK210.out 0
  have hns23_0 := NB209_210.out
  have hns23_2 := NB213_210.out
  have hms23_0 := NB210_209.out
  have hms23_2 := NB210_213.out
  have hs24 : w22.cell? ⟨gb210, 1, none⟩ = some (.int .u64 0) := (blk_cell BK210.out 1).trans rfl
  have hfs24 := blk_frozen BK210.out 1
  have hns24_0 := NB209_210.out
  have hns24_2 := NB213_210.out
  have hms24_0 := NB210_209.out
  have hms24_2 := NB210_213.out
  refine skip_ (w1 := ?_) (by rfl) rfl ?_ ?_
  rotate_left
  ·go_simp
   rfl
  refine hK.out _ _ ⟨((cell_far (p := ⟨gb210, _, none⟩) NB213_210.out _).trans (((cell_far (p := ⟨gb210, _, none⟩) NB213_210.out _).trans (hHeld.1)))), ((cell_far (p := ⟨gb210, _, none⟩) NB213_210.out _).trans (((cell_far (p := ⟨gb210, _, none⟩) NB213_210.out _).trans (hHeld.2.1)))), ((cell_far (p := ⟨gb210, _, none⟩) NB209_210.out _).trans (((cell_far (p := ⟨gb210, _, none⟩) NB209_210.out _).trans (hHeld.2.2.1)))), ((cell_far (p := ⟨gb210, _, none⟩) NB209_210.out _).trans (((cell_far (p := ⟨gb210, _, none⟩) NB209_210.out _).trans (hHeld.2.2.2))))⟩ (fun hHeld => ?_)
  clear hK K
  refine pure_ (i := 7) (N := some 5) (v := ?_) (a' := ?_) #[true, true, true, true, true, true, true, true, false] rfl rfl (any_of HT_.out (by kernel_rfl)) (fun _ _ _ h => h) (Or.inl ⟨by rfl, ?_⟩) ?_ ?_
  rotate_left
  ·intro w'
   go_simp
   with_reducible rfl
  rotate_left
  ·simp only [Act.put, List.setIfInBounds_toArray, List.set_cons_zero, List.set_cons_succ, i64_w, i32_w]
   rfl
  refine pure_ (i := 8) (N := some 6) (v := ?_) (a' := ?_) #[true, true, true, true, true, true, true, true, true] rfl rfl (any_of HT_.out (by kernel_rfl)) (fun _ _ _ h => h) (Or.inl ⟨by rfl, ?_⟩) ?_ ?_
  rotate_left
  ·intro w'
   go_simp
   with_reducible rfl
  rotate_left
  ·simp only [Act.put, List.setIfInBounds_toArray, List.set_cons_zero, List.set_cons_succ, i64_w, i32_w]
   rfl
  refine done_ (done_of HT_.out (by kernel_rfl)) ?_
  try go_wp2
  refine bodyPost_ret (results_ctt rfl _ _ gb210 54 #[.int .u64 t211, .int .u64 t212] (0, 0) _ rfl (by refine z2_ ?_; refine blk_put (cs := #[.int .u64 t211, .int .u64 0]) ?_ 1 _ rfl; refine z2_ ?_; refine blk_put (cs := #[.int .u64 0, .int .u64 0]) ?_ 0 _ rfl; refine z2_ ?_; exact BK210.out) Try.underlying54 rfl (by kernel_rfl)) rfl ?_
  exact ⟨by first | rfl | (simp [errW_none, errW_some] <;> rfl) | (simp only [← hji8]; first | rfl | (simp [errW_none, errW_some] <;> rfl)) | (simp [*, errW_none, errW_some] <;> rfl), by repeat (first | (with_reducible first | exact HB.out | apply below_alloc | apply pw_below_drewN | apply below_drew1 | refine below_set ?_ GE209.out | refine below_set ?_ GE210.out | refine below_set ?_ GE213.out) | exact HB.out)⟩
end Go.Proofs.Ytebhpipfkomhjaa.PAll
namespace Go.Proofs.Ytebhpipfkomhjaa.PAll
open Go.RowKit Go.Proofs.YtebhpipfkomhjaaW.PrintWords Go.Proofs.YtebhpipfkomhjaaW.PrintLast Go.Proofs.YtebhpipfkomhjaaW.PrintMore
attribute [local go_sem] max2_int min2_int max_two min_two max_three min_three max_four min_four
set_option linter.unusedVariables false
set_option linter.unusedSimpArgs false
def round_under.f (a0_0 : Int) (a0_1 : Int) (a1 : Int) (a2 : Int) (a3 : Bool) : Option (Int × Int × Bool) := (twin_Shr.f a0_0 a0_1 a2).bind fun bt218 => (if 0 ≤ (wrap64 (64 - a2)) then (if a3 = true then (some (Go.bits .or .u64 bt218.1 (shl .u64 a1 (wrap64 (64 - a2))), bt218.2.1, true)) else (some (Go.bits .or .u64 bt218.1 (shl .u64 a1 (wrap64 (64 - a2))), bt218.2.1, bt218.2.2.1))) else (none))
def round_under.T2 : Bool × List (List Nat × List Nat) := (true, [([], []), ([0], [0]), ([], []), ([], []), ([3], [3]), ([2, 4], [2, 4]), ([1, 5], [1, 5]), ([0, 1, 2, 3, 4, 5, 6], []), ([7, 6, 0, 1, 2, 3, 4, 5, 6], [6, 7])])
def round_under.B2 : List Nat := [0, 1, 0, 0, 8, 28, 63, 127, 255]
theorem round_under.tab2 : rtab .any (opsOf Try.f68 2) = round_under.T2 := by kernel_rfl
theorem round_under.bits2 : waitsOk round_under.T2.2 round_under.B2 = true := by kernel_rfl
set_option maxHeartbeats 8000000 in
set_option maxRecDepth 100000 in
theorem round_under.calls (a0_0 : Int) (a0_1 : Int) (a1 : Int) (a2 : Int) (a3 : Bool) (r1 : Int) (r2 : Int) (r3 : Bool) (w : World) (h : round_under.f a0_0 a0_1 a1 a2 a3 = some (r1, r2, r3)) :
  Calls Try.prog 68 #[.agg #[.int .u64 a0_0, .int .u64 a0_1], .int .u64 a1, .int .i64 a2, .bool a3] w fun e w' => e = .returned (.tuple #[.agg #[.int .u64 r1, .int .u64 r2], .bool r3]) ∧ Below w.heap.size w w' := by
 have hu54 := Try.underlying54
 have HB := Aside0.mk (Below.refl w.heap.size w)
 have H : ((twin_Shr.f a0_0 a0_1 a2).bind fun bt218 => (if 0 ≤ (wrap64 (64 - a2)) then (if a3 = true then (some (Go.bits .or .u64 bt218.1 (shl .u64 a1 (wrap64 (64 - a2))), bt218.2.1, true)) else (some (Go.bits .or .u64 bt218.1 (shl .u64 a1 (wrap64 (64 - a2))), bt218.2.1, bt218.2.2.1))) else (none))) = some (r1, r2, r3) := h
 clear h
 replace H := Option.bind_eq_some_iff.mp H
 obtain ⟨⟨t218, t219, t220, t221⟩, A50, H⟩ := H
 replace H : (if 0 ≤ (wrap64 (64 - a2)) then (if a3 = true then (some (Go.bits .or .u64 t218 (shl .u64 a1 (wrap64 (64 - a2))), t219, true)) else (some (Go.bits .or .u64 t218 (shl .u64 a1 (wrap64 (64 - a2))), t219, t220))) else (none)) = some (r1, r2, r3) := H
 have A5 := Aside0.mk A50
 clear A50
 obtain ⟨ji6, hji6⟩ : ∃ j_ : Int, (wrap64 (64 - a2)) = j_ := ⟨_, rfl⟩
 replace H : (if 0 ≤ (ji6) then (if a3 = true then (some (Go.bits .or .u64 t218 (shl .u64 a1 (ji6)), t219, true)) else (some (Go.bits .or .u64 t218 (shl .u64 a1 (ji6)), t219, t220))) else (none)) = some (r1, r2, r3) := by first | (rw [hji6] at H; exact H) | (simp only [hji6] at H ⊢; exact H)
 (try rw [hji6] at A5)
 have hji6w : (IntKind.i64.wrap (64 - a2)) = ji6 := (i64_w _).trans hji6
 by_cases c7 : 0 ≤ (ji6)
 ·rw [if_pos c7] at H
  have c7b0 := eq_true c7
  have c7b1 : decide (0 ≤ (ji6)) = true := decide_eq_true c7
  clear c7
  obtain ⟨ji8, hji8⟩ : ∃ j_ : Int, (shl .u64 a1 (ji6)) = j_ := ⟨_, rfl⟩
  replace H : (if a3 = true then (some (Go.bits .or .u64 t218 (ji8), t219, true)) else (some (Go.bits .or .u64 t218 (ji8), t219, t220))) = some (r1, r2, r3) := by first | (rw [hji8] at H; exact H) | (simp only [hji8] at H ⊢; exact H)
  (try rw [hji8] at A5)
  have hji8_ : (IntKind.u64.wrap (a1 * 2 ^ min (ji6).toNat 64)) = ji8 := hji8
  have hji8z : (ji6) ≤ 64 → (IntKind.u64.wrap (a1 * 2 ^ (ji6).toNat)) = ji8 := shl_small hji8
  (try (have hji8Z_ := hji8z (by omega)))
  by_cases c9 : a3 = true
  ·subst c9
   have H1 : (some (Go.bits .or .u64 t218 (ji8), t219, true)) = some (r1, r2, r3) := by rw [if_pos rfl] at H; exact H
   clear H
   have H := H1
   clear H1
   simp only [Option.some.injEq, Prod.mk.injEq] at H
   obtain ⟨rfl, rfl, rfl⟩ := H
   go_enter Try.func68, Try.ntmps68
   try go_wp2_with (first | ((with_reducible refine gate_dst (N := 4) rfl ?_); refine box_event ?hg (N := 4) ?hd (cs := #[.int .u64 a0_0, .int .u64 a0_1]) (t := 54) ?hr ?_; (case hd => rfl); (case hg => rfl); (case hr => first | (go_simp; done) | (go_simp; rfl)); intro gb216 hg w10 hbox hb; have n0_ := Aside0.mk (below_step (z3_ HB.out) hb); have n1_ := Aside0.mk (hbox); have n2_ := Aside0.mk ((by rw [hg]; exact (below_size (z3_ HB.out)) : w.heap.size ≤ gb216)); have n3_ := Aside0.mk ((by rw [hg]; exact (below_size (z3_ HB.out)) : w.heap.size ≤ gb216)); clear HB; have HB := n0_; have BK216 := n1_; have GW216 := n2_; have GE216 := n3_; clear n0_ n1_ n2_ n3_; clear hb hbox hg) | ((with_reducible refine gate_dst (N := 8) rfl ?_); refine box_event ?hg (N := 8) ?hd (cs := #[.int .u64 0, .int .u64 0]) (t := 54) ?hr ?_; (case hd => rfl); (case hg => rfl); (case hr => first | (go_simp; done) | (go_simp; rfl)); intro gb217 hg w11 hbox hb; have n0_ := Aside0.mk (blk_below (g := gb216) (z1_ BK216.out) hb); have n1_ := Aside0.mk (below_step (z3_ HB.out) hb); have n2_ := Aside0.mk (hbox); have n3_ := Aside0.mk ((by rw [hg]; exact (below_size (z3_ HB.out)) : w.heap.size ≤ gb217)); have n4_ := Aside0.mk ((by rw [hg]; exact (below_size (z3_ HB.out)) : w.heap.size ≤ gb217)); have n5_ := Aside0.mk ((by rw [hg]; exact Nat.ne_of_lt (blk_lt (g := gb216) (o := .cells #[.int .u64 a0_0, .int .u64 a0_1] 54 (0, 0)) (z1_ BK216.out)) : gb216 ≠ gb217)); have n6_ := Aside0.mk ((by rw [hg]; exact Nat.ne_of_gt (blk_lt (g := gb216) (o := .cells #[.int .u64 a0_0, .int .u64 a0_1] 54 (0, 0)) (z1_ BK216.out)) : gb217 ≠ gb216)); clear BK216; clear HB; have BK216 := n0_; have HB := n1_; have BK217 := n2_; have GW217 := n3_; have GE217 := n4_; have NB216_217 := n5_; have NB217_216 := n6_; clear n0_ n1_ n2_ n3_ n4_ n5_ n6_; clear hb hbox hg; have hnb12 := NB216_217.out; have hnc12 := NB217_216.out; have hcz13_0 := z4_ BK216.out 0 (.int .u64 a0_0) rfl; have hcz13_1 := z4_ BK216.out 1 (.int .u64 a0_1) rfl; have hfz13_0 := blk_frozen BK216.out 0; have hfz13_1 := blk_frozen BK216.out 1) | ((with_reducible refine gate_callee (f := 81) rfl ?_); refine goesL_ (some 16) rfl rfl Try.func81 (by kernel_rfl) rfl #[.agg #[.int .u64 a0_0, .int .u64 a0_1], .int .i64 a2] rfl z5_ ?_; (with_reducible refine (twin_Shr.calls a0_0 a0_1 a2 t218 t219 t220 t221 _ A5.out).mono ?_); rintro e w14 ⟨rfl, hb⟩; refine ⟨_, rfl, ?_⟩; have n0_ := Aside0.mk (blk_below (g := gb216) (z1_ BK216.out) hb); have n1_ := Aside0.mk (blk_below (g := gb217) (z1_ BK217.out) hb); have n2_ := Aside0.mk (below_step (z3_ HB.out) hb); clear BK216; clear BK217; clear HB; have BK216 := n0_; have BK217 := n1_; have HB := n2_; clear n0_ n1_ n2_; (try clear hb); (try clear hb2); (try clear hk); (try clear hi); (try simp only [errW_none, errW_some])) | ((with_reducible refine gate_dst (N := 10) rfl ?_); refine box_event ?hg (N := 10) ?hd (cs := #[.int .u64 0, .int .u64 0]) (t := 54) ?hr ?_; (case hd => rfl); (case hg => rfl); (case hr => first | (go_simp; done) | (go_simp; rfl)); intro gb222 hg w15 hbox hb; have n0_ := Aside0.mk (blk_below (g := gb216) (z1_ BK216.out) hb); have n1_ := Aside0.mk (blk_below (g := gb217) (z1_ BK217.out) hb); have n2_ := Aside0.mk (below_step (z3_ HB.out) hb); have n3_ := Aside0.mk (hbox); have n4_ := Aside0.mk ((by rw [hg]; exact (below_size (z3_ HB.out)) : w.heap.size ≤ gb222)); have n5_ := Aside0.mk ((by rw [hg]; exact (below_size (z3_ HB.out)) : w.heap.size ≤ gb222)); have n6_ := Aside0.mk ((by rw [hg]; exact Nat.ne_of_lt (blk_lt (g := gb216) (o := .cells #[.int .u64 a0_0, .int .u64 a0_1] 54 (0, 0)) (z1_ BK216.out)) : gb216 ≠ gb222)); have n7_ := Aside0.mk ((by rw [hg]; exact Nat.ne_of_gt (blk_lt (g := gb216) (o := .cells #[.int .u64 a0_0, .int .u64 a0_1] 54 (0, 0)) (z1_ BK216.out)) : gb222 ≠ gb216)); have n8_ := Aside0.mk ((by rw [hg]; exact Nat.ne_of_lt (blk_lt (g := gb217) (o := .cells #[.int .u64 0, .int .u64 0] 54 (0, 0)) (z1_ BK217.out)) : gb217 ≠ gb222)); have n9_ := Aside0.mk ((by rw [hg]; exact Nat.ne_of_gt (blk_lt (g := gb217) (o := .cells #[.int .u64 0, .int .u64 0] 54 (0, 0)) (z1_ BK217.out)) : gb222 ≠ gb217)); clear BK216; clear BK217; clear HB; have BK216 := n0_; have BK217 := n1_; have HB := n2_; have BK222 := n3_; have GW222 := n4_; have GE222 := n5_; have NB216_222 := n6_; have NB222_216 := n7_; have NB217_222 := n8_; have NB222_217 := n9_; clear n0_ n1_ n2_ n3_ n4_ n5_ n6_ n7_ n8_ n9_; clear hb hbox hg; have hnb16 := NB222_216.out; have hnc16 := NB216_222.out; have hnb17 := NB222_217.out; have hnc17 := NB217_222.out; have hcz18_0 := z4_ BK222.out 0 (.int .u64 0) rfl; have hcz18_1 := z4_ BK222.out 1 (.int .u64 0) rfl; have hfz18_0 := blk_frozen BK222.out 0; have hfz18_1 := blk_frozen BK222.out 1))
   have n0_ : Aside0 (((w15.setCell ⟨gb222, 0, none⟩ (.int .u64 t218)).setCell ⟨gb222, 1, none⟩ (.int .u64 t219)).heap[gb216]? = some (.cells #[.int .u64 a0_0, .int .u64 a0_1] 54 (0, 0))) := ⟨by refine z2_ ?_; refine blk_far ?_ NB216_222.out _; refine z2_ ?_; refine blk_far ?_ NB216_222.out _; refine z2_ ?_; exact BK216.out⟩
   have n1_ : Aside0 (((w15.setCell ⟨gb222, 0, none⟩ (.int .u64 t218)).setCell ⟨gb222, 1, none⟩ (.int .u64 t219)).heap[gb217]? = some (.cells #[.int .u64 0, .int .u64 0] 54 (0, 0))) := ⟨by refine z2_ ?_; refine blk_far ?_ NB217_222.out _; refine z2_ ?_; refine blk_far ?_ NB217_222.out _; refine z2_ ?_; exact BK217.out⟩
   have n2_ : Aside0 (((w15.setCell ⟨gb222, 0, none⟩ (.int .u64 t218)).setCell ⟨gb222, 1, none⟩ (.int .u64 t219)).heap[gb222]? = some (.cells #[.int .u64 t218, .int .u64 t219] 54 (0, 0))) := ⟨by refine z2_ ?_; refine blk_put (cs := #[.int .u64 t218, .int .u64 0]) ?_ 1 _ rfl; refine z2_ ?_; refine blk_put (cs := #[.int .u64 0, .int .u64 0]) ?_ 0 _ rfl; refine z2_ ?_; exact BK222.out⟩
   have n3_ : Aside0 (Below w.heap.size w ((w15.setCell ⟨gb222, 0, none⟩ (.int .u64 t218)).setCell ⟨gb222, 1, none⟩ (.int .u64 t219))) := ⟨by repeat (first | (with_reducible first | exact HB.out | apply below_alloc | apply pw_below_drewN | apply below_drew1 | refine below_set ?_ GE216.out | refine below_set ?_ GE217.out | refine below_set ?_ GE222.out) | exact HB.out)⟩
   (try clear BK216)
   (try clear BK217)
   (try clear BK222)
   (try clear HB)
   generalize ((w15.setCell ⟨gb222, 0, none⟩ (.int .u64 t218)).setCell ⟨gb222, 1, none⟩ (.int .u64 t219)) = w19 at n0_ n1_ n2_ n3_ ⊢
   have BK216 := n0_
   have BK217 := n1_
   have BK222 := n2_
   have HB := n3_
   clear n0_ n1_ n2_ n3_
   have n0_ := Aside0.mk (blk_drew BK216.out)
   have n1_ := Aside0.mk (blk_drew BK217.out)
   have n2_ := Aside0.mk (blk_drew BK222.out)
   have n3_ := Aside0.mk (below_drew1 HB.out)
   clear BK216
   clear BK217
   clear BK222
   clear HB
   have BK216 := n0_
   have BK217 := n1_
   have BK222 := n2_
   have HB := n3_
   clear n0_ n1_ n2_ n3_
   refine start_ (n := 9) (S := fun w' => w'.cell? ⟨gb222, 0, none⟩ = some (.int .u64 t218) ∧ w'.cell? ⟨gb222, 1, none⟩ = some (.int .u64 t219)) (ds := [8]) #[false, false, false, false, false, false, false, false, false] (by kernel_rfl) rfl rfl ⟨(blk_cell BK222.out 0).trans rfl, (blk_cell BK222.out 1).trans rfl⟩ (fun hHeld => ?_); refine with_tabW round_under.tab2 round_under.bits2 (fun HT_ HW_ => ?_)
   generalize w19.drew = w20 at BK216 BK217 BK222 HB hHeld ⊢
   refine pure_ (i := 0) (N := some 20) (v := ?_) (a' := ?_) #[true, false, false, false, false, false, false, false, false] rfl rfl (any_of HT_.out (by kernel_rfl)) (fun _ _ _ h => h) (Or.inl ⟨by rfl, ?_⟩) ?_ ?_
   rotate_left
   ·intro w'
    go_simp
    with_reducible rfl
   rotate_left
   ·simp only [Act.put, List.setIfInBounds_toArray, List.set_cons_zero, List.set_cons_succ, i64_w, i32_w]
    rfl
   refine pure_ (i := 2) (N := some 22) (v := ?_) (a' := ?_) #[true, false, true, false, false, false, false, false, false] rfl rfl (any_of HT_.out (by kernel_rfl)) (fun _ _ _ h => h) (Or.inl ⟨by rfl, ?_⟩) ?_ ?_
   rotate_left
   ·intro w'
    go_simp
    with_reducible rfl
   rotate_left
   ·simp only [Act.put, List.setIfInBounds_toArray, List.set_cons_zero, List.set_cons_succ, i64_w, i32_w]
    rfl
   refine pure_ (i := 3) (N := some 23) (v := ?_) (a' := ?_) #[true, false, true, true, false, false, false, false, false] rfl rfl (any_of HT_.out (by kernel_rfl)) (fun _ _ _ h => h) (Or.inl ⟨by rfl, ?_⟩) ?_ ?_
   rotate_left
   ·intro w'
    go_simp
    with_reducible rfl
   rotate_left
   ·simp only [Act.put, List.setIfInBounds_toArray, List.set_cons_zero, List.set_cons_succ, i64_w, i32_w]
    rfl
   refine pure_ (i := 4) (N := some 24) (v := ?_) (a' := ?_) #[true, false, true, true, true, false, false, false, false] rfl rfl (any_of HT_.out (by kernel_rfl)) (fun _ _ _ h => h) (Or.inl ⟨by rfl, ?_⟩) ?_ ?_
   rotate_left
   ·intro w'
    go_simp
    with_reducible rfl
   rotate_left
   ·simp only [Act.put, List.setIfInBounds_toArray, List.set_cons_zero, List.set_cons_succ, i64_w, i32_w]
    rfl
   refine pure_ (i := 5) (N := some 25) (v := ?_) (a' := ?_) #[true, false, true, true, true, true, false, false, false] rfl rfl (any_of HT_.out (by kernel_rfl)) (fun _ _ _ h => h) (Or.inl ⟨by rfl, ?_⟩) ?_ ?_
   rotate_left
   ·intro w'
    go_simp
    with_reducible rfl
   rotate_left
   ·simp only [Act.put, List.setIfInBounds_toArray, List.set_cons_zero, List.set_cons_succ, i64_w, i32_w]
    rfl
   refine take_ (i := 1) (N := some 21) (v := ?_) (a' := ?_) #[true, true, true, true, true, true, false, false, false] rfl rfl (take_ofW HT_.out HW_.out (by kernel_rfl)) (fun _ _ _ h => h) (Or.inl ⟨by rfl, ?_⟩) hHeld ?_ ?_
   rotate_left
   ·rintro w' ⟨s0, s1⟩
    go_simp
    with_reducible rfl
   rotate_left
   ·simp only [Act.put, List.setIfInBounds_toArray, List.set_cons_zero, List.set_cons_succ, i64_w, i32_w]
    rfl
   refine pure_ (i := 6) (N := some 26) (v := ?_) (a' := ?_) #[true, true, true, true, true, true, true, false, false] rfl rfl (any_of HT_.out (by kernel_rfl)) (fun _ _ _ h => h) (Or.inl ⟨by rfl, ?_⟩) ?_ ?_
   rotate_left
   ·intro w'
    go_simp
    with_reducible rfl
   rotate_left
   ·simp only [Act.put, List.setIfInBounds_toArray, List.set_cons_zero, List.set_cons_succ, i64_w, i32_w]
    rfl
   refine pure_ (i := 7) (N := some 27) (v := ?_) (a' := ?_) #[true, true, true, true, true, true, true, true, false] rfl rfl (any_of HT_.out (by kernel_rfl)) (fun _ _ _ h => h) (Or.inl ⟨by rfl, ?_⟩) ?_ ?_
   rotate_left
   ·intro w'
    go_simp
    with_reducible rfl
   rotate_left
   ·simp only [Act.put, List.setIfInBounds_toArray, List.set_cons_zero, List.set_cons_succ, i64_w, i32_w]
    rfl
   refine last_ (i := 8) (N := none) #[true, true, true, true, true, true, true, true, true] rfl rfl (one_of HT_.out (by kernel_rfl)) (by decide) (fun K hK => ?_)
   have hs21 : w20.cell? ⟨gb222, 0, none⟩ = some (.int .u64 t218) := (blk_cell BK222.out 0).trans rfl
   have hfs21 := blk_frozen BK222.out 0
   have hns21_0 := NB216_222.out
   have hns21_1 := NB217_222.out
   have hms21_0 := NB222_216.out
   have hms21_1 := NB222_217.out
   refine skip_ (w1 := ?_) (by rfl) rfl ?_ ?_
   rotate_left
   ·go_simp
    rfl
   refine hK.out _ _ ?_
   clear hK K
   refine done_ (done_of HT_.out (by kernel_rfl)) ?_
   have hcz22_0 := z4_ BK222.out 0 (.int .u64 t218) rfl
   have hcz22_1 := z4_ BK222.out 1 (.int .u64 t219) rfl
   have hfz22_0 := blk_frozen BK222.out 0
   have hfz22_1 := blk_frozen BK222.out 1
   have hcz23_0 := z4_ BK217.out 0 (.int .u64 0) rfl
   have hcz23_1 := z4_ BK217.out 1 (.int .u64 0) rfl
   have hfz23_0 := blk_frozen BK217.out 0
   have hfz23_1 := blk_frozen BK217.out 1
   try go_wp2
   refine bodyPost_ret (results_ct rfl _ _ gb217 54 #[.int .u64 (Go.bits .or .u64 t218 (ji8)), .int .u64 t219] (0, 0) _ rfl (by refine z2_ ?_; refine blk_put (cs := #[.int .u64 (Go.bits .or .u64 t218 (ji8)), .int .u64 0]) ?_ 1 _ rfl; refine z2_ ?_; refine blk_put (cs := #[.int .u64 0, .int .u64 0]) ?_ 0 _ rfl; refine z2_ ?_; refine blk_far ?_ NB217_222.out _; refine z2_ ?_; exact BK217.out) Try.underlying54 rfl (by kernel_rfl)) rfl ?_
   exact ⟨by first | rfl | (simp [errW_none, errW_some] <;> rfl) | (simp only [← hji6, ← hji8]; first | rfl | (simp [errW_none, errW_some] <;> rfl)) | (simp [*, errW_none, errW_some] <;> rfl), by repeat (first | (with_reducible first | exact HB.out | apply below_alloc | apply pw_below_drewN | apply below_drew1 | refine below_set ?_ GE216.out | refine below_set ?_ GE217.out | refine below_set ?_ GE222.out) | exact HB.out)⟩
  ·replace c9 := Bool.eq_false_iff.mpr c9
   subst c9
   have H1 : (some (Go.bits .or .u64 t218 (ji8), t219, t220)) = some (r1, r2, r3) := by rw [if_neg (show ¬ (false = true) by decide)] at H; exact H
   clear H
   have H := H1
   clear H1
   simp only [Option.some.injEq, Prod.mk.injEq] at H
   obtain ⟨rfl, rfl, rfl⟩ := H
   go_enter Try.func68, Try.ntmps68
   try go_wp2_with (first | ((with_reducible refine gate_dst (N := 4) rfl ?_); refine box_event ?hg (N := 4) ?hd (cs := #[.int .u64 a0_0, .int .u64 a0_1]) (t := 54) ?hr ?_; (case hd => rfl); (case hg => rfl); (case hr => first | (go_simp; done) | (go_simp; rfl)); intro gb216 hg w24 hbox hb; have n0_ := Aside0.mk (below_step (z3_ HB.out) hb); have n1_ := Aside0.mk (hbox); have n2_ := Aside0.mk ((by rw [hg]; exact (below_size (z3_ HB.out)) : w.heap.size ≤ gb216)); have n3_ := Aside0.mk ((by rw [hg]; exact (below_size (z3_ HB.out)) : w.heap.size ≤ gb216)); clear HB; have HB := n0_; have BK216 := n1_; have GW216 := n2_; have GE216 := n3_; clear n0_ n1_ n2_ n3_; clear hb hbox hg) | ((with_reducible refine gate_dst (N := 8) rfl ?_); refine box_event ?hg (N := 8) ?hd (cs := #[.int .u64 0, .int .u64 0]) (t := 54) ?hr ?_; (case hd => rfl); (case hg => rfl); (case hr => first | (go_simp; done) | (go_simp; rfl)); intro gb217 hg w25 hbox hb; have n0_ := Aside0.mk (blk_below (g := gb216) (z1_ BK216.out) hb); have n1_ := Aside0.mk (below_step (z3_ HB.out) hb); have n2_ := Aside0.mk (hbox); have n3_ := Aside0.mk ((by rw [hg]; exact (below_size (z3_ HB.out)) : w.heap.size ≤ gb217)); have n4_ := Aside0.mk ((by rw [hg]; exact (below_size (z3_ HB.out)) : w.heap.size ≤ gb217)); have n5_ := Aside0.mk ((by rw [hg]; exact Nat.ne_of_lt (blk_lt (g := gb216) (o := .cells #[.int .u64 a0_0, .int .u64 a0_1] 54 (0, 0)) (z1_ BK216.out)) : gb216 ≠ gb217)); have n6_ := Aside0.mk ((by rw [hg]; exact Nat.ne_of_gt (blk_lt (g := gb216) (o := .cells #[.int .u64 a0_0, .int .u64 a0_1] 54 (0, 0)) (z1_ BK216.out)) : gb217 ≠ gb216)); clear BK216; clear HB; have BK216 := n0_; have HB := n1_; have BK217 := n2_; have GW217 := n3_; have GE217 := n4_; have NB216_217 := n5_; have NB217_216 := n6_; clear n0_ n1_ n2_ n3_ n4_ n5_ n6_; clear hb hbox hg; have hnb26 := NB216_217.out; have hnc26 := NB217_216.out; have hcz27_0 := z4_ BK216.out 0 (.int .u64 a0_0) rfl; have hcz27_1 := z4_ BK216.out 1 (.int .u64 a0_1) rfl; have hfz27_0 := blk_frozen BK216.out 0; have hfz27_1 := blk_frozen BK216.out 1) | ((with_reducible refine gate_callee (f := 81) rfl ?_); refine goesL_ (some 16) rfl rfl Try.func81 (by kernel_rfl) rfl #[.agg #[.int .u64 a0_0, .int .u64 a0_1], .int .i64 a2] rfl z5_ ?_; (with_reducible refine (twin_Shr.calls a0_0 a0_1 a2 t218 t219 t220 t221 _ A5.out).mono ?_); rintro e w28 ⟨rfl, hb⟩; refine ⟨_, rfl, ?_⟩; have n0_ := Aside0.mk (blk_below (g := gb216) (z1_ BK216.out) hb); have n1_ := Aside0.mk (blk_below (g := gb217) (z1_ BK217.out) hb); have n2_ := Aside0.mk (below_step (z3_ HB.out) hb); clear BK216; clear BK217; clear HB; have BK216 := n0_; have BK217 := n1_; have HB := n2_; clear n0_ n1_ n2_; (try clear hb); (try clear hb2); (try clear hk); (try clear hi); (try simp only [errW_none, errW_some])) | ((with_reducible refine gate_dst (N := 10) rfl ?_); refine box_event ?hg (N := 10) ?hd (cs := #[.int .u64 0, .int .u64 0]) (t := 54) ?hr ?_; (case hd => rfl); (case hg => rfl); (case hr => first | (go_simp; done) | (go_simp; rfl)); intro gb222 hg w29 hbox hb; have n0_ := Aside0.mk (blk_below (g := gb216) (z1_ BK216.out) hb); have n1_ := Aside0.mk (blk_below (g := gb217) (z1_ BK217.out) hb); have n2_ := Aside0.mk (below_step (z3_ HB.out) hb); have n3_ := Aside0.mk (hbox); have n4_ := Aside0.mk ((by rw [hg]; exact (below_size (z3_ HB.out)) : w.heap.size ≤ gb222)); have n5_ := Aside0.mk ((by rw [hg]; exact (below_size (z3_ HB.out)) : w.heap.size ≤ gb222)); have n6_ := Aside0.mk ((by rw [hg]; exact Nat.ne_of_lt (blk_lt (g := gb216) (o := .cells #[.int .u64 a0_0, .int .u64 a0_1] 54 (0, 0)) (z1_ BK216.out)) : gb216 ≠ gb222)); have n7_ := Aside0.mk ((by rw [hg]; exact Nat.ne_of_gt (blk_lt (g := gb216) (o := .cells #[.int .u64 a0_0, .int .u64 a0_1] 54 (0, 0)) (z1_ BK216.out)) : gb222 ≠ gb216)); have n8_ := Aside0.mk ((by rw [hg]; exact Nat.ne_of_lt (blk_lt (g := gb217) (o := .cells #[.int .u64 0, .int .u64 0] 54 (0, 0)) (z1_ BK217.out)) : gb217 ≠ gb222)); have n9_ := Aside0.mk ((by rw [hg]; exact Nat.ne_of_gt (blk_lt (g := gb217) (o := .cells #[.int .u64 0, .int .u64 0] 54 (0, 0)) (z1_ BK217.out)) : gb222 ≠ gb217)); clear BK216; clear BK217; clear HB; have BK216 := n0_; have BK217 := n1_; have HB := n2_; have BK222 := n3_; have GW222 := n4_; have GE222 := n5_; have NB216_222 := n6_; have NB222_216 := n7_; have NB217_222 := n8_; have NB222_217 := n9_; clear n0_ n1_ n2_ n3_ n4_ n5_ n6_ n7_ n8_ n9_; clear hb hbox hg; have hnb30 := NB222_216.out; have hnc30 := NB216_222.out; have hnb31 := NB222_217.out; have hnc31 := NB217_222.out; have hcz32_0 := z4_ BK222.out 0 (.int .u64 0) rfl; have hcz32_1 := z4_ BK222.out 1 (.int .u64 0) rfl; have hfz32_0 := blk_frozen BK222.out 0; have hfz32_1 := blk_frozen BK222.out 1))
   have n0_ : Aside0 (((w29.setCell ⟨gb222, 0, none⟩ (.int .u64 t218)).setCell ⟨gb222, 1, none⟩ (.int .u64 t219)).heap[gb216]? = some (.cells #[.int .u64 a0_0, .int .u64 a0_1] 54 (0, 0))) := ⟨by refine z2_ ?_; refine blk_far ?_ NB216_222.out _; refine z2_ ?_; refine blk_far ?_ NB216_222.out _; refine z2_ ?_; exact BK216.out⟩
   have n1_ : Aside0 (((w29.setCell ⟨gb222, 0, none⟩ (.int .u64 t218)).setCell ⟨gb222, 1, none⟩ (.int .u64 t219)).heap[gb217]? = some (.cells #[.int .u64 0, .int .u64 0] 54 (0, 0))) := ⟨by refine z2_ ?_; refine blk_far ?_ NB217_222.out _; refine z2_ ?_; refine blk_far ?_ NB217_222.out _; refine z2_ ?_; exact BK217.out⟩
   have n2_ : Aside0 (((w29.setCell ⟨gb222, 0, none⟩ (.int .u64 t218)).setCell ⟨gb222, 1, none⟩ (.int .u64 t219)).heap[gb222]? = some (.cells #[.int .u64 t218, .int .u64 t219] 54 (0, 0))) := ⟨by refine z2_ ?_; refine blk_put (cs := #[.int .u64 t218, .int .u64 0]) ?_ 1 _ rfl; refine z2_ ?_; refine blk_put (cs := #[.int .u64 0, .int .u64 0]) ?_ 0 _ rfl; refine z2_ ?_; exact BK222.out⟩
   have n3_ : Aside0 (Below w.heap.size w ((w29.setCell ⟨gb222, 0, none⟩ (.int .u64 t218)).setCell ⟨gb222, 1, none⟩ (.int .u64 t219))) := ⟨by repeat (first | (with_reducible first | exact HB.out | apply below_alloc | apply pw_below_drewN | apply below_drew1 | refine below_set ?_ GE216.out | refine below_set ?_ GE217.out | refine below_set ?_ GE222.out) | exact HB.out)⟩
   (try clear BK216)
   (try clear BK217)
   (try clear BK222)
   (try clear HB)
   generalize ((w29.setCell ⟨gb222, 0, none⟩ (.int .u64 t218)).setCell ⟨gb222, 1, none⟩ (.int .u64 t219)) = w33 at n0_ n1_ n2_ n3_ ⊢
   have BK216 := n0_
   have BK217 := n1_
   have BK222 := n2_
   have HB := n3_
   clear n0_ n1_ n2_ n3_
   have n0_ := Aside0.mk (blk_drew BK216.out)
   have n1_ := Aside0.mk (blk_drew BK217.out)
   have n2_ := Aside0.mk (blk_drew BK222.out)
   have n3_ := Aside0.mk (below_drew1 HB.out)
   clear BK216
   clear BK217
   clear BK222
   clear HB
   have BK216 := n0_
   have BK217 := n1_
   have BK222 := n2_
   have HB := n3_
   clear n0_ n1_ n2_ n3_
   refine start_ (n := 9) (S := fun w' => w'.cell? ⟨gb222, 0, none⟩ = some (.int .u64 t218) ∧ w'.cell? ⟨gb222, 1, none⟩ = some (.int .u64 t219)) (ds := [8]) #[false, false, false, false, false, false, false, false, false] (by kernel_rfl) rfl rfl ⟨(blk_cell BK222.out 0).trans rfl, (blk_cell BK222.out 1).trans rfl⟩ (fun hHeld => ?_); refine with_tabW round_under.tab2 round_under.bits2 (fun HT_ HW_ => ?_)
   generalize w33.drew = w34 at BK216 BK217 BK222 HB hHeld ⊢
   refine pure_ (i := 0) (N := some 20) (v := ?_) (a' := ?_) #[true, false, false, false, false, false, false, false, false] rfl rfl (any_of HT_.out (by kernel_rfl)) (fun _ _ _ h => h) (Or.inl ⟨by rfl, ?_⟩) ?_ ?_
   rotate_left
   ·intro w'
    go_simp
    with_reducible rfl
   rotate_left
   ·simp only [Act.put, List.setIfInBounds_toArray, List.set_cons_zero, List.set_cons_succ, i64_w, i32_w]
    rfl
   refine pure_ (i := 2) (N := some 22) (v := ?_) (a' := ?_) #[true, false, true, false, false, false, false, false, false] rfl rfl (any_of HT_.out (by kernel_rfl)) (fun _ _ _ h => h) (Or.inl ⟨by rfl, ?_⟩) ?_ ?_
   rotate_left
   ·intro w'
    go_simp
    with_reducible rfl
   rotate_left
   ·simp only [Act.put, List.setIfInBounds_toArray, List.set_cons_zero, List.set_cons_succ, i64_w, i32_w]
    rfl
   refine pure_ (i := 3) (N := some 23) (v := ?_) (a' := ?_) #[true, false, true, true, false, false, false, false, false] rfl rfl (any_of HT_.out (by kernel_rfl)) (fun _ _ _ h => h) (Or.inl ⟨by rfl, ?_⟩) ?_ ?_
   rotate_left
   ·intro w'
    go_simp
    with_reducible rfl
   rotate_left
   ·simp only [Act.put, List.setIfInBounds_toArray, List.set_cons_zero, List.set_cons_succ, i64_w, i32_w]
    rfl
   refine pure_ (i := 4) (N := some 24) (v := ?_) (a' := ?_) #[true, false, true, true, true, false, false, false, false] rfl rfl (any_of HT_.out (by kernel_rfl)) (fun _ _ _ h => h) (Or.inl ⟨by rfl, ?_⟩) ?_ ?_
   rotate_left
   ·intro w'
    go_simp
    with_reducible rfl
   rotate_left
   ·simp only [Act.put, List.setIfInBounds_toArray, List.set_cons_zero, List.set_cons_succ, i64_w, i32_w]
    rfl
   refine pure_ (i := 5) (N := some 25) (v := ?_) (a' := ?_) #[true, false, true, true, true, true, false, false, false] rfl rfl (any_of HT_.out (by kernel_rfl)) (fun _ _ _ h => h) (Or.inl ⟨by rfl, ?_⟩) ?_ ?_
   rotate_left
   ·intro w'
    go_simp
    with_reducible rfl
   rotate_left
   ·simp only [Act.put, List.setIfInBounds_toArray, List.set_cons_zero, List.set_cons_succ, i64_w, i32_w]
    rfl
   refine take_ (i := 1) (N := some 21) (v := ?_) (a' := ?_) #[true, true, true, true, true, true, false, false, false] rfl rfl (take_ofW HT_.out HW_.out (by kernel_rfl)) (fun _ _ _ h => h) (Or.inl ⟨by rfl, ?_⟩) hHeld ?_ ?_
   rotate_left
   ·rintro w' ⟨s0, s1⟩
    go_simp
    with_reducible rfl
   rotate_left
   ·simp only [Act.put, List.setIfInBounds_toArray, List.set_cons_zero, List.set_cons_succ, i64_w, i32_w]
    rfl
   refine pure_ (i := 6) (N := some 26) (v := ?_) (a' := ?_) #[true, true, true, true, true, true, true, false, false] rfl rfl (any_of HT_.out (by kernel_rfl)) (fun _ _ _ h => h) (Or.inl ⟨by rfl, ?_⟩) ?_ ?_
   rotate_left
   ·intro w'
    go_simp
    with_reducible rfl
   rotate_left
   ·simp only [Act.put, List.setIfInBounds_toArray, List.set_cons_zero, List.set_cons_succ, i64_w, i32_w]
    rfl
   refine pure_ (i := 7) (N := some 27) (v := ?_) (a' := ?_) #[true, true, true, true, true, true, true, true, false] rfl rfl (any_of HT_.out (by kernel_rfl)) (fun _ _ _ h => h) (Or.inl ⟨by rfl, ?_⟩) ?_ ?_
   rotate_left
   ·intro w'
    go_simp
    with_reducible rfl
   rotate_left
   ·simp only [Act.put, List.setIfInBounds_toArray, List.set_cons_zero, List.set_cons_succ, i64_w, i32_w]
    rfl
   refine last_ (i := 8) (N := none) #[true, true, true, true, true, true, true, true, true] rfl rfl (one_of HT_.out (by kernel_rfl)) (by decide) (fun K hK => ?_)
   have hs35 : w34.cell? ⟨gb222, 0, none⟩ = some (.int .u64 t218) := (blk_cell BK222.out 0).trans rfl
   have hfs35 := blk_frozen BK222.out 0
   have hns35_0 := NB216_222.out
   have hns35_1 := NB217_222.out
   have hms35_0 := NB222_216.out
   have hms35_1 := NB222_217.out
   refine skip_ (w1 := ?_) (by rfl) rfl ?_ ?_
   rotate_left
   ·go_simp
    rfl
   refine hK.out _ _ ?_
   clear hK K
   refine done_ (done_of HT_.out (by kernel_rfl)) ?_
   have hcz36_0 := z4_ BK222.out 0 (.int .u64 t218) rfl
   have hcz36_1 := z4_ BK222.out 1 (.int .u64 t219) rfl
   have hfz36_0 := blk_frozen BK222.out 0
   have hfz36_1 := blk_frozen BK222.out 1
   have hcz37_0 := z4_ BK217.out 0 (.int .u64 0) rfl
   have hcz37_1 := z4_ BK217.out 1 (.int .u64 0) rfl
   have hfz37_0 := blk_frozen BK217.out 0
   have hfz37_1 := blk_frozen BK217.out 1
   try go_wp2
   refine bodyPost_ret (results_ct rfl _ _ gb217 54 #[.int .u64 (Go.bits .or .u64 t218 (ji8)), .int .u64 t219] (0, 0) _ rfl (by refine z2_ ?_; refine blk_put (cs := #[.int .u64 (Go.bits .or .u64 t218 (ji8)), .int .u64 0]) ?_ 1 _ rfl; refine z2_ ?_; refine blk_put (cs := #[.int .u64 0, .int .u64 0]) ?_ 0 _ rfl; refine z2_ ?_; refine blk_far ?_ NB217_222.out _; refine z2_ ?_; exact BK217.out) Try.underlying54 rfl (by kernel_rfl)) rfl ?_
   exact ⟨by first | rfl | (simp [errW_none, errW_some] <;> rfl) | (simp only [← hji6, ← hji8]; first | rfl | (simp [errW_none, errW_some] <;> rfl)) | (simp [*, errW_none, errW_some] <;> rfl), by repeat (first | (with_reducible first | exact HB.out | apply below_alloc | apply pw_below_drewN | apply below_drew1 | refine below_set ?_ GE216.out | refine below_set ?_ GE217.out | refine below_set ?_ GE222.out) | exact HB.out)⟩
 ·rw [if_neg c7] at H
  exact absurd H (by simp)
end Go.Proofs.Ytebhpipfkomhjaa.PAll
namespace Go.Proofs.Ytebhpipfkomhjaa.PAll
open Go.RowKit Go.Proofs.YtebhpipfkomhjaaW.PrintWords Go.Proofs.YtebhpipfkomhjaaW.PrintLast Go.Proofs.YtebhpipfkomhjaaW.PrintMore
attribute [local go_sem] max2_int min2_int max_two min_two max_three min_three max_four min_four
set_option linter.unusedVariables false
set_option linter.unusedSimpArgs false
def round_left.j0 : Nat → Int → Bool → Int → Bool → Option (Int)
 | 0, _, _, _, _ => none
 | k + 1, x0, x1, x5, x6 => if x6 = true then (some 3) else (if x0 = x5 then (some 2) else (if x0 > 0 then (some 1) else (if x1 = true then (some 1) else (some 0))))
def round_left.f (k : Nat) (a0 : Int) (a1 : Bool) : Option (Int) := if a0 > 9223372036854775808 then (round_left.j0 k a0 a1 9223372036854775808 (decide (a0 > 9223372036854775808))) else (if a0 = 9223372036854775808 then (round_left.j0 k a0 a1 9223372036854775808 a1) else (round_left.j0 k a0 a1 9223372036854775808 false))
theorem round_left.mono_l : ∀ k, (∀ y0 y1 y2 y3, LeO (round_left.j0 k y0 y1 y2 y3) (round_left.j0 (k + 1) y0 y1 y2 y3))
 | 0 => fun _ _ _ _ r h => by simp [round_left.j0] at h
 | k + 1 => by
  have ih0 := round_left.mono_l k
  ·intro y0 y1 y2 y3
   unfold round_left.j0
   repeat' first
   | (with_reducible exact ih0 _ _ _ _)
   | (with_reducible exact LeO.refl _)
   | (with_reducible exact LeO.none _)
   | (with_reducible refine LeO.ite ?_ ?_)
   | (with_reducible refine LeO.bind ?_ (fun _ => ?_))
   | exact ih0 _ _ _ _
   | exact LeO.none _
   | refine LeO.ite ?_ ?_
   | refine LeO.bind ?_ (fun _ => ?_)
theorem round_left.mono : ∀ a0 a1 k, LeO (round_left.f k a0 a1) (round_left.f (k + 1) a0 a1) := by
 intro a0 a1 k
 have ih0 := round_left.mono_l k
 unfold round_left.f
 repeat' first
   | (with_reducible exact ih0 _ _ _ _)
   | (with_reducible exact LeO.refl _)
   | (with_reducible exact LeO.none _)
   | (with_reducible refine LeO.ite ?_ ?_)
   | (with_reducible refine LeO.bind ?_ (fun _ => ?_))
   | exact ih0 _ _ _ _
   | exact LeO.none _
   | refine LeO.ite ?_ ?_
   | refine LeO.bind ?_ (fun _ => ?_)
set_option maxHeartbeats 8000000 in
set_option maxRecDepth 100000 in
theorem round_left.calls (k : Nat) (a0 : Int) (a1 : Bool) (r : Int) (w : World) (h : round_left.f k a0 a1 = some r) :
  Calls Try.prog 69 #[.int .u64 a0, .bool a1] w fun e w' => e = .returned (.int .i64 r) ∧ Drawn0 w w' := by
 have H : (if a0 > 9223372036854775808 then (round_left.j0 k a0 a1 9223372036854775808 (decide (a0 > 9223372036854775808))) else (if a0 = 9223372036854775808 then (round_left.j0 k a0 a1 9223372036854775808 a1) else (round_left.j0 k a0 a1 9223372036854775808 false))) = some r := h
 clear h
 have HC3 := Aside0.mk H
 clear H
 go_enter Try.func69, Try.ntmps69
 go_upto_if 6 with (fail)
 go_cut [6] (fun v6 wc => ∃ (kq : Nat) (x6_2 : Bool), v6 = .bool x6_2 ∧ Aside0 (round_left.j0 kq a0 a1 9223372036854775808 x6_2 = some r) ∧ Aside0 (kq ≤ k) ∧ Drawn0 w wc)
 case first =>
  have H := HC3.out
  clear HC3
  by_cases c4 : a0 > 9223372036854775808
  ·rw [if_pos c4] at H
   have c4b0 : decide (9223372036854775808 < a0) = true := decide_eq_true c4
   clear c4
   (first | rw [c4b0] | (simp only [i64_w, i32_w]; rw [c4b0]) | skip)
   have H' := Aside0.mk H
   clear H
   go_wp2
   go_meet
   case rel => exact ⟨_, (decide (a0 > 9223372036854775808)), (by first | rfl | (simp; done) | (simp [*]; done)), H', ⟨by first | omega | exact Nat.le_refl _⟩, by repeat (first | exact Drawn0.refl _ | apply Drawn0.step)⟩
  ·rw [if_neg c4] at H
   have c4b0 : decide (9223372036854775808 < a0) = false := decide_eq_false c4
   clear c4
   (first | rw [c4b0] | (simp only [i64_w, i32_w]; rw [c4b0]) | skip)
   by_cases c5 : a0 = 9223372036854775808
   ·rw [if_pos c5] at H
    have c5b0 : (a0 == 9223372036854775808) = true := beq_iff_eq.mpr c5
    have c5b1 : (a0 != 9223372036854775808) = false := bne_eq_false_iff_eq.mpr c5
    clear c5
    have H' := Aside0.mk H
    clear H
    go_wp2
    go_meet
    case rel => exact ⟨_, (a1), (by first | rfl | (simp; done) | (simp [*]; done)), H', ⟨by first | omega | exact Nat.le_refl _⟩, by repeat (first | exact Drawn0.refl _ | apply Drawn0.step)⟩
   ·rw [if_neg c5] at H
    have c5b0 : (a0 == 9223372036854775808) = false := beq_eq_false_iff_ne.mpr c5
    have c5b1 : (a0 != 9223372036854775808) = true := bne_iff_ne.mpr c5
    have H' := Aside0.mk H
    clear H
    go_wp2
    go_meet
    case rel => exact ⟨_, (false), (by first | rfl | (simp; done) | (simp [*]; done)), H', ⟨by first | omega | exact Nat.le_refl _⟩, by repeat (first | exact Drawn0.refl _ | apply Drawn0.step)⟩
 case rest =>
  clear HC3
  try clear p2
  try clear c4
  try clear c4b0
  try clear c5
  try clear c5b0
  try clear c5b1
  obtain ⟨kq, x6_2, rfl, HA, HJ2, ⟨mc2, rfl⟩⟩ := hcut
  cases kq with
  | zero => exact absurd HA.out (by simp [round_left.j0])
  | succ kj2 =>
   have H := HA.out
   clear HA
   simp only [round_left.j0] at H
   by_cases c6 : x6_2 = true
   ·subst c6
    have H1 : (some 3) = some r := by rw [if_pos rfl] at H; exact H
    clear H
    have H := H1
    clear H1
    obtain rfl := Option.some.inj H
    go_wp2
    go_ret
    exact ⟨by first | rfl | (simp; done) | (simp [*]; done), by repeat (first | exact Drawn0.refl _ | apply Drawn0.step)⟩
   ·replace c6 := Bool.eq_false_iff.mpr c6
    subst c6
    have H1 : (if a0 = 9223372036854775808 then (some 2) else (if a0 > 0 then (some 1) else (if a1 = true then (some 1) else (some 0)))) = some r := by rw [if_neg (show ¬ (false = true) by decide)] at H; exact H
    clear H
    have H := H1
    clear H1
    by_cases c7 : a0 = 9223372036854775808
    ·rw [if_pos c7] at H
     have c7b0 : (a0 == 9223372036854775808) = true := beq_iff_eq.mpr c7
     have c7b1 : (a0 != 9223372036854775808) = false := bne_eq_false_iff_eq.mpr c7
     clear c7
     obtain rfl := Option.some.inj H
     go_wp2
     go_ret
     exact ⟨by first | rfl | (simp; done) | (simp [*]; done), by repeat (first | exact Drawn0.refl _ | apply Drawn0.step)⟩
    ·rw [if_neg c7] at H
     have c7b0 : (a0 == 9223372036854775808) = false := beq_eq_false_iff_ne.mpr c7
     have c7b1 : (a0 != 9223372036854775808) = true := bne_iff_ne.mpr c7
     by_cases c8 : a0 > 0
     ·rw [if_pos c8] at H
      have c8b0 : decide (0 < a0) = true := decide_eq_true c8
      clear c8
      obtain rfl := Option.some.inj H
      go_wp2
      go_ret
      exact ⟨by first | rfl | (simp; done) | (simp [*]; done), by repeat (first | exact Drawn0.refl _ | apply Drawn0.step)⟩
     ·rw [if_neg c8] at H
      have c8b0 : decide (0 < a0) = false := decide_eq_false c8
      clear c8
      by_cases c9 : a1 = true
      ·subst c9
       have H1 : (some 1) = some r := by rw [if_pos rfl] at H; exact H
       clear H
       have H := H1
       clear H1
       obtain rfl := Option.some.inj H
       go_wp2
       go_ret
       exact ⟨by first | rfl | (simp; done) | (simp [*]; done), by repeat (first | exact Drawn0.refl _ | apply Drawn0.step)⟩
      ·replace c9 := Bool.eq_false_iff.mpr c9
       subst c9
       have H1 : (some 0) = some r := by rw [if_neg (show ¬ (false = true) by decide)] at H; exact H
       clear H
       have H := H1
       clear H1
       obtain rfl := Option.some.inj H
       go_wp2
       go_ret
       exact ⟨by first | rfl | (simp; done) | (simp [*]; done), by repeat (first | exact Drawn0.refl _ | apply Drawn0.step)⟩
end Go.Proofs.Ytebhpipfkomhjaa.PAll
