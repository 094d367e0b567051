-- Written by a program of this session out of its own texts (wip/tools/link.py).
import Derived.ArgAppend
import Derived.Below
import Derived.BigQuiet
import Derived.Deep.AppendLies
import Derived.Deep.CutBlock
import Derived.Deep.DeepCutAuto
import Derived.Deep.Draws
import Derived.Deep.LoopGhost
import Derived.Deep.OwnRows
import Derived.Deep.QuietTactic
import Derived.Deep.RegionHeld3
import Derived.KernelRfl
import Derived.LaidEql
import Derived.Laws.BitsLemmas
import Derived.Laws.BytesArg
import Derived.Laws.IdiomCopy
import Derived.Laws.MakeOwn
import Derived.Laws.OwnMore
import Derived.Laws.Rows
import Derived.Laws.Slices
import Derived.Laws.StructEq
import Derived.Lib.AppendStr
import Derived.Lib.BitFns
import Derived.Lib.ConvBytes
import Derived.Lib.Slices
import Derived.Lib.Small
import Derived.Lib.Strings
import Derived.Lib.Walk
import Derived.Maps.AppendAt
import Derived.OrdersHeld
import Derived.OwnWalk
import Derived.RowKit
import Derived.RowKit3
import Derived.Tactics
import Derived.Test.YtfegofnplcmacaaProg
import Derived.WalkKit
import Derived.WideLaws
import Derived.Test.YtfegofnplcmacaaCRoundTies9
namespace Go.Proofs.Ytfegofnplcmacaa.PAll
open Go.RowKit Go.Proofs.YtfegofnplcmacaaW.PrintWords Go.Proofs.YtfegofnplcmacaaW.PrintLast Go.Proofs.YtfegofnplcmacaaW.PrintMore
attribute [local go_sem] max2_int min2_int max_two min_two max_three min_three max_four min_four
set_option linter.unusedVariables false
set_option linter.unusedSimpArgs false
mutual
def round_Cut.j0 : Nat → Int → Int → Bool → Int → Int → Int → Bool → Option (Int × Int × Option Int)
 | 0, _, _, _, _, _, _, _ => none
 | k + 1, x0, x132000, x132001, x132002, x132003, x132004, x132005 => (twin_Shl.f x132003 x132004 1).bind fun bt141 => ((round_under.f bt141.1 bt141.2.1 (IntKind.u64.wrap (Go.bits .and .i64 x132002 3)) 2 x132005).bind fun bt146 => (if (x132002 / 4) ≥ 0 then ((round_under.f bt146.1 bt146.2.1 0 1 bt146.2.2).bind fun bt149 => (round_Cut.l0 k x0 bt149.2.2 (wrap64 ((x132002 / 4) + 1)) 0 bt149.1 bt149.2.1)) else ((round_under.f bt146.1 bt146.2.1 1 1 bt146.2.2).bind fun bt155 => (round_Cut.l1 k x0 bt155.2.2 (wrap64 (-(x132002 / 4))) 0 bt155.1 bt155.2.1))))
def round_Cut.j3 : Nat → Int → Bool → Int → Int → Option (Int × Int × Option Int)
 | 0, _, _, _, _ => none
 | k + 1, x0, x12, x146000, x146001 => if 0 ≤ (wrap64 (65 - x0)) then ((twin_Shl.f x146000 x146001 (wrap64 (x0 - 1))).bind fun bt161 => (if bt161.2.1 = 0 then ((round_left.f k bt161.1 x12).bind fun t166 => (some (shr .u64 x146000 (wrap64 (65 - x0)), t166, none))) else ((round_left.f k bt161.1 true).bind fun t167 => (some (shr .u64 x146000 (wrap64 (65 - x0)), t167, none))))) else (none)
def round_Cut.l0 : Nat → Int → Bool → Int → Int → Int → Int → Option (Int × Int × Option Int)
 | 0, _, _, _, _, _, _ => none
 | k + 1, x0, x12, x114, x115, x146000, x146001 => if x115 < x114 then ((round_under.f x146000 x146001 1 1 x12).bind fun bt152 => (round_Cut.l0 k x0 bt152.2.2 x114 (wrap64 (x115 + 1)) bt152.1 bt152.2.1)) else (round_Cut.j3 k x0 x12 x146000 x146001)
def round_Cut.l1 : Nat → Int → Bool → Int → Int → Int → Int → Option (Int × Int × Option Int)
 | 0, _, _, _, _, _, _ => none
 | k + 1, x0, x12, x131, x132, x146000, x146001 => if x132 < x131 then ((round_under.f x146000 x146001 0 1 x12).bind fun bt158 => (round_Cut.l1 k x0 bt158.2.2 x131 (wrap64 (x132 + 1)) bt158.1 bt158.2.1)) else (round_Cut.j3 k x0 x12 x146000 x146001)
end
def round_Cut.f (k : Nat) (a0 : Int) (a1_0 : Int) (a1_1 : Bool) (a1_2 : Int) (a1_3 : Int) (a1_4 : Int) (a1_5 : Bool) : Option (Int × Int × Option Int) := (shape_Of.f a0).bind fun bt132 => (if bt132.2.2.2.2.2.isNone = true then ((round_sound.f k a1_0 a1_1 a1_2 a1_3 a1_4 a1_5).bind fun t140 => (if t140 = true then (if a1_0 = 0 then (some (0, 0, none)) else (if a1_0 = 2 then (some (bt132.2.2.2.1, 0, none)) else (if a1_2 ≥ bt132.2.2.2.2.1 then (some (bt132.2.1, 0, none)) else (if a1_2 < (wrap64 (-bt132.2.2.2.2.1)) then (some (bt132.2.2.1, 0, none)) else (if a1_2 = (wrap64 (-bt132.2.2.2.2.1)) then (if a1_3 = 9223372036854775808 then (if a1_4 = 0 then (if a1_5 = true then (round_Cut.j0 k a0 a1_0 a1_1 a1_2 a1_3 a1_4 a1_5) else (some (bt132.2.2.1, 0, none))) else (round_Cut.j0 k a0 a1_0 a1_1 a1_2 a1_3 a1_4 a1_5)) else (round_Cut.j0 k a0 a1_0 a1_1 a1_2 a1_3 a1_4 a1_5)) else (round_Cut.j0 k a0 a1_0 a1_1 a1_2 a1_3 a1_4 a1_5)))))) else (some (0, 0, some 1)))) else (some (0, 0, some (bt132.2.2.2.2.2.getD 0))))
theorem round_Cut.mono_l : ∀ k, (∀ y0 y1 y2 y3 y4 y5 y6, LeO (round_Cut.j0 k y0 y1 y2 y3 y4 y5 y6) (round_Cut.j0 (k + 1) y0 y1 y2 y3 y4 y5 y6)) ∧ (∀ y0 y1 y2 y3, LeO (round_Cut.j3 k y0 y1 y2 y3) (round_Cut.j3 (k + 1) y0 y1 y2 y3)) ∧ (∀ y0 y1 y2 y3 y4 y5, LeO (round_Cut.l0 k y0 y1 y2 y3 y4 y5) (round_Cut.l0 (k + 1) y0 y1 y2 y3 y4 y5)) ∧ (∀ y0 y1 y2 y3 y4 y5, LeO (round_Cut.l1 k y0 y1 y2 y3 y4 y5) (round_Cut.l1 (k + 1) y0 y1 y2 y3 y4 y5))
 | 0 => ⟨fun _ _ _ _ _ _ _ r h => by simp [round_Cut.j0] at h, fun _ _ _ _ r h => by simp [round_Cut.j3] at h, fun _ _ _ _ _ _ r h => by simp [round_Cut.l0] at h, fun _ _ _ _ _ _ r h => by simp [round_Cut.l1] at h⟩
 | k + 1 => by
  obtain ⟨ih0, ih1, ih2, ih3⟩ := round_Cut.mono_l k
  refine ⟨?_, ?_, ?_, ?_⟩
  ·intro y0 y1 y2 y3 y4 y5 y6
   unfold round_Cut.j0
   repeat' first
   | (with_reducible exact ih0 _ _ _ _ _ _ _)
   | (with_reducible exact ih1 _ _ _ _)
   | (with_reducible exact ih2 _ _ _ _ _ _)
   | (with_reducible exact ih3 _ _ _ _ _ _)
   | (with_reducible exact round_left.mono _ _ _)
   | (with_reducible exact round_sound.mono _ _ _ _ _ _ _)
   | (with_reducible exact LeO.refl _)
   | (with_reducible exact LeO.none _)
   | (with_reducible refine LeO.ite ?_ ?_)
   | (with_reducible refine LeO.bind ?_ (fun _ => ?_))
   | exact ih0 _ _ _ _ _ _ _
   | exact ih1 _ _ _ _
   | exact ih2 _ _ _ _ _ _
   | exact ih3 _ _ _ _ _ _
   | exact round_left.mono _ _ _
   | exact round_sound.mono _ _ _ _ _ _ _
   | exact LeO.none _
   | refine LeO.ite ?_ ?_
   | refine LeO.bind ?_ (fun _ => ?_)
  ·intro y0 y1 y2 y3
   unfold round_Cut.j3
   repeat' first
   | (with_reducible exact ih0 _ _ _ _ _ _ _)
   | (with_reducible exact ih1 _ _ _ _)
   | (with_reducible exact ih2 _ _ _ _ _ _)
   | (with_reducible exact ih3 _ _ _ _ _ _)
   | (with_reducible exact round_left.mono _ _ _)
   | (with_reducible exact round_sound.mono _ _ _ _ _ _ _)
   | (with_reducible exact LeO.refl _)
   | (with_reducible exact LeO.none _)
   | (with_reducible refine LeO.ite ?_ ?_)
   | (with_reducible refine LeO.bind ?_ (fun _ => ?_))
   | exact ih0 _ _ _ _ _ _ _
   | exact ih1 _ _ _ _
   | exact ih2 _ _ _ _ _ _
   | exact ih3 _ _ _ _ _ _
   | exact round_left.mono _ _ _
   | exact round_sound.mono _ _ _ _ _ _ _
   | exact LeO.none _
   | refine LeO.ite ?_ ?_
   | refine LeO.bind ?_ (fun _ => ?_)
  ·intro y0 y1 y2 y3 y4 y5
   unfold round_Cut.l0
   repeat' first
   | (with_reducible exact ih0 _ _ _ _ _ _ _)
   | (with_reducible exact ih1 _ _ _ _)
   | (with_reducible exact ih2 _ _ _ _ _ _)
   | (with_reducible exact ih3 _ _ _ _ _ _)
   | (with_reducible exact round_left.mono _ _ _)
   | (with_reducible exact round_sound.mono _ _ _ _ _ _ _)
   | (with_reducible exact LeO.refl _)
   | (with_reducible exact LeO.none _)
   | (with_reducible refine LeO.ite ?_ ?_)
   | (with_reducible refine LeO.bind ?_ (fun _ => ?_))
   | exact ih0 _ _ _ _ _ _ _
   | exact ih1 _ _ _ _
   | exact ih2 _ _ _ _ _ _
   | exact ih3 _ _ _ _ _ _
   | exact round_left.mono _ _ _
   | exact round_sound.mono _ _ _ _ _ _ _
   | exact LeO.none _
   | refine LeO.ite ?_ ?_
   | refine LeO.bind ?_ (fun _ => ?_)
  ·intro y0 y1 y2 y3 y4 y5
   unfold round_Cut.l1
   repeat' first
   | (with_reducible exact ih0 _ _ _ _ _ _ _)
   | (with_reducible exact ih1 _ _ _ _)
   | (with_reducible exact ih2 _ _ _ _ _ _)
   | (with_reducible exact ih3 _ _ _ _ _ _)
   | (with_reducible exact round_left.mono _ _ _)
   | (with_reducible exact round_sound.mono _ _ _ _ _ _ _)
   | (with_reducible exact LeO.refl _)
   | (with_reducible exact LeO.none _)
   | (with_reducible refine LeO.ite ?_ ?_)
   | (with_reducible refine LeO.bind ?_ (fun _ => ?_))
   | exact ih0 _ _ _ _ _ _ _
   | exact ih1 _ _ _ _
   | exact ih2 _ _ _ _ _ _
   | exact ih3 _ _ _ _ _ _
   | exact round_left.mono _ _ _
   | exact round_sound.mono _ _ _ _ _ _ _
   | exact LeO.none _
   | refine LeO.ite ?_ ?_
   | refine LeO.bind ?_ (fun _ => ?_)
theorem round_Cut.mono : ∀ a0 a1 a2 a3 a4 a5 a6 k, LeO (round_Cut.f k a0 a1 a2 a3 a4 a5 a6) (round_Cut.f (k + 1) a0 a1 a2 a3 a4 a5 a6) := by
 intro a0 a1 a2 a3 a4 a5 a6 k
 obtain ⟨ih0, ih1, ih2, ih3⟩ := round_Cut.mono_l k
 unfold round_Cut.f
 repeat' first
   | (with_reducible exact ih0 _ _ _ _ _ _ _)
   | (with_reducible exact ih1 _ _ _ _)
   | (with_reducible exact ih2 _ _ _ _ _ _)
   | (with_reducible exact ih3 _ _ _ _ _ _)
   | (with_reducible exact round_left.mono _ _ _)
   | (with_reducible exact round_sound.mono _ _ _ _ _ _ _)
   | (with_reducible exact LeO.refl _)
   | (with_reducible exact LeO.none _)
   | (with_reducible refine LeO.ite ?_ ?_)
   | (with_reducible refine LeO.bind ?_ (fun _ => ?_))
   | exact ih0 _ _ _ _ _ _ _
   | exact ih1 _ _ _ _
   | exact ih2 _ _ _ _ _ _
   | exact ih3 _ _ _ _ _ _
   | exact round_left.mono _ _ _
   | exact round_sound.mono _ _ _ _ _ _ _
   | exact LeO.none _
   | refine LeO.ite ?_ ?_
   | refine LeO.bind ?_ (fun _ => ?_)
set_option maxHeartbeats 8000000 in
set_option maxRecDepth 100000 in
theorem round_Cut.calls (k : Nat) (a0 : Int) (a1_0 : Int) (a1_1 : Bool) (a1_2 : Int) (a1_3 : Int) (a1_4 : Int) (a1_5 : Bool) (r1 : Int) (r2 : Int) (r3 : Option Int) (w : World) (h : round_Cut.f k a0 a1_0 a1_1 a1_2 a1_3 a1_4 a1_5 = some (r1, r2, r3)) :
  Calls Try.prog 11 #[.int .i64 a0, .agg #[.int .i64 a1_0, .bool a1_1, .int .i64 a1_2, .int .u64 a1_3, .int .u64 a1_4, .bool a1_5]] w fun e w' => e = .returned (.tuple #[.int .u64 r1, .int .i64 r2, errW r3]) ∧ Below w.heap.size w w' := by
 have hu24 := Try.underlying24
 have hu60 := Try.underlying60
 have hu64 := Try.underlying64
 have hu27 := Try.underlying27
 have hu55 := Try.underlying55
 have HB := Aside0.mk (Below.refl w.heap.size w)
 have H : ((shape_Of.f a0).bind fun bt132 => (if bt132.2.2.2.2.2.isNone = true then ((round_sound.f k a1_0 a1_1 a1_2 a1_3 a1_4 a1_5).bind fun t140 => (if t140 = true then (if a1_0 = 0 then (some (0, 0, none)) else (if a1_0 = 2 then (some (bt132.2.2.2.1, 0, none)) else (if a1_2 ≥ bt132.2.2.2.2.1 then (some (bt132.2.1, 0, none)) else (if a1_2 < (wrap64 (-bt132.2.2.2.2.1)) then (some (bt132.2.2.1, 0, none)) else (if a1_2 = (wrap64 (-bt132.2.2.2.2.1)) then (if a1_3 = 9223372036854775808 then (if a1_4 = 0 then (if a1_5 = true then (round_Cut.j0 k a0 a1_0 a1_1 a1_2 a1_3 a1_4 a1_5) else (some (bt132.2.2.1, 0, none))) else (round_Cut.j0 k a0 a1_0 a1_1 a1_2 a1_3 a1_4 a1_5)) else (round_Cut.j0 k a0 a1_0 a1_1 a1_2 a1_3 a1_4 a1_5)) else (round_Cut.j0 k a0 a1_0 a1_1 a1_2 a1_3 a1_4 a1_5)))))) else (some (0, 0, some 1)))) else (some (0, 0, some (bt132.2.2.2.2.2.getD 0))))) = some (r1, r2, r3) := h
 clear h
 replace H := Option.bind_eq_some_iff.mp H
 obtain ⟨⟨t132, t133, t134, t135, t136, t137⟩, A30, H⟩ := H
 replace H : (if t137.isNone = true then ((round_sound.f k a1_0 a1_1 a1_2 a1_3 a1_4 a1_5).bind fun t140 => (if t140 = true then (if a1_0 = 0 then (some (0, 0, none)) else (if a1_0 = 2 then (some (t135, 0, none)) else (if a1_2 ≥ t136 then (some (t133, 0, none)) else (if a1_2 < (wrap64 (-t136)) then (some (t134, 0, none)) else (if a1_2 = (wrap64 (-t136)) then (if a1_3 = 9223372036854775808 then (if a1_4 = 0 then (if a1_5 = true then (round_Cut.j0 k a0 a1_0 a1_1 a1_2 a1_3 a1_4 a1_5) else (some (t134, 0, none))) else (round_Cut.j0 k a0 a1_0 a1_1 a1_2 a1_3 a1_4 a1_5)) else (round_Cut.j0 k a0 a1_0 a1_1 a1_2 a1_3 a1_4 a1_5)) else (round_Cut.j0 k a0 a1_0 a1_1 a1_2 a1_3 a1_4 a1_5)))))) else (some (0, 0, some 1)))) else (some (0, 0, some (t137.getD 0)))) = some (r1, r2, r3) := H
 have A3 := Aside0.mk A30
 clear A30
 have HC4 := Aside0.mk H
 clear H
 go_enter Try.func11, Try.ntmps11
 go_upto_block 0 with (first | ((with_reducible refine gate_dst (N := 3) rfl ?_); refine box_event ?hg (N := 3) ?hd (cs := #[.int .i64 a1_0, .bool a1_1, .int .i64 a1_2, .int .u64 a1_3, .int .u64 a1_4, .bool a1_5]) (t := 24) ?hr ?_; (case hd => rfl); (case hg => rfl); (case hr => first | (go_simp; done) | (go_simp; rfl)); intro gb131 hg w5 hbox hb; have n0_ := Aside0.mk (below_step (z3_ HB.out) hb); have n1_ := Aside0.mk (hbox); have n2_ := Aside0.mk ((by rw [hg]; exact (below_size (z3_ HB.out)) : w.heap.size ≤ gb131)); have n3_ := Aside0.mk ((by rw [hg]; exact (below_size (z3_ HB.out)) : w.heap.size ≤ gb131)); clear HB; have HB := n0_; have BK131 := n1_; have GW131 := n2_; have GE131 := n3_; clear n0_ n1_ n2_ n3_; clear hb hbox hg) | ((with_reducible refine gate_callee (f := 27) rfl ?_); refine goesL_ (some 20) rfl rfl Try.func27 (by kernel_rfl) rfl #[.int .i64 a0] rfl z5_ ?_; (with_reducible refine (shape_Of.calls a0 t132 t133 t134 t135 t136 t137 _ A3.out).mono ?_); rintro e w6 ⟨rfl, hb⟩; refine ⟨_, rfl, ?_⟩; have n0_ := Aside0.mk (blk_below (g := gb131) (z1_ BK131.out) hb); have n1_ := Aside0.mk (below_step (z3_ HB.out) hb); clear BK131; clear HB; have BK131 := n0_; have HB := n1_; clear n0_ n1_; (try clear hb); (try clear hb2); (try clear hk); (try clear hi); (try simp only [errW_none, errW_some])) | ((with_reducible refine gate_dst (N := 7) rfl ?_); refine box_event ?hg (N := 7) ?hd (cs := #[.int .i64 0, .int .u64 0, .int .u64 0, .int .u64 0, .int .i64 0]) (t := 60) ?hr ?_; (case hd => rfl); (case hg => rfl); (case hr => first | (go_simp; done) | (go_simp; rfl)); intro gb138 hg w7 hbox hb; have n0_ := Aside0.mk (blk_below (g := gb131) (z1_ BK131.out) hb); have n1_ := Aside0.mk (below_step (z3_ HB.out) hb); have n2_ := Aside0.mk (hbox); have n3_ := Aside0.mk ((by rw [hg]; exact (below_size (z3_ HB.out)) : w.heap.size ≤ gb138)); have n4_ := Aside0.mk ((by rw [hg]; exact (below_size (z3_ HB.out)) : w.heap.size ≤ gb138)); have n5_ := Aside0.mk ((by rw [hg]; exact Nat.ne_of_lt (blk_lt (g := gb131) (o := .cells #[.int .i64 a1_0, .bool a1_1, .int .i64 a1_2, .int .u64 a1_3, .int .u64 a1_4, .bool a1_5] 24 (0, 0)) (z1_ BK131.out)) : gb131 ≠ gb138)); have n6_ := Aside0.mk ((by rw [hg]; exact Nat.ne_of_gt (blk_lt (g := gb131) (o := .cells #[.int .i64 a1_0, .bool a1_1, .int .i64 a1_2, .int .u64 a1_3, .int .u64 a1_4, .bool a1_5] 24 (0, 0)) (z1_ BK131.out)) : gb138 ≠ gb131)); clear BK131; clear HB; have BK131 := n0_; have HB := n1_; have BK138 := n2_; have GW138 := n3_; have GE138 := n4_; have NB131_138 := n5_; have NB138_131 := n6_; clear n0_ n1_ n2_ n3_ n4_ n5_ n6_; clear hb hbox hg; have hnb8 := NB138_131.out; have hnc8 := NB131_138.out; have hcz9_0 := z4_ BK138.out 0 (.int .i64 0) rfl; have hcz9_1 := z4_ BK138.out 1 (.int .u64 0) rfl; have hcz9_2 := z4_ BK138.out 2 (.int .u64 0) rfl; have hcz9_3 := z4_ BK138.out 3 (.int .u64 0) rfl; have hcz9_4 := z4_ BK138.out 4 (.int .i64 0) rfl; have hfz9_0 := blk_frozen BK138.out 0; have hfz9_1 := blk_frozen BK138.out 1; have hfz9_2 := blk_frozen BK138.out 2; have hfz9_3 := blk_frozen BK138.out 3; have hfz9_4 := blk_frozen BK138.out 4))
 (try simp only [Act.put, List.setIfInBounds_toArray, List.set_cons_zero, List.set_cons_succ])
 go_cut [] (fun wc => ∃ (kq : Nat), Aside0 (round_Cut.j0 kq a0 a1_0 a1_1 a1_2 a1_3 a1_4 a1_5 = some (r1, r2, r3)) ∧ Aside0 (kq ≤ k) ∧ Aside0 (wc.heap[gb131]? = some (.cells #[.int .i64 a1_0, .bool a1_1, .int .i64 a1_2, .int .u64 a1_3, .int .u64 a1_4, .bool a1_5] 24 (0, 0))) ∧ Aside0 (wc.heap[gb138]? = some (.cells #[.int .i64 t132, .int .u64 t133, .int .u64 t134, .int .u64 t135, .int .i64 t136] 60 (0, 0))) ∧ Aside0 (Below w.heap.size w wc))
 case first =>
  have H := HC4.out
  clear HC4
  rcases t137 with _ | q139
  ·have H1 : ((round_sound.f k a1_0 a1_1 a1_2 a1_3 a1_4 a1_5).bind fun t140 => (if t140 = true then (if a1_0 = 0 then (some (0, 0, none)) else (if a1_0 = 2 then (some (t135, 0, none)) else (if a1_2 ≥ t136 then (some (t133, 0, none)) else (if a1_2 < (wrap64 (-t136)) then (some (t134, 0, none)) else (if a1_2 = (wrap64 (-t136)) then (if a1_3 = 9223372036854775808 then (if a1_4 = 0 then (if a1_5 = true then (round_Cut.j0 k a0 a1_0 a1_1 a1_2 a1_3 a1_4 a1_5) else (some (t134, 0, none))) else (round_Cut.j0 k a0 a1_0 a1_1 a1_2 a1_3 a1_4 a1_5)) else (round_Cut.j0 k a0 a1_0 a1_1 a1_2 a1_3 a1_4 a1_5)) else (round_Cut.j0 k a0 a1_0 a1_1 a1_2 a1_3 a1_4 a1_5)))))) else (some (0, 0, some 1)))) = some (r1, r2, r3) := by rw [if_pos (show (none : Option Int).isNone = true by rfl)] at H; exact H
   clear H
   have H := H1
   clear H1
   try simp only [errW_none, errW_some]
   replace H := Option.bind_eq_some_iff.mp H
   obtain ⟨t140, A100, H⟩ := H
   replace H : (if t140 = true then (if a1_0 = 0 then (some (0, 0, none)) else (if a1_0 = 2 then (some (t135, 0, none)) else (if a1_2 ≥ t136 then (some (t133, 0, none)) else (if a1_2 < (wrap64 (-t136)) then (some (t134, 0, none)) else (if a1_2 = (wrap64 (-t136)) then (if a1_3 = 9223372036854775808 then (if a1_4 = 0 then (if a1_5 = true then (round_Cut.j0 k a0 a1_0 a1_1 a1_2 a1_3 a1_4 a1_5) else (some (t134, 0, none))) else (round_Cut.j0 k a0 a1_0 a1_1 a1_2 a1_3 a1_4 a1_5)) else (round_Cut.j0 k a0 a1_0 a1_1 a1_2 a1_3 a1_4 a1_5)) else (round_Cut.j0 k a0 a1_0 a1_1 a1_2 a1_3 a1_4 a1_5)))))) else (some (0, 0, some 1))) = some (r1, r2, r3) := H
   have A10 := Aside0.mk A100
   clear A100
   by_cases c11 : t140 = true
   ·subst c11
    have H1 : (if a1_0 = 0 then (some (0, 0, none)) else (if a1_0 = 2 then (some (t135, 0, none)) else (if a1_2 ≥ t136 then (some (t133, 0, none)) else (if a1_2 < (wrap64 (-t136)) then (some (t134, 0, none)) else (if a1_2 = (wrap64 (-t136)) then (if a1_3 = 9223372036854775808 then (if a1_4 = 0 then (if a1_5 = true then (round_Cut.j0 k a0 a1_0 a1_1 a1_2 a1_3 a1_4 a1_5) else (some (t134, 0, none))) else (round_Cut.j0 k a0 a1_0 a1_1 a1_2 a1_3 a1_4 a1_5)) else (round_Cut.j0 k a0 a1_0 a1_1 a1_2 a1_3 a1_4 a1_5)) else (round_Cut.j0 k a0 a1_0 a1_1 a1_2 a1_3 a1_4 a1_5)))))) = some (r1, r2, r3) := by rw [if_pos rfl] at H; exact H
    clear H
    have H := H1
    clear H1
    by_cases c12 : a1_0 = 0
    ·rw [if_pos c12] at H
     have c12b0 : (a1_0 == 0) = true := beq_iff_eq.mpr c12
     have c12b1 : (a1_0 != 0) = false := bne_eq_false_iff_eq.mpr c12
     clear c12
     (first | rw [c12b0] | (simp only [i64_w, i32_w]; rw [c12b0]) | skip)
     simp only [Option.some.injEq, Prod.mk.injEq] at H
     obtain ⟨rfl, rfl, rfl⟩ := H
     have hnb13 := NB131_138.out
     have hnc13 := NB138_131.out
     have hcz14_0 := z4_ BK131.out 0 (.int .i64 a1_0) rfl
     have hcz14_1 := z4_ BK131.out 1 (.bool a1_1) rfl
     have hcz14_2 := z4_ BK131.out 2 (.int .i64 a1_2) rfl
     have hcz14_3 := z4_ BK131.out 3 (.int .u64 a1_3) rfl
     have hcz14_4 := z4_ BK131.out 4 (.int .u64 a1_4) rfl
     have hcz14_5 := z4_ BK131.out 5 (.bool a1_5) rfl
     have hfz14_0 := blk_frozen BK131.out 0
     have hfz14_1 := blk_frozen BK131.out 1
     have hfz14_2 := blk_frozen BK131.out 2
     have hfz14_3 := blk_frozen BK131.out 3
     have hfz14_4 := blk_frozen BK131.out 4
     have hfz14_5 := blk_frozen BK131.out 5
     go_wp2_with (first | ((with_reducible refine gate_callee (f := 28) rfl ?_); refine goesL_ (some 29) rfl rfl Try.func28 (by kernel_rfl) rfl #[.agg #[.int .i64 a1_0, .bool a1_1, .int .i64 a1_2, .int .u64 a1_3, .int .u64 a1_4, .bool a1_5]] rfl z5_ ?_; (with_reducible refine (round_sound.calls k a1_0 a1_1 a1_2 a1_3 a1_4 a1_5 true _ A10.out).mono ?_); rintro e w15 ⟨rfl, hb⟩; refine ⟨_, rfl, ?_⟩; have n0_ := Aside0.mk (blk_below (g := gb131) (o := .cells #[.int .i64 a1_0, .bool a1_1, .int .i64 a1_2, .int .u64 a1_3, .int .u64 a1_4, .bool a1_5] 24 (0, 0)) (by refine z2_ ?_; refine blk_far ?_ NB131_138.out _; refine z2_ ?_; refine blk_far ?_ NB131_138.out _; refine z2_ ?_; refine blk_far ?_ NB131_138.out _; refine z2_ ?_; refine blk_far ?_ NB131_138.out _; refine z2_ ?_; refine blk_far ?_ NB131_138.out _; refine z2_ ?_; exact BK131.out) hb); have n1_ := Aside0.mk (blk_below (g := gb138) (o := .cells #[.int .i64 t132, .int .u64 t133, .int .u64 t134, .int .u64 t135, .int .i64 t136] 60 (0, 0)) (by refine z2_ ?_; refine blk_put (cs := #[.int .i64 t132, .int .u64 t133, .int .u64 t134, .int .u64 t135, .int .i64 0]) ?_ 4 _ rfl; refine z2_ ?_; refine blk_put (cs := #[.int .i64 t132, .int .u64 t133, .int .u64 t134, .int .u64 0, .int .i64 0]) ?_ 3 _ rfl; refine z2_ ?_; refine blk_put (cs := #[.int .i64 t132, .int .u64 t133, .int .u64 0, .int .u64 0, .int .i64 0]) ?_ 2 _ rfl; refine z2_ ?_; refine blk_put (cs := #[.int .i64 t132, .int .u64 0, .int .u64 0, .int .u64 0, .int .i64 0]) ?_ 1 _ rfl; refine z2_ ?_; refine blk_put (cs := #[.int .i64 0, .int .u64 0, .int .u64 0, .int .u64 0, .int .i64 0]) ?_ 0 _ rfl; refine z2_ ?_; exact BK138.out) hb); have n2_ := Aside0.mk (below_step (z3_ HB.out) hb); clear BK131; clear BK138; clear HB; have BK131 := n0_; have BK138 := n1_; have HB := n2_; clear n0_ n1_ n2_; (try clear hb); (try clear hb2); (try clear hk); (try clear hi); have hcz16_0 := z4_ BK131.out 0 (.int .i64 a1_0) rfl; have hcz16_1 := z4_ BK131.out 1 (.bool a1_1) rfl; have hcz16_2 := z4_ BK131.out 2 (.int .i64 a1_2) rfl; have hcz16_3 := z4_ BK131.out 3 (.int .u64 a1_3) rfl; have hcz16_4 := z4_ BK131.out 4 (.int .u64 a1_4) rfl; have hcz16_5 := z4_ BK131.out 5 (.bool a1_5) rfl; have hfz16_0 := blk_frozen BK131.out 0; have hfz16_1 := blk_frozen BK131.out 1; have hfz16_2 := blk_frozen BK131.out 2; have hfz16_3 := blk_frozen BK131.out 3; have hfz16_4 := blk_frozen BK131.out 4; have hfz16_5 := blk_frozen BK131.out 5))
     go_ret3
     exact ⟨by first | rfl | (simp [errW_none, errW_some] <;> rfl) | (simp [*, errW_none, errW_some] <;> rfl), by repeat (first | (with_reducible first | exact HB.out | apply below_alloc | apply pw_below_drewN | apply below_drew1 | refine below_set ?_ GE131.out | refine below_set ?_ GE138.out) | exact HB.out)⟩
    ·rw [if_neg c12] at H
     have c12b0 : (a1_0 == 0) = false := beq_eq_false_iff_ne.mpr c12
     have c12b1 : (a1_0 != 0) = true := bne_iff_ne.mpr c12
     (first | rw [c12b0] | (simp only [i64_w, i32_w]; rw [c12b0]) | skip)
     by_cases c17 : a1_0 = 2
     ·rw [if_pos c17] at H
      have c17b0 : (a1_0 == 2) = true := beq_iff_eq.mpr c17
      have c17b1 : (a1_0 != 2) = false := bne_eq_false_iff_eq.mpr c17
      clear c17
      simp only [Option.some.injEq, Prod.mk.injEq] at H
      obtain ⟨rfl, rfl, rfl⟩ := H
      have hnb18 := NB131_138.out
      have hnc18 := NB138_131.out
      have hcz19_0 := z4_ BK131.out 0 (.int .i64 a1_0) rfl
      have hcz19_1 := z4_ BK131.out 1 (.bool a1_1) rfl
      have hcz19_2 := z4_ BK131.out 2 (.int .i64 a1_2) rfl
      have hcz19_3 := z4_ BK131.out 3 (.int .u64 a1_3) rfl
      have hcz19_4 := z4_ BK131.out 4 (.int .u64 a1_4) rfl
      have hcz19_5 := z4_ BK131.out 5 (.bool a1_5) rfl
      have hfz19_0 := blk_frozen BK131.out 0
      have hfz19_1 := blk_frozen BK131.out 1
      have hfz19_2 := blk_frozen BK131.out 2
      have hfz19_3 := blk_frozen BK131.out 3
      have hfz19_4 := blk_frozen BK131.out 4
      have hfz19_5 := blk_frozen BK131.out 5
      go_wp2_with (first | ((with_reducible refine gate_callee (f := 28) rfl ?_); refine goesL_ (some 29) rfl rfl Try.func28 (by kernel_rfl) rfl #[.agg #[.int .i64 a1_0, .bool a1_1, .int .i64 a1_2, .int .u64 a1_3, .int .u64 a1_4, .bool a1_5]] rfl z5_ ?_; (with_reducible refine (round_sound.calls k a1_0 a1_1 a1_2 a1_3 a1_4 a1_5 true _ A10.out).mono ?_); rintro e w20 ⟨rfl, hb⟩; refine ⟨_, rfl, ?_⟩; have n0_ := Aside0.mk (blk_below (g := gb131) (o := .cells #[.int .i64 a1_0, .bool a1_1, .int .i64 a1_2, .int .u64 a1_3, .int .u64 a1_4, .bool a1_5] 24 (0, 0)) (by refine z2_ ?_; refine blk_far ?_ NB131_138.out _; refine z2_ ?_; refine blk_far ?_ NB131_138.out _; refine z2_ ?_; refine blk_far ?_ NB131_138.out _; refine z2_ ?_; refine blk_far ?_ NB131_138.out _; refine z2_ ?_; refine blk_far ?_ NB131_138.out _; refine z2_ ?_; exact BK131.out) hb); have n1_ := Aside0.mk (blk_below (g := gb138) (o := .cells #[.int .i64 t132, .int .u64 t133, .int .u64 t134, .int .u64 t135, .int .i64 t136] 60 (0, 0)) (by refine z2_ ?_; refine blk_put (cs := #[.int .i64 t132, .int .u64 t133, .int .u64 t134, .int .u64 t135, .int .i64 0]) ?_ 4 _ rfl; refine z2_ ?_; refine blk_put (cs := #[.int .i64 t132, .int .u64 t133, .int .u64 t134, .int .u64 0, .int .i64 0]) ?_ 3 _ rfl; refine z2_ ?_; refine blk_put (cs := #[.int .i64 t132, .int .u64 t133, .int .u64 0, .int .u64 0, .int .i64 0]) ?_ 2 _ rfl; refine z2_ ?_; refine blk_put (cs := #[.int .i64 t132, .int .u64 0, .int .u64 0, .int .u64 0, .int .i64 0]) ?_ 1 _ rfl; refine z2_ ?_; refine blk_put (cs := #[.int .i64 0, .int .u64 0, .int .u64 0, .int .u64 0, .int .i64 0]) ?_ 0 _ rfl; refine z2_ ?_; exact BK138.out) hb); have n2_ := Aside0.mk (below_step (z3_ HB.out) hb); clear BK131; clear BK138; clear HB; have BK131 := n0_; have BK138 := n1_; have HB := n2_; clear n0_ n1_ n2_; (try clear hb); (try clear hb2); (try clear hk); (try clear hi); have hcz21_0 := z4_ BK131.out 0 (.int .i64 a1_0) rfl; have hcz21_1 := z4_ BK131.out 1 (.bool a1_1) rfl; have hcz21_2 := z4_ BK131.out 2 (.int .i64 a1_2) rfl; have hcz21_3 := z4_ BK131.out 3 (.int .u64 a1_3) rfl; have hcz21_4 := z4_ BK131.out 4 (.int .u64 a1_4) rfl; have hcz21_5 := z4_ BK131.out 5 (.bool a1_5) rfl; have hfz21_0 := blk_frozen BK131.out 0; have hfz21_1 := blk_frozen BK131.out 1; have hfz21_2 := blk_frozen BK131.out 2; have hfz21_3 := blk_frozen BK131.out 3; have hfz21_4 := blk_frozen BK131.out 4; have hfz21_5 := blk_frozen BK131.out 5; have hcz22_0 := z4_ BK138.out 0 (.int .i64 t132) rfl; have hcz22_1 := z4_ BK138.out 1 (.int .u64 t133) rfl; have hcz22_2 := z4_ BK138.out 2 (.int .u64 t134) rfl; have hcz22_3 := z4_ BK138.out 3 (.int .u64 t135) rfl; have hcz22_4 := z4_ BK138.out 4 (.int .i64 t136) rfl; have hfz22_0 := blk_frozen BK138.out 0; have hfz22_1 := blk_frozen BK138.out 1; have hfz22_2 := blk_frozen BK138.out 2; have hfz22_3 := blk_frozen BK138.out 3; have hfz22_4 := blk_frozen BK138.out 4))
      go_ret3
      exact ⟨by first | rfl | (simp [errW_none, errW_some] <;> rfl) | (simp [*, errW_none, errW_some] <;> rfl), by repeat (first | (with_reducible first | exact HB.out | apply below_alloc | apply pw_below_drewN | apply below_drew1 | refine below_set ?_ GE131.out | refine below_set ?_ GE138.out) | exact HB.out)⟩
     ·rw [if_neg c17] at H
      have c17b0 : (a1_0 == 2) = false := beq_eq_false_iff_ne.mpr c17
      have c17b1 : (a1_0 != 2) = true := bne_iff_ne.mpr c17
      by_cases c23 : a1_2 ≥ t136
      ·rw [if_pos c23] at H
       have c23b0 : decide (t136 ≤ a1_2) = true := decide_eq_true c23
       clear c23
       simp only [Option.some.injEq, Prod.mk.injEq] at H
       obtain ⟨rfl, rfl, rfl⟩ := H
       have hnb24 := NB131_138.out
       have hnc24 := NB138_131.out
       have hcz25_0 := z4_ BK131.out 0 (.int .i64 a1_0) rfl
       have hcz25_1 := z4_ BK131.out 1 (.bool a1_1) rfl
       have hcz25_2 := z4_ BK131.out 2 (.int .i64 a1_2) rfl
       have hcz25_3 := z4_ BK131.out 3 (.int .u64 a1_3) rfl
       have hcz25_4 := z4_ BK131.out 4 (.int .u64 a1_4) rfl
       have hcz25_5 := z4_ BK131.out 5 (.bool a1_5) rfl
       have hfz25_0 := blk_frozen BK131.out 0
       have hfz25_1 := blk_frozen BK131.out 1
       have hfz25_2 := blk_frozen BK131.out 2
       have hfz25_3 := blk_frozen BK131.out 3
       have hfz25_4 := blk_frozen BK131.out 4
       have hfz25_5 := blk_frozen BK131.out 5
       go_wp2_with (first | ((with_reducible refine gate_callee (f := 28) rfl ?_); refine goesL_ (some 29) rfl rfl Try.func28 (by kernel_rfl) rfl #[.agg #[.int .i64 a1_0, .bool a1_1, .int .i64 a1_2, .int .u64 a1_3, .int .u64 a1_4, .bool a1_5]] rfl z5_ ?_; (with_reducible refine (round_sound.calls k a1_0 a1_1 a1_2 a1_3 a1_4 a1_5 true _ A10.out).mono ?_); rintro e w26 ⟨rfl, hb⟩; refine ⟨_, rfl, ?_⟩; have n0_ := Aside0.mk (blk_below (g := gb131) (o := .cells #[.int .i64 a1_0, .bool a1_1, .int .i64 a1_2, .int .u64 a1_3, .int .u64 a1_4, .bool a1_5] 24 (0, 0)) (by refine z2_ ?_; refine blk_far ?_ NB131_138.out _; refine z2_ ?_; refine blk_far ?_ NB131_138.out _; refine z2_ ?_; refine blk_far ?_ NB131_138.out _; refine z2_ ?_; refine blk_far ?_ NB131_138.out _; refine z2_ ?_; refine blk_far ?_ NB131_138.out _; refine z2_ ?_; exact BK131.out) hb); have n1_ := Aside0.mk (blk_below (g := gb138) (o := .cells #[.int .i64 t132, .int .u64 t133, .int .u64 t134, .int .u64 t135, .int .i64 t136] 60 (0, 0)) (by refine z2_ ?_; refine blk_put (cs := #[.int .i64 t132, .int .u64 t133, .int .u64 t134, .int .u64 t135, .int .i64 0]) ?_ 4 _ rfl; refine z2_ ?_; refine blk_put (cs := #[.int .i64 t132, .int .u64 t133, .int .u64 t134, .int .u64 0, .int .i64 0]) ?_ 3 _ rfl; refine z2_ ?_; refine blk_put (cs := #[.int .i64 t132, .int .u64 t133, .int .u64 0, .int .u64 0, .int .i64 0]) ?_ 2 _ rfl; refine z2_ ?_; refine blk_put (cs := #[.int .i64 t132, .int .u64 0, .int .u64 0, .int .u64 0, .int .i64 0]) ?_ 1 _ rfl; refine z2_ ?_; refine blk_put (cs := #[.int .i64 0, .int .u64 0, .int .u64 0, .int .u64 0, .int .i64 0]) ?_ 0 _ rfl; refine z2_ ?_; exact BK138.out) hb); have n2_ := Aside0.mk (below_step (z3_ HB.out) hb); clear BK131; clear BK138; clear HB; have BK131 := n0_; have BK138 := n1_; have HB := n2_; clear n0_ n1_ n2_; (try clear hb); (try clear hb2); (try clear hk); (try clear hi); have hcz27_0 := z4_ BK131.out 0 (.int .i64 a1_0) rfl; have hcz27_1 := z4_ BK131.out 1 (.bool a1_1) rfl; have hcz27_2 := z4_ BK131.out 2 (.int .i64 a1_2) rfl; have hcz27_3 := z4_ BK131.out 3 (.int .u64 a1_3) rfl; have hcz27_4 := z4_ BK131.out 4 (.int .u64 a1_4) rfl; have hcz27_5 := z4_ BK131.out 5 (.bool a1_5) rfl; have hfz27_0 := blk_frozen BK131.out 0; have hfz27_1 := blk_frozen BK131.out 1; have hfz27_2 := blk_frozen BK131.out 2; have hfz27_3 := blk_frozen BK131.out 3; have hfz27_4 := blk_frozen BK131.out 4; have hfz27_5 := blk_frozen BK131.out 5; have hcz28_0 := z4_ BK138.out 0 (.int .i64 t132) rfl; have hcz28_1 := z4_ BK138.out 1 (.int .u64 t133) rfl; have hcz28_2 := z4_ BK138.out 2 (.int .u64 t134) rfl; have hcz28_3 := z4_ BK138.out 3 (.int .u64 t135) rfl; have hcz28_4 := z4_ BK138.out 4 (.int .i64 t136) rfl; have hfz28_0 := blk_frozen BK138.out 0; have hfz28_1 := blk_frozen BK138.out 1; have hfz28_2 := blk_frozen BK138.out 2; have hfz28_3 := blk_frozen BK138.out 3; have hfz28_4 := blk_frozen BK138.out 4))
       go_ret3
       exact ⟨by first | rfl | (simp [errW_none, errW_some] <;> rfl) | (simp [*, errW_none, errW_some] <;> rfl), by repeat (first | (with_reducible first | exact HB.out | apply below_alloc | apply pw_below_drewN | apply below_drew1 | refine below_set ?_ GE131.out | refine below_set ?_ GE138.out) | exact HB.out)⟩
      ·rw [if_neg c23] at H
       have c23b0 : decide (t136 ≤ a1_2) = false := decide_eq_false c23
       clear c23
       by_cases c29 : a1_2 < (wrap64 (-t136))
       ·rw [if_pos c29] at H
        have c29b0 : decide (a1_2 < (wrap64 (-t136))) = true := decide_eq_true c29
        clear c29
        simp only [Option.some.injEq, Prod.mk.injEq] at H
        obtain ⟨rfl, rfl, rfl⟩ := H
        have hnb30 := NB131_138.out
        have hnc30 := NB138_131.out
        have hcz31_0 := z4_ BK131.out 0 (.int .i64 a1_0) rfl
        have hcz31_1 := z4_ BK131.out 1 (.bool a1_1) rfl
        have hcz31_2 := z4_ BK131.out 2 (.int .i64 a1_2) rfl
        have hcz31_3 := z4_ BK131.out 3 (.int .u64 a1_3) rfl
        have hcz31_4 := z4_ BK131.out 4 (.int .u64 a1_4) rfl
        have hcz31_5 := z4_ BK131.out 5 (.bool a1_5) rfl
        have hfz31_0 := blk_frozen BK131.out 0
        have hfz31_1 := blk_frozen BK131.out 1
        have hfz31_2 := blk_frozen BK131.out 2
        have hfz31_3 := blk_frozen BK131.out 3
        have hfz31_4 := blk_frozen BK131.out 4
        have hfz31_5 := blk_frozen BK131.out 5
        go_wp2_with (first | ((with_reducible refine gate_callee (f := 28) rfl ?_); refine goesL_ (some 29) rfl rfl Try.func28 (by kernel_rfl) rfl #[.agg #[.int .i64 a1_0, .bool a1_1, .int .i64 a1_2, .int .u64 a1_3, .int .u64 a1_4, .bool a1_5]] rfl z5_ ?_; (with_reducible refine (round_sound.calls k a1_0 a1_1 a1_2 a1_3 a1_4 a1_5 true _ A10.out).mono ?_); rintro e w32 ⟨rfl, hb⟩; refine ⟨_, rfl, ?_⟩; have n0_ := Aside0.mk (blk_below (g := gb131) (o := .cells #[.int .i64 a1_0, .bool a1_1, .int .i64 a1_2, .int .u64 a1_3, .int .u64 a1_4, .bool a1_5] 24 (0, 0)) (by refine z2_ ?_; refine blk_far ?_ NB131_138.out _; refine z2_ ?_; refine blk_far ?_ NB131_138.out _; refine z2_ ?_; refine blk_far ?_ NB131_138.out _; refine z2_ ?_; refine blk_far ?_ NB131_138.out _; refine z2_ ?_; refine blk_far ?_ NB131_138.out _; refine z2_ ?_; exact BK131.out) hb); have n1_ := Aside0.mk (blk_below (g := gb138) (o := .cells #[.int .i64 t132, .int .u64 t133, .int .u64 t134, .int .u64 t135, .int .i64 t136] 60 (0, 0)) (by refine z2_ ?_; refine blk_put (cs := #[.int .i64 t132, .int .u64 t133, .int .u64 t134, .int .u64 t135, .int .i64 0]) ?_ 4 _ rfl; refine z2_ ?_; refine blk_put (cs := #[.int .i64 t132, .int .u64 t133, .int .u64 t134, .int .u64 0, .int .i64 0]) ?_ 3 _ rfl; refine z2_ ?_; refine blk_put (cs := #[.int .i64 t132, .int .u64 t133, .int .u64 0, .int .u64 0, .int .i64 0]) ?_ 2 _ rfl; refine z2_ ?_; refine blk_put (cs := #[.int .i64 t132, .int .u64 0, .int .u64 0, .int .u64 0, .int .i64 0]) ?_ 1 _ rfl; refine z2_ ?_; refine blk_put (cs := #[.int .i64 0, .int .u64 0, .int .u64 0, .int .u64 0, .int .i64 0]) ?_ 0 _ rfl; refine z2_ ?_; exact BK138.out) hb); have n2_ := Aside0.mk (below_step (z3_ HB.out) hb); clear BK131; clear BK138; clear HB; have BK131 := n0_; have BK138 := n1_; have HB := n2_; clear n0_ n1_ n2_; (try clear hb); (try clear hb2); (try clear hk); (try clear hi); have hcz33_0 := z4_ BK131.out 0 (.int .i64 a1_0) rfl; have hcz33_1 := z4_ BK131.out 1 (.bool a1_1) rfl; have hcz33_2 := z4_ BK131.out 2 (.int .i64 a1_2) rfl; have hcz33_3 := z4_ BK131.out 3 (.int .u64 a1_3) rfl; have hcz33_4 := z4_ BK131.out 4 (.int .u64 a1_4) rfl; have hcz33_5 := z4_ BK131.out 5 (.bool a1_5) rfl; have hfz33_0 := blk_frozen BK131.out 0; have hfz33_1 := blk_frozen BK131.out 1; have hfz33_2 := blk_frozen BK131.out 2; have hfz33_3 := blk_frozen BK131.out 3; have hfz33_4 := blk_frozen BK131.out 4; have hfz33_5 := blk_frozen BK131.out 5; have hcz34_0 := z4_ BK138.out 0 (.int .i64 t132) rfl; have hcz34_1 := z4_ BK138.out 1 (.int .u64 t133) rfl; have hcz34_2 := z4_ BK138.out 2 (.int .u64 t134) rfl; have hcz34_3 := z4_ BK138.out 3 (.int .u64 t135) rfl; have hcz34_4 := z4_ BK138.out 4 (.int .i64 t136) rfl; have hfz34_0 := blk_frozen BK138.out 0; have hfz34_1 := blk_frozen BK138.out 1; have hfz34_2 := blk_frozen BK138.out 2; have hfz34_3 := blk_frozen BK138.out 3; have hfz34_4 := blk_frozen BK138.out 4))
        go_ret3
        exact ⟨by first | rfl | (simp [errW_none, errW_some] <;> rfl) | (simp [*, errW_none, errW_some] <;> rfl), by repeat (first | (with_reducible first | exact HB.out | apply below_alloc | apply pw_below_drewN | apply below_drew1 | refine below_set ?_ GE131.out | refine below_set ?_ GE138.out) | exact HB.out)⟩
       ·rw [if_neg c29] at H
        have c29b0 : decide (a1_2 < (wrap64 (-t136))) = false := decide_eq_false c29
        clear c29
        by_cases c35 : a1_2 = (wrap64 (-t136))
        ·rw [if_pos c35] at H
         have c35b0 : (a1_2 == (wrap64 (-t136))) = true := beq_iff_eq.mpr c35
         have c35b1 : (a1_2 != (wrap64 (-t136))) = false := bne_eq_false_iff_eq.mpr c35
         clear c35
         by_cases c36 : a1_3 = 9223372036854775808
         ·rw [if_pos c36] at H
          have c36b0 : (a1_3 == 9223372036854775808) = true := beq_iff_eq.mpr c36
          have c36b1 : (a1_3 != 9223372036854775808) = false := bne_eq_false_iff_eq.mpr c36
          clear c36
          by_cases c37 : a1_4 = 0
          ·rw [if_pos c37] at H
           have c37b0 : (a1_4 == 0) = true := beq_iff_eq.mpr c37
           have c37b1 : (a1_4 != 0) = false := bne_eq_false_iff_eq.mpr c37
           clear c37
           by_cases c38 : a1_5 = true
           ·subst c38
            have H1 : (round_Cut.j0 k a0 a1_0 a1_1 a1_2 a1_3 a1_4 true) = some (r1, r2, r3) := by rw [if_pos rfl] at H; exact H
            clear H
            have H := H1
            clear H1
            have H' := Aside0.mk H
            clear H
            have hnb39 := NB131_138.out
            have hnc39 := NB138_131.out
            have hcz40_0 := z4_ BK131.out 0 (.int .i64 a1_0) rfl
            have hcz40_1 := z4_ BK131.out 1 (.bool a1_1) rfl
            have hcz40_2 := z4_ BK131.out 2 (.int .i64 a1_2) rfl
            have hcz40_3 := z4_ BK131.out 3 (.int .u64 a1_3) rfl
            have hcz40_4 := z4_ BK131.out 4 (.int .u64 a1_4) rfl
            have hcz40_5 := z4_ BK131.out 5 (.bool true) rfl
            have hfz40_0 := blk_frozen BK131.out 0
            have hfz40_1 := blk_frozen BK131.out 1
            have hfz40_2 := blk_frozen BK131.out 2
            have hfz40_3 := blk_frozen BK131.out 3
            have hfz40_4 := blk_frozen BK131.out 4
            have hfz40_5 := blk_frozen BK131.out 5
            go_wp2_with (first | ((with_reducible refine gate_callee (f := 28) rfl ?_); refine goesL_ (some 29) rfl rfl Try.func28 (by kernel_rfl) rfl #[.agg #[.int .i64 a1_0, .bool a1_1, .int .i64 a1_2, .int .u64 a1_3, .int .u64 a1_4, .bool true]] rfl z5_ ?_; (with_reducible refine (round_sound.calls k a1_0 a1_1 a1_2 a1_3 a1_4 true true _ A10.out).mono ?_); rintro e w41 ⟨rfl, hb⟩; refine ⟨_, rfl, ?_⟩; have n0_ := Aside0.mk (blk_below (g := gb131) (o := .cells #[.int .i64 a1_0, .bool a1_1, .int .i64 a1_2, .int .u64 a1_3, .int .u64 a1_4, .bool true] 24 (0, 0)) (by refine z2_ ?_; refine blk_far ?_ NB131_138.out _; refine z2_ ?_; refine blk_far ?_ NB131_138.out _; refine z2_ ?_; refine blk_far ?_ NB131_138.out _; refine z2_ ?_; refine blk_far ?_ NB131_138.out _; refine z2_ ?_; refine blk_far ?_ NB131_138.out _; refine z2_ ?_; exact BK131.out) hb); have n1_ := Aside0.mk (blk_below (g := gb138) (o := .cells #[.int .i64 t132, .int .u64 t133, .int .u64 t134, .int .u64 t135, .int .i64 t136] 60 (0, 0)) (by refine z2_ ?_; refine blk_put (cs := #[.int .i64 t132, .int .u64 t133, .int .u64 t134, .int .u64 t135, .int .i64 0]) ?_ 4 _ rfl; refine z2_ ?_; refine blk_put (cs := #[.int .i64 t132, .int .u64 t133, .int .u64 t134, .int .u64 0, .int .i64 0]) ?_ 3 _ rfl; refine z2_ ?_; refine blk_put (cs := #[.int .i64 t132, .int .u64 t133, .int .u64 0, .int .u64 0, .int .i64 0]) ?_ 2 _ rfl; refine z2_ ?_; refine blk_put (cs := #[.int .i64 t132, .int .u64 0, .int .u64 0, .int .u64 0, .int .i64 0]) ?_ 1 _ rfl; refine z2_ ?_; refine blk_put (cs := #[.int .i64 0, .int .u64 0, .int .u64 0, .int .u64 0, .int .i64 0]) ?_ 0 _ rfl; refine z2_ ?_; exact BK138.out) hb); have n2_ := Aside0.mk (below_step (z3_ HB.out) hb); clear BK131; clear BK138; clear HB; have BK131 := n0_; have BK138 := n1_; have HB := n2_; clear n0_ n1_ n2_; (try clear hb); (try clear hb2); (try clear hk); (try clear hi); have hcz42_0 := z4_ BK131.out 0 (.int .i64 a1_0) rfl; have hcz42_1 := z4_ BK131.out 1 (.bool a1_1) rfl; have hcz42_2 := z4_ BK131.out 2 (.int .i64 a1_2) rfl; have hcz42_3 := z4_ BK131.out 3 (.int .u64 a1_3) rfl; have hcz42_4 := z4_ BK131.out 4 (.int .u64 a1_4) rfl; have hcz42_5 := z4_ BK131.out 5 (.bool true) rfl; have hfz42_0 := blk_frozen BK131.out 0; have hfz42_1 := blk_frozen BK131.out 1; have hfz42_2 := blk_frozen BK131.out 2; have hfz42_3 := blk_frozen BK131.out 3; have hfz42_4 := blk_frozen BK131.out 4; have hfz42_5 := blk_frozen BK131.out 5; have hcz43_0 := z4_ BK138.out 0 (.int .i64 t132) rfl; have hcz43_1 := z4_ BK138.out 1 (.int .u64 t133) rfl; have hcz43_2 := z4_ BK138.out 2 (.int .u64 t134) rfl; have hcz43_3 := z4_ BK138.out 3 (.int .u64 t135) rfl; have hcz43_4 := z4_ BK138.out 4 (.int .i64 t136) rfl; have hfz43_0 := blk_frozen BK138.out 0; have hfz43_1 := blk_frozen BK138.out 1; have hfz43_2 := blk_frozen BK138.out 2; have hfz43_3 := blk_frozen BK138.out 3; have hfz43_4 := blk_frozen BK138.out 4))
            go_meet
            case rel => exact ⟨_, H', ⟨by first | omega | exact Nat.le_refl _⟩, ⟨by refine z2_ ?_; exact BK131.out⟩, ⟨by refine z2_ ?_; exact BK138.out⟩, ⟨by repeat (first | (with_reducible first | exact HB.out | apply below_alloc | apply pw_below_drewN | apply below_drew1 | refine below_set ?_ GE131.out | refine below_set ?_ GE138.out) | exact HB.out)⟩⟩
           ·replace c38 := Bool.eq_false_iff.mpr c38
            subst c38
            have H1 : (some (t134, 0, none)) = some (r1, r2, r3) := by rw [if_neg (show ¬ (false = true) by decide)] at H; exact H
            clear H
            have H := H1
            clear H1
            simp only [Option.some.injEq, Prod.mk.injEq] at H
            obtain ⟨rfl, rfl, rfl⟩ := H
            have hnb44 := NB131_138.out
            have hnc44 := NB138_131.out
            have hcz45_0 := z4_ BK131.out 0 (.int .i64 a1_0) rfl
            have hcz45_1 := z4_ BK131.out 1 (.bool a1_1) rfl
            have hcz45_2 := z4_ BK131.out 2 (.int .i64 a1_2) rfl
            have hcz45_3 := z4_ BK131.out 3 (.int .u64 a1_3) rfl
            have hcz45_4 := z4_ BK131.out 4 (.int .u64 a1_4) rfl
            have hcz45_5 := z4_ BK131.out 5 (.bool false) rfl
            have hfz45_0 := blk_frozen BK131.out 0
            have hfz45_1 := blk_frozen BK131.out 1
            have hfz45_2 := blk_frozen BK131.out 2
            have hfz45_3 := blk_frozen BK131.out 3
            have hfz45_4 := blk_frozen BK131.out 4
            have hfz45_5 := blk_frozen BK131.out 5
            go_wp2_with (first | ((with_reducible refine gate_callee (f := 28) rfl ?_); refine goesL_ (some 29) rfl rfl Try.func28 (by kernel_rfl) rfl #[.agg #[.int .i64 a1_0, .bool a1_1, .int .i64 a1_2, .int .u64 a1_3, .int .u64 a1_4, .bool false]] rfl z5_ ?_; (with_reducible refine (round_sound.calls k a1_0 a1_1 a1_2 a1_3 a1_4 false true _ A10.out).mono ?_); rintro e w46 ⟨rfl, hb⟩; refine ⟨_, rfl, ?_⟩; have n0_ := Aside0.mk (blk_below (g := gb131) (o := .cells #[.int .i64 a1_0, .bool a1_1, .int .i64 a1_2, .int .u64 a1_3, .int .u64 a1_4, .bool false] 24 (0, 0)) (by refine z2_ ?_; refine blk_far ?_ NB131_138.out _; refine z2_ ?_; refine blk_far ?_ NB131_138.out _; refine z2_ ?_; refine blk_far ?_ NB131_138.out _; refine z2_ ?_; refine blk_far ?_ NB131_138.out _; refine z2_ ?_; refine blk_far ?_ NB131_138.out _; refine z2_ ?_; exact BK131.out) hb); have n1_ := Aside0.mk (blk_below (g := gb138) (o := .cells #[.int .i64 t132, .int .u64 t133, .int .u64 t134, .int .u64 t135, .int .i64 t136] 60 (0, 0)) (by refine z2_ ?_; refine blk_put (cs := #[.int .i64 t132, .int .u64 t133, .int .u64 t134, .int .u64 t135, .int .i64 0]) ?_ 4 _ rfl; refine z2_ ?_; refine blk_put (cs := #[.int .i64 t132, .int .u64 t133, .int .u64 t134, .int .u64 0, .int .i64 0]) ?_ 3 _ rfl; refine z2_ ?_; refine blk_put (cs := #[.int .i64 t132, .int .u64 t133, .int .u64 0, .int .u64 0, .int .i64 0]) ?_ 2 _ rfl; refine z2_ ?_; refine blk_put (cs := #[.int .i64 t132, .int .u64 0, .int .u64 0, .int .u64 0, .int .i64 0]) ?_ 1 _ rfl; refine z2_ ?_; refine blk_put (cs := #[.int .i64 0, .int .u64 0, .int .u64 0, .int .u64 0, .int .i64 0]) ?_ 0 _ rfl; refine z2_ ?_; exact BK138.out) hb); have n2_ := Aside0.mk (below_step (z3_ HB.out) hb); clear BK131; clear BK138; clear HB; have BK131 := n0_; have BK138 := n1_; have HB := n2_; clear n0_ n1_ n2_; (try clear hb); (try clear hb2); (try clear hk); (try clear hi); have hcz47_0 := z4_ BK131.out 0 (.int .i64 a1_0) rfl; have hcz47_1 := z4_ BK131.out 1 (.bool a1_1) rfl; have hcz47_2 := z4_ BK131.out 2 (.int .i64 a1_2) rfl; have hcz47_3 := z4_ BK131.out 3 (.int .u64 a1_3) rfl; have hcz47_4 := z4_ BK131.out 4 (.int .u64 a1_4) rfl; have hcz47_5 := z4_ BK131.out 5 (.bool false) rfl; have hfz47_0 := blk_frozen BK131.out 0; have hfz47_1 := blk_frozen BK131.out 1; have hfz47_2 := blk_frozen BK131.out 2; have hfz47_3 := blk_frozen BK131.out 3; have hfz47_4 := blk_frozen BK131.out 4; have hfz47_5 := blk_frozen BK131.out 5; have hcz48_0 := z4_ BK138.out 0 (.int .i64 t132) rfl; have hcz48_1 := z4_ BK138.out 1 (.int .u64 t133) rfl; have hcz48_2 := z4_ BK138.out 2 (.int .u64 t134) rfl; have hcz48_3 := z4_ BK138.out 3 (.int .u64 t135) rfl; have hcz48_4 := z4_ BK138.out 4 (.int .i64 t136) rfl; have hfz48_0 := blk_frozen BK138.out 0; have hfz48_1 := blk_frozen BK138.out 1; have hfz48_2 := blk_frozen BK138.out 2; have hfz48_3 := blk_frozen BK138.out 3; have hfz48_4 := blk_frozen BK138.out 4))
            go_ret3
            exact ⟨by first | rfl | (simp [errW_none, errW_some] <;> rfl) | (simp [*, errW_none, errW_some] <;> rfl), by repeat (first | (with_reducible first | exact HB.out | apply below_alloc | apply pw_below_drewN | apply below_drew1 | refine below_set ?_ GE131.out | refine below_set ?_ GE138.out) | exact HB.out)⟩
          ·rw [if_neg c37] at H
           have c37b0 : (a1_4 == 0) = false := beq_eq_false_iff_ne.mpr c37
           have c37b1 : (a1_4 != 0) = true := bne_iff_ne.mpr c37
           have H' := Aside0.mk H
           clear H
           have hnb49 := NB131_138.out
           have hnc49 := NB138_131.out
           have hcz50_0 := z4_ BK131.out 0 (.int .i64 a1_0) rfl
           have hcz50_1 := z4_ BK131.out 1 (.bool a1_1) rfl
           have hcz50_2 := z4_ BK131.out 2 (.int .i64 a1_2) rfl
           have hcz50_3 := z4_ BK131.out 3 (.int .u64 a1_3) rfl
           have hcz50_4 := z4_ BK131.out 4 (.int .u64 a1_4) rfl
           have hcz50_5 := z4_ BK131.out 5 (.bool a1_5) rfl
           have hfz50_0 := blk_frozen BK131.out 0
           have hfz50_1 := blk_frozen BK131.out 1
           have hfz50_2 := blk_frozen BK131.out 2
           have hfz50_3 := blk_frozen BK131.out 3
           have hfz50_4 := blk_frozen BK131.out 4
           have hfz50_5 := blk_frozen BK131.out 5
           go_wp2_with (first | ((with_reducible refine gate_callee (f := 28) rfl ?_); refine goesL_ (some 29) rfl rfl Try.func28 (by kernel_rfl) rfl #[.agg #[.int .i64 a1_0, .bool a1_1, .int .i64 a1_2, .int .u64 a1_3, .int .u64 a1_4, .bool a1_5]] rfl z5_ ?_; (with_reducible refine (round_sound.calls k a1_0 a1_1 a1_2 a1_3 a1_4 a1_5 true _ A10.out).mono ?_); rintro e w51 ⟨rfl, hb⟩; refine ⟨_, rfl, ?_⟩; have n0_ := Aside0.mk (blk_below (g := gb131) (o := .cells #[.int .i64 a1_0, .bool a1_1, .int .i64 a1_2, .int .u64 a1_3, .int .u64 a1_4, .bool a1_5] 24 (0, 0)) (by refine z2_ ?_; refine blk_far ?_ NB131_138.out _; refine z2_ ?_; refine blk_far ?_ NB131_138.out _; refine z2_ ?_; refine blk_far ?_ NB131_138.out _; refine z2_ ?_; refine blk_far ?_ NB131_138.out _; refine z2_ ?_; refine blk_far ?_ NB131_138.out _; refine z2_ ?_; exact BK131.out) hb); have n1_ := Aside0.mk (blk_below (g := gb138) (o := .cells #[.int .i64 t132, .int .u64 t133, .int .u64 t134, .int .u64 t135, .int .i64 t136] 60 (0, 0)) (by refine z2_ ?_; refine blk_put (cs := #[.int .i64 t132, .int .u64 t133, .int .u64 t134, .int .u64 t135, .int .i64 0]) ?_ 4 _ rfl; refine z2_ ?_; refine blk_put (cs := #[.int .i64 t132, .int .u64 t133, .int .u64 t134, .int .u64 0, .int .i64 0]) ?_ 3 _ rfl; refine z2_ ?_; refine blk_put (cs := #[.int .i64 t132, .int .u64 t133, .int .u64 0, .int .u64 0, .int .i64 0]) ?_ 2 _ rfl; refine z2_ ?_; refine blk_put (cs := #[.int .i64 t132, .int .u64 0, .int .u64 0, .int .u64 0, .int .i64 0]) ?_ 1 _ rfl; refine z2_ ?_; refine blk_put (cs := #[.int .i64 0, .int .u64 0, .int .u64 0, .int .u64 0, .int .i64 0]) ?_ 0 _ rfl; refine z2_ ?_; exact BK138.out) hb); have n2_ := Aside0.mk (below_step (z3_ HB.out) hb); clear BK131; clear BK138; clear HB; have BK131 := n0_; have BK138 := n1_; have HB := n2_; clear n0_ n1_ n2_; (try clear hb); (try clear hb2); (try clear hk); (try clear hi); have hcz52_0 := z4_ BK131.out 0 (.int .i64 a1_0) rfl; have hcz52_1 := z4_ BK131.out 1 (.bool a1_1) rfl; have hcz52_2 := z4_ BK131.out 2 (.int .i64 a1_2) rfl; have hcz52_3 := z4_ BK131.out 3 (.int .u64 a1_3) rfl; have hcz52_4 := z4_ BK131.out 4 (.int .u64 a1_4) rfl; have hcz52_5 := z4_ BK131.out 5 (.bool a1_5) rfl; have hfz52_0 := blk_frozen BK131.out 0; have hfz52_1 := blk_frozen BK131.out 1; have hfz52_2 := blk_frozen BK131.out 2; have hfz52_3 := blk_frozen BK131.out 3; have hfz52_4 := blk_frozen BK131.out 4; have hfz52_5 := blk_frozen BK131.out 5; have hcz53_0 := z4_ BK138.out 0 (.int .i64 t132) rfl; have hcz53_1 := z4_ BK138.out 1 (.int .u64 t133) rfl; have hcz53_2 := z4_ BK138.out 2 (.int .u64 t134) rfl; have hcz53_3 := z4_ BK138.out 3 (.int .u64 t135) rfl; have hcz53_4 := z4_ BK138.out 4 (.int .i64 t136) rfl; have hfz53_0 := blk_frozen BK138.out 0; have hfz53_1 := blk_frozen BK138.out 1; have hfz53_2 := blk_frozen BK138.out 2; have hfz53_3 := blk_frozen BK138.out 3; have hfz53_4 := blk_frozen BK138.out 4))
           go_meet
           case rel => exact ⟨_, H', ⟨by first | omega | exact Nat.le_refl _⟩, ⟨by refine z2_ ?_; exact BK131.out⟩, ⟨by refine z2_ ?_; exact BK138.out⟩, ⟨by repeat (first | (with_reducible first | exact HB.out | apply below_alloc | apply pw_below_drewN | apply below_drew1 | refine below_set ?_ GE131.out | refine below_set ?_ GE138.out) | exact HB.out)⟩⟩
         ·rw [if_neg c36] at H
          have c36b0 : (a1_3 == 9223372036854775808) = false := beq_eq_false_iff_ne.mpr c36
          have c36b1 : (a1_3 != 9223372036854775808) = true := bne_iff_ne.mpr c36
          have H' := Aside0.mk H
          clear H
          have hnb54 := NB131_138.out
          have hnc54 := NB138_131.out
          have hcz55_0 := z4_ BK131.out 0 (.int .i64 a1_0) rfl
          have hcz55_1 := z4_ BK131.out 1 (.bool a1_1) rfl
          have hcz55_2 := z4_ BK131.out 2 (.int .i64 a1_2) rfl
          have hcz55_3 := z4_ BK131.out 3 (.int .u64 a1_3) rfl
          have hcz55_4 := z4_ BK131.out 4 (.int .u64 a1_4) rfl
          have hcz55_5 := z4_ BK131.out 5 (.bool a1_5) rfl
          have hfz55_0 := blk_frozen BK131.out 0
          have hfz55_1 := blk_frozen BK131.out 1
          have hfz55_2 := blk_frozen BK131.out 2
          have hfz55_3 := blk_frozen BK131.out 3
          have hfz55_4 := blk_frozen BK131.out 4
          have hfz55_5 := blk_frozen BK131.out 5
          go_wp2_with (first | ((with_reducible refine gate_callee (f := 28) rfl ?_); refine goesL_ (some 29) rfl rfl Try.func28 (by kernel_rfl) rfl #[.agg #[.int .i64 a1_0, .bool a1_1, .int .i64 a1_2, .int .u64 a1_3, .int .u64 a1_4, .bool a1_5]] rfl z5_ ?_; (with_reducible refine (round_sound.calls k a1_0 a1_1 a1_2 a1_3 a1_4 a1_5 true _ A10.out).mono ?_); rintro e w56 ⟨rfl, hb⟩; refine ⟨_, rfl, ?_⟩; have n0_ := Aside0.mk (blk_below (g := gb131) (o := .cells #[.int .i64 a1_0, .bool a1_1, .int .i64 a1_2, .int .u64 a1_3, .int .u64 a1_4, .bool a1_5] 24 (0, 0)) (by refine z2_ ?_; refine blk_far ?_ NB131_138.out _; refine z2_ ?_; refine blk_far ?_ NB131_138.out _; refine z2_ ?_; refine blk_far ?_ NB131_138.out _; refine z2_ ?_; refine blk_far ?_ NB131_138.out _; refine z2_ ?_; refine blk_far ?_ NB131_138.out _; refine z2_ ?_; exact BK131.out) hb); have n1_ := Aside0.mk (blk_below (g := gb138) (o := .cells #[.int .i64 t132, .int .u64 t133, .int .u64 t134, .int .u64 t135, .int .i64 t136] 60 (0, 0)) (by refine z2_ ?_; refine blk_put (cs := #[.int .i64 t132, .int .u64 t133, .int .u64 t134, .int .u64 t135, .int .i64 0]) ?_ 4 _ rfl; refine z2_ ?_; refine blk_put (cs := #[.int .i64 t132, .int .u64 t133, .int .u64 t134, .int .u64 0, .int .i64 0]) ?_ 3 _ rfl; refine z2_ ?_; refine blk_put (cs := #[.int .i64 t132, .int .u64 t133, .int .u64 0, .int .u64 0, .int .i64 0]) ?_ 2 _ rfl; refine z2_ ?_; refine blk_put (cs := #[.int .i64 t132, .int .u64 0, .int .u64 0, .int .u64 0, .int .i64 0]) ?_ 1 _ rfl; refine z2_ ?_; refine blk_put (cs := #[.int .i64 0, .int .u64 0, .int .u64 0, .int .u64 0, .int .i64 0]) ?_ 0 _ rfl; refine z2_ ?_; exact BK138.out) hb); have n2_ := Aside0.mk (below_step (z3_ HB.out) hb); clear BK131; clear BK138; clear HB; have BK131 := n0_; have BK138 := n1_; have HB := n2_; clear n0_ n1_ n2_; (try clear hb); (try clear hb2); (try clear hk); (try clear hi); have hcz57_0 := z4_ BK131.out 0 (.int .i64 a1_0) rfl; have hcz57_1 := z4_ BK131.out 1 (.bool a1_1) rfl; have hcz57_2 := z4_ BK131.out 2 (.int .i64 a1_2) rfl; have hcz57_3 := z4_ BK131.out 3 (.int .u64 a1_3) rfl; have hcz57_4 := z4_ BK131.out 4 (.int .u64 a1_4) rfl; have hcz57_5 := z4_ BK131.out 5 (.bool a1_5) rfl; have hfz57_0 := blk_frozen BK131.out 0; have hfz57_1 := blk_frozen BK131.out 1; have hfz57_2 := blk_frozen BK131.out 2; have hfz57_3 := blk_frozen BK131.out 3; have hfz57_4 := blk_frozen BK131.out 4; have hfz57_5 := blk_frozen BK131.out 5; have hcz58_0 := z4_ BK138.out 0 (.int .i64 t132) rfl; have hcz58_1 := z4_ BK138.out 1 (.int .u64 t133) rfl; have hcz58_2 := z4_ BK138.out 2 (.int .u64 t134) rfl; have hcz58_3 := z4_ BK138.out 3 (.int .u64 t135) rfl; have hcz58_4 := z4_ BK138.out 4 (.int .i64 t136) rfl; have hfz58_0 := blk_frozen BK138.out 0; have hfz58_1 := blk_frozen BK138.out 1; have hfz58_2 := blk_frozen BK138.out 2; have hfz58_3 := blk_frozen BK138.out 3; have hfz58_4 := blk_frozen BK138.out 4))
          go_meet
          case rel => exact ⟨_, H', ⟨by first | omega | exact Nat.le_refl _⟩, ⟨by refine z2_ ?_; exact BK131.out⟩, ⟨by refine z2_ ?_; exact BK138.out⟩, ⟨by repeat (first | (with_reducible first | exact HB.out | apply below_alloc | apply pw_below_drewN | apply below_drew1 | refine below_set ?_ GE131.out | refine below_set ?_ GE138.out) | exact HB.out)⟩⟩
        ·rw [if_neg c35] at H
         have c35b0 : (a1_2 == (wrap64 (-t136))) = false := beq_eq_false_iff_ne.mpr c35
         have c35b1 : (a1_2 != (wrap64 (-t136))) = true := bne_iff_ne.mpr c35
         have H' := Aside0.mk H
         clear H
         have hnb59 := NB131_138.out
         have hnc59 := NB138_131.out
         have hcz60_0 := z4_ BK131.out 0 (.int .i64 a1_0) rfl
         have hcz60_1 := z4_ BK131.out 1 (.bool a1_1) rfl
         have hcz60_2 := z4_ BK131.out 2 (.int .i64 a1_2) rfl
         have hcz60_3 := z4_ BK131.out 3 (.int .u64 a1_3) rfl
         have hcz60_4 := z4_ BK131.out 4 (.int .u64 a1_4) rfl
         have hcz60_5 := z4_ BK131.out 5 (.bool a1_5) rfl
         have hfz60_0 := blk_frozen BK131.out 0
         have hfz60_1 := blk_frozen BK131.out 1
         have hfz60_2 := blk_frozen BK131.out 2
         have hfz60_3 := blk_frozen BK131.out 3
         have hfz60_4 := blk_frozen BK131.out 4
         have hfz60_5 := blk_frozen BK131.out 5
         go_wp2_with (first | ((with_reducible refine gate_callee (f := 28) rfl ?_); refine goesL_ (some 29) rfl rfl Try.func28 (by kernel_rfl) rfl #[.agg #[.int .i64 a1_0, .bool a1_1, .int .i64 a1_2, .int .u64 a1_3, .int .u64 a1_4, .bool a1_5]] rfl z5_ ?_; (with_reducible refine (round_sound.calls k a1_0 a1_1 a1_2 a1_3 a1_4 a1_5 true _ A10.out).mono ?_); rintro e w61 ⟨rfl, hb⟩; refine ⟨_, rfl, ?_⟩; have n0_ := Aside0.mk (blk_below (g := gb131) (o := .cells #[.int .i64 a1_0, .bool a1_1, .int .i64 a1_2, .int .u64 a1_3, .int .u64 a1_4, .bool a1_5] 24 (0, 0)) (by refine z2_ ?_; refine blk_far ?_ NB131_138.out _; refine z2_ ?_; refine blk_far ?_ NB131_138.out _; refine z2_ ?_; refine blk_far ?_ NB131_138.out _; refine z2_ ?_; refine blk_far ?_ NB131_138.out _; refine z2_ ?_; refine blk_far ?_ NB131_138.out _; refine z2_ ?_; exact BK131.out) hb); have n1_ := Aside0.mk (blk_below (g := gb138) (o := .cells #[.int .i64 t132, .int .u64 t133, .int .u64 t134, .int .u64 t135, .int .i64 t136] 60 (0, 0)) (by refine z2_ ?_; refine blk_put (cs := #[.int .i64 t132, .int .u64 t133, .int .u64 t134, .int .u64 t135, .int .i64 0]) ?_ 4 _ rfl; refine z2_ ?_; refine blk_put (cs := #[.int .i64 t132, .int .u64 t133, .int .u64 t134, .int .u64 0, .int .i64 0]) ?_ 3 _ rfl; refine z2_ ?_; refine blk_put (cs := #[.int .i64 t132, .int .u64 t133, .int .u64 0, .int .u64 0, .int .i64 0]) ?_ 2 _ rfl; refine z2_ ?_; refine blk_put (cs := #[.int .i64 t132, .int .u64 0, .int .u64 0, .int .u64 0, .int .i64 0]) ?_ 1 _ rfl; refine z2_ ?_; refine blk_put (cs := #[.int .i64 0, .int .u64 0, .int .u64 0, .int .u64 0, .int .i64 0]) ?_ 0 _ rfl; refine z2_ ?_; exact BK138.out) hb); have n2_ := Aside0.mk (below_step (z3_ HB.out) hb); clear BK131; clear BK138; clear HB; have BK131 := n0_; have BK138 := n1_; have HB := n2_; clear n0_ n1_ n2_; (try clear hb); (try clear hb2); (try clear hk); (try clear hi); have hcz62_0 := z4_ BK131.out 0 (.int .i64 a1_0) rfl; have hcz62_1 := z4_ BK131.out 1 (.bool a1_1) rfl; have hcz62_2 := z4_ BK131.out 2 (.int .i64 a1_2) rfl; have hcz62_3 := z4_ BK131.out 3 (.int .u64 a1_3) rfl; have hcz62_4 := z4_ BK131.out 4 (.int .u64 a1_4) rfl; have hcz62_5 := z4_ BK131.out 5 (.bool a1_5) rfl; have hfz62_0 := blk_frozen BK131.out 0; have hfz62_1 := blk_frozen BK131.out 1; have hfz62_2 := blk_frozen BK131.out 2; have hfz62_3 := blk_frozen BK131.out 3; have hfz62_4 := blk_frozen BK131.out 4; have hfz62_5 := blk_frozen BK131.out 5; have hcz63_0 := z4_ BK138.out 0 (.int .i64 t132) rfl; have hcz63_1 := z4_ BK138.out 1 (.int .u64 t133) rfl; have hcz63_2 := z4_ BK138.out 2 (.int .u64 t134) rfl; have hcz63_3 := z4_ BK138.out 3 (.int .u64 t135) rfl; have hcz63_4 := z4_ BK138.out 4 (.int .i64 t136) rfl; have hfz63_0 := blk_frozen BK138.out 0; have hfz63_1 := blk_frozen BK138.out 1; have hfz63_2 := blk_frozen BK138.out 2; have hfz63_3 := blk_frozen BK138.out 3; have hfz63_4 := blk_frozen BK138.out 4))
         go_meet
         case rel => exact ⟨_, H', ⟨by first | omega | exact Nat.le_refl _⟩, ⟨by refine z2_ ?_; exact BK131.out⟩, ⟨by refine z2_ ?_; exact BK138.out⟩, ⟨by repeat (first | (with_reducible first | exact HB.out | apply below_alloc | apply pw_below_drewN | apply below_drew1 | refine below_set ?_ GE131.out | refine below_set ?_ GE138.out) | exact HB.out)⟩⟩
   ·replace c11 := Bool.eq_false_iff.mpr c11
    subst c11
    have H1 : (some (0, 0, some 1)) = some (r1, r2, r3) := by rw [if_neg (show ¬ (false = true) by decide)] at H; exact H
    clear H
    have H := H1
    clear H1
    simp only [Option.some.injEq, Prod.mk.injEq] at H
    obtain ⟨rfl, rfl, rfl⟩ := H
    have hnb64 := NB131_138.out
    have hnc64 := NB138_131.out
    have hcz65_0 := z4_ BK131.out 0 (.int .i64 a1_0) rfl
    have hcz65_1 := z4_ BK131.out 1 (.bool a1_1) rfl
    have hcz65_2 := z4_ BK131.out 2 (.int .i64 a1_2) rfl
    have hcz65_3 := z4_ BK131.out 3 (.int .u64 a1_3) rfl
    have hcz65_4 := z4_ BK131.out 4 (.int .u64 a1_4) rfl
    have hcz65_5 := z4_ BK131.out 5 (.bool a1_5) rfl
    have hfz65_0 := blk_frozen BK131.out 0
    have hfz65_1 := blk_frozen BK131.out 1
    have hfz65_2 := blk_frozen BK131.out 2
    have hfz65_3 := blk_frozen BK131.out 3
    have hfz65_4 := blk_frozen BK131.out 4
    have hfz65_5 := blk_frozen BK131.out 5
    go_wp2_with (first | ((with_reducible refine gate_callee (f := 28) rfl ?_); refine goesL_ (some 29) rfl rfl Try.func28 (by kernel_rfl) rfl #[.agg #[.int .i64 a1_0, .bool a1_1, .int .i64 a1_2, .int .u64 a1_3, .int .u64 a1_4, .bool a1_5]] rfl z5_ ?_; (with_reducible refine (round_sound.calls k a1_0 a1_1 a1_2 a1_3 a1_4 a1_5 false _ A10.out).mono ?_); rintro e w66 ⟨rfl, hb⟩; refine ⟨_, rfl, ?_⟩; have n0_ := Aside0.mk (blk_below (g := gb131) (o := .cells #[.int .i64 a1_0, .bool a1_1, .int .i64 a1_2, .int .u64 a1_3, .int .u64 a1_4, .bool a1_5] 24 (0, 0)) (by refine z2_ ?_; refine blk_far ?_ NB131_138.out _; refine z2_ ?_; refine blk_far ?_ NB131_138.out _; refine z2_ ?_; refine blk_far ?_ NB131_138.out _; refine z2_ ?_; refine blk_far ?_ NB131_138.out _; refine z2_ ?_; refine blk_far ?_ NB131_138.out _; refine z2_ ?_; exact BK131.out) hb); have n1_ := Aside0.mk (blk_below (g := gb138) (o := .cells #[.int .i64 t132, .int .u64 t133, .int .u64 t134, .int .u64 t135, .int .i64 t136] 60 (0, 0)) (by refine z2_ ?_; refine blk_put (cs := #[.int .i64 t132, .int .u64 t133, .int .u64 t134, .int .u64 t135, .int .i64 0]) ?_ 4 _ rfl; refine z2_ ?_; refine blk_put (cs := #[.int .i64 t132, .int .u64 t133, .int .u64 t134, .int .u64 0, .int .i64 0]) ?_ 3 _ rfl; refine z2_ ?_; refine blk_put (cs := #[.int .i64 t132, .int .u64 t133, .int .u64 0, .int .u64 0, .int .i64 0]) ?_ 2 _ rfl; refine z2_ ?_; refine blk_put (cs := #[.int .i64 t132, .int .u64 0, .int .u64 0, .int .u64 0, .int .i64 0]) ?_ 1 _ rfl; refine z2_ ?_; refine blk_put (cs := #[.int .i64 0, .int .u64 0, .int .u64 0, .int .u64 0, .int .i64 0]) ?_ 0 _ rfl; refine z2_ ?_; exact BK138.out) hb); have n2_ := Aside0.mk (below_step (z3_ HB.out) hb); clear BK131; clear BK138; clear HB; have BK131 := n0_; have BK138 := n1_; have HB := n2_; clear n0_ n1_ n2_; (try clear hb); (try clear hb2); (try clear hk); (try clear hi)))
    go_ret3
    exact ⟨by first | rfl | (simp [errW_none, errW_some] <;> rfl) | (simp [*, errW_none, errW_some] <;> rfl), by repeat (first | (with_reducible first | exact HB.out | apply below_alloc | apply pw_below_drewN | apply below_drew1 | refine below_set ?_ GE131.out | refine below_set ?_ GE138.out) | exact HB.out)⟩
  ·have H1 : (some (0, 0, some q139)) = some (r1, r2, r3) := by rw [if_neg (show ¬ (some q139).isNone = true by simp)] at H; exact H
   clear H
   have H := H1
   clear H1
   try simp only [errW_none, errW_some]
   simp only [Option.some.injEq, Prod.mk.injEq] at H
   obtain ⟨rfl, rfl, rfl⟩ := H
   go_wp2
   go_ret3
   exact ⟨by first | rfl | (simp [errW_none, errW_some] <;> rfl) | (simp [*, errW_none, errW_some] <;> rfl), by repeat (first | (with_reducible first | exact HB.out | apply below_alloc | apply pw_below_drewN | apply below_drew1 | refine below_set ?_ GE131.out | refine below_set ?_ GE138.out) | exact HB.out)⟩
 case rest =>
  clear HC4
  try clear c1
  try clear q1
  try clear c2
  try clear p2
  try clear c3
  try clear c4
  try clear c5
  try clear c6
  try clear p6
  try clear c8
  try clear c11
  try clear c12
  try clear c12b0
  try clear c12b1
  try clear c13
  try clear q13
  try clear c17
  try clear c17b0
  try clear c17b1
  try clear c18
  try clear c23
  try clear c23b0
  try clear c24
  try clear c27
  try clear c28
  try clear c29
  try clear c29b0
  try clear c30
  try clear c35
  try clear c35b0
  try clear c35b1
  try clear c36
  try clear c36b0
  try clear c36b1
  try clear c37
  try clear c37b0
  try clear c37b1
  try clear c38
  try clear c39
  try clear c44
  try clear c49
  try clear c54
  try clear c59
  try clear c64
  try clear p64
  try clear hcz14_0
  try clear hcz14_1
  try clear hcz14_2
  try clear hcz14_3
  try clear hcz14_4
  try clear hcz14_5
  try clear hcz16_0
  try clear hcz16_1
  try clear hcz16_2
  try clear hcz16_3
  try clear hcz16_4
  try clear hcz16_5
  try clear hcz19_0
  try clear hcz19_1
  try clear hcz19_2
  try clear hcz19_3
  try clear hcz19_4
  try clear hcz19_5
  try clear hcz21_0
  try clear hcz21_1
  try clear hcz21_2
  try clear hcz21_3
  try clear hcz21_4
  try clear hcz21_5
  try clear hcz22_0
  try clear hcz22_1
  try clear hcz22_2
  try clear hcz22_3
  try clear hcz22_4
  try clear hcz25_0
  try clear hcz25_1
  try clear hcz25_2
  try clear hcz25_3
  try clear hcz25_4
  try clear hcz25_5
  try clear hcz27_0
  try clear hcz27_1
  try clear hcz27_2
  try clear hcz27_3
  try clear hcz27_4
  try clear hcz27_5
  try clear hcz28_0
  try clear hcz28_1
  try clear hcz28_2
  try clear hcz28_3
  try clear hcz28_4
  try clear hcz31_0
  try clear hcz31_1
  try clear hcz31_2
  try clear hcz31_3
  try clear hcz31_4
  try clear hcz31_5
  try clear hcz33_0
  try clear hcz33_1
  try clear hcz33_2
  try clear hcz33_3
  try clear hcz33_4
  try clear hcz33_5
  try clear hcz34_0
  try clear hcz34_1
  try clear hcz34_2
  try clear hcz34_3
  try clear hcz34_4
  try clear hcz40_0
  try clear hcz40_1
  try clear hcz40_2
  try clear hcz40_3
  try clear hcz40_4
  try clear hcz40_5
  try clear hcz42_0
  try clear hcz42_1
  try clear hcz42_2
  try clear hcz42_3
  try clear hcz42_4
  try clear hcz42_5
  try clear hcz43_0
  try clear hcz43_1
  try clear hcz43_2
  try clear hcz43_3
  try clear hcz43_4
  try clear hcz45_0
  try clear hcz45_1
  try clear hcz45_2
  try clear hcz45_3
  try clear hcz45_4
  try clear hcz45_5
  try clear hcz47_0
  try clear hcz47_1
  try clear hcz47_2
  try clear hcz47_3
  try clear hcz47_4
  try clear hcz47_5
  try clear hcz48_0
  try clear hcz48_1
  try clear hcz48_2
  try clear hcz48_3
  try clear hcz48_4
  try clear hcz50_0
  try clear hcz50_1
  try clear hcz50_2
  try clear hcz50_3
  try clear hcz50_4
  try clear hcz50_5
  try clear hcz52_0
  try clear hcz52_1
  try clear hcz52_2
  try clear hcz52_3
  try clear hcz52_4
  try clear hcz52_5
  try clear hcz53_0
  try clear hcz53_1
  try clear hcz53_2
  try clear hcz53_3
  try clear hcz53_4
  try clear hcz55_0
  try clear hcz55_1
  try clear hcz55_2
  try clear hcz55_3
  try clear hcz55_4
  try clear hcz55_5
  try clear hcz57_0
  try clear hcz57_1
  try clear hcz57_2
  try clear hcz57_3
  try clear hcz57_4
  try clear hcz57_5
  try clear hcz58_0
  try clear hcz58_1
  try clear hcz58_2
  try clear hcz58_3
  try clear hcz58_4
  try clear hcz60_0
  try clear hcz60_1
  try clear hcz60_2
  try clear hcz60_3
  try clear hcz60_4
  try clear hcz60_5
  try clear hcz62_0
  try clear hcz62_1
  try clear hcz62_2
  try clear hcz62_3
  try clear hcz62_4
  try clear hcz62_5
  try clear hcz63_0
  try clear hcz63_1
  try clear hcz63_2
  try clear hcz63_3
  try clear hcz63_4
  try clear hcz65_0
  try clear hcz65_1
  try clear hcz65_2
  try clear hcz65_3
  try clear hcz65_4
  try clear hcz65_5
  try clear hcz9_0
  try clear hcz9_1
  try clear hcz9_2
  try clear hcz9_3
  try clear hcz9_4
  try clear hfz14_0
  try clear hfz14_1
  try clear hfz14_2
  try clear hfz14_3
  try clear hfz14_4
  try clear hfz14_5
  try clear hfz16_0
  try clear hfz16_1
  try clear hfz16_2
  try clear hfz16_3
  try clear hfz16_4
  try clear hfz16_5
  try clear hfz19_0
  try clear hfz19_1
  try clear hfz19_2
  try clear hfz19_3
  try clear hfz19_4
  try clear hfz19_5
  try clear hfz21_0
  try clear hfz21_1
  try clear hfz21_2
  try clear hfz21_3
  try clear hfz21_4
  try clear hfz21_5
  try clear hfz22_0
  try clear hfz22_1
  try clear hfz22_2
  try clear hfz22_3
  try clear hfz22_4
  try clear hfz25_0
  try clear hfz25_1
  try clear hfz25_2
  try clear hfz25_3
  try clear hfz25_4
  try clear hfz25_5
  try clear hfz27_0
  try clear hfz27_1
  try clear hfz27_2
  try clear hfz27_3
  try clear hfz27_4
  try clear hfz27_5
  try clear hfz28_0
  try clear hfz28_1
  try clear hfz28_2
  try clear hfz28_3
  try clear hfz28_4
  try clear hfz31_0
  try clear hfz31_1
  try clear hfz31_2
  try clear hfz31_3
  try clear hfz31_4
  try clear hfz31_5
  try clear hfz33_0
  try clear hfz33_1
  try clear hfz33_2
  try clear hfz33_3
  try clear hfz33_4
  try clear hfz33_5
  try clear hfz34_0
  try clear hfz34_1
  try clear hfz34_2
  try clear hfz34_3
  try clear hfz34_4
  try clear hfz40_0
  try clear hfz40_1
  try clear hfz40_2
  try clear hfz40_3
  try clear hfz40_4
  try clear hfz40_5
  try clear hfz42_0
  try clear hfz42_1
  try clear hfz42_2
  try clear hfz42_3
  try clear hfz42_4
  try clear hfz42_5
  try clear hfz43_0
  try clear hfz43_1
  try clear hfz43_2
  try clear hfz43_3
  try clear hfz43_4
  try clear hfz45_0
  try clear hfz45_1
  try clear hfz45_2
  try clear hfz45_3
  try clear hfz45_4
  try clear hfz45_5
  try clear hfz47_0
  try clear hfz47_1
  try clear hfz47_2
  try clear hfz47_3
  try clear hfz47_4
  try clear hfz47_5
  try clear hfz48_0
  try clear hfz48_1
  try clear hfz48_2
  try clear hfz48_3
  try clear hfz48_4
  try clear hfz50_0
  try clear hfz50_1
  try clear hfz50_2
  try clear hfz50_3
  try clear hfz50_4
  try clear hfz50_5
  try clear hfz52_0
  try clear hfz52_1
  try clear hfz52_2
  try clear hfz52_3
  try clear hfz52_4
  try clear hfz52_5
  try clear hfz53_0
  try clear hfz53_1
  try clear hfz53_2
  try clear hfz53_3
  try clear hfz53_4
  try clear hfz55_0
  try clear hfz55_1
  try clear hfz55_2
  try clear hfz55_3
  try clear hfz55_4
  try clear hfz55_5
  try clear hfz57_0
  try clear hfz57_1
  try clear hfz57_2
  try clear hfz57_3
  try clear hfz57_4
  try clear hfz57_5
  try clear hfz58_0
  try clear hfz58_1
  try clear hfz58_2
  try clear hfz58_3
  try clear hfz58_4
  try clear hfz60_0
  try clear hfz60_1
  try clear hfz60_2
  try clear hfz60_3
  try clear hfz60_4
  try clear hfz60_5
  try clear hfz62_0
  try clear hfz62_1
  try clear hfz62_2
  try clear hfz62_3
  try clear hfz62_4
  try clear hfz62_5
  try clear hfz63_0
  try clear hfz63_1
  try clear hfz63_2
  try clear hfz63_3
  try clear hfz63_4
  try clear hfz65_0
  try clear hfz65_1
  try clear hfz65_2
  try clear hfz65_3
  try clear hfz65_4
  try clear hfz65_5
  try clear hfz9_0
  try clear hfz9_1
  try clear hfz9_2
  try clear hfz9_3
  try clear hfz9_4
  try clear q139
  obtain ⟨kq, HA, HJ3, BK131, BK138, HB⟩ := hcut
  cases kq with
  | zero => exact absurd HA.out (by simp [round_Cut.j0])
  | succ kj3 =>
   have H := HA.out
   clear HA
   simp only [round_Cut.j0] at H
   replace H := Option.bind_eq_some_iff.mp H
   obtain ⟨⟨t141, t142, t143, t144⟩, A670, H⟩ := H
   replace H : ((round_under.f t141 t142 (IntKind.u64.wrap (Go.bits .and .i64 a1_2 3)) 2 a1_5).bind fun bt146 => (if (a1_2 / 4) ≥ 0 then ((round_under.f bt146.1 bt146.2.1 0 1 bt146.2.2).bind fun bt149 => (round_Cut.l0 kj3 a0 bt149.2.2 (wrap64 ((a1_2 / 4) + 1)) 0 bt149.1 bt149.2.1)) else ((round_under.f bt146.1 bt146.2.1 1 1 bt146.2.2).bind fun bt155 => (round_Cut.l1 kj3 a0 bt155.2.2 (wrap64 (-(a1_2 / 4))) 0 bt155.1 bt155.2.1)))) = some (r1, r2, r3) := H
   have A67 := Aside0.mk A670
   clear A670
   replace H := Option.bind_eq_some_iff.mp H
   obtain ⟨⟨t146, t147, t148⟩, A680, H⟩ := H
   replace H : (if (a1_2 / 4) ≥ 0 then ((round_under.f t146 t147 0 1 t148).bind fun bt149 => (round_Cut.l0 kj3 a0 bt149.2.2 (wrap64 ((a1_2 / 4) + 1)) 0 bt149.1 bt149.2.1)) else ((round_under.f t146 t147 1 1 t148).bind fun bt155 => (round_Cut.l1 kj3 a0 bt155.2.2 (wrap64 (-(a1_2 / 4))) 0 bt155.1 bt155.2.1))) = some (r1, r2, r3) := H
   have A68 := Aside0.mk A680
   clear A680
   have HC69 := Aside0.mk H
   clear H
   have hnb70 := NB131_138.out
   have hnc70 := NB138_131.out
   have hcz71_0 := z4_ BK131.out 0 (.int .i64 a1_0) rfl
   have hcz71_1 := z4_ BK131.out 1 (.bool a1_1) rfl
   have hcz71_2 := z4_ BK131.out 2 (.int .i64 a1_2) rfl
   have hcz71_3 := z4_ BK131.out 3 (.int .u64 a1_3) rfl
   have hcz71_4 := z4_ BK131.out 4 (.int .u64 a1_4) rfl
   have hcz71_5 := z4_ BK131.out 5 (.bool a1_5) rfl
   have hfz71_0 := blk_frozen BK131.out 0
   have hfz71_1 := blk_frozen BK131.out 1
   have hfz71_2 := blk_frozen BK131.out 2
   have hfz71_3 := blk_frozen BK131.out 3
   have hfz71_4 := blk_frozen BK131.out 4
   have hfz71_5 := blk_frozen BK131.out 5
   go_upto_if 106 with (first | ((with_reducible refine gate_callee (f := 29) rfl ?_); refine goesL_ (some 86) rfl rfl Try.func29 (by kernel_rfl) rfl #[.agg #[.int .u64 a1_3, .int .u64 a1_4], .int .i64 1] rfl z5_ ?_; (with_reducible refine (twin_Shl.calls a1_3 a1_4 1 t141 t142 t143 t144 _ A67.out).mono ?_); rintro e w72 ⟨rfl, hb⟩; refine ⟨_, rfl, ?_⟩; have n0_ := Aside0.mk (blk_below (g := gb131) (z1_ BK131.out) hb); have n1_ := Aside0.mk (blk_below (g := gb138) (z1_ BK138.out) hb); have n2_ := Aside0.mk (below_step (z3_ HB.out) hb); clear BK131; clear BK138; clear HB; have BK131 := n0_; have BK138 := n1_; have HB := n2_; clear n0_ n1_ n2_; (try clear hb); (try clear hb2); (try clear hk); (try clear hi); (try simp only [errW_none, errW_some])) | ((with_reducible refine gate_dst (N := 9) rfl ?_); refine box_event ?hg (N := 9) ?hd (cs := #[.int .u64 0, .int .u64 0]) (t := 64) ?hr ?_; (case hd => rfl); (case hg => rfl); (case hr => first | (go_simp; done) | (go_simp; rfl)); intro gb145 hg w73 hbox hb; have n0_ := Aside0.mk (blk_below (g := gb131) (z1_ BK131.out) hb); have n1_ := Aside0.mk (blk_below (g := gb138) (z1_ BK138.out) hb); have n2_ := Aside0.mk (below_step (z3_ HB.out) hb); have n3_ := Aside0.mk (hbox); have n4_ := Aside0.mk ((by rw [hg]; exact (below_size (z3_ HB.out)) : w.heap.size ≤ gb145)); have n5_ := Aside0.mk ((by rw [hg]; exact (below_size (z3_ HB.out)) : w.heap.size ≤ gb145)); have n6_ := Aside0.mk ((by rw [hg]; exact Nat.ne_of_lt (blk_lt (g := gb131) (o := .cells #[.int .i64 a1_0, .bool a1_1, .int .i64 a1_2, .int .u64 a1_3, .int .u64 a1_4, .bool a1_5] 24 (0, 0)) (z1_ BK131.out)) : gb131 ≠ gb145)); have n7_ := Aside0.mk ((by rw [hg]; exact Nat.ne_of_gt (blk_lt (g := gb131) (o := .cells #[.int .i64 a1_0, .bool a1_1, .int .i64 a1_2, .int .u64 a1_3, .int .u64 a1_4, .bool a1_5] 24 (0, 0)) (z1_ BK131.out)) : gb145 ≠ gb131)); have n8_ := Aside0.mk ((by rw [hg]; exact Nat.ne_of_lt (blk_lt (g := gb138) (o := .cells #[.int .i64 t132, .int .u64 t133, .int .u64 t134, .int .u64 t135, .int .i64 t136] 60 (0, 0)) (z1_ BK138.out)) : gb138 ≠ gb145)); have n9_ := Aside0.mk ((by rw [hg]; exact Nat.ne_of_gt (blk_lt (g := gb138) (o := .cells #[.int .i64 t132, .int .u64 t133, .int .u64 t134, .int .u64 t135, .int .i64 t136] 60 (0, 0)) (z1_ BK138.out)) : gb145 ≠ gb138)); clear BK131; clear BK138; clear HB; have BK131 := n0_; have BK138 := n1_; have HB := n2_; have BK145 := n3_; have GW145 := n4_; have GE145 := n5_; have NB131_145 := n6_; have NB145_131 := n7_; have NB138_145 := n8_; have NB145_138 := n9_; clear n0_ n1_ n2_ n3_ n4_ n5_ n6_ n7_ n8_ n9_; clear hb hbox hg; have hnb74 := NB145_131.out; have hnc74 := NB131_145.out; have hnb75 := NB145_138.out; have hnc75 := NB138_145.out; have hcz76_0 := z4_ BK145.out 0 (.int .u64 0) rfl; have hcz76_1 := z4_ BK145.out 1 (.int .u64 0) rfl; have hfz76_0 := blk_frozen BK145.out 0; have hfz76_1 := blk_frozen BK145.out 1; have hcz77_0 := z4_ BK131.out 0 (.int .i64 a1_0) rfl; have hcz77_1 := z4_ BK131.out 1 (.bool a1_1) rfl; have hcz77_2 := z4_ BK131.out 2 (.int .i64 a1_2) rfl; have hcz77_3 := z4_ BK131.out 3 (.int .u64 a1_3) rfl; have hcz77_4 := z4_ BK131.out 4 (.int .u64 a1_4) rfl; have hcz77_5 := z4_ BK131.out 5 (.bool a1_5) rfl; have hfz77_0 := blk_frozen BK131.out 0; have hfz77_1 := blk_frozen BK131.out 1; have hfz77_2 := blk_frozen BK131.out 2; have hfz77_3 := blk_frozen BK131.out 3; have hfz77_4 := blk_frozen BK131.out 4; have hfz77_5 := blk_frozen BK131.out 5) | ((with_reducible refine gate_callee (f := 30) rfl ?_); refine goesL_ (some 102) rfl rfl Try.func30 (by kernel_rfl) rfl #[.agg #[.int .u64 t141, .int .u64 t142], .int .u64 (IntKind.u64.wrap (Go.bits .and .i64 a1_2 3)), .int .i64 2, .bool a1_5] rfl z5_ ?_; (with_reducible refine (round_under.calls t141 t142 (IntKind.u64.wrap (Go.bits .and .i64 a1_2 3)) 2 a1_5 t146 t147 t148 _ A68.out).mono ?_); rintro e w78 ⟨rfl, hb⟩; refine ⟨_, rfl, ?_⟩; have n0_ := Aside0.mk (blk_below (g := gb131) (o := .cells #[.int .i64 a1_0, .bool a1_1, .int .i64 a1_2, .int .u64 a1_3, .int .u64 a1_4, .bool a1_5] 24 (0, 0)) (by refine z2_ ?_; refine blk_far ?_ NB131_145.out _; refine z2_ ?_; refine blk_far ?_ NB131_145.out _; refine z2_ ?_; exact BK131.out) hb); have n1_ := Aside0.mk (blk_below (g := gb138) (o := .cells #[.int .i64 t132, .int .u64 t133, .int .u64 t134, .int .u64 t135, .int .i64 t136] 60 (0, 0)) (by refine z2_ ?_; refine blk_far ?_ NB138_145.out _; refine z2_ ?_; refine blk_far ?_ NB138_145.out _; refine z2_ ?_; exact BK138.out) hb); have n2_ := Aside0.mk (blk_below (g := gb145) (o := .cells #[.int .u64 t141, .int .u64 t142] 64 (0, 0)) (by refine z2_ ?_; refine blk_put (cs := #[.int .u64 t141, .int .u64 0]) ?_ 1 _ rfl; refine z2_ ?_; refine blk_put (cs := #[.int .u64 0, .int .u64 0]) ?_ 0 _ rfl; refine z2_ ?_; exact BK145.out) hb); have n3_ := Aside0.mk (below_step (z3_ HB.out) hb); clear BK131; clear BK138; clear BK145; clear HB; have BK131 := n0_; have BK138 := n1_; have BK145 := n2_; have HB := n3_; clear n0_ n1_ n2_ n3_; (try clear hb); (try clear hb2); (try clear hk); (try clear hi); have hcz79_0 := z4_ BK145.out 0 (.int .u64 t141) rfl; have hcz79_1 := z4_ BK145.out 1 (.int .u64 t142) rfl; have hfz79_0 := blk_frozen BK145.out 0; have hfz79_1 := blk_frozen BK145.out 1))
   (try simp only [Act.put, List.setIfInBounds_toArray, List.set_cons_zero, List.set_cons_succ])
   go_cut [12] (fun v12 wc => ∃ (kq : Nat) (x12_68 : Bool) (x146000_68 : Int) (x146001_68 : Int), v12 = .bool x12_68 ∧ Aside0 (round_Cut.j3 kq a0 x12_68 x146000_68 x146001_68 = some (r1, r2, r3)) ∧ Aside0 (kq ≤ kj3) ∧ Aside0 (wc.heap[gb131]? = some (.cells #[.int .i64 a1_0, .bool a1_1, .int .i64 a1_2, .int .u64 a1_3, .int .u64 a1_4, .bool a1_5] 24 (0, 0))) ∧ Aside0 (wc.heap[gb138]? = some (.cells #[.int .i64 t132, .int .u64 t133, .int .u64 t134, .int .u64 t135, .int .i64 t136] 60 (0, 0))) ∧ Aside0 (wc.heap[gb145]? = some (.cells #[.int .u64 x146000_68, .int .u64 x146001_68] 64 (0, 0))) ∧ Aside0 (Below w.heap.size w wc))
   case first =>
    have H := HC69.out
    clear HC69
    by_cases c80 : (a1_2 / 4) ≥ 0
    ·rw [if_pos c80] at H
     have c80b0 : decide (0 ≤ (a1_2 / 4)) = true := decide_eq_true c80
     clear c80
     (first | rw [c80b0] | (simp only [i64_w, i32_w]; rw [c80b0]) | skip)
     replace H := Option.bind_eq_some_iff.mp H
     obtain ⟨⟨t149, t150, t151⟩, A810, H⟩ := H
     replace H : (round_Cut.l0 kj3 a0 t151 (wrap64 ((a1_2 / 4) + 1)) 0 t149 t150) = some (r1, r2, r3) := H
     have A81 := Aside0.mk A810
     clear A810
     have H' := Aside0.mk H
     clear H
     have hnb82 := NB145_131.out
     have hnc82 := NB131_145.out
     have hnb83 := NB145_138.out
     have hnc83 := NB138_145.out
     have hcz84_0 := z4_ BK145.out 0 (.int .u64 t141) rfl
     have hcz84_1 := z4_ BK145.out 1 (.int .u64 t142) rfl
     have hfz84_0 := blk_frozen BK145.out 0
     have hfz84_1 := blk_frozen BK145.out 1
     go_wp2_with (first | ((with_reducible refine gate_callee (f := 30) rfl ?_); refine goesL_ (some 110) rfl rfl Try.func30 (by kernel_rfl) rfl #[.agg #[.int .u64 t146, .int .u64 t147], .int .u64 0, .int .i64 1, .bool t148] rfl z5_ ?_; (with_reducible refine (round_under.calls t146 t147 0 1 t148 t149 t150 t151 _ A81.out).mono ?_); rintro e w85 ⟨rfl, hb⟩; refine ⟨_, rfl, ?_⟩; have n0_ := Aside0.mk (blk_below (g := gb131) (o := .cells #[.int .i64 a1_0, .bool a1_1, .int .i64 a1_2, .int .u64 a1_3, .int .u64 a1_4, .bool a1_5] 24 (0, 0)) (by refine z2_ ?_; refine blk_far ?_ NB131_145.out _; refine z2_ ?_; refine blk_far ?_ NB131_145.out _; refine z2_ ?_; exact BK131.out) hb); have n1_ := Aside0.mk (blk_below (g := gb138) (o := .cells #[.int .i64 t132, .int .u64 t133, .int .u64 t134, .int .u64 t135, .int .i64 t136] 60 (0, 0)) (by refine z2_ ?_; refine blk_far ?_ NB138_145.out _; refine z2_ ?_; refine blk_far ?_ NB138_145.out _; refine z2_ ?_; exact BK138.out) hb); have n2_ := Aside0.mk (blk_below (g := gb145) (o := .cells #[.int .u64 t146, .int .u64 t147] 64 (0, 0)) (by refine z2_ ?_; refine blk_put (cs := #[.int .u64 t146, .int .u64 t142]) ?_ 1 _ rfl; refine z2_ ?_; refine blk_put (cs := #[.int .u64 t141, .int .u64 t142]) ?_ 0 _ rfl; refine z2_ ?_; exact BK145.out) hb); have n3_ := Aside0.mk (below_step (z3_ HB.out) hb); clear BK131; clear BK138; clear BK145; clear HB; have BK131 := n0_; have BK138 := n1_; have BK145 := n2_; have HB := n3_; clear n0_ n1_ n2_ n3_; (try clear hb); (try clear hb2); (try clear hk); (try clear hi); have hcz86_0 := z4_ BK145.out 0 (.int .u64 t146) rfl; have hcz86_1 := z4_ BK145.out 1 (.int .u64 t147) rfl; have hfz86_0 := blk_frozen BK145.out 0; have hfz86_1 := blk_frozen BK145.out 1))
     go_loopg [12, 115] kj3 (fun kq v12 v115 w' => ∃ (x12_2 : Bool) (x115_2 : Int) (x146000_2 : Int) (x146001_2 : Int), v12 = .bool x12_2 ∧ v115 = .int .i64 x115_2 ∧ Aside0 (round_Cut.l0 kq a0 x12_2 (wrap64 ((a1_2 / 4) + 1)) x115_2 x146000_2 x146001_2 = some (r1, r2, r3)) ∧ Aside0 (kq ≤ kj3) ∧ Aside0 (w'.heap[gb131]? = some (.cells #[.int .i64 a1_0, .bool a1_1, .int .i64 a1_2, .int .u64 a1_3, .int .u64 a1_4, .bool a1_5] 24 (0, 0))) ∧ Aside0 (w'.heap[gb138]? = some (.cells #[.int .i64 t132, .int .u64 t133, .int .u64 t134, .int .u64 t135, .int .i64 t136] 60 (0, 0))) ∧ Aside0 (w'.heap[gb145]? = some (.cells #[.int .u64 x146000_2, .int .u64 x146001_2] 64 (0, 0))) ∧ Aside0 (Below w.heap.size w w'))
     case atStart => exact ⟨(t151), (0), (t149), (t150), (by first | rfl | (simp; done) | (simp [*]; done)), (by first | rfl | (simp; done) | (simp [*]; done)), H', ⟨Nat.le_refl _⟩, ⟨by refine z2_ ?_; refine blk_far ?_ NB131_145.out _; refine z2_ ?_; refine blk_far ?_ NB131_145.out _; refine z2_ ?_; exact BK131.out⟩, ⟨by refine z2_ ?_; refine blk_far ?_ NB138_145.out _; refine z2_ ?_; refine blk_far ?_ NB138_145.out _; refine z2_ ?_; exact BK138.out⟩, ⟨by refine z2_ ?_; refine blk_put (cs := #[.int .u64 t149, .int .u64 t147]) ?_ 1 _ rfl; refine z2_ ?_; refine blk_put (cs := #[.int .u64 t146, .int .u64 t147]) ?_ 0 _ rfl; refine z2_ ?_; exact BK145.out⟩, ⟨by repeat (first | (with_reducible first | exact HB.out | apply below_alloc | apply pw_below_drewN | apply below_drew1 | refine below_set ?_ GE131.out | refine below_set ?_ GE138.out | refine below_set ?_ GE145.out) | exact HB.out)⟩⟩
     case round =>
      clear H'
      try clear c1
      try clear q1
      try clear c2
      try clear p2
      try clear c3
      try clear c4
      try clear c5
      try clear c6
      try clear p6
      try clear c7
      try clear c8
      try clear c11
      try clear c12
      try clear c12b0
      try clear c12b1
      try clear c13
      try clear q13
      try clear c17
      try clear c17b0
      try clear c17b1
      try clear c18
      try clear c23
      try clear c23b0
      try clear c24
      try clear c27
      try clear c28
      try clear c29
      try clear c29b0
      try clear c30
      try clear c35
      try clear c35b0
      try clear c35b1
      try clear c36
      try clear c36b0
      try clear c36b1
      try clear c37
      try clear c37b0
      try clear c37b1
      try clear c38
      try clear c39
      try clear c44
      try clear c49
      try clear c54
      try clear c59
      try clear c64
      try clear p64
      try clear c70
      try clear c74
      try clear c75
      try clear c80
      try clear c80b0
      try clear c82
      try clear c83
      try clear hcz14_0
      try clear hcz14_1
      try clear hcz14_2
      try clear hcz14_3
      try clear hcz14_4
      try clear hcz14_5
      try clear hcz16_0
      try clear hcz16_1
      try clear hcz16_2
      try clear hcz16_3
      try clear hcz16_4
      try clear hcz16_5
      try clear hcz19_0
      try clear hcz19_1
      try clear hcz19_2
      try clear hcz19_3
      try clear hcz19_4
      try clear hcz19_5
      try clear hcz21_0
      try clear hcz21_1
      try clear hcz21_2
      try clear hcz21_3
      try clear hcz21_4
      try clear hcz21_5
      try clear hcz22_0
      try clear hcz22_1
      try clear hcz22_2
      try clear hcz22_3
      try clear hcz22_4
      try clear hcz25_0
      try clear hcz25_1
      try clear hcz25_2
      try clear hcz25_3
      try clear hcz25_4
      try clear hcz25_5
      try clear hcz27_0
      try clear hcz27_1
      try clear hcz27_2
      try clear hcz27_3
      try clear hcz27_4
      try clear hcz27_5
      try clear hcz28_0
      try clear hcz28_1
      try clear hcz28_2
      try clear hcz28_3
      try clear hcz28_4
      try clear hcz31_0
      try clear hcz31_1
      try clear hcz31_2
      try clear hcz31_3
      try clear hcz31_4
      try clear hcz31_5
      try clear hcz33_0
      try clear hcz33_1
      try clear hcz33_2
      try clear hcz33_3
      try clear hcz33_4
      try clear hcz33_5
      try clear hcz34_0
      try clear hcz34_1
      try clear hcz34_2
      try clear hcz34_3
      try clear hcz34_4
      try clear hcz40_0
      try clear hcz40_1
      try clear hcz40_2
      try clear hcz40_3
      try clear hcz40_4
      try clear hcz40_5
      try clear hcz42_0
      try clear hcz42_1
      try clear hcz42_2
      try clear hcz42_3
      try clear hcz42_4
      try clear hcz42_5
      try clear hcz43_0
      try clear hcz43_1
      try clear hcz43_2
      try clear hcz43_3
      try clear hcz43_4
      try clear hcz45_0
      try clear hcz45_1
      try clear hcz45_2
      try clear hcz45_3
      try clear hcz45_4
      try clear hcz45_5
      try clear hcz47_0
      try clear hcz47_1
      try clear hcz47_2
      try clear hcz47_3
      try clear hcz47_4
      try clear hcz47_5
      try clear hcz48_0
      try clear hcz48_1
      try clear hcz48_2
      try clear hcz48_3
      try clear hcz48_4
      try clear hcz50_0
      try clear hcz50_1
      try clear hcz50_2
      try clear hcz50_3
      try clear hcz50_4
      try clear hcz50_5
      try clear hcz52_0
      try clear hcz52_1
      try clear hcz52_2
      try clear hcz52_3
      try clear hcz52_4
      try clear hcz52_5
      try clear hcz53_0
      try clear hcz53_1
      try clear hcz53_2
      try clear hcz53_3
      try clear hcz53_4
      try clear hcz55_0
      try clear hcz55_1
      try clear hcz55_2
      try clear hcz55_3
      try clear hcz55_4
      try clear hcz55_5
      try clear hcz57_0
      try clear hcz57_1
      try clear hcz57_2
      try clear hcz57_3
      try clear hcz57_4
      try clear hcz57_5
      try clear hcz58_0
      try clear hcz58_1
      try clear hcz58_2
      try clear hcz58_3
      try clear hcz58_4
      try clear hcz60_0
      try clear hcz60_1
      try clear hcz60_2
      try clear hcz60_3
      try clear hcz60_4
      try clear hcz60_5
      try clear hcz62_0
      try clear hcz62_1
      try clear hcz62_2
      try clear hcz62_3
      try clear hcz62_4
      try clear hcz62_5
      try clear hcz63_0
      try clear hcz63_1
      try clear hcz63_2
      try clear hcz63_3
      try clear hcz63_4
      try clear hcz65_0
      try clear hcz65_1
      try clear hcz65_2
      try clear hcz65_3
      try clear hcz65_4
      try clear hcz65_5
      try clear hcz71_0
      try clear hcz71_1
      try clear hcz71_2
      try clear hcz71_3
      try clear hcz71_4
      try clear hcz71_5
      try clear hcz76_0
      try clear hcz76_1
      try clear hcz77_0
      try clear hcz77_1
      try clear hcz77_2
      try clear hcz77_3
      try clear hcz77_4
      try clear hcz77_5
      try clear hcz79_0
      try clear hcz79_1
      try clear hcz84_0
      try clear hcz84_1
      try clear hcz86_0
      try clear hcz86_1
      try clear hcz9_0
      try clear hcz9_1
      try clear hcz9_2
      try clear hcz9_3
      try clear hcz9_4
      try clear hfz14_0
      try clear hfz14_1
      try clear hfz14_2
      try clear hfz14_3
      try clear hfz14_4
      try clear hfz14_5
      try clear hfz16_0
      try clear hfz16_1
      try clear hfz16_2
      try clear hfz16_3
      try clear hfz16_4
      try clear hfz16_5
      try clear hfz19_0
      try clear hfz19_1
      try clear hfz19_2
      try clear hfz19_3
      try clear hfz19_4
      try clear hfz19_5
      try clear hfz21_0
      try clear hfz21_1
      try clear hfz21_2
      try clear hfz21_3
      try clear hfz21_4
      try clear hfz21_5
      try clear hfz22_0
      try clear hfz22_1
      try clear hfz22_2
      try clear hfz22_3
      try clear hfz22_4
      try clear hfz25_0
      try clear hfz25_1
      try clear hfz25_2
      try clear hfz25_3
      try clear hfz25_4
      try clear hfz25_5
      try clear hfz27_0
      try clear hfz27_1
      try clear hfz27_2
      try clear hfz27_3
      try clear hfz27_4
      try clear hfz27_5
      try clear hfz28_0
      try clear hfz28_1
      try clear hfz28_2
      try clear hfz28_3
      try clear hfz28_4
      try clear hfz31_0
      try clear hfz31_1
      try clear hfz31_2
      try clear hfz31_3
      try clear hfz31_4
      try clear hfz31_5
      try clear hfz33_0
      try clear hfz33_1
      try clear hfz33_2
      try clear hfz33_3
      try clear hfz33_4
      try clear hfz33_5
      try clear hfz34_0
      try clear hfz34_1
      try clear hfz34_2
      try clear hfz34_3
      try clear hfz34_4
      try clear hfz40_0
      try clear hfz40_1
      try clear hfz40_2
      try clear hfz40_3
      try clear hfz40_4
      try clear hfz40_5
      try clear hfz42_0
      try clear hfz42_1
      try clear hfz42_2
      try clear hfz42_3
      try clear hfz42_4
      try clear hfz42_5
      try clear hfz43_0
      try clear hfz43_1
      try clear hfz43_2
      try clear hfz43_3
      try clear hfz43_4
      try clear hfz45_0
      try clear hfz45_1
      try clear hfz45_2
      try clear hfz45_3
      try clear hfz45_4
      try clear hfz45_5
      try clear hfz47_0
      try clear hfz47_1
      try clear hfz47_2
      try clear hfz47_3
      try clear hfz47_4
      try clear hfz47_5
      try clear hfz48_0
      try clear hfz48_1
      try clear hfz48_2
      try clear hfz48_3
      try clear hfz48_4
      try clear hfz50_0
      try clear hfz50_1
      try clear hfz50_2
      try clear hfz50_3
      try clear hfz50_4
      try clear hfz50_5
      try clear hfz52_0
      try clear hfz52_1
      try clear hfz52_2
      try clear hfz52_3
      try clear hfz52_4
      try clear hfz52_5
      try clear hfz53_0
      try clear hfz53_1
      try clear hfz53_2
      try clear hfz53_3
      try clear hfz53_4
      try clear hfz55_0
      try clear hfz55_1
      try clear hfz55_2
      try clear hfz55_3
      try clear hfz55_4
      try clear hfz55_5
      try clear hfz57_0
      try clear hfz57_1
      try clear hfz57_2
      try clear hfz57_3
      try clear hfz57_4
      try clear hfz57_5
      try clear hfz58_0
      try clear hfz58_1
      try clear hfz58_2
      try clear hfz58_3
      try clear hfz58_4
      try clear hfz60_0
      try clear hfz60_1
      try clear hfz60_2
      try clear hfz60_3
      try clear hfz60_4
      try clear hfz60_5
      try clear hfz62_0
      try clear hfz62_1
      try clear hfz62_2
      try clear hfz62_3
      try clear hfz62_4
      try clear hfz62_5
      try clear hfz63_0
      try clear hfz63_1
      try clear hfz63_2
      try clear hfz63_3
      try clear hfz63_4
      try clear hfz65_0
      try clear hfz65_1
      try clear hfz65_2
      try clear hfz65_3
      try clear hfz65_4
      try clear hfz65_5
      try clear hfz71_0
      try clear hfz71_1
      try clear hfz71_2
      try clear hfz71_3
      try clear hfz71_4
      try clear hfz71_5
      try clear hfz76_0
      try clear hfz76_1
      try clear hfz77_0
      try clear hfz77_1
      try clear hfz77_2
      try clear hfz77_3
      try clear hfz77_4
      try clear hfz77_5
      try clear hfz79_0
      try clear hfz79_1
      try clear hfz84_0
      try clear hfz84_1
      try clear hfz86_0
      try clear hfz86_1
      try clear hfz9_0
      try clear hfz9_1
      try clear hfz9_2
      try clear hfz9_3
      try clear hfz9_4
      try clear p2
      try clear p6
      try clear p64
      try clear q1
      try clear q13
      try clear q139
      obtain ⟨x12_2, x115_2, x146000_2, x146001_2, rfl, rfl, HA, HK2, BK131, BK138, BK145, HB⟩ := hrel
      cases gk with
      | zero => exact absurd HA.out (by simp [round_Cut.l0])
      | succ k2 =>
       have H := HA.out
       clear HA
       simp only [round_Cut.l0] at H
       by_cases c87 : x115_2 < (wrap64 ((a1_2 / 4) + 1))
       ·rw [if_pos c87] at H
        have c87b0 : decide (x115_2 < (wrap64 ((a1_2 / 4) + 1))) = true := decide_eq_true c87
        clear c87
        replace H := Option.bind_eq_some_iff.mp H
        obtain ⟨⟨t152, t153, t154⟩, A880, H⟩ := H
        replace H : (round_Cut.l0 k2 a0 t154 (wrap64 ((a1_2 / 4) + 1)) (wrap64 (x115_2 + 1)) t152 t153) = some (r1, r2, r3) := H
        have A88 := Aside0.mk A880
        clear A880
        have H' := Aside0.mk H
        clear H
        have hnb89 := NB145_131.out
        have hnc89 := NB131_145.out
        have hnb90 := NB145_138.out
        have hnc90 := NB138_145.out
        have hcz91_0 := z4_ BK145.out 0 (.int .u64 x146000_2) rfl
        have hcz91_1 := z4_ BK145.out 1 (.int .u64 x146001_2) rfl
        have hfz91_0 := blk_frozen BK145.out 0
        have hfz91_1 := blk_frozen BK145.out 1
        go_wp2_with (first | ((with_reducible refine gate_callee (f := 30) rfl ?_); refine goesL_ (some 120) rfl rfl Try.func30 (by kernel_rfl) rfl #[.agg #[.int .u64 x146000_2, .int .u64 x146001_2], .int .u64 1, .int .i64 1, .bool x12_2] rfl z5_ ?_; (with_reducible refine (round_under.calls x146000_2 x146001_2 1 1 x12_2 t152 t153 t154 _ A88.out).mono ?_); rintro e w92 ⟨rfl, hb⟩; refine ⟨_, rfl, ?_⟩; have n0_ := Aside0.mk (blk_below (g := gb131) (z1_ BK131.out) hb); have n1_ := Aside0.mk (blk_below (g := gb138) (z1_ BK138.out) hb); have n2_ := Aside0.mk (blk_below (g := gb145) (z1_ BK145.out) hb); have n3_ := Aside0.mk (below_step (z3_ HB.out) hb); clear BK131; clear BK138; clear BK145; clear HB; have BK131 := n0_; have BK138 := n1_; have BK145 := n2_; have HB := n3_; clear n0_ n1_ n2_ n3_; (try clear hb); (try clear hb2); (try clear hk); (try clear hi); have hcz93_0 := z4_ BK145.out 0 (.int .u64 x146000_2) rfl; have hcz93_1 := z4_ BK145.out 1 (.int .u64 x146001_2) rfl; have hfz93_0 := blk_frozen BK145.out 0; have hfz93_1 := blk_frozen BK145.out 1))
        go_roundg k2
        case measure => have := HJ3.out; have := HK2.out; omega
        case rel => exact ⟨(t154), (wrap64 (x115_2 + 1)), (t152), (t153), (by first | rfl | (simp; done) | (simp [*]; done)), (by first | rfl | (simp; done) | (simp [*]; done)), H', ⟨by have := HJ3.out; have := HK2.out; omega⟩, ⟨by refine z2_ ?_; refine blk_far ?_ NB131_145.out _; refine z2_ ?_; refine blk_far ?_ NB131_145.out _; refine z2_ ?_; exact BK131.out⟩, ⟨by refine z2_ ?_; refine blk_far ?_ NB138_145.out _; refine z2_ ?_; refine blk_far ?_ NB138_145.out _; refine z2_ ?_; exact BK138.out⟩, ⟨by refine z2_ ?_; refine blk_put (cs := #[.int .u64 t152, .int .u64 x146001_2]) ?_ 1 _ rfl; refine z2_ ?_; refine blk_put (cs := #[.int .u64 x146000_2, .int .u64 x146001_2]) ?_ 0 _ rfl; refine z2_ ?_; exact BK145.out⟩, ⟨by repeat (first | (with_reducible first | exact HB.out | apply below_alloc | apply pw_below_drewN | apply below_drew1 | refine below_set ?_ GE131.out | refine below_set ?_ GE138.out | refine below_set ?_ GE145.out) | exact HB.out)⟩⟩
       ·rw [if_neg c87] at H
        have c87b0 : decide (x115_2 < (wrap64 ((a1_2 / 4) + 1))) = false := decide_eq_false c87
        clear c87
        have H' := Aside0.mk H
        clear H
        go_wp2
        go_meet
        case rel => exact ⟨_, (x12_2), (x146000_2), (x146001_2), (by first | rfl | (simp; done) | (simp [*]; done)), H', ⟨by have := HJ3.out; have := HK2.out; first | omega | exact Nat.le_refl _⟩, ⟨by refine z2_ ?_; exact BK131.out⟩, ⟨by refine z2_ ?_; exact BK138.out⟩, ⟨by refine z2_ ?_; exact BK145.out⟩, ⟨by repeat (first | (with_reducible first | exact HB.out | apply below_alloc | apply pw_below_drewN | apply below_drew1 | refine below_set ?_ GE131.out | refine below_set ?_ GE138.out | refine below_set ?_ GE145.out) | exact HB.out)⟩⟩
    ·rw [if_neg c80] at H
     have c80b0 : decide (0 ≤ (a1_2 / 4)) = false := decide_eq_false c80
     clear c80
     (first | rw [c80b0] | (simp only [i64_w, i32_w]; rw [c80b0]) | skip)
     replace H := Option.bind_eq_some_iff.mp H
     obtain ⟨⟨t155, t156, t157⟩, A940, H⟩ := H
     replace H : (round_Cut.l1 kj3 a0 t157 (wrap64 (-(a1_2 / 4))) 0 t155 t156) = some (r1, r2, r3) := H
     have A94 := Aside0.mk A940
     clear A940
     have H' := Aside0.mk H
     clear H
     have hnb95 := NB145_131.out
     have hnc95 := NB131_145.out
     have hnb96 := NB145_138.out
     have hnc96 := NB138_145.out
     have hcz97_0 := z4_ BK145.out 0 (.int .u64 t141) rfl
     have hcz97_1 := z4_ BK145.out 1 (.int .u64 t142) rfl
     have hfz97_0 := blk_frozen BK145.out 0
     have hfz97_1 := blk_frozen BK145.out 1
     go_wp2_with (first | ((with_reducible refine gate_callee (f := 30) rfl ?_); refine goesL_ (some 127) rfl rfl Try.func30 (by kernel_rfl) rfl #[.agg #[.int .u64 t146, .int .u64 t147], .int .u64 1, .int .i64 1, .bool t148] rfl z5_ ?_; (with_reducible refine (round_under.calls t146 t147 1 1 t148 t155 t156 t157 _ A94.out).mono ?_); rintro e w98 ⟨rfl, hb⟩; refine ⟨_, rfl, ?_⟩; have n0_ := Aside0.mk (blk_below (g := gb131) (o := .cells #[.int .i64 a1_0, .bool a1_1, .int .i64 a1_2, .int .u64 a1_3, .int .u64 a1_4, .bool a1_5] 24 (0, 0)) (by refine z2_ ?_; refine blk_far ?_ NB131_145.out _; refine z2_ ?_; refine blk_far ?_ NB131_145.out _; refine z2_ ?_; exact BK131.out) hb); have n1_ := Aside0.mk (blk_below (g := gb138) (o := .cells #[.int .i64 t132, .int .u64 t133, .int .u64 t134, .int .u64 t135, .int .i64 t136] 60 (0, 0)) (by refine z2_ ?_; refine blk_far ?_ NB138_145.out _; refine z2_ ?_; refine blk_far ?_ NB138_145.out _; refine z2_ ?_; exact BK138.out) hb); have n2_ := Aside0.mk (blk_below (g := gb145) (o := .cells #[.int .u64 t146, .int .u64 t147] 64 (0, 0)) (by refine z2_ ?_; refine blk_put (cs := #[.int .u64 t146, .int .u64 t142]) ?_ 1 _ rfl; refine z2_ ?_; refine blk_put (cs := #[.int .u64 t141, .int .u64 t142]) ?_ 0 _ rfl; refine z2_ ?_; exact BK145.out) hb); have n3_ := Aside0.mk (below_step (z3_ HB.out) hb); clear BK131; clear BK138; clear BK145; clear HB; have BK131 := n0_; have BK138 := n1_; have BK145 := n2_; have HB := n3_; clear n0_ n1_ n2_ n3_; (try clear hb); (try clear hb2); (try clear hk); (try clear hi); have hcz99_0 := z4_ BK145.out 0 (.int .u64 t146) rfl; have hcz99_1 := z4_ BK145.out 1 (.int .u64 t147) rfl; have hfz99_0 := blk_frozen BK145.out 0; have hfz99_1 := blk_frozen BK145.out 1))
     go_loopg [12, 132] kj3 (fun kq v12 v132 w' => ∃ (x12_2 : Bool) (x132_2 : Int) (x146000_2 : Int) (x146001_2 : Int), v12 = .bool x12_2 ∧ v132 = .int .i64 x132_2 ∧ Aside0 (round_Cut.l1 kq a0 x12_2 (wrap64 (-(a1_2 / 4))) x132_2 x146000_2 x146001_2 = some (r1, r2, r3)) ∧ Aside0 (kq ≤ kj3) ∧ Aside0 (w'.heap[gb131]? = some (.cells #[.int .i64 a1_0, .bool a1_1, .int .i64 a1_2, .int .u64 a1_3, .int .u64 a1_4, .bool a1_5] 24 (0, 0))) ∧ Aside0 (w'.heap[gb138]? = some (.cells #[.int .i64 t132, .int .u64 t133, .int .u64 t134, .int .u64 t135, .int .i64 t136] 60 (0, 0))) ∧ Aside0 (w'.heap[gb145]? = some (.cells #[.int .u64 x146000_2, .int .u64 x146001_2] 64 (0, 0))) ∧ Aside0 (Below w.heap.size w w'))
     case atStart => exact ⟨(t157), (0), (t155), (t156), (by first | rfl | (simp; done) | (simp [*]; done)), (by first | rfl | (simp; done) | (simp [*]; done)), H', ⟨Nat.le_refl _⟩, ⟨by refine z2_ ?_; refine blk_far ?_ NB131_145.out _; refine z2_ ?_; refine blk_far ?_ NB131_145.out _; refine z2_ ?_; exact BK131.out⟩, ⟨by refine z2_ ?_; refine blk_far ?_ NB138_145.out _; refine z2_ ?_; refine blk_far ?_ NB138_145.out _; refine z2_ ?_; exact BK138.out⟩, ⟨by refine z2_ ?_; refine blk_put (cs := #[.int .u64 t155, .int .u64 t147]) ?_ 1 _ rfl; refine z2_ ?_; refine blk_put (cs := #[.int .u64 t146, .int .u64 t147]) ?_ 0 _ rfl; refine z2_ ?_; exact BK145.out⟩, ⟨by repeat (first | (with_reducible first | exact HB.out | apply below_alloc | apply pw_below_drewN | apply below_drew1 | refine below_set ?_ GE131.out | refine below_set ?_ GE138.out | refine below_set ?_ GE145.out) | exact HB.out)⟩⟩
     case round =>
      clear H'
      try clear c1
      try clear q1
      try clear c2
      try clear p2
      try clear c3
      try clear c4
      try clear c5
      try clear c6
      try clear p6
      try clear c7
      try clear c8
      try clear c9
      try clear c11
      try clear c12
      try clear c12b0
      try clear c12b1
      try clear c13
      try clear q13
      try clear c17
      try clear c17b0
      try clear c17b1
      try clear c18
      try clear c23
      try clear c23b0
      try clear c24
      try clear c27
      try clear c28
      try clear c29
      try clear c29b0
      try clear c30
      try clear c35
      try clear c35b0
      try clear c35b1
      try clear c36
      try clear c36b0
      try clear c36b1
      try clear c37
      try clear c37b0
      try clear c37b1
      try clear c38
      try clear c39
      try clear c44
      try clear c49
      try clear c54
      try clear c59
      try clear c64
      try clear p64
      try clear c70
      try clear c74
      try clear c75
      try clear c80
      try clear c80b0
      try clear c82
      try clear c83
      try clear c87
      try clear c87b0
      try clear c89
      try clear c90
      try clear c95
      try clear c96
      try clear hcz14_0
      try clear hcz14_1
      try clear hcz14_2
      try clear hcz14_3
      try clear hcz14_4
      try clear hcz14_5
      try clear hcz16_0
      try clear hcz16_1
      try clear hcz16_2
      try clear hcz16_3
      try clear hcz16_4
      try clear hcz16_5
      try clear hcz19_0
      try clear hcz19_1
      try clear hcz19_2
      try clear hcz19_3
      try clear hcz19_4
      try clear hcz19_5
      try clear hcz21_0
      try clear hcz21_1
      try clear hcz21_2
      try clear hcz21_3
      try clear hcz21_4
      try clear hcz21_5
      try clear hcz22_0
      try clear hcz22_1
      try clear hcz22_2
      try clear hcz22_3
      try clear hcz22_4
      try clear hcz25_0
      try clear hcz25_1
      try clear hcz25_2
      try clear hcz25_3
      try clear hcz25_4
      try clear hcz25_5
      try clear hcz27_0
      try clear hcz27_1
      try clear hcz27_2
      try clear hcz27_3
      try clear hcz27_4
      try clear hcz27_5
      try clear hcz28_0
      try clear hcz28_1
      try clear hcz28_2
      try clear hcz28_3
      try clear hcz28_4
      try clear hcz31_0
      try clear hcz31_1
      try clear hcz31_2
      try clear hcz31_3
      try clear hcz31_4
      try clear hcz31_5
      try clear hcz33_0
      try clear hcz33_1
      try clear hcz33_2
      try clear hcz33_3
      try clear hcz33_4
      try clear hcz33_5
      try clear hcz34_0
      try clear hcz34_1
      try clear hcz34_2
      try clear hcz34_3
      try clear hcz34_4
      try clear hcz40_0
      try clear hcz40_1
      try clear hcz40_2
      try clear hcz40_3
      try clear hcz40_4
      try clear hcz40_5
      try clear hcz42_0
      try clear hcz42_1
      try clear hcz42_2
      try clear hcz42_3
      try clear hcz42_4
      try clear hcz42_5
      try clear hcz43_0
      try clear hcz43_1
      try clear hcz43_2
      try clear hcz43_3
      try clear hcz43_4
      try clear hcz45_0
      try clear hcz45_1
      try clear hcz45_2
      try clear hcz45_3
      try clear hcz45_4
      try clear hcz45_5
      try clear hcz47_0
      try clear hcz47_1
      try clear hcz47_2
      try clear hcz47_3
      try clear hcz47_4
      try clear hcz47_5
      try clear hcz48_0
      try clear hcz48_1
      try clear hcz48_2
      try clear hcz48_3
      try clear hcz48_4
      try clear hcz50_0
      try clear hcz50_1
      try clear hcz50_2
      try clear hcz50_3
      try clear hcz50_4
      try clear hcz50_5
      try clear hcz52_0
      try clear hcz52_1
      try clear hcz52_2
      try clear hcz52_3
      try clear hcz52_4
      try clear hcz52_5
      try clear hcz53_0
      try clear hcz53_1
      try clear hcz53_2
      try clear hcz53_3
      try clear hcz53_4
      try clear hcz55_0
      try clear hcz55_1
      try clear hcz55_2
      try clear hcz55_3
      try clear hcz55_4
      try clear hcz55_5
      try clear hcz57_0
      try clear hcz57_1
      try clear hcz57_2
      try clear hcz57_3
      try clear hcz57_4
      try clear hcz57_5
      try clear hcz58_0
      try clear hcz58_1
      try clear hcz58_2
      try clear hcz58_3
      try clear hcz58_4
      try clear hcz60_0
      try clear hcz60_1
      try clear hcz60_2
      try clear hcz60_3
      try clear hcz60_4
      try clear hcz60_5
      try clear hcz62_0
      try clear hcz62_1
      try clear hcz62_2
      try clear hcz62_3
      try clear hcz62_4
      try clear hcz62_5
      try clear hcz63_0
      try clear hcz63_1
      try clear hcz63_2
      try clear hcz63_3
      try clear hcz63_4
      try clear hcz65_0
      try clear hcz65_1
      try clear hcz65_2
      try clear hcz65_3
      try clear hcz65_4
      try clear hcz65_5
      try clear hcz71_0
      try clear hcz71_1
      try clear hcz71_2
      try clear hcz71_3
      try clear hcz71_4
      try clear hcz71_5
      try clear hcz76_0
      try clear hcz76_1
      try clear hcz77_0
      try clear hcz77_1
      try clear hcz77_2
      try clear hcz77_3
      try clear hcz77_4
      try clear hcz77_5
      try clear hcz79_0
      try clear hcz79_1
      try clear hcz84_0
      try clear hcz84_1
      try clear hcz86_0
      try clear hcz86_1
      try clear hcz91_0
      try clear hcz91_1
      try clear hcz93_0
      try clear hcz93_1
      try clear hcz97_0
      try clear hcz97_1
      try clear hcz99_0
      try clear hcz99_1
      try clear hcz9_0
      try clear hcz9_1
      try clear hcz9_2
      try clear hcz9_3
      try clear hcz9_4
      try clear hfz14_0
      try clear hfz14_1
      try clear hfz14_2
      try clear hfz14_3
      try clear hfz14_4
      try clear hfz14_5
      try clear hfz16_0
      try clear hfz16_1
      try clear hfz16_2
      try clear hfz16_3
      try clear hfz16_4
      try clear hfz16_5
      try clear hfz19_0
      try clear hfz19_1
      try clear hfz19_2
      try clear hfz19_3
      try clear hfz19_4
      try clear hfz19_5
      try clear hfz21_0
      try clear hfz21_1
      try clear hfz21_2
      try clear hfz21_3
      try clear hfz21_4
      try clear hfz21_5
      try clear hfz22_0
      try clear hfz22_1
      try clear hfz22_2
      try clear hfz22_3
      try clear hfz22_4
      try clear hfz25_0
      try clear hfz25_1
      try clear hfz25_2
      try clear hfz25_3
      try clear hfz25_4
      try clear hfz25_5
      try clear hfz27_0
      try clear hfz27_1
      try clear hfz27_2
      try clear hfz27_3
      try clear hfz27_4
      try clear hfz27_5
      try clear hfz28_0
      try clear hfz28_1
      try clear hfz28_2
      try clear hfz28_3
      try clear hfz28_4
      try clear hfz31_0
      try clear hfz31_1
      try clear hfz31_2
      try clear hfz31_3
      try clear hfz31_4
      try clear hfz31_5
      try clear hfz33_0
      try clear hfz33_1
      try clear hfz33_2
      try clear hfz33_3
      try clear hfz33_4
      try clear hfz33_5
      try clear hfz34_0
      try clear hfz34_1
      try clear hfz34_2
      try clear hfz34_3
      try clear hfz34_4
      try clear hfz40_0
      try clear hfz40_1
      try clear hfz40_2
      try clear hfz40_3
      try clear hfz40_4
      try clear hfz40_5
      try clear hfz42_0
      try clear hfz42_1
      try clear hfz42_2
      try clear hfz42_3
      try clear hfz42_4
      try clear hfz42_5
      try clear hfz43_0
      try clear hfz43_1
      try clear hfz43_2
      try clear hfz43_3
      try clear hfz43_4
      try clear hfz45_0
      try clear hfz45_1
      try clear hfz45_2
      try clear hfz45_3
      try clear hfz45_4
      try clear hfz45_5
      try clear hfz47_0
      try clear hfz47_1
      try clear hfz47_2
      try clear hfz47_3
      try clear hfz47_4
      try clear hfz47_5
      try clear hfz48_0
      try clear hfz48_1
      try clear hfz48_2
      try clear hfz48_3
      try clear hfz48_4
      try clear hfz50_0
      try clear hfz50_1
      try clear hfz50_2
      try clear hfz50_3
      try clear hfz50_4
      try clear hfz50_5
      try clear hfz52_0
      try clear hfz52_1
      try clear hfz52_2
      try clear hfz52_3
      try clear hfz52_4
      try clear hfz52_5
      try clear hfz53_0
      try clear hfz53_1
      try clear hfz53_2
      try clear hfz53_3
      try clear hfz53_4
      try clear hfz55_0
      try clear hfz55_1
      try clear hfz55_2
      try clear hfz55_3
      try clear hfz55_4
      try clear hfz55_5
      try clear hfz57_0
      try clear hfz57_1
      try clear hfz57_2
      try clear hfz57_3
      try clear hfz57_4
      try clear hfz57_5
      try clear hfz58_0
      try clear hfz58_1
      try clear hfz58_2
      try clear hfz58_3
      try clear hfz58_4
      try clear hfz60_0
      try clear hfz60_1
      try clear hfz60_2
      try clear hfz60_3
      try clear hfz60_4
      try clear hfz60_5
      try clear hfz62_0
      try clear hfz62_1
      try clear hfz62_2
      try clear hfz62_3
      try clear hfz62_4
      try clear hfz62_5
      try clear hfz63_0
      try clear hfz63_1
      try clear hfz63_2
      try clear hfz63_3
      try clear hfz63_4
      try clear hfz65_0
      try clear hfz65_1
      try clear hfz65_2
      try clear hfz65_3
      try clear hfz65_4
      try clear hfz65_5
      try clear hfz71_0
      try clear hfz71_1
      try clear hfz71_2
      try clear hfz71_3
      try clear hfz71_4
      try clear hfz71_5
      try clear hfz76_0
      try clear hfz76_1
      try clear hfz77_0
      try clear hfz77_1
      try clear hfz77_2
      try clear hfz77_3
      try clear hfz77_4
      try clear hfz77_5
      try clear hfz79_0
      try clear hfz79_1
      try clear hfz84_0
      try clear hfz84_1
      try clear hfz86_0
      try clear hfz86_1
      try clear hfz91_0
      try clear hfz91_1
      try clear hfz93_0
      try clear hfz93_1
      try clear hfz97_0
      try clear hfz97_1
      try clear hfz99_0
      try clear hfz99_1
      try clear hfz9_0
      try clear hfz9_1
      try clear hfz9_2
      try clear hfz9_3
      try clear hfz9_4
      try clear p2
      try clear p6
      try clear p64
      try clear q1
      try clear q13
      try clear q139
      obtain ⟨x12_2, x132_2, x146000_2, x146001_2, rfl, rfl, HA, HK2, BK131, BK138, BK145, HB⟩ := hrel
      cases gk with
      | zero => exact absurd HA.out (by simp [round_Cut.l1])
      | succ k2 =>
       have H := HA.out
       clear HA
       simp only [round_Cut.l1] at H
       by_cases c100 : x132_2 < (wrap64 (-(a1_2 / 4)))
       ·rw [if_pos c100] at H
        have c100b0 : decide (x132_2 < (wrap64 (-(a1_2 / 4)))) = true := decide_eq_true c100
        clear c100
        replace H := Option.bind_eq_some_iff.mp H
        obtain ⟨⟨t158, t159, t160⟩, A1010, H⟩ := H
        replace H : (round_Cut.l1 k2 a0 t160 (wrap64 (-(a1_2 / 4))) (wrap64 (x132_2 + 1)) t158 t159) = some (r1, r2, r3) := H
        have A101 := Aside0.mk A1010
        clear A1010
        have H' := Aside0.mk H
        clear H
        have hnb102 := NB145_131.out
        have hnc102 := NB131_145.out
        have hnb103 := NB145_138.out
        have hnc103 := NB138_145.out
        have hcz104_0 := z4_ BK145.out 0 (.int .u64 x146000_2) rfl
        have hcz104_1 := z4_ BK145.out 1 (.int .u64 x146001_2) rfl
        have hfz104_0 := blk_frozen BK145.out 0
        have hfz104_1 := blk_frozen BK145.out 1
        go_wp2_with (first | ((with_reducible refine gate_callee (f := 30) rfl ?_); refine goesL_ (some 137) rfl rfl Try.func30 (by kernel_rfl) rfl #[.agg #[.int .u64 x146000_2, .int .u64 x146001_2], .int .u64 0, .int .i64 1, .bool x12_2] rfl z5_ ?_; (with_reducible refine (round_under.calls x146000_2 x146001_2 0 1 x12_2 t158 t159 t160 _ A101.out).mono ?_); rintro e w105 ⟨rfl, hb⟩; refine ⟨_, rfl, ?_⟩; have n0_ := Aside0.mk (blk_below (g := gb131) (z1_ BK131.out) hb); have n1_ := Aside0.mk (blk_below (g := gb138) (z1_ BK138.out) hb); have n2_ := Aside0.mk (blk_below (g := gb145) (z1_ BK145.out) hb); have n3_ := Aside0.mk (below_step (z3_ HB.out) hb); clear BK131; clear BK138; clear BK145; clear HB; have BK131 := n0_; have BK138 := n1_; have BK145 := n2_; have HB := n3_; clear n0_ n1_ n2_ n3_; (try clear hb); (try clear hb2); (try clear hk); (try clear hi); have hcz106_0 := z4_ BK145.out 0 (.int .u64 x146000_2) rfl; have hcz106_1 := z4_ BK145.out 1 (.int .u64 x146001_2) rfl; have hfz106_0 := blk_frozen BK145.out 0; have hfz106_1 := blk_frozen BK145.out 1))
        go_roundg k2
        case measure => have := HJ3.out; have := HK2.out; omega
        case rel => exact ⟨(t160), (wrap64 (x132_2 + 1)), (t158), (t159), (by first | rfl | (simp; done) | (simp [*]; done)), (by first | rfl | (simp; done) | (simp [*]; done)), H', ⟨by have := HJ3.out; have := HK2.out; omega⟩, ⟨by refine z2_ ?_; refine blk_far ?_ NB131_145.out _; refine z2_ ?_; refine blk_far ?_ NB131_145.out _; refine z2_ ?_; exact BK131.out⟩, ⟨by refine z2_ ?_; refine blk_far ?_ NB138_145.out _; refine z2_ ?_; refine blk_far ?_ NB138_145.out _; refine z2_ ?_; exact BK138.out⟩, ⟨by refine z2_ ?_; refine blk_put (cs := #[.int .u64 t158, .int .u64 x146001_2]) ?_ 1 _ rfl; refine z2_ ?_; refine blk_put (cs := #[.int .u64 x146000_2, .int .u64 x146001_2]) ?_ 0 _ rfl; refine z2_ ?_; exact BK145.out⟩, ⟨by repeat (first | (with_reducible first | exact HB.out | apply below_alloc | apply pw_below_drewN | apply below_drew1 | refine below_set ?_ GE131.out | refine below_set ?_ GE138.out | refine below_set ?_ GE145.out) | exact HB.out)⟩⟩
       ·rw [if_neg c100] at H
        have c100b0 : decide (x132_2 < (wrap64 (-(a1_2 / 4)))) = false := decide_eq_false c100
        clear c100
        have H' := Aside0.mk H
        clear H
        go_wp2
        go_meet
        case rel => exact ⟨_, (x12_2), (x146000_2), (x146001_2), (by first | rfl | (simp; done) | (simp [*]; done)), H', ⟨by have := HJ3.out; have := HK2.out; first | omega | exact Nat.le_refl _⟩, ⟨by refine z2_ ?_; exact BK131.out⟩, ⟨by refine z2_ ?_; exact BK138.out⟩, ⟨by refine z2_ ?_; exact BK145.out⟩, ⟨by repeat (first | (with_reducible first | exact HB.out | apply below_alloc | apply pw_below_drewN | apply below_drew1 | refine below_set ?_ GE131.out | refine below_set ?_ GE138.out | refine below_set ?_ GE145.out) | exact HB.out)⟩⟩
   case rest =>
    clear HC69
    try clear c1
    try clear q1
    try clear c2
    try clear p2
    try clear c3
    try clear c4
    try clear c5
    try clear c6
    try clear p6
    try clear c7
    try clear c8
    try clear c9
    try clear c10
    try clear c11
    try clear c12
    try clear c12b0
    try clear c12b1
    try clear c13
    try clear q13
    try clear c17
    try clear c17b0
    try clear c17b1
    try clear c18
    try clear c23
    try clear c23b0
    try clear c24
    try clear c27
    try clear c28
    try clear c29
    try clear c29b0
    try clear c30
    try clear c35
    try clear c35b0
    try clear c35b1
    try clear c36
    try clear c36b0
    try clear c36b1
    try clear c37
    try clear c37b0
    try clear c37b1
    try clear c38
    try clear c39
    try clear c44
    try clear c49
    try clear c54
    try clear c59
    try clear c64
    try clear p64
    try clear c70
    try clear c74
    try clear c75
    try clear c80
    try clear c80b0
    try clear c82
    try clear c83
    try clear c87
    try clear c87b0
    try clear c89
    try clear c90
    try clear c95
    try clear c96
    try clear c100
    try clear c100b0
    try clear c102
    try clear c103
    try clear hcz104_0
    try clear hcz104_1
    try clear hcz106_0
    try clear hcz106_1
    try clear hcz14_0
    try clear hcz14_1
    try clear hcz14_2
    try clear hcz14_3
    try clear hcz14_4
    try clear hcz14_5
    try clear hcz16_0
    try clear hcz16_1
    try clear hcz16_2
    try clear hcz16_3
    try clear hcz16_4
    try clear hcz16_5
    try clear hcz19_0
    try clear hcz19_1
    try clear hcz19_2
    try clear hcz19_3
    try clear hcz19_4
    try clear hcz19_5
    try clear hcz21_0
    try clear hcz21_1
    try clear hcz21_2
    try clear hcz21_3
    try clear hcz21_4
    try clear hcz21_5
    try clear hcz22_0
    try clear hcz22_1
    try clear hcz22_2
    try clear hcz22_3
    try clear hcz22_4
    try clear hcz25_0
    try clear hcz25_1
    try clear hcz25_2
    try clear hcz25_3
    try clear hcz25_4
    try clear hcz25_5
    try clear hcz27_0
    try clear hcz27_1
    try clear hcz27_2
    try clear hcz27_3
    try clear hcz27_4
    try clear hcz27_5
    try clear hcz28_0
    try clear hcz28_1
    try clear hcz28_2
    try clear hcz28_3
    try clear hcz28_4
    try clear hcz31_0
    try clear hcz31_1
    try clear hcz31_2
    try clear hcz31_3
    try clear hcz31_4
    try clear hcz31_5
    try clear hcz33_0
    try clear hcz33_1
    try clear hcz33_2
    try clear hcz33_3
    try clear hcz33_4
    try clear hcz33_5
    try clear hcz34_0
    try clear hcz34_1
    try clear hcz34_2
    try clear hcz34_3
    try clear hcz34_4
    try clear hcz40_0
    try clear hcz40_1
    try clear hcz40_2
    try clear hcz40_3
    try clear hcz40_4
    try clear hcz40_5
    try clear hcz42_0
    try clear hcz42_1
    try clear hcz42_2
    try clear hcz42_3
    try clear hcz42_4
    try clear hcz42_5
    try clear hcz43_0
    try clear hcz43_1
    try clear hcz43_2
    try clear hcz43_3
    try clear hcz43_4
    try clear hcz45_0
    try clear hcz45_1
    try clear hcz45_2
    try clear hcz45_3
    try clear hcz45_4
    try clear hcz45_5
    try clear hcz47_0
    try clear hcz47_1
    try clear hcz47_2
    try clear hcz47_3
    try clear hcz47_4
    try clear hcz47_5
    try clear hcz48_0
    try clear hcz48_1
    try clear hcz48_2
    try clear hcz48_3
    try clear hcz48_4
    try clear hcz50_0
    try clear hcz50_1
    try clear hcz50_2
    try clear hcz50_3
    try clear hcz50_4
    try clear hcz50_5
    try clear hcz52_0
    try clear hcz52_1
    try clear hcz52_2
    try clear hcz52_3
    try clear hcz52_4
    try clear hcz52_5
    try clear hcz53_0
    try clear hcz53_1
    try clear hcz53_2
    try clear hcz53_3
    try clear hcz53_4
    try clear hcz55_0
    try clear hcz55_1
    try clear hcz55_2
    try clear hcz55_3
    try clear hcz55_4
    try clear hcz55_5
    try clear hcz57_0
    try clear hcz57_1
    try clear hcz57_2
    try clear hcz57_3
    try clear hcz57_4
    try clear hcz57_5
    try clear hcz58_0
    try clear hcz58_1
    try clear hcz58_2
    try clear hcz58_3
    try clear hcz58_4
    try clear hcz60_0
    try clear hcz60_1
    try clear hcz60_2
    try clear hcz60_3
    try clear hcz60_4
    try clear hcz60_5
    try clear hcz62_0
    try clear hcz62_1
    try clear hcz62_2
    try clear hcz62_3
    try clear hcz62_4
    try clear hcz62_5
    try clear hcz63_0
    try clear hcz63_1
    try clear hcz63_2
    try clear hcz63_3
    try clear hcz63_4
    try clear hcz65_0
    try clear hcz65_1
    try clear hcz65_2
    try clear hcz65_3
    try clear hcz65_4
    try clear hcz65_5
    try clear hcz71_0
    try clear hcz71_1
    try clear hcz71_2
    try clear hcz71_3
    try clear hcz71_4
    try clear hcz71_5
    try clear hcz76_0
    try clear hcz76_1
    try clear hcz77_0
    try clear hcz77_1
    try clear hcz77_2
    try clear hcz77_3
    try clear hcz77_4
    try clear hcz77_5
    try clear hcz79_0
    try clear hcz79_1
    try clear hcz84_0
    try clear hcz84_1
    try clear hcz86_0
    try clear hcz86_1
    try clear hcz91_0
    try clear hcz91_1
    try clear hcz93_0
    try clear hcz93_1
    try clear hcz97_0
    try clear hcz97_1
    try clear hcz99_0
    try clear hcz99_1
    try clear hcz9_0
    try clear hcz9_1
    try clear hcz9_2
    try clear hcz9_3
    try clear hcz9_4
    try clear hfz104_0
    try clear hfz104_1
    try clear hfz106_0
    try clear hfz106_1
    try clear hfz14_0
    try clear hfz14_1
    try clear hfz14_2
    try clear hfz14_3
    try clear hfz14_4
    try clear hfz14_5
    try clear hfz16_0
    try clear hfz16_1
    try clear hfz16_2
    try clear hfz16_3
    try clear hfz16_4
    try clear hfz16_5
    try clear hfz19_0
    try clear hfz19_1
    try clear hfz19_2
    try clear hfz19_3
    try clear hfz19_4
    try clear hfz19_5
    try clear hfz21_0
    try clear hfz21_1
    try clear hfz21_2
    try clear hfz21_3
    try clear hfz21_4
    try clear hfz21_5
    try clear hfz22_0
    try clear hfz22_1
    try clear hfz22_2
    try clear hfz22_3
    try clear hfz22_4
    try clear hfz25_0
    try clear hfz25_1
    try clear hfz25_2
    try clear hfz25_3
    try clear hfz25_4
    try clear hfz25_5
    try clear hfz27_0
    try clear hfz27_1
    try clear hfz27_2
    try clear hfz27_3
    try clear hfz27_4
    try clear hfz27_5
    try clear hfz28_0
    try clear hfz28_1
    try clear hfz28_2
    try clear hfz28_3
    try clear hfz28_4
    try clear hfz31_0
    try clear hfz31_1
    try clear hfz31_2
    try clear hfz31_3
    try clear hfz31_4
    try clear hfz31_5
    try clear hfz33_0
    try clear hfz33_1
    try clear hfz33_2
    try clear hfz33_3
    try clear hfz33_4
    try clear hfz33_5
    try clear hfz34_0
    try clear hfz34_1
    try clear hfz34_2
    try clear hfz34_3
    try clear hfz34_4
    try clear hfz40_0
    try clear hfz40_1
    try clear hfz40_2
    try clear hfz40_3
    try clear hfz40_4
    try clear hfz40_5
    try clear hfz42_0
    try clear hfz42_1
    try clear hfz42_2
    try clear hfz42_3
    try clear hfz42_4
    try clear hfz42_5
    try clear hfz43_0
    try clear hfz43_1
    try clear hfz43_2
    try clear hfz43_3
    try clear hfz43_4
    try clear hfz45_0
    try clear hfz45_1
    try clear hfz45_2
    try clear hfz45_3
    try clear hfz45_4
    try clear hfz45_5
    try clear hfz47_0
    try clear hfz47_1
    try clear hfz47_2
    try clear hfz47_3
    try clear hfz47_4
    try clear hfz47_5
    try clear hfz48_0
    try clear hfz48_1
    try clear hfz48_2
    try clear hfz48_3
    try clear hfz48_4
    try clear hfz50_0
    try clear hfz50_1
    try clear hfz50_2
    try clear hfz50_3
    try clear hfz50_4
    try clear hfz50_5
    try clear hfz52_0
    try clear hfz52_1
    try clear hfz52_2
    try clear hfz52_3
    try clear hfz52_4
    try clear hfz52_5
    try clear hfz53_0
    try clear hfz53_1
    try clear hfz53_2
    try clear hfz53_3
    try clear hfz53_4
    try clear hfz55_0
    try clear hfz55_1
    try clear hfz55_2
    try clear hfz55_3
    try clear hfz55_4
    try clear hfz55_5
    try clear hfz57_0
    try clear hfz57_1
    try clear hfz57_2
    try clear hfz57_3
    try clear hfz57_4
    try clear hfz57_5
    try clear hfz58_0
    try clear hfz58_1
    try clear hfz58_2
    try clear hfz58_3
    try clear hfz58_4
    try clear hfz60_0
    try clear hfz60_1
    try clear hfz60_2
    try clear hfz60_3
    try clear hfz60_4
    try clear hfz60_5
    try clear hfz62_0
    try clear hfz62_1
    try clear hfz62_2
    try clear hfz62_3
    try clear hfz62_4
    try clear hfz62_5
    try clear hfz63_0
    try clear hfz63_1
    try clear hfz63_2
    try clear hfz63_3
    try clear hfz63_4
    try clear hfz65_0
    try clear hfz65_1
    try clear hfz65_2
    try clear hfz65_3
    try clear hfz65_4
    try clear hfz65_5
    try clear hfz71_0
    try clear hfz71_1
    try clear hfz71_2
    try clear hfz71_3
    try clear hfz71_4
    try clear hfz71_5
    try clear hfz76_0
    try clear hfz76_1
    try clear hfz77_0
    try clear hfz77_1
    try clear hfz77_2
    try clear hfz77_3
    try clear hfz77_4
    try clear hfz77_5
    try clear hfz79_0
    try clear hfz79_1
    try clear hfz84_0
    try clear hfz84_1
    try clear hfz86_0
    try clear hfz86_1
    try clear hfz91_0
    try clear hfz91_1
    try clear hfz93_0
    try clear hfz93_1
    try clear hfz97_0
    try clear hfz97_1
    try clear hfz99_0
    try clear hfz99_1
    try clear hfz9_0
    try clear hfz9_1
    try clear hfz9_2
    try clear hfz9_3
    try clear hfz9_4
    try clear p2
    try clear p6
    try clear p64
    try clear q1
    try clear q13
    try clear q139
    obtain ⟨kq, x12_68, x146000_68, x146001_68, rfl, HA, HJ68, BK131, BK138, BK145, HB⟩ := hcut
    cases kq with
    | zero => exact absurd HA.out (by simp [round_Cut.j3])
    | succ kj68 =>
     have H := HA.out
     clear HA
     simp only [round_Cut.j3] at H
     obtain ⟨ji107, hji107⟩ : ∃ j_ : Int, (wrap64 (65 - a0)) = j_ := ⟨_, rfl⟩
     replace H : (if 0 ≤ (ji107) then ((twin_Shl.f x146000_68 x146001_68 (wrap64 (a0 - 1))).bind fun bt161 => (if bt161.2.1 = 0 then ((round_left.f kj68 bt161.1 x12_68).bind fun t166 => (some (shr .u64 x146000_68 (ji107), t166, none))) else ((round_left.f kj68 bt161.1 true).bind fun t167 => (some (shr .u64 x146000_68 (ji107), t167, none))))) else (none)) = some (r1, r2, r3) := by first | (rw [hji107] at H; exact H) | (simp only [hji107] at H ⊢; exact H)
     have hji107w : (IntKind.i64.wrap (65 - a0)) = ji107 := (i64_w _).trans hji107
     by_cases c108 : 0 ≤ (ji107)
     ·rw [if_pos c108] at H
      have c108b0 := eq_true c108
      have c108b1 : decide (0 ≤ (ji107)) = true := decide_eq_true c108
      clear c108
      obtain ⟨ji109, hji109⟩ : ∃ j_ : Int, (shr .u64 x146000_68 (ji107)) = j_ := ⟨_, rfl⟩
      replace H : ((twin_Shl.f x146000_68 x146001_68 (wrap64 (a0 - 1))).bind fun bt161 => (if bt161.2.1 = 0 then ((round_left.f kj68 bt161.1 x12_68).bind fun t166 => (some (ji109, t166, none))) else ((round_left.f kj68 bt161.1 true).bind fun t167 => (some (ji109, t167, none))))) = some (r1, r2, r3) := by first | (rw [hji109] at H; exact H) | (simp only [hji109] at H ⊢; exact H)
      have hji109_ : (x146000_68 / 2 ^ min (ji107).toNat 64) = ji109 := hji109
      have hji109z : (ji107) ≤ 64 → (x146000_68 / 2 ^ (ji107).toNat) = ji109 := shr_small hji109
      (try (have hji109Z_ := hji109z (by omega)))
      replace H := Option.bind_eq_some_iff.mp H
      obtain ⟨⟨t161, t162, t163, t164⟩, A1100, H⟩ := H
      replace H : (if t162 = 0 then ((round_left.f kj68 t161 x12_68).bind fun t166 => (some (ji109, t166, none))) else ((round_left.f kj68 t161 true).bind fun t167 => (some (ji109, t167, none)))) = some (r1, r2, r3) := H
      have A110 := Aside0.mk A1100
      clear A1100
      by_cases c111 : t162 = 0
      ·rw [if_pos c111] at H
       have c111b0 : (t162 == 0) = true := beq_iff_eq.mpr c111
       have c111b1 : (t162 != 0) = false := bne_eq_false_iff_eq.mpr c111
       clear c111
       replace H := Option.bind_eq_some_iff.mp H
       obtain ⟨t166, A1120, H⟩ := H
       replace H : (some (ji109, t166, none)) = some (r1, r2, r3) := H
       have A112 := Aside0.mk A1120
       clear A1120
       simp only [Option.some.injEq, Prod.mk.injEq] at H
       obtain ⟨rfl, rfl, rfl⟩ := H
       have hnb113 := NB145_131.out
       have hnc113 := NB131_145.out
       have hnb114 := NB145_138.out
       have hnc114 := NB138_145.out
       have hcz115_0 := z4_ BK145.out 0 (.int .u64 x146000_68) rfl
       have hcz115_1 := z4_ BK145.out 1 (.int .u64 x146001_68) rfl
       have hfz115_0 := blk_frozen BK145.out 0
       have hfz115_1 := blk_frozen BK145.out 1
       go_wp2_with (first | ((with_reducible refine gate_callee (f := 29) rfl ?_); refine goesL_ (some 150) rfl rfl Try.func29 (by kernel_rfl) rfl #[.agg #[.int .u64 x146000_68, .int .u64 x146001_68], .int .i64 (wrap64 (a0 - 1))] rfl z5_ ?_; (with_reducible refine (twin_Shl.calls x146000_68 x146001_68 (wrap64 (a0 - 1)) t161 t162 t163 t164 _ A110.out).mono ?_); rintro e w116 ⟨rfl, hb⟩; refine ⟨_, rfl, ?_⟩; have n0_ := Aside0.mk (blk_below (g := gb131) (z1_ BK131.out) hb); have n1_ := Aside0.mk (blk_below (g := gb138) (z1_ BK138.out) hb); have n2_ := Aside0.mk (blk_below (g := gb145) (z1_ BK145.out) hb); have n3_ := Aside0.mk (below_step (z3_ HB.out) hb); clear BK131; clear BK138; clear BK145; clear HB; have BK131 := n0_; have BK138 := n1_; have BK145 := n2_; have HB := n3_; clear n0_ n1_ n2_ n3_; (try clear hb); (try clear hb2); (try clear hk); (try clear hi); (try simp only [errW_none, errW_some])) | ((with_reducible refine gate_dst (N := 15) rfl ?_); refine box_event ?hg (N := 15) ?hd (cs := #[.int .u64 0, .int .u64 0]) (t := 64) ?hr ?_; (case hd => rfl); (case hg => rfl); (case hr => first | (go_simp; done) | (go_simp; rfl)); intro gb165 hg w117 hbox hb; have n0_ := Aside0.mk (blk_below (g := gb131) (z1_ BK131.out) hb); have n1_ := Aside0.mk (blk_below (g := gb138) (z1_ BK138.out) hb); have n2_ := Aside0.mk (blk_below (g := gb145) (z1_ BK145.out) hb); have n3_ := Aside0.mk (below_step (z3_ HB.out) hb); have n4_ := Aside0.mk (hbox); have n5_ := Aside0.mk ((by rw [hg]; exact (below_size (z3_ HB.out)) : w.heap.size ≤ gb165)); have n6_ := Aside0.mk ((by rw [hg]; exact (below_size (z3_ HB.out)) : w.heap.size ≤ gb165)); have n7_ := Aside0.mk ((by rw [hg]; exact Nat.ne_of_lt (blk_lt (g := gb131) (o := .cells #[.int .i64 a1_0, .bool a1_1, .int .i64 a1_2, .int .u64 a1_3, .int .u64 a1_4, .bool a1_5] 24 (0, 0)) (z1_ BK131.out)) : gb131 ≠ gb165)); have n8_ := Aside0.mk ((by rw [hg]; exact Nat.ne_of_gt (blk_lt (g := gb131) (o := .cells #[.int .i64 a1_0, .bool a1_1, .int .i64 a1_2, .int .u64 a1_3, .int .u64 a1_4, .bool a1_5] 24 (0, 0)) (z1_ BK131.out)) : gb165 ≠ gb131)); have n9_ := Aside0.mk ((by rw [hg]; exact Nat.ne_of_lt (blk_lt (g := gb138) (o := .cells #[.int .i64 t132, .int .u64 t133, .int .u64 t134, .int .u64 t135, .int .i64 t136] 60 (0, 0)) (z1_ BK138.out)) : gb138 ≠ gb165)); have n10_ := Aside0.mk ((by rw [hg]; exact Nat.ne_of_gt (blk_lt (g := gb138) (o := .cells #[.int .i64 t132, .int .u64 t133, .int .u64 t134, .int .u64 t135, .int .i64 t136] 60 (0, 0)) (z1_ BK138.out)) : gb165 ≠ gb138)); have n11_ := Aside0.mk ((by rw [hg]; exact Nat.ne_of_lt (blk_lt (g := gb145) (o := .cells #[.int .u64 x146000_68, .int .u64 x146001_68] 64 (0, 0)) (z1_ BK145.out)) : gb145 ≠ gb165)); have n12_ := Aside0.mk ((by rw [hg]; exact Nat.ne_of_gt (blk_lt (g := gb145) (o := .cells #[.int .u64 x146000_68, .int .u64 x146001_68] 64 (0, 0)) (z1_ BK145.out)) : gb165 ≠ gb145)); clear BK131; clear BK138; clear BK145; clear HB; have BK131 := n0_; have BK138 := n1_; have BK145 := n2_; have HB := n3_; have BK165 := n4_; have GW165 := n5_; have GE165 := n6_; have NB131_165 := n7_; have NB165_131 := n8_; have NB138_165 := n9_; have NB165_138 := n10_; have NB145_165 := n11_; have NB165_145 := n12_; clear n0_ n1_ n2_ n3_ n4_ n5_ n6_ n7_ n8_ n9_ n10_ n11_ n12_; clear hb hbox hg; have hnb118 := NB165_131.out; have hnc118 := NB131_165.out; have hnb119 := NB165_138.out; have hnc119 := NB138_165.out; have hnb120 := NB165_145.out; have hnc120 := NB145_165.out; have hcz121_0 := z4_ BK165.out 0 (.int .u64 0) rfl; have hcz121_1 := z4_ BK165.out 1 (.int .u64 0) rfl; have hfz121_0 := blk_frozen BK165.out 0; have hfz121_1 := blk_frozen BK165.out 1) | ((with_reducible refine gate_callee (f := 31) rfl ?_); refine goesL_ (some 161) rfl rfl Try.func31 (by kernel_rfl) rfl #[.int .u64 t161, .bool x12_68] rfl z5_ ?_; (with_reducible refine (round_left.calls kj68 t161 x12_68 t166 _ A112.out).mono ?_); rintro e w' ⟨rfl, ⟨nd, rfl⟩⟩; refine ⟨_, rfl, ?_⟩))
       go_ret3
       exact ⟨by first | rfl | (simp [errW_none, errW_some] <;> rfl) | (simp only [← hji107, ← hji109]; first | rfl | (simp [errW_none, errW_some] <;> rfl)) | (simp [*, errW_none, errW_some] <;> rfl), by repeat (first | (with_reducible first | exact HB.out | apply below_alloc | apply pw_below_drewN | apply below_drew1 | refine below_set ?_ GE131.out | refine below_set ?_ GE138.out | refine below_set ?_ GE145.out | refine below_set ?_ GE165.out) | exact HB.out)⟩
      ·rw [if_neg c111] at H
       have c111b0 : (t162 == 0) = false := beq_eq_false_iff_ne.mpr c111
       have c111b1 : (t162 != 0) = true := bne_iff_ne.mpr c111
       replace H := Option.bind_eq_some_iff.mp H
       obtain ⟨t167, A1220, H⟩ := H
       replace H : (some (ji109, t167, none)) = some (r1, r2, r3) := H
       have A122 := Aside0.mk A1220
       clear A1220
       simp only [Option.some.injEq, Prod.mk.injEq] at H
       obtain ⟨rfl, rfl, rfl⟩ := H
       have hnb123 := NB145_131.out
       have hnc123 := NB131_145.out
       have hnb124 := NB145_138.out
       have hnc124 := NB138_145.out
       have hcz125_0 := z4_ BK145.out 0 (.int .u64 x146000_68) rfl
       have hcz125_1 := z4_ BK145.out 1 (.int .u64 x146001_68) rfl
       have hfz125_0 := blk_frozen BK145.out 0
       have hfz125_1 := blk_frozen BK145.out 1
       go_wp2_with (first | ((with_reducible refine gate_callee (f := 29) rfl ?_); refine goesL_ (some 150) rfl rfl Try.func29 (by kernel_rfl) rfl #[.agg #[.int .u64 x146000_68, .int .u64 x146001_68], .int .i64 (wrap64 (a0 - 1))] rfl z5_ ?_; (with_reducible refine (twin_Shl.calls x146000_68 x146001_68 (wrap64 (a0 - 1)) t161 t162 t163 t164 _ A110.out).mono ?_); rintro e w126 ⟨rfl, hb⟩; refine ⟨_, rfl, ?_⟩; have n0_ := Aside0.mk (blk_below (g := gb131) (z1_ BK131.out) hb); have n1_ := Aside0.mk (blk_below (g := gb138) (z1_ BK138.out) hb); have n2_ := Aside0.mk (blk_below (g := gb145) (z1_ BK145.out) hb); have n3_ := Aside0.mk (below_step (z3_ HB.out) hb); clear BK131; clear BK138; clear BK145; clear HB; have BK131 := n0_; have BK138 := n1_; have BK145 := n2_; have HB := n3_; clear n0_ n1_ n2_ n3_; (try clear hb); (try clear hb2); (try clear hk); (try clear hi); (try simp only [errW_none, errW_some])) | ((with_reducible refine gate_dst (N := 15) rfl ?_); refine box_event ?hg (N := 15) ?hd (cs := #[.int .u64 0, .int .u64 0]) (t := 64) ?hr ?_; (case hd => rfl); (case hg => rfl); (case hr => first | (go_simp; done) | (go_simp; rfl)); intro gb165 hg w127 hbox hb; have n0_ := Aside0.mk (blk_below (g := gb131) (z1_ BK131.out) hb); have n1_ := Aside0.mk (blk_below (g := gb138) (z1_ BK138.out) hb); have n2_ := Aside0.mk (blk_below (g := gb145) (z1_ BK145.out) hb); have n3_ := Aside0.mk (below_step (z3_ HB.out) hb); have n4_ := Aside0.mk (hbox); have n5_ := Aside0.mk ((by rw [hg]; exact (below_size (z3_ HB.out)) : w.heap.size ≤ gb165)); have n6_ := Aside0.mk ((by rw [hg]; exact (below_size (z3_ HB.out)) : w.heap.size ≤ gb165)); have n7_ := Aside0.mk ((by rw [hg]; exact Nat.ne_of_lt (blk_lt (g := gb131) (o := .cells #[.int .i64 a1_0, .bool a1_1, .int .i64 a1_2, .int .u64 a1_3, .int .u64 a1_4, .bool a1_5] 24 (0, 0)) (z1_ BK131.out)) : gb131 ≠ gb165)); have n8_ := Aside0.mk ((by rw [hg]; exact Nat.ne_of_gt (blk_lt (g := gb131) (o := .cells #[.int .i64 a1_0, .bool a1_1, .int .i64 a1_2, .int .u64 a1_3, .int .u64 a1_4, .bool a1_5] 24 (0, 0)) (z1_ BK131.out)) : gb165 ≠ gb131)); have n9_ := Aside0.mk ((by rw [hg]; exact Nat.ne_of_lt (blk_lt (g := gb138) (o := .cells #[.int .i64 t132, .int .u64 t133, .int .u64 t134, .int .u64 t135, .int .i64 t136] 60 (0, 0)) (z1_ BK138.out)) : gb138 ≠ gb165)); have n10_ := Aside0.mk ((by rw [hg]; exact Nat.ne_of_gt (blk_lt (g := gb138) (o := .cells #[.int .i64 t132, .int .u64 t133, .int .u64 t134, .int .u64 t135, .int .i64 t136] 60 (0, 0)) (z1_ BK138.out)) : gb165 ≠ gb138)); have n11_ := Aside0.mk ((by rw [hg]; exact Nat.ne_of_lt (blk_lt (g := gb145) (o := .cells #[.int .u64 x146000_68, .int .u64 x146001_68] 64 (0, 0)) (z1_ BK145.out)) : gb145 ≠ gb165)); have n12_ := Aside0.mk ((by rw [hg]; exact Nat.ne_of_gt (blk_lt (g := gb145) (o := .cells #[.int .u64 x146000_68, .int .u64 x146001_68] 64 (0, 0)) (z1_ BK145.out)) : gb165 ≠ gb145)); clear BK131; clear BK138; clear BK145; clear HB; have BK131 := n0_; have BK138 := n1_; have BK145 := n2_; have HB := n3_; have BK165 := n4_; have GW165 := n5_; have GE165 := n6_; have NB131_165 := n7_; have NB165_131 := n8_; have NB138_165 := n9_; have NB165_138 := n10_; have NB145_165 := n11_; have NB165_145 := n12_; clear n0_ n1_ n2_ n3_ n4_ n5_ n6_ n7_ n8_ n9_ n10_ n11_ n12_; clear hb hbox hg; have hnb128 := NB165_131.out; have hnc128 := NB131_165.out; have hnb129 := NB165_138.out; have hnc129 := NB138_165.out; have hnb130 := NB165_145.out; have hnc130 := NB145_165.out; have hcz131_0 := z4_ BK165.out 0 (.int .u64 0) rfl; have hcz131_1 := z4_ BK165.out 1 (.int .u64 0) rfl; have hfz131_0 := blk_frozen BK165.out 0; have hfz131_1 := blk_frozen BK165.out 1) | ((with_reducible refine gate_callee (f := 31) rfl ?_); refine goesL_ (some 161) rfl rfl Try.func31 (by kernel_rfl) rfl #[.int .u64 t161, .bool true] rfl z5_ ?_; (with_reducible refine (round_left.calls kj68 t161 true t167 _ A122.out).mono ?_); rintro e w' ⟨rfl, ⟨nd, rfl⟩⟩; refine ⟨_, rfl, ?_⟩))
       go_ret3
       exact ⟨by first | rfl | (simp [errW_none, errW_some] <;> rfl) | (simp only [← hji107, ← hji109]; first | rfl | (simp [errW_none, errW_some] <;> rfl)) | (simp [*, errW_none, errW_some] <;> rfl), by repeat (first | (with_reducible first | exact HB.out | apply below_alloc | apply pw_below_drewN | apply below_drew1 | refine below_set ?_ GE131.out | refine below_set ?_ GE138.out | refine below_set ?_ GE145.out | refine below_set ?_ GE165.out) | exact HB.out)⟩
     ·rw [if_neg c108] at H
      exact absurd H (by simp)
end Go.Proofs.Ytfegofnplcmacaa.PAll
namespace Go.Proofs.Ytfegofnplcmacaa.PAll
open Go.RowKit Go.Proofs.YtfegofnplcmacaaW.PrintWords Go.Proofs.YtfegofnplcmacaaW.PrintLast Go.Proofs.YtfegofnplcmacaaW.PrintMore
attribute [local go_sem] max2_int min2_int max_two min_two max_three min_three max_four min_four
set_option linter.unusedVariables false
set_option linter.unusedSimpArgs false
def lead_ones.f (a0 : Int) : Option (Int) := if a0 = 64 then (some 18446744073709551615) else (if 0 ≤ a0 then (some (IntKind.u64.wrap ((shl .u64 1 a0) - 1))) else (none))
set_option maxHeartbeats 8000000 in
set_option maxRecDepth 100000 in
theorem lead_ones.calls (a0 : Int) (r : Int) (w : World) (h : lead_ones.f a0 = some r) :
  Calls Try.prog 72 #[.int .i64 a0] w fun e w' => e = .returned (.int .u64 r) ∧ Drawn0 w w' := by
 have H : (if a0 = 64 then (some 18446744073709551615) else (if 0 ≤ a0 then (some (IntKind.u64.wrap ((shl .u64 1 a0) - 1))) else (none))) = some r := h
 clear h
 by_cases c2 : a0 = 64
 ·rw [if_pos c2] at H
  have c2b0 : (a0 == 64) = true := beq_iff_eq.mpr c2
  have c2b1 : (a0 != 64) = false := bne_eq_false_iff_eq.mpr c2
  clear c2
  obtain rfl := Option.some.inj H
  go_enter Try.func72, Try.ntmps72
  go_wp2
  go_ret
  exact ⟨by first | rfl | (simp; done) | (simp [*]; done), by repeat (first | exact Drawn0.refl _ | apply Drawn0.step)⟩
 ·rw [if_neg c2] at H
  have c2b0 : (a0 == 64) = false := beq_eq_false_iff_ne.mpr c2
  have c2b1 : (a0 != 64) = true := bne_iff_ne.mpr c2
  by_cases c3 : 0 ≤ a0
  ·rw [if_pos c3] at H
   have c3b0 := eq_true c3
   have c3b1 : decide (0 ≤ a0) = true := decide_eq_true c3
   clear c3
   obtain ⟨ji4, hji4⟩ : ∃ j_ : Int, (shl .u64 1 a0) = j_ := ⟨_, rfl⟩
   replace H : (some (IntKind.u64.wrap ((ji4) - 1))) = some r := by first | (rw [hji4] at H; exact H) | (simp only [hji4] at H ⊢; exact H)
   have hji4_ : (IntKind.u64.wrap (1 * 2 ^ min a0.toNat 64)) = ji4 := hji4
   have hji4z : a0 ≤ 64 → (IntKind.u64.wrap (1 * 2 ^ a0.toNat)) = ji4 := shl_small hji4
   (try (have hji4Z_ := hji4z (by omega)))
   have hji4u : (IntKind.u64.wrap (2 ^ min a0.toNat 64)) = ji4 := by have h_ := hji4_; rw [Int.one_mul] at h_; exact h_
   have hji4v : a0 ≤ 64 → (IntKind.u64.wrap (2 ^ a0.toNat)) = ji4 := fun hle_ => by have h_ := hji4z hle_; rw [Int.one_mul] at h_; exact h_
   obtain rfl := Option.some.inj H
   go_enter Try.func72, Try.ntmps72
   go_wp2
   go_ret
   exact ⟨by first | rfl | (simp; done) | (simp only [← hji4] <;> (first | rfl | simp)) | (simp [*]; done), by repeat (first | exact Drawn0.refl _ | apply Drawn0.step)⟩
  ·rw [if_neg c3] at H
   exact absurd H (by simp)
end Go.Proofs.Ytfegofnplcmacaa.PAll
namespace Go.Proofs.Ytfegofnplcmacaa.PAll
open Go.RowKit Go.Proofs.YtfegofnplcmacaaW.PrintWords Go.Proofs.YtfegofnplcmacaaW.PrintLast Go.Proofs.YtfegofnplcmacaaW.PrintMore
attribute [local go_sem] max2_int min2_int max_two min_two max_three min_three max_four min_four
set_option linter.unusedVariables false
set_option linter.unusedSimpArgs false
def lead_Mask.f (a0 : Int) : Option (Int × Option Int) := if a0 < 0 then (some (0, some 1)) else (if a0 > 64 then (some (0, some 1)) else ((lead_ones.f a0).bind fun t168 => (some (t168, none))))
set_option maxHeartbeats 8000000 in
set_option maxRecDepth 100000 in
theorem lead_Mask.calls (a0 : Int) (r1 : Int) (r2 : Option Int) (w : World) (h : lead_Mask.f a0 = some (r1, r2)) :
  Calls Try.prog 57 #[.int .i64 a0] w fun e w' => e = .returned (.tuple #[.int .u64 r1, errW r2]) ∧ Drawn0 w w' := by
 have hu27 := Try.underlying27
 have hu55 := Try.underlying55
 have H : (if a0 < 0 then (some (0, some 1)) else (if a0 > 64 then (some (0, some 1)) else ((lead_ones.f a0).bind fun t168 => (some (t168, none))))) = some (r1, r2) := h
 clear h
 by_cases c2 : a0 < 0
 ·rw [if_pos c2] at H
  have c2b0 : decide (a0 < 0) = true := decide_eq_true c2
  clear c2
  simp only [Option.some.injEq, Prod.mk.injEq] at H
  obtain ⟨rfl, rfl⟩ := H
  go_enter Try.func57, Try.ntmps57
  go_wp2
  go_ret2
  exact ⟨by first | rfl | (simp; done) | (simp [*]; done), by repeat (first | exact Drawn0.refl _ | apply Drawn0.step)⟩
 ·rw [if_neg c2] at H
  have c2b0 : decide (a0 < 0) = false := decide_eq_false c2
  clear c2
  by_cases c3 : a0 > 64
  ·rw [if_pos c3] at H
   have c3b0 : decide (64 < a0) = true := decide_eq_true c3
   clear c3
   simp only [Option.some.injEq, Prod.mk.injEq] at H
   obtain ⟨rfl, rfl⟩ := H
   go_enter Try.func57, Try.ntmps57
   go_wp2
   go_ret2
   exact ⟨by first | rfl | (simp; done) | (simp [*]; done), by repeat (first | exact Drawn0.refl _ | apply Drawn0.step)⟩
  ·rw [if_neg c3] at H
   have c3b0 : decide (64 < a0) = false := decide_eq_false c3
   clear c3
   replace H := Option.bind_eq_some_iff.mp H
   obtain ⟨t168, A40, H⟩ := H
   replace H : (some (t168, none)) = some (r1, r2) := H
   have A4 := Aside0.mk A40
   clear A40
   simp only [Option.some.injEq, Prod.mk.injEq] at H
   obtain ⟨rfl, rfl⟩ := H
   go_enter Try.func57, Try.ntmps57
   go_wp2_with (first | ((with_reducible refine gate_callee (f := 72) rfl ?_); refine goesL_ (some 12) rfl rfl Try.func72 (by kernel_rfl) rfl #[.int .i64 a0] rfl z5_ ?_; (with_reducible refine (lead_ones.calls a0 t168 _ A4.out).mono ?_); rintro e w' ⟨rfl, ⟨nd, rfl⟩⟩; refine ⟨_, rfl, ?_⟩))
   go_ret2
   exact ⟨by first | rfl | (simp; done) | (simp [*]; done), by repeat (first | exact Drawn0.refl _ | apply Drawn0.step)⟩
end Go.Proofs.Ytfegofnplcmacaa.PAll
namespace Go.Proofs.Ytfegofnplcmacaa.PAll
open Go.RowKit Go.Proofs.YtfegofnplcmacaaW.PrintWords Go.Proofs.YtfegofnplcmacaaW.PrintLast Go.Proofs.YtfegofnplcmacaaW.PrintMore
attribute [local go_sem] max2_int min2_int max_two min_two max_three min_three max_four min_four
set_option linter.unusedVariables false
set_option linter.unusedSimpArgs false
def shape_Fold.f (a0 : Int) (a1 : Int) : Option (Int × Option Int) := (shape_is.f a0).bind fun t169 => (if t169 = true then ((lead_Mask.f a0).bind fun bt170 => (some (Go.bits .and .u64 a1 bt170.1, bt170.2))) else (some (0, some 2)))
set_option maxHeartbeats 8000000 in
set_option maxRecDepth 100000 in
theorem shape_Fold.calls (a0 : Int) (a1 : Int) (r1 : Int) (r2 : Option Int) (w : World) (h : shape_Fold.f a0 a1 = some (r1, r2)) :
  Calls Try.prog 38 #[.int .i64 a0, .int .u64 a1] w fun e w' => e = .returned (.tuple #[.int .u64 r1, errW r2]) ∧ Drawn0 w w' := by
 have hu27 := Try.underlying27
 have hu55 := Try.underlying55
 have H : ((shape_is.f a0).bind fun t169 => (if t169 = true then ((lead_Mask.f a0).bind fun bt170 => (some (Go.bits .and .u64 a1 bt170.1, bt170.2))) else (some (0, some 2)))) = some (r1, r2) := h
 clear h
 replace H := Option.bind_eq_some_iff.mp H
 obtain ⟨t169, A30, H⟩ := H
 replace H : (if t169 = true then ((lead_Mask.f a0).bind fun bt170 => (some (Go.bits .and .u64 a1 bt170.1, bt170.2))) else (some (0, some 2))) = some (r1, r2) := H
 have A3 := Aside0.mk A30
 clear A30
 by_cases c4 : t169 = true
 ·subst c4
  have H1 : ((lead_Mask.f a0).bind fun bt170 => (some (Go.bits .and .u64 a1 bt170.1, bt170.2))) = some (r1, r2) := by rw [if_pos rfl] at H; exact H
  clear H
  have H := H1
  clear H1
  replace H := Option.bind_eq_some_iff.mp H
  obtain ⟨⟨t170, t171⟩, A50, H⟩ := H
  replace H : (some (Go.bits .and .u64 a1 t170, t171)) = some (r1, r2) := H
  have A5 := Aside0.mk A50
  clear A50
  simp only [Option.some.injEq, Prod.mk.injEq] at H
  obtain ⟨rfl, rfl⟩ := H
  go_enter Try.func38, Try.ntmps38
  go_wp2_with (first | ((with_reducible refine gate_callee (f := 52) rfl ?_); refine goesL_ (some 9) rfl rfl Try.func52 (by kernel_rfl) rfl #[.int .i64 a0] rfl z5_ ?_; (with_reducible refine (shape_is.calls a0 true _ A3.out).mono ?_); rintro e w' ⟨rfl, ⟨nd, rfl⟩⟩; refine ⟨_, rfl, ?_⟩) | ((with_reducible refine gate_callee (f := 57) rfl ?_); refine goesL_ (some 14) rfl rfl Try.func57 (by kernel_rfl) rfl #[.int .i64 a0] rfl z5_ ?_; (with_reducible refine (lead_Mask.calls a0 t170 t171 _ A5.out).mono ?_); rintro e w' ⟨rfl, ⟨nd, rfl⟩⟩; refine ⟨_, rfl, ?_⟩; (try simp only [errW_none, errW_some])))
  go_ret2
  exact ⟨by first | rfl | (simp; done) | (simp [*]; done), by repeat (first | exact Drawn0.refl _ | apply Drawn0.step)⟩
 ·replace c4 := Bool.eq_false_iff.mpr c4
  subst c4
  have H1 : (some (0, some 2)) = some (r1, r2) := by rw [if_neg (show ¬ (false = true) by decide)] at H; exact H
  clear H
  have H := H1
  clear H1
  simp only [Option.some.injEq, Prod.mk.injEq] at H
  obtain ⟨rfl, rfl⟩ := H
  go_enter Try.func38, Try.ntmps38
  go_wp2_with (first | ((with_reducible refine gate_callee (f := 52) rfl ?_); refine goesL_ (some 9) rfl rfl Try.func52 (by kernel_rfl) rfl #[.int .i64 a0] rfl z5_ ?_; (with_reducible refine (shape_is.calls a0 false _ A3.out).mono ?_); rintro e w' ⟨rfl, ⟨nd, rfl⟩⟩; refine ⟨_, rfl, ?_⟩))
  go_ret2
  exact ⟨by first | rfl | (simp; done) | (simp [*]; done), by repeat (first | exact Drawn0.refl _ | apply Drawn0.step)⟩
end Go.Proofs.Ytfegofnplcmacaa.PAll
namespace Go.Proofs.Ytfegofnplcmacaa.PAll
open Go.RowKit Go.Proofs.YtfegofnplcmacaaW.PrintWords Go.Proofs.YtfegofnplcmacaaW.PrintLast Go.Proofs.YtfegofnplcmacaaW.PrintMore
attribute [local go_sem] max2_int min2_int max_two min_two max_three min_three max_four min_four
set_option linter.unusedVariables false
set_option linter.unusedSimpArgs false
def round_Round.f (k : Nat) (a0 : Int) (a1_0 : Int) (a1_1 : Bool) (a1_2 : Int) (a1_3 : Int) (a1_4 : Int) (a1_5 : Bool) : Option (Int × Option Int) := (round_Cut.f k a0 a1_0 a1_1 a1_2 a1_3 a1_4 a1_5).bind fun bt173 => (if bt173.2.2.isNone = true then (if bt173.2.1 = 2 then (if (Go.bits .and .u64 bt173.1 1) = 0 then (if a1_1 = true then ((shape_Fold.f a0 (IntKind.u64.wrap (-bt173.1))).bind fun bt185 => (some (bt185.1, bt185.2))) else ((shape_Fold.f a0 bt173.1).bind fun bt187 => (some (bt187.1, bt187.2)))) else (if a1_1 = true then ((shape_Fold.f a0 (IntKind.u64.wrap (-(IntKind.u64.wrap (bt173.1 + 1))))).bind fun bt189 => (some (bt189.1, bt189.2))) else ((shape_Fold.f a0 (IntKind.u64.wrap (bt173.1 + 1))).bind fun bt191 => (some (bt191.1, bt191.2))))) else (if bt173.2.1 = 3 then (if a1_1 = true then ((shape_Fold.f a0 (IntKind.u64.wrap (-(IntKind.u64.wrap (bt173.1 + 1))))).bind fun bt177 => (some (bt177.1, bt177.2))) else ((shape_Fold.f a0 (IntKind.u64.wrap (bt173.1 + 1))).bind fun bt179 => (some (bt179.1, bt179.2)))) else (if a1_1 = true then ((shape_Fold.f a0 (IntKind.u64.wrap (-bt173.1))).bind fun bt181 => (some (bt181.1, bt181.2))) else ((shape_Fold.f a0 bt173.1).bind fun bt183 => (some (bt183.1, bt183.2)))))) else (some (0, some (bt173.2.2.getD 0))))
theorem round_Round.mono : ∀ a0 a1 a2 a3 a4 a5 a6 k, LeO (round_Round.f k a0 a1 a2 a3 a4 a5 a6) (round_Round.f (k + 1) a0 a1 a2 a3 a4 a5 a6) := by
 intro a0 a1 a2 a3 a4 a5 a6 k
 unfold round_Round.f
 repeat' first
   | (with_reducible exact round_Cut.mono _ _ _ _ _ _ _ _)
   | (with_reducible exact LeO.refl _)
   | (with_reducible exact LeO.none _)
   | (with_reducible refine LeO.ite ?_ ?_)
   | (with_reducible refine LeO.bind ?_ (fun _ => ?_))
   | exact round_Cut.mono _ _ _ _ _ _ _ _
   | exact LeO.none _
   | refine LeO.ite ?_ ?_
   | refine LeO.bind ?_ (fun _ => ?_)
set_option maxHeartbeats 8000000 in
set_option maxRecDepth 100000 in
theorem round_Round.calls (k : Nat) (a0 : Int) (a1_0 : Int) (a1_1 : Bool) (a1_2 : Int) (a1_3 : Int) (a1_4 : Int) (a1_5 : Bool) (r1 : Int) (r2 : Option Int) (w : World) (h : round_Round.f k a0 a1_0 a1_1 a1_2 a1_3 a1_4 a1_5 = some (r1, r2)) :
  Calls Try.prog 14 #[.int .i64 a0, .agg #[.int .i64 a1_0, .bool a1_1, .int .i64 a1_2, .int .u64 a1_3, .int .u64 a1_4, .bool a1_5]] w fun e w' => e = .returned (.tuple #[.int .u64 r1, errW r2]) ∧ Below w.heap.size w w' := by
 have hu24 := Try.underlying24
 have hu27 := Try.underlying27
 have hu55 := Try.underlying55
 have HB := Aside0.mk (Below.refl w.heap.size w)
 have H : ((round_Cut.f k a0 a1_0 a1_1 a1_2 a1_3 a1_4 a1_5).bind fun bt173 => (if bt173.2.2.isNone = true then (if bt173.2.1 = 2 then (if (Go.bits .and .u64 bt173.1 1) = 0 then (if a1_1 = true then ((shape_Fold.f a0 (IntKind.u64.wrap (-bt173.1))).bind fun bt185 => (some (bt185.1, bt185.2))) else ((shape_Fold.f a0 bt173.1).bind fun bt187 => (some (bt187.1, bt187.2)))) else (if a1_1 = true then ((shape_Fold.f a0 (IntKind.u64.wrap (-(IntKind.u64.wrap (bt173.1 + 1))))).bind fun bt189 => (some (bt189.1, bt189.2))) else ((shape_Fold.f a0 (IntKind.u64.wrap (bt173.1 + 1))).bind fun bt191 => (some (bt191.1, bt191.2))))) else (if bt173.2.1 = 3 then (if a1_1 = true then ((shape_Fold.f a0 (IntKind.u64.wrap (-(IntKind.u64.wrap (bt173.1 + 1))))).bind fun bt177 => (some (bt177.1, bt177.2))) else ((shape_Fold.f a0 (IntKind.u64.wrap (bt173.1 + 1))).bind fun bt179 => (some (bt179.1, bt179.2)))) else (if a1_1 = true then ((shape_Fold.f a0 (IntKind.u64.wrap (-bt173.1))).bind fun bt181 => (some (bt181.1, bt181.2))) else ((shape_Fold.f a0 bt173.1).bind fun bt183 => (some (bt183.1, bt183.2)))))) else (some (0, some (bt173.2.2.getD 0))))) = some (r1, r2) := h
 clear h
 replace H := Option.bind_eq_some_iff.mp H
 obtain ⟨⟨t173, t174, t175⟩, A30, H⟩ := H
 replace H : (if t175.isNone = true then (if t174 = 2 then (if (Go.bits .and .u64 t173 1) = 0 then (if a1_1 = true then ((shape_Fold.f a0 (IntKind.u64.wrap (-t173))).bind fun bt185 => (some (bt185.1, bt185.2))) else ((shape_Fold.f a0 t173).bind fun bt187 => (some (bt187.1, bt187.2)))) else (if a1_1 = true then ((shape_Fold.f a0 (IntKind.u64.wrap (-(IntKind.u64.wrap (t173 + 1))))).bind fun bt189 => (some (bt189.1, bt189.2))) else ((shape_Fold.f a0 (IntKind.u64.wrap (t173 + 1))).bind fun bt191 => (some (bt191.1, bt191.2))))) else (if t174 = 3 then (if a1_1 = true then ((shape_Fold.f a0 (IntKind.u64.wrap (-(IntKind.u64.wrap (t173 + 1))))).bind fun bt177 => (some (bt177.1, bt177.2))) else ((shape_Fold.f a0 (IntKind.u64.wrap (t173 + 1))).bind fun bt179 => (some (bt179.1, bt179.2)))) else (if a1_1 = true then ((shape_Fold.f a0 (IntKind.u64.wrap (-t173))).bind fun bt181 => (some (bt181.1, bt181.2))) else ((shape_Fold.f a0 t173).bind fun bt183 => (some (bt183.1, bt183.2)))))) else (some (0, some (t175.getD 0)))) = some (r1, r2) := H
 have A3 := Aside0.mk A30
 clear A30
 rcases t175 with _ | q176
 ·have H1 : (if t174 = 2 then (if (Go.bits .and .u64 t173 1) = 0 then (if a1_1 = true then ((shape_Fold.f a0 (IntKind.u64.wrap (-t173))).bind fun bt185 => (some (bt185.1, bt185.2))) else ((shape_Fold.f a0 t173).bind fun bt187 => (some (bt187.1, bt187.2)))) else (if a1_1 = true then ((shape_Fold.f a0 (IntKind.u64.wrap (-(IntKind.u64.wrap (t173 + 1))))).bind fun bt189 => (some (bt189.1, bt189.2))) else ((shape_Fold.f a0 (IntKind.u64.wrap (t173 + 1))).bind fun bt191 => (some (bt191.1, bt191.2))))) else (if t174 = 3 then (if a1_1 = true then ((shape_Fold.f a0 (IntKind.u64.wrap (-(IntKind.u64.wrap (t173 + 1))))).bind fun bt177 => (some (bt177.1, bt177.2))) else ((shape_Fold.f a0 (IntKind.u64.wrap (t173 + 1))).bind fun bt179 => (some (bt179.1, bt179.2)))) else (if a1_1 = true then ((shape_Fold.f a0 (IntKind.u64.wrap (-t173))).bind fun bt181 => (some (bt181.1, bt181.2))) else ((shape_Fold.f a0 t173).bind fun bt183 => (some (bt183.1, bt183.2)))))) = some (r1, r2) := by rw [if_pos (show (none : Option Int).isNone = true by rfl)] at H; exact H
  clear H
  have H := H1
  clear H1
  try simp only [errW_none, errW_some]
  by_cases c4 : t174 = 2
  ·rw [if_pos c4] at H
   have c4b0 : (t174 == 2) = true := beq_iff_eq.mpr c4
   have c4b1 : (t174 != 2) = false := bne_eq_false_iff_eq.mpr c4
   clear c4
   by_cases c5 : (Go.bits .and .u64 t173 1) = 0
   ·rw [if_pos c5] at H
    have c5b0 : ((Go.bits .and .u64 t173 1) == 0) = true := beq_iff_eq.mpr c5
    have c5b1 : ((Go.bits .and .u64 t173 1) != 0) = false := bne_eq_false_iff_eq.mpr c5
    clear c5
    by_cases c6 : a1_1 = true
    ·subst c6
     have H1 : ((shape_Fold.f a0 (IntKind.u64.wrap (-t173))).bind fun bt185 => (some (bt185.1, bt185.2))) = some (r1, r2) := by rw [if_pos rfl] at H; exact H
     clear H
     have H := H1
     clear H1
     replace H := Option.bind_eq_some_iff.mp H
     obtain ⟨⟨t185, t186⟩, A70, H⟩ := H
     replace H : (some (t185, t186)) = some (r1, r2) := H
     have A7 := Aside0.mk A70
     clear A70
     simp only [Option.some.injEq, Prod.mk.injEq] at H
     obtain ⟨rfl, rfl⟩ := H
     go_enter Try.func14, Try.ntmps14
     go_wp2_with (first | ((with_reducible refine gate_dst (N := 3) rfl ?_); refine box_event ?hg (N := 3) ?hd (cs := #[.int .i64 a1_0, .bool true, .int .i64 a1_2, .int .u64 a1_3, .int .u64 a1_4, .bool a1_5]) (t := 24) ?hr ?_; (case hd => rfl); (case hg => rfl); (case hr => first | (go_simp; done) | (go_simp; rfl)); intro gb172 hg w8 hbox hb; have n0_ := Aside0.mk (below_step (z3_ HB.out) hb); have n1_ := Aside0.mk (hbox); have n2_ := Aside0.mk ((by rw [hg]; exact (below_size (z3_ HB.out)) : w.heap.size ≤ gb172)); have n3_ := Aside0.mk ((by rw [hg]; exact (below_size (z3_ HB.out)) : w.heap.size ≤ gb172)); clear HB; have HB := n0_; have BK172 := n1_; have GW172 := n2_; have GE172 := n3_; clear n0_ n1_ n2_ n3_; clear hb hbox hg; have hcz9_0 := z4_ BK172.out 0 (.int .i64 a1_0) rfl; have hcz9_1 := z4_ BK172.out 1 (.bool true) rfl; have hcz9_2 := z4_ BK172.out 2 (.int .i64 a1_2) rfl; have hcz9_3 := z4_ BK172.out 3 (.int .u64 a1_3) rfl; have hcz9_4 := z4_ BK172.out 4 (.int .u64 a1_4) rfl; have hcz9_5 := z4_ BK172.out 5 (.bool a1_5) rfl; have hfz9_0 := blk_frozen BK172.out 0; have hfz9_1 := blk_frozen BK172.out 1; have hfz9_2 := blk_frozen BK172.out 2; have hfz9_3 := blk_frozen BK172.out 3; have hfz9_4 := blk_frozen BK172.out 4; have hfz9_5 := blk_frozen BK172.out 5) | ((with_reducible refine gate_callee (f := 11) rfl ?_); refine goesL_ (some 12) rfl rfl Try.func11 (by kernel_rfl) rfl #[.int .i64 a0, .agg #[.int .i64 a1_0, .bool true, .int .i64 a1_2, .int .u64 a1_3, .int .u64 a1_4, .bool a1_5]] rfl z5_ ?_; (with_reducible refine (round_Cut.calls k a0 a1_0 true a1_2 a1_3 a1_4 a1_5 t173 t174 none _ A3.out).mono ?_); rintro e w10 ⟨rfl, hb⟩; refine ⟨_, rfl, ?_⟩; have n0_ := Aside0.mk (blk_below (g := gb172) (z1_ BK172.out) hb); have n1_ := Aside0.mk (below_step (z3_ HB.out) hb); clear BK172; clear HB; have BK172 := n0_; have HB := n1_; clear n0_ n1_; (try clear hb); (try clear hb2); (try clear hk); (try clear hi); (try simp only [errW_none, errW_some]); have hcz11_0 := z4_ BK172.out 0 (.int .i64 a1_0) rfl; have hcz11_1 := z4_ BK172.out 1 (.bool true) rfl; have hcz11_2 := z4_ BK172.out 2 (.int .i64 a1_2) rfl; have hcz11_3 := z4_ BK172.out 3 (.int .u64 a1_3) rfl; have hcz11_4 := z4_ BK172.out 4 (.int .u64 a1_4) rfl; have hcz11_5 := z4_ BK172.out 5 (.bool a1_5) rfl; have hfz11_0 := blk_frozen BK172.out 0; have hfz11_1 := blk_frozen BK172.out 1; have hfz11_2 := blk_frozen BK172.out 2; have hfz11_3 := blk_frozen BK172.out 3; have hfz11_4 := blk_frozen BK172.out 4; have hfz11_5 := blk_frozen BK172.out 5) | ((with_reducible refine gate_callee (f := 38) rfl ?_); refine goesL_ (some 35) rfl rfl Try.func38 (by kernel_rfl) rfl #[.int .i64 a0, .int .u64 (IntKind.u64.wrap (-t173))] rfl z5_ ?_; (with_reducible refine (shape_Fold.calls a0 (IntKind.u64.wrap (-t173)) t185 t186 _ A7.out).mono ?_); rintro e w' ⟨rfl, ⟨nd, rfl⟩⟩; refine ⟨_, rfl, ?_⟩; (try simp only [errW_none, errW_some])))
     go_ret2
     exact ⟨by first | rfl | (simp [errW_none, errW_some] <;> rfl) | (simp [*, errW_none, errW_some] <;> rfl), by repeat (first | (with_reducible first | exact HB.out | apply below_alloc | apply pw_below_drewN | apply below_drew1 | refine below_set ?_ GE172.out) | exact HB.out)⟩
    ·replace c6 := Bool.eq_false_iff.mpr c6
     subst c6
     have H1 : ((shape_Fold.f a0 t173).bind fun bt187 => (some (bt187.1, bt187.2))) = some (r1, r2) := by rw [if_neg (show ¬ (false = true) by decide)] at H; exact H
     clear H
     have H := H1
     clear H1
     replace H := Option.bind_eq_some_iff.mp H
     obtain ⟨⟨t187, t188⟩, A120, H⟩ := H
     replace H : (some (t187, t188)) = some (r1, r2) := H
     have A12 := Aside0.mk A120
     clear A120
     simp only [Option.some.injEq, Prod.mk.injEq] at H
     obtain ⟨rfl, rfl⟩ := H
     go_enter Try.func14, Try.ntmps14
     go_wp2_with (first | ((with_reducible refine gate_dst (N := 3) rfl ?_); refine box_event ?hg (N := 3) ?hd (cs := #[.int .i64 a1_0, .bool false, .int .i64 a1_2, .int .u64 a1_3, .int .u64 a1_4, .bool a1_5]) (t := 24) ?hr ?_; (case hd => rfl); (case hg => rfl); (case hr => first | (go_simp; done) | (go_simp; rfl)); intro gb172 hg w13 hbox hb; have n0_ := Aside0.mk (below_step (z3_ HB.out) hb); have n1_ := Aside0.mk (hbox); have n2_ := Aside0.mk ((by rw [hg]; exact (below_size (z3_ HB.out)) : w.heap.size ≤ gb172)); have n3_ := Aside0.mk ((by rw [hg]; exact (below_size (z3_ HB.out)) : w.heap.size ≤ gb172)); clear HB; have HB := n0_; have BK172 := n1_; have GW172 := n2_; have GE172 := n3_; clear n0_ n1_ n2_ n3_; clear hb hbox hg; have hcz14_0 := z4_ BK172.out 0 (.int .i64 a1_0) rfl; have hcz14_1 := z4_ BK172.out 1 (.bool false) rfl; have hcz14_2 := z4_ BK172.out 2 (.int .i64 a1_2) rfl; have hcz14_3 := z4_ BK172.out 3 (.int .u64 a1_3) rfl; have hcz14_4 := z4_ BK172.out 4 (.int .u64 a1_4) rfl; have hcz14_5 := z4_ BK172.out 5 (.bool a1_5) rfl; have hfz14_0 := blk_frozen BK172.out 0; have hfz14_1 := blk_frozen BK172.out 1; have hfz14_2 := blk_frozen BK172.out 2; have hfz14_3 := blk_frozen BK172.out 3; have hfz14_4 := blk_frozen BK172.out 4; have hfz14_5 := blk_frozen BK172.out 5) | ((with_reducible refine gate_callee (f := 11) rfl ?_); refine goesL_ (some 12) rfl rfl Try.func11 (by kernel_rfl) rfl #[.int .i64 a0, .agg #[.int .i64 a1_0, .bool false, .int .i64 a1_2, .int .u64 a1_3, .int .u64 a1_4, .bool a1_5]] rfl z5_ ?_; (with_reducible refine (round_Cut.calls k a0 a1_0 false a1_2 a1_3 a1_4 a1_5 t173 t174 none _ A3.out).mono ?_); rintro e w15 ⟨rfl, hb⟩; refine ⟨_, rfl, ?_⟩; have n0_ := Aside0.mk (blk_below (g := gb172) (z1_ BK172.out) hb); have n1_ := Aside0.mk (below_step (z3_ HB.out) hb); clear BK172; clear HB; have BK172 := n0_; have HB := n1_; clear n0_ n1_; (try clear hb); (try clear hb2); (try clear hk); (try clear hi); (try simp only [errW_none, errW_some]); have hcz16_0 := z4_ BK172.out 0 (.int .i64 a1_0) rfl; have hcz16_1 := z4_ BK172.out 1 (.bool false) rfl; have hcz16_2 := z4_ BK172.out 2 (.int .i64 a1_2) rfl; have hcz16_3 := z4_ BK172.out 3 (.int .u64 a1_3) rfl; have hcz16_4 := z4_ BK172.out 4 (.int .u64 a1_4) rfl; have hcz16_5 := z4_ BK172.out 5 (.bool a1_5) rfl; have hfz16_0 := blk_frozen BK172.out 0; have hfz16_1 := blk_frozen BK172.out 1; have hfz16_2 := blk_frozen BK172.out 2; have hfz16_3 := blk_frozen BK172.out 3; have hfz16_4 := blk_frozen BK172.out 4; have hfz16_5 := blk_frozen BK172.out 5) | ((with_reducible refine gate_callee (f := 38) rfl ?_); refine goesL_ (some 35) rfl rfl Try.func38 (by kernel_rfl) rfl #[.int .i64 a0, .int .u64 t173] rfl z5_ ?_; (with_reducible refine (shape_Fold.calls a0 t173 t187 t188 _ A12.out).mono ?_); rintro e w' ⟨rfl, ⟨nd, rfl⟩⟩; refine ⟨_, rfl, ?_⟩; (try simp only [errW_none, errW_some])))
     go_ret2
     exact ⟨by first | rfl | (simp [errW_none, errW_some] <;> rfl) | (simp [*, errW_none, errW_some] <;> rfl), by repeat (first | (with_reducible first | exact HB.out | apply below_alloc | apply pw_below_drewN | apply below_drew1 | refine below_set ?_ GE172.out) | exact HB.out)⟩
   ·rw [if_neg c5] at H
    have c5b0 : ((Go.bits .and .u64 t173 1) == 0) = false := beq_eq_false_iff_ne.mpr c5
    have c5b1 : ((Go.bits .and .u64 t173 1) != 0) = true := bne_iff_ne.mpr c5
    by_cases c17 : a1_1 = true
    ·subst c17
     have H1 : ((shape_Fold.f a0 (IntKind.u64.wrap (-(IntKind.u64.wrap (t173 + 1))))).bind fun bt189 => (some (bt189.1, bt189.2))) = some (r1, r2) := by rw [if_pos rfl] at H; exact H
     clear H
     have H := H1
     clear H1
     replace H := Option.bind_eq_some_iff.mp H
     obtain ⟨⟨t189, t190⟩, A180, H⟩ := H
     replace H : (some (t189, t190)) = some (r1, r2) := H
     have A18 := Aside0.mk A180
     clear A180
     simp only [Option.some.injEq, Prod.mk.injEq] at H
     obtain ⟨rfl, rfl⟩ := H
     go_enter Try.func14, Try.ntmps14
     go_wp2_with (first | ((with_reducible refine gate_dst (N := 3) rfl ?_); refine box_event ?hg (N := 3) ?hd (cs := #[.int .i64 a1_0, .bool true, .int .i64 a1_2, .int .u64 a1_3, .int .u64 a1_4, .bool a1_5]) (t := 24) ?hr ?_; (case hd => rfl); (case hg => rfl); (case hr => first | (go_simp; done) | (go_simp; rfl)); intro gb172 hg w19 hbox hb; have n0_ := Aside0.mk (below_step (z3_ HB.out) hb); have n1_ := Aside0.mk (hbox); have n2_ := Aside0.mk ((by rw [hg]; exact (below_size (z3_ HB.out)) : w.heap.size ≤ gb172)); have n3_ := Aside0.mk ((by rw [hg]; exact (below_size (z3_ HB.out)) : w.heap.size ≤ gb172)); clear HB; have HB := n0_; have BK172 := n1_; have GW172 := n2_; have GE172 := n3_; clear n0_ n1_ n2_ n3_; clear hb hbox hg; have hcz20_0 := z4_ BK172.out 0 (.int .i64 a1_0) rfl; have hcz20_1 := z4_ BK172.out 1 (.bool true) rfl; have hcz20_2 := z4_ BK172.out 2 (.int .i64 a1_2) rfl; have hcz20_3 := z4_ BK172.out 3 (.int .u64 a1_3) rfl; have hcz20_4 := z4_ BK172.out 4 (.int .u64 a1_4) rfl; have hcz20_5 := z4_ BK172.out 5 (.bool a1_5) rfl; have hfz20_0 := blk_frozen BK172.out 0; have hfz20_1 := blk_frozen BK172.out 1; have hfz20_2 := blk_frozen BK172.out 2; have hfz20_3 := blk_frozen BK172.out 3; have hfz20_4 := blk_frozen BK172.out 4; have hfz20_5 := blk_frozen BK172.out 5) | ((with_reducible refine gate_callee (f := 11) rfl ?_); refine goesL_ (some 12) rfl rfl Try.func11 (by kernel_rfl) rfl #[.int .i64 a0, .agg #[.int .i64 a1_0, .bool true, .int .i64 a1_2, .int .u64 a1_3, .int .u64 a1_4, .bool a1_5]] rfl z5_ ?_; (with_reducible refine (round_Cut.calls k a0 a1_0 true a1_2 a1_3 a1_4 a1_5 t173 t174 none _ A3.out).mono ?_); rintro e w21 ⟨rfl, hb⟩; refine ⟨_, rfl, ?_⟩; have n0_ := Aside0.mk (blk_below (g := gb172) (z1_ BK172.out) hb); have n1_ := Aside0.mk (below_step (z3_ HB.out) hb); clear BK172; clear HB; have BK172 := n0_; have HB := n1_; clear n0_ n1_; (try clear hb); (try clear hb2); (try clear hk); (try clear hi); (try simp only [errW_none, errW_some]); have hcz22_0 := z4_ BK172.out 0 (.int .i64 a1_0) rfl; have hcz22_1 := z4_ BK172.out 1 (.bool true) rfl; have hcz22_2 := z4_ BK172.out 2 (.int .i64 a1_2) rfl; have hcz22_3 := z4_ BK172.out 3 (.int .u64 a1_3) rfl; have hcz22_4 := z4_ BK172.out 4 (.int .u64 a1_4) rfl; have hcz22_5 := z4_ BK172.out 5 (.bool a1_5) rfl; have hfz22_0 := blk_frozen BK172.out 0; have hfz22_1 := blk_frozen BK172.out 1; have hfz22_2 := blk_frozen BK172.out 2; have hfz22_3 := blk_frozen BK172.out 3; have hfz22_4 := blk_frozen BK172.out 4; have hfz22_5 := blk_frozen BK172.out 5) | ((with_reducible refine gate_callee (f := 38) rfl ?_); refine goesL_ (some 35) rfl rfl Try.func38 (by kernel_rfl) rfl #[.int .i64 a0, .int .u64 (IntKind.u64.wrap (-(IntKind.u64.wrap (t173 + 1))))] rfl z5_ ?_; (with_reducible refine (shape_Fold.calls a0 (IntKind.u64.wrap (-(IntKind.u64.wrap (t173 + 1)))) t189 t190 _ A18.out).mono ?_); rintro e w' ⟨rfl, ⟨nd, rfl⟩⟩; refine ⟨_, rfl, ?_⟩; (try simp only [errW_none, errW_some])))
     go_ret2
     exact ⟨by first | rfl | (simp [errW_none, errW_some] <;> rfl) | (simp [*, errW_none, errW_some] <;> rfl), by repeat (first | (with_reducible first | exact HB.out | apply below_alloc | apply pw_below_drewN | apply below_drew1 | refine below_set ?_ GE172.out) | exact HB.out)⟩
    ·replace c17 := Bool.eq_false_iff.mpr c17
     subst c17
     have H1 : ((shape_Fold.f a0 (IntKind.u64.wrap (t173 + 1))).bind fun bt191 => (some (bt191.1, bt191.2))) = some (r1, r2) := by rw [if_neg (show ¬ (false = true) by decide)] at H; exact H
     clear H
     have H := H1
     clear H1
     replace H := Option.bind_eq_some_iff.mp H
     obtain ⟨⟨t191, t192⟩, A230, H⟩ := H
     replace H : (some (t191, t192)) = some (r1, r2) := H
     have A23 := Aside0.mk A230
     clear A230
     simp only [Option.some.injEq, Prod.mk.injEq] at H
     obtain ⟨rfl, rfl⟩ := H
     go_enter Try.func14, Try.ntmps14
     go_wp2_with (first | ((with_reducible refine gate_dst (N := 3) rfl ?_); refine box_event ?hg (N := 3) ?hd (cs := #[.int .i64 a1_0, .bool false, .int .i64 a1_2, .int .u64 a1_3, .int .u64 a1_4, .bool a1_5]) (t := 24) ?hr ?_; (case hd => rfl); (case hg => rfl); (case hr => first | (go_simp; done) | (go_simp; rfl)); intro gb172 hg w24 hbox hb; have n0_ := Aside0.mk (below_step (z3_ HB.out) hb); have n1_ := Aside0.mk (hbox); have n2_ := Aside0.mk ((by rw [hg]; exact (below_size (z3_ HB.out)) : w.heap.size ≤ gb172)); have n3_ := Aside0.mk ((by rw [hg]; exact (below_size (z3_ HB.out)) : w.heap.size ≤ gb172)); clear HB; have HB := n0_; have BK172 := n1_; have GW172 := n2_; have GE172 := n3_; clear n0_ n1_ n2_ n3_; clear hb hbox hg; have hcz25_0 := z4_ BK172.out 0 (.int .i64 a1_0) rfl; have hcz25_1 := z4_ BK172.out 1 (.bool false) rfl; have hcz25_2 := z4_ BK172.out 2 (.int .i64 a1_2) rfl; have hcz25_3 := z4_ BK172.out 3 (.int .u64 a1_3) rfl; have hcz25_4 := z4_ BK172.out 4 (.int .u64 a1_4) rfl; have hcz25_5 := z4_ BK172.out 5 (.bool a1_5) rfl; have hfz25_0 := blk_frozen BK172.out 0; have hfz25_1 := blk_frozen BK172.out 1; have hfz25_2 := blk_frozen BK172.out 2; have hfz25_3 := blk_frozen BK172.out 3; have hfz25_4 := blk_frozen BK172.out 4; have hfz25_5 := blk_frozen BK172.out 5) | ((with_reducible refine gate_callee (f := 11) rfl ?_); refine goesL_ (some 12) rfl rfl Try.func11 (by kernel_rfl) rfl #[.int .i64 a0, .agg #[.int .i64 a1_0, .bool false, .int .i64 a1_2, .int .u64 a1_3, .int .u64 a1_4, .bool a1_5]] rfl z5_ ?_; (with_reducible refine (round_Cut.calls k a0 a1_0 false a1_2 a1_3 a1_4 a1_5 t173 t174 none _ A3.out).mono ?_); rintro e w26 ⟨rfl, hb⟩; refine ⟨_, rfl, ?_⟩; have n0_ := Aside0.mk (blk_below (g := gb172) (z1_ BK172.out) hb); have n1_ := Aside0.mk (below_step (z3_ HB.out) hb); clear BK172; clear HB; have BK172 := n0_; have HB := n1_; clear n0_ n1_; (try clear hb); (try clear hb2); (try clear hk); (try clear hi); (try simp only [errW_none, errW_some]); have hcz27_0 := z4_ BK172.out 0 (.int .i64 a1_0) rfl; have hcz27_1 := z4_ BK172.out 1 (.bool false) rfl; have hcz27_2 := z4_ BK172.out 2 (.int .i64 a1_2) rfl; have hcz27_3 := z4_ BK172.out 3 (.int .u64 a1_3) rfl; have hcz27_4 := z4_ BK172.out 4 (.int .u64 a1_4) rfl; have hcz27_5 := z4_ BK172.out 5 (.bool a1_5) rfl; have hfz27_0 := blk_frozen BK172.out 0; have hfz27_1 := blk_frozen BK172.out 1; have hfz27_2 := blk_frozen BK172.out 2; have hfz27_3 := blk_frozen BK172.out 3; have hfz27_4 := blk_frozen BK172.out 4; have hfz27_5 := blk_frozen BK172.out 5) | ((with_reducible refine gate_callee (f := 38) rfl ?_); refine goesL_ (some 35) rfl rfl Try.func38 (by kernel_rfl) rfl #[.int .i64 a0, .int .u64 (IntKind.u64.wrap (t173 + 1))] rfl z5_ ?_; (with_reducible refine (shape_Fold.calls a0 (IntKind.u64.wrap (t173 + 1)) t191 t192 _ A23.out).mono ?_); rintro e w' ⟨rfl, ⟨nd, rfl⟩⟩; refine ⟨_, rfl, ?_⟩; (try simp only [errW_none, errW_some])))
     go_ret2
     exact ⟨by first | rfl | (simp [errW_none, errW_some] <;> rfl) | (simp [*, errW_none, errW_some] <;> rfl), by repeat (first | (with_reducible first | exact HB.out | apply below_alloc | apply pw_below_drewN | apply below_drew1 | refine below_set ?_ GE172.out) | exact HB.out)⟩
  ·rw [if_neg c4] at H
   have c4b0 : (t174 == 2) = false := beq_eq_false_iff_ne.mpr c4
   have c4b1 : (t174 != 2) = true := bne_iff_ne.mpr c4
   by_cases c28 : t174 = 3
   ·rw [if_pos c28] at H
    have c28b0 : (t174 == 3) = true := beq_iff_eq.mpr c28
    have c28b1 : (t174 != 3) = false := bne_eq_false_iff_eq.mpr c28
    clear c28
    by_cases c29 : a1_1 = true
    ·subst c29
     have H1 : ((shape_Fold.f a0 (IntKind.u64.wrap (-(IntKind.u64.wrap (t173 + 1))))).bind fun bt177 => (some (bt177.1, bt177.2))) = some (r1, r2) := by rw [if_pos rfl] at H; exact H
     clear H
     have H := H1
     clear H1
     replace H := Option.bind_eq_some_iff.mp H
     obtain ⟨⟨t177, t178⟩, A300, H⟩ := H
     replace H : (some (t177, t178)) = some (r1, r2) := H
     have A30 := Aside0.mk A300
     clear A300
     simp only [Option.some.injEq, Prod.mk.injEq] at H
     obtain ⟨rfl, rfl⟩ := H
     go_enter Try.func14, Try.ntmps14
     go_wp2_with (first | ((with_reducible refine gate_dst (N := 3) rfl ?_); refine box_event ?hg (N := 3) ?hd (cs := #[.int .i64 a1_0, .bool true, .int .i64 a1_2, .int .u64 a1_3, .int .u64 a1_4, .bool a1_5]) (t := 24) ?hr ?_; (case hd => rfl); (case hg => rfl); (case hr => first | (go_simp; done) | (go_simp; rfl)); intro gb172 hg w31 hbox hb; have n0_ := Aside0.mk (below_step (z3_ HB.out) hb); have n1_ := Aside0.mk (hbox); have n2_ := Aside0.mk ((by rw [hg]; exact (below_size (z3_ HB.out)) : w.heap.size ≤ gb172)); have n3_ := Aside0.mk ((by rw [hg]; exact (below_size (z3_ HB.out)) : w.heap.size ≤ gb172)); clear HB; have HB := n0_; have BK172 := n1_; have GW172 := n2_; have GE172 := n3_; clear n0_ n1_ n2_ n3_; clear hb hbox hg; have hcz32_0 := z4_ BK172.out 0 (.int .i64 a1_0) rfl; have hcz32_1 := z4_ BK172.out 1 (.bool true) rfl; have hcz32_2 := z4_ BK172.out 2 (.int .i64 a1_2) rfl; have hcz32_3 := z4_ BK172.out 3 (.int .u64 a1_3) rfl; have hcz32_4 := z4_ BK172.out 4 (.int .u64 a1_4) rfl; have hcz32_5 := z4_ BK172.out 5 (.bool a1_5) rfl; have hfz32_0 := blk_frozen BK172.out 0; have hfz32_1 := blk_frozen BK172.out 1; have hfz32_2 := blk_frozen BK172.out 2; have hfz32_3 := blk_frozen BK172.out 3; have hfz32_4 := blk_frozen BK172.out 4; have hfz32_5 := blk_frozen BK172.out 5) | ((with_reducible refine gate_callee (f := 11) rfl ?_); refine goesL_ (some 12) rfl rfl Try.func11 (by kernel_rfl) rfl #[.int .i64 a0, .agg #[.int .i64 a1_0, .bool true, .int .i64 a1_2, .int .u64 a1_3, .int .u64 a1_4, .bool a1_5]] rfl z5_ ?_; (with_reducible refine (round_Cut.calls k a0 a1_0 true a1_2 a1_3 a1_4 a1_5 t173 t174 none _ A3.out).mono ?_); rintro e w33 ⟨rfl, hb⟩; refine ⟨_, rfl, ?_⟩; have n0_ := Aside0.mk (blk_below (g := gb172) (z1_ BK172.out) hb); have n1_ := Aside0.mk (below_step (z3_ HB.out) hb); clear BK172; clear HB; have BK172 := n0_; have HB := n1_; clear n0_ n1_; (try clear hb); (try clear hb2); (try clear hk); (try clear hi); (try simp only [errW_none, errW_some]); have hcz34_0 := z4_ BK172.out 0 (.int .i64 a1_0) rfl; have hcz34_1 := z4_ BK172.out 1 (.bool true) rfl; have hcz34_2 := z4_ BK172.out 2 (.int .i64 a1_2) rfl; have hcz34_3 := z4_ BK172.out 3 (.int .u64 a1_3) rfl; have hcz34_4 := z4_ BK172.out 4 (.int .u64 a1_4) rfl; have hcz34_5 := z4_ BK172.out 5 (.bool a1_5) rfl; have hfz34_0 := blk_frozen BK172.out 0; have hfz34_1 := blk_frozen BK172.out 1; have hfz34_2 := blk_frozen BK172.out 2; have hfz34_3 := blk_frozen BK172.out 3; have hfz34_4 := blk_frozen BK172.out 4; have hfz34_5 := blk_frozen BK172.out 5) | ((with_reducible refine gate_callee (f := 38) rfl ?_); refine goesL_ (some 35) rfl rfl Try.func38 (by kernel_rfl) rfl #[.int .i64 a0, .int .u64 (IntKind.u64.wrap (-(IntKind.u64.wrap (t173 + 1))))] rfl z5_ ?_; (with_reducible refine (shape_Fold.calls a0 (IntKind.u64.wrap (-(IntKind.u64.wrap (t173 + 1)))) t177 t178 _ A30.out).mono ?_); rintro e w' ⟨rfl, ⟨nd, rfl⟩⟩; refine ⟨_, rfl, ?_⟩; (try simp only [errW_none, errW_some])))
     go_ret2
     exact ⟨by first | rfl | (simp [errW_none, errW_some] <;> rfl) | (simp [*, errW_none, errW_some] <;> rfl), by repeat (first | (with_reducible first | exact HB.out | apply below_alloc | apply pw_below_drewN | apply below_drew1 | refine below_set ?_ GE172.out) | exact HB.out)⟩
    ·replace c29 := Bool.eq_false_iff.mpr c29
     subst c29
     have H1 : ((shape_Fold.f a0 (IntKind.u64.wrap (t173 + 1))).bind fun bt179 => (some (bt179.1, bt179.2))) = some (r1, r2) := by rw [if_neg (show ¬ (false = true) by decide)] at H; exact H
     clear H
     have H := H1
     clear H1
     replace H := Option.bind_eq_some_iff.mp H
     obtain ⟨⟨t179, t180⟩, A350, H⟩ := H
     replace H : (some (t179, t180)) = some (r1, r2) := H
     have A35 := Aside0.mk A350
     clear A350
     simp only [Option.some.injEq, Prod.mk.injEq] at H
     obtain ⟨rfl, rfl⟩ := H
     go_enter Try.func14, Try.ntmps14
     go_wp2_with (first | ((with_reducible refine gate_dst (N := 3) rfl ?_); refine box_event ?hg (N := 3) ?hd (cs := #[.int .i64 a1_0, .bool false, .int .i64 a1_2, .int .u64 a1_3, .int .u64 a1_4, .bool a1_5]) (t := 24) ?hr ?_; (case hd => rfl); (case hg => rfl); (case hr => first | (go_simp; done) | (go_simp; rfl)); intro gb172 hg w36 hbox hb; have n0_ := Aside0.mk (below_step (z3_ HB.out) hb); have n1_ := Aside0.mk (hbox); have n2_ := Aside0.mk ((by rw [hg]; exact (below_size (z3_ HB.out)) : w.heap.size ≤ gb172)); have n3_ := Aside0.mk ((by rw [hg]; exact (below_size (z3_ HB.out)) : w.heap.size ≤ gb172)); clear HB; have HB := n0_; have BK172 := n1_; have GW172 := n2_; have GE172 := n3_; clear n0_ n1_ n2_ n3_; clear hb hbox hg; have hcz37_0 := z4_ BK172.out 0 (.int .i64 a1_0) rfl; have hcz37_1 := z4_ BK172.out 1 (.bool false) rfl; have hcz37_2 := z4_ BK172.out 2 (.int .i64 a1_2) rfl; have hcz37_3 := z4_ BK172.out 3 (.int .u64 a1_3) rfl; have hcz37_4 := z4_ BK172.out 4 (.int .u64 a1_4) rfl; have hcz37_5 := z4_ BK172.out 5 (.bool a1_5) rfl; have hfz37_0 := blk_frozen BK172.out 0; have hfz37_1 := blk_frozen BK172.out 1; have hfz37_2 := blk_frozen BK172.out 2; have hfz37_3 := blk_frozen BK172.out 3; have hfz37_4 := blk_frozen BK172.out 4; have hfz37_5 := blk_frozen BK172.out 5) | ((with_reducible refine gate_callee (f := 11) rfl ?_); refine goesL_ (some 12) rfl rfl Try.func11 (by kernel_rfl) rfl #[.int .i64 a0, .agg #[.int .i64 a1_0, .bool false, .int .i64 a1_2, .int .u64 a1_3, .int .u64 a1_4, .bool a1_5]] rfl z5_ ?_; (with_reducible refine (round_Cut.calls k a0 a1_0 false a1_2 a1_3 a1_4 a1_5 t173 t174 none _ A3.out).mono ?_); rintro e w38 ⟨rfl, hb⟩; refine ⟨_, rfl, ?_⟩; have n0_ := Aside0.mk (blk_below (g := gb172) (z1_ BK172.out) hb); have n1_ := Aside0.mk (below_step (z3_ HB.out) hb); clear BK172; clear HB; have BK172 := n0_; have HB := n1_; clear n0_ n1_; (try clear hb); (try clear hb2); (try clear hk); (try clear hi); (try simp only [errW_none, errW_some]); have hcz39_0 := z4_ BK172.out 0 (.int .i64 a1_0) rfl; have hcz39_1 := z4_ BK172.out 1 (.bool false) rfl; have hcz39_2 := z4_ BK172.out 2 (.int .i64 a1_2) rfl; have hcz39_3 := z4_ BK172.out 3 (.int .u64 a1_3) rfl; have hcz39_4 := z4_ BK172.out 4 (.int .u64 a1_4) rfl; have hcz39_5 := z4_ BK172.out 5 (.bool a1_5) rfl; have hfz39_0 := blk_frozen BK172.out 0; have hfz39_1 := blk_frozen BK172.out 1; have hfz39_2 := blk_frozen BK172.out 2; have hfz39_3 := blk_frozen BK172.out 3; have hfz39_4 := blk_frozen BK172.out 4; have hfz39_5 := blk_frozen BK172.out 5) | ((with_reducible refine gate_callee (f := 38) rfl ?_); refine goesL_ (some 35) rfl rfl Try.func38 (by kernel_rfl) rfl #[.int .i64 a0, .int .u64 (IntKind.u64.wrap (t173 + 1))] rfl z5_ ?_; (with_reducible refine (shape_Fold.calls a0 (IntKind.u64.wrap (t173 + 1)) t179 t180 _ A35.out).mono ?_); rintro e w' ⟨rfl, ⟨nd, rfl⟩⟩; refine ⟨_, rfl, ?_⟩; (try simp only [errW_none, errW_some])))
     go_ret2
     exact ⟨by first | rfl | (simp [errW_none, errW_some] <;> rfl) | (simp [*, errW_none, errW_some] <;> rfl), by repeat (first | (with_reducible first | exact HB.out | apply below_alloc | apply pw_below_drewN | apply below_drew1 | refine below_set ?_ GE172.out) | exact HB.out)⟩
   ·rw [if_neg c28] at H
    have c28b0 : (t174 == 3) = false := beq_eq_false_iff_ne.mpr c28
    have c28b1 : (t174 != 3) = true := bne_iff_ne.mpr c28
    by_cases c40 : a1_1 = true
    ·subst c40
     have H1 : ((shape_Fold.f a0 (IntKind.u64.wrap (-t173))).bind fun bt181 => (some (bt181.1, bt181.2))) = some (r1, r2) := by rw [if_pos rfl] at H; exact H
     clear H
     have H := H1
     clear H1
     replace H := Option.bind_eq_some_iff.mp H
     obtain ⟨⟨t181, t182⟩, A410, H⟩ := H
     replace H : (some (t181, t182)) = some (r1, r2) := H
     have A41 := Aside0.mk A410
     clear A410
     simp only [Option.some.injEq, Prod.mk.injEq] at H
     obtain ⟨rfl, rfl⟩ := H
     go_enter Try.func14, Try.ntmps14
     go_wp2_with (first | ((with_reducible refine gate_dst (N := 3) rfl ?_); refine box_event ?hg (N := 3) ?hd (cs := #[.int .i64 a1_0, .bool true, .int .i64 a1_2, .int .u64 a1_3, .int .u64 a1_4, .bool a1_5]) (t := 24) ?hr ?_; (case hd => rfl); (case hg => rfl); (case hr => first | (go_simp; done) | (go_simp; rfl)); intro gb172 hg w42 hbox hb; have n0_ := Aside0.mk (below_step (z3_ HB.out) hb); have n1_ := Aside0.mk (hbox); have n2_ := Aside0.mk ((by rw [hg]; exact (below_size (z3_ HB.out)) : w.heap.size ≤ gb172)); have n3_ := Aside0.mk ((by rw [hg]; exact (below_size (z3_ HB.out)) : w.heap.size ≤ gb172)); clear HB; have HB := n0_; have BK172 := n1_; have GW172 := n2_; have GE172 := n3_; clear n0_ n1_ n2_ n3_; clear hb hbox hg; have hcz43_0 := z4_ BK172.out 0 (.int .i64 a1_0) rfl; have hcz43_1 := z4_ BK172.out 1 (.bool true) rfl; have hcz43_2 := z4_ BK172.out 2 (.int .i64 a1_2) rfl; have hcz43_3 := z4_ BK172.out 3 (.int .u64 a1_3) rfl; have hcz43_4 := z4_ BK172.out 4 (.int .u64 a1_4) rfl; have hcz43_5 := z4_ BK172.out 5 (.bool a1_5) rfl; have hfz43_0 := blk_frozen BK172.out 0; have hfz43_1 := blk_frozen BK172.out 1; have hfz43_2 := blk_frozen BK172.out 2; have hfz43_3 := blk_frozen BK172.out 3; have hfz43_4 := blk_frozen BK172.out 4; have hfz43_5 := blk_frozen BK172.out 5) | ((with_reducible refine gate_callee (f := 11) rfl ?_); refine goesL_ (some 12) rfl rfl Try.func11 (by kernel_rfl) rfl #[.int .i64 a0, .agg #[.int .i64 a1_0, .bool true, .int .i64 a1_2, .int .u64 a1_3, .int .u64 a1_4, .bool a1_5]] rfl z5_ ?_; (with_reducible refine (round_Cut.calls k a0 a1_0 true a1_2 a1_3 a1_4 a1_5 t173 t174 none _ A3.out).mono ?_); rintro e w44 ⟨rfl, hb⟩; refine ⟨_, rfl, ?_⟩; have n0_ := Aside0.mk (blk_below (g := gb172) (z1_ BK172.out) hb); have n1_ := Aside0.mk (below_step (z3_ HB.out) hb); clear BK172; clear HB; have BK172 := n0_; have HB := n1_; clear n0_ n1_; (try clear hb); (try clear hb2); (try clear hk); (try clear hi); (try simp only [errW_none, errW_some]); have hcz45_0 := z4_ BK172.out 0 (.int .i64 a1_0) rfl; have hcz45_1 := z4_ BK172.out 1 (.bool true) rfl; have hcz45_2 := z4_ BK172.out 2 (.int .i64 a1_2) rfl; have hcz45_3 := z4_ BK172.out 3 (.int .u64 a1_3) rfl; have hcz45_4 := z4_ BK172.out 4 (.int .u64 a1_4) rfl; have hcz45_5 := z4_ BK172.out 5 (.bool a1_5) rfl; have hfz45_0 := blk_frozen BK172.out 0; have hfz45_1 := blk_frozen BK172.out 1; have hfz45_2 := blk_frozen BK172.out 2; have hfz45_3 := blk_frozen BK172.out 3; have hfz45_4 := blk_frozen BK172.out 4; have hfz45_5 := blk_frozen BK172.out 5) | ((with_reducible refine gate_callee (f := 38) rfl ?_); refine goesL_ (some 35) rfl rfl Try.func38 (by kernel_rfl) rfl #[.int .i64 a0, .int .u64 (IntKind.u64.wrap (-t173))] rfl z5_ ?_; (with_reducible refine (shape_Fold.calls a0 (IntKind.u64.wrap (-t173)) t181 t182 _ A41.out).mono ?_); rintro e w' ⟨rfl, ⟨nd, rfl⟩⟩; refine ⟨_, rfl, ?_⟩; (try simp only [errW_none, errW_some])))
     go_ret2
     exact ⟨by first | rfl | (simp [errW_none, errW_some] <;> rfl) | (simp [*, errW_none, errW_some] <;> rfl), by repeat (first | (with_reducible first | exact HB.out | apply below_alloc | apply pw_below_drewN | apply below_drew1 | refine below_set ?_ GE172.out) | exact HB.out)⟩
    ·replace c40 := Bool.eq_false_iff.mpr c40
     subst c40
     have H1 : ((shape_Fold.f a0 t173).bind fun bt183 => (some (bt183.1, bt183.2))) = some (r1, r2) := by rw [if_neg (show ¬ (false = true) by decide)] at H; exact H
     clear H
     have H := H1
     clear H1
     replace H := Option.bind_eq_some_iff.mp H
     obtain ⟨⟨t183, t184⟩, A460, H⟩ := H
     replace H : (some (t183, t184)) = some (r1, r2) := H
     have A46 := Aside0.mk A460
     clear A460
     simp only [Option.some.injEq, Prod.mk.injEq] at H
     obtain ⟨rfl, rfl⟩ := H
     go_enter Try.func14, Try.ntmps14
     go_wp2_with (first | ((with_reducible refine gate_dst (N := 3) rfl ?_); refine box_event ?hg (N := 3) ?hd (cs := #[.int .i64 a1_0, .bool false, .int .i64 a1_2, .int .u64 a1_3, .int .u64 a1_4, .bool a1_5]) (t := 24) ?hr ?_; (case hd => rfl); (case hg => rfl); (case hr => first | (go_simp; done) | (go_simp; rfl)); intro gb172 hg w47 hbox hb; have n0_ := Aside0.mk (below_step (z3_ HB.out) hb); have n1_ := Aside0.mk (hbox); have n2_ := Aside0.mk ((by rw [hg]; exact (below_size (z3_ HB.out)) : w.heap.size ≤ gb172)); have n3_ := Aside0.mk ((by rw [hg]; exact (below_size (z3_ HB.out)) : w.heap.size ≤ gb172)); clear HB; have HB := n0_; have BK172 := n1_; have GW172 := n2_; have GE172 := n3_; clear n0_ n1_ n2_ n3_; clear hb hbox hg; have hcz48_0 := z4_ BK172.out 0 (.int .i64 a1_0) rfl; have hcz48_1 := z4_ BK172.out 1 (.bool false) rfl; have hcz48_2 := z4_ BK172.out 2 (.int .i64 a1_2) rfl; have hcz48_3 := z4_ BK172.out 3 (.int .u64 a1_3) rfl; have hcz48_4 := z4_ BK172.out 4 (.int .u64 a1_4) rfl; have hcz48_5 := z4_ BK172.out 5 (.bool a1_5) rfl; have hfz48_0 := blk_frozen BK172.out 0; have hfz48_1 := blk_frozen BK172.out 1; have hfz48_2 := blk_frozen BK172.out 2; have hfz48_3 := blk_frozen BK172.out 3; have hfz48_4 := blk_frozen BK172.out 4; have hfz48_5 := blk_frozen BK172.out 5) | ((with_reducible refine gate_callee (f := 11) rfl ?_); refine goesL_ (some 12) rfl rfl Try.func11 (by kernel_rfl) rfl #[.int .i64 a0, .agg #[.int .i64 a1_0, .bool false, .int .i64 a1_2, .int .u64 a1_3, .int .u64 a1_4, .bool a1_5]] rfl z5_ ?_; (with_reducible refine (round_Cut.calls k a0 a1_0 false a1_2 a1_3 a1_4 a1_5 t173 t174 none _ A3.out).mono ?_); rintro e w49 ⟨rfl, hb⟩; refine ⟨_, rfl, ?_⟩; have n0_ := Aside0.mk (blk_below (g := gb172) (z1_ BK172.out) hb); have n1_ := Aside0.mk (below_step (z3_ HB.out) hb); clear BK172; clear HB; have BK172 := n0_; have HB := n1_; clear n0_ n1_; (try clear hb); (try clear hb2); (try clear hk); (try clear hi); (try simp only [errW_none, errW_some]); have hcz50_0 := z4_ BK172.out 0 (.int .i64 a1_0) rfl; have hcz50_1 := z4_ BK172.out 1 (.bool false) rfl; have hcz50_2 := z4_ BK172.out 2 (.int .i64 a1_2) rfl; have hcz50_3 := z4_ BK172.out 3 (.int .u64 a1_3) rfl; have hcz50_4 := z4_ BK172.out 4 (.int .u64 a1_4) rfl; have hcz50_5 := z4_ BK172.out 5 (.bool a1_5) rfl; have hfz50_0 := blk_frozen BK172.out 0; have hfz50_1 := blk_frozen BK172.out 1; have hfz50_2 := blk_frozen BK172.out 2; have hfz50_3 := blk_frozen BK172.out 3; have hfz50_4 := blk_frozen BK172.out 4; have hfz50_5 := blk_frozen BK172.out 5) | ((with_reducible refine gate_callee (f := 38) rfl ?_); refine goesL_ (some 35) rfl rfl Try.func38 (by kernel_rfl) rfl #[.int .i64 a0, .int .u64 t173] rfl z5_ ?_; (with_reducible refine (shape_Fold.calls a0 t173 t183 t184 _ A46.out).mono ?_); rintro e w' ⟨rfl, ⟨nd, rfl⟩⟩; refine ⟨_, rfl, ?_⟩; (try simp only [errW_none, errW_some])))
     go_ret2
     exact ⟨by first | rfl | (simp [errW_none, errW_some] <;> rfl) | (simp [*, errW_none, errW_some] <;> rfl), by repeat (first | (with_reducible first | exact HB.out | apply below_alloc | apply pw_below_drewN | apply below_drew1 | refine below_set ?_ GE172.out) | exact HB.out)⟩
 ·have H1 : (some (0, some q176)) = some (r1, r2) := by rw [if_neg (show ¬ (some q176).isNone = true by simp)] at H; exact H
  clear H
  have H := H1
  clear H1
  try simp only [errW_none, errW_some]
  simp only [Option.some.injEq, Prod.mk.injEq] at H
  obtain ⟨rfl, rfl⟩ := H
  go_enter Try.func14, Try.ntmps14
  go_wp2_with (first | ((with_reducible refine gate_dst (N := 3) rfl ?_); refine box_event ?hg (N := 3) ?hd (cs := #[.int .i64 a1_0, .bool a1_1, .int .i64 a1_2, .int .u64 a1_3, .int .u64 a1_4, .bool a1_5]) (t := 24) ?hr ?_; (case hd => rfl); (case hg => rfl); (case hr => first | (go_simp; done) | (go_simp; rfl)); intro gb172 hg w51 hbox hb; have n0_ := Aside0.mk (below_step (z3_ HB.out) hb); have n1_ := Aside0.mk (hbox); have n2_ := Aside0.mk ((by rw [hg]; exact (below_size (z3_ HB.out)) : w.heap.size ≤ gb172)); have n3_ := Aside0.mk ((by rw [hg]; exact (below_size (z3_ HB.out)) : w.heap.size ≤ gb172)); clear HB; have HB := n0_; have BK172 := n1_; have GW172 := n2_; have GE172 := n3_; clear n0_ n1_ n2_ n3_; clear hb hbox hg; have hcz52_0 := z4_ BK172.out 0 (.int .i64 a1_0) rfl; have hcz52_1 := z4_ BK172.out 1 (.bool a1_1) rfl; have hcz52_2 := z4_ BK172.out 2 (.int .i64 a1_2) rfl; have hcz52_3 := z4_ BK172.out 3 (.int .u64 a1_3) rfl; have hcz52_4 := z4_ BK172.out 4 (.int .u64 a1_4) rfl; have hcz52_5 := z4_ BK172.out 5 (.bool a1_5) rfl; have hfz52_0 := blk_frozen BK172.out 0; have hfz52_1 := blk_frozen BK172.out 1; have hfz52_2 := blk_frozen BK172.out 2; have hfz52_3 := blk_frozen BK172.out 3; have hfz52_4 := blk_frozen BK172.out 4; have hfz52_5 := blk_frozen BK172.out 5) | ((with_reducible refine gate_callee (f := 11) rfl ?_); refine goesL_ (some 12) rfl rfl Try.func11 (by kernel_rfl) rfl #[.int .i64 a0, .agg #[.int .i64 a1_0, .bool a1_1, .int .i64 a1_2, .int .u64 a1_3, .int .u64 a1_4, .bool a1_5]] rfl z5_ ?_; (with_reducible refine (round_Cut.calls k a0 a1_0 a1_1 a1_2 a1_3 a1_4 a1_5 t173 t174 (some q176) _ A3.out).mono ?_); rintro e w53 ⟨rfl, hb⟩; refine ⟨_, rfl, ?_⟩; have n0_ := Aside0.mk (blk_below (g := gb172) (z1_ BK172.out) hb); have n1_ := Aside0.mk (below_step (z3_ HB.out) hb); clear BK172; clear HB; have BK172 := n0_; have HB := n1_; clear n0_ n1_; (try clear hb); (try clear hb2); (try clear hk); (try clear hi); (try simp only [errW_none, errW_some])))
  go_ret2
  exact ⟨by first | rfl | (simp [errW_none, errW_some] <;> rfl) | (simp [*, errW_none, errW_some] <;> rfl), by repeat (first | (with_reducible first | exact HB.out | apply below_alloc | apply pw_below_drewN | apply below_drew1 | refine below_set ?_ GE172.out) | exact HB.out)⟩
end Go.Proofs.Ytfegofnplcmacaa.PAll
namespace Go.Proofs.Ytfegofnplcmacaa.PAll
open Go.RowKit Go.Proofs.YtfegofnplcmacaaW.PrintWords Go.Proofs.YtfegofnplcmacaaW.PrintLast Go.Proofs.YtfegofnplcmacaaW.PrintMore
attribute [local go_sem] max2_int min2_int max_two min_two max_three min_three max_four min_four
set_option linter.unusedVariables false
set_option linter.unusedSimpArgs false
def vernierlaw07_up.f (k : Nat)  : Option (Bool) := (round_Round.f k 8 1 false 22 9223372036854775808 0 false).bind fun bt193 => ((round_Round.f k 8 1 false 23 9223372036854775808 0 false).bind fun bt195 => (if bt193.2.isNone = true then (if bt195.2.isNone = true then (if bt193.1 = 126 then (some (bt195.1 == 127)) else (some false)) else (some false)) else (some false)))
theorem vernierlaw07_up.mono : ∀ k, LeO (vernierlaw07_up.f k ) (vernierlaw07_up.f (k + 1) ) := by
 intro  k
 unfold vernierlaw07_up.f
 repeat' first
   | (with_reducible exact round_Round.mono _ _ _ _ _ _ _ _)
   | (with_reducible exact LeO.refl _)
   | (with_reducible exact LeO.none _)
   | (with_reducible refine LeO.ite ?_ ?_)
   | (with_reducible refine LeO.bind ?_ (fun _ => ?_))
   | exact round_Round.mono _ _ _ _ _ _ _ _
   | exact LeO.none _
   | refine LeO.ite ?_ ?_
   | refine LeO.bind ?_ (fun _ => ?_)
set_option maxHeartbeats 8000000 in
set_option maxRecDepth 100000 in
theorem vernierlaw07_up.calls (k : Nat)  (r : Bool) (w : World) (h : vernierlaw07_up.f k  = some r) :
  Calls Try.prog 10 #[] w fun e w' => e = .returned (.bool r) ∧ Below w.heap.size w w' := by
 have hu24 := Try.underlying24
 have hu27 := Try.underlying27
 have hu55 := Try.underlying55
 have HB := Aside0.mk (Below.refl w.heap.size w)
 have H : ((round_Round.f k 8 1 false 22 9223372036854775808 0 false).bind fun bt193 => ((round_Round.f k 8 1 false 23 9223372036854775808 0 false).bind fun bt195 => (if bt193.2.isNone = true then (if bt195.2.isNone = true then (if bt193.1 = 126 then (some (bt195.1 == 127)) else (some false)) else (some false)) else (some false)))) = some r := h
 clear h
 replace H := Option.bind_eq_some_iff.mp H
 obtain ⟨⟨t193, t194⟩, A10, H⟩ := H
 replace H : ((round_Round.f k 8 1 false 23 9223372036854775808 0 false).bind fun bt195 => (if t194.isNone = true then (if bt195.2.isNone = true then (if t193 = 126 then (some (bt195.1 == 127)) else (some false)) else (some false)) else (some false))) = some r := H
 have A1 := Aside0.mk A10
 clear A10
 replace H := Option.bind_eq_some_iff.mp H
 obtain ⟨⟨t195, t196⟩, A20, H⟩ := H
 replace H : (if t194.isNone = true then (if t196.isNone = true then (if t193 = 126 then (some (t195 == 127)) else (some false)) else (some false)) else (some false)) = some r := H
 have A2 := Aside0.mk A20
 clear A20
 rcases t194 with _ | q197
 ·have H1 : (if t196.isNone = true then (if t193 = 126 then (some (t195 == 127)) else (some false)) else (some false)) = some r := by rw [if_pos (show (none : Option Int).isNone = true by rfl)] at H; exact H
  clear H
  have H := H1
  clear H1
  try simp only [errW_none, errW_some]
  rcases t196 with _ | q198
  ·have H1 : (if t193 = 126 then (some (t195 == 127)) else (some false)) = some r := by rw [if_pos (show (none : Option Int).isNone = true by rfl)] at H; exact H
   clear H
   have H := H1
   clear H1
   try simp only [errW_none, errW_some]
   by_cases c3 : t193 = 126
   ·rw [if_pos c3] at H
    have c3b0 : (t193 == 126) = true := beq_iff_eq.mpr c3
    have c3b1 : (t193 != 126) = false := bne_eq_false_iff_eq.mpr c3
    clear c3
    obtain rfl := Option.some.inj H
    go_enter Try.func10, Try.ntmps10
    go_wp2_with (first | ((with_reducible refine gate_callee (f := 14) rfl ?_); refine goesL_ (some 7) rfl rfl Try.func14 (by kernel_rfl) rfl #[.int .i64 8, .agg #[.int .i64 1, .bool false, .int .i64 22, .int .u64 9223372036854775808, .int .u64 0, .bool false]] rfl z5_ ?_; (with_reducible refine (round_Round.calls k 8 1 false 22 9223372036854775808 0 false t193 none _ A1.out).mono ?_); rintro e w4 ⟨rfl, hb⟩; refine ⟨_, rfl, ?_⟩; have n0_ := Aside0.mk (below_step (z3_ HB.out) hb); clear HB; have HB := n0_; clear n0_; (try clear hb); (try clear hb2); (try clear hk); (try clear hi); (try simp only [errW_none, errW_some])) | ((with_reducible refine gate_callee (f := 14) rfl ?_); refine goesL_ (some 12) rfl rfl Try.func14 (by kernel_rfl) rfl #[.int .i64 8, .agg #[.int .i64 1, .bool false, .int .i64 23, .int .u64 9223372036854775808, .int .u64 0, .bool false]] rfl z5_ ?_; (with_reducible refine (round_Round.calls k 8 1 false 23 9223372036854775808 0 false t195 none _ A2.out).mono ?_); rintro e w5 ⟨rfl, hb⟩; refine ⟨_, rfl, ?_⟩; have n0_ := Aside0.mk (below_step (z3_ HB.out) hb); clear HB; have HB := n0_; clear n0_; (try clear hb); (try clear hb2); (try clear hk); (try clear hi); (try simp only [errW_none, errW_some])))
    go_ret
    exact ⟨by first | rfl | (simp [errW_none, errW_some] <;> rfl) | (simp [*, errW_none, errW_some] <;> rfl), by repeat (first | (with_reducible first | exact HB.out | apply below_alloc | apply pw_below_drewN | apply below_drew1) | exact HB.out)⟩
   ·rw [if_neg c3] at H
    have c3b0 : (t193 == 126) = false := beq_eq_false_iff_ne.mpr c3
    have c3b1 : (t193 != 126) = true := bne_iff_ne.mpr c3
    obtain rfl := Option.some.inj H
    go_enter Try.func10, Try.ntmps10
    go_wp2_with (first | ((with_reducible refine gate_callee (f := 14) rfl ?_); refine goesL_ (some 7) rfl rfl Try.func14 (by kernel_rfl) rfl #[.int .i64 8, .agg #[.int .i64 1, .bool false, .int .i64 22, .int .u64 9223372036854775808, .int .u64 0, .bool false]] rfl z5_ ?_; (with_reducible refine (round_Round.calls k 8 1 false 22 9223372036854775808 0 false t193 none _ A1.out).mono ?_); rintro e w6 ⟨rfl, hb⟩; refine ⟨_, rfl, ?_⟩; have n0_ := Aside0.mk (below_step (z3_ HB.out) hb); clear HB; have HB := n0_; clear n0_; (try clear hb); (try clear hb2); (try clear hk); (try clear hi); (try simp only [errW_none, errW_some])) | ((with_reducible refine gate_callee (f := 14) rfl ?_); refine goesL_ (some 12) rfl rfl Try.func14 (by kernel_rfl) rfl #[.int .i64 8, .agg #[.int .i64 1, .bool false, .int .i64 23, .int .u64 9223372036854775808, .int .u64 0, .bool false]] rfl z5_ ?_; (with_reducible refine (round_Round.calls k 8 1 false 23 9223372036854775808 0 false t195 none _ A2.out).mono ?_); rintro e w7 ⟨rfl, hb⟩; refine ⟨_, rfl, ?_⟩; have n0_ := Aside0.mk (below_step (z3_ HB.out) hb); clear HB; have HB := n0_; clear n0_; (try clear hb); (try clear hb2); (try clear hk); (try clear hi); (try simp only [errW_none, errW_some])))
    go_ret
    exact ⟨by first | rfl | (simp [errW_none, errW_some] <;> rfl) | (simp [*, errW_none, errW_some] <;> rfl), by repeat (first | (with_reducible first | exact HB.out | apply below_alloc | apply pw_below_drewN | apply below_drew1) | exact HB.out)⟩
  ·have H1 : (some false) = some r := by rw [if_neg (show ¬ (some q198).isNone = true by simp)] at H; exact H
   clear H
   have H := H1
   clear H1
   try simp only [errW_none, errW_some]
   obtain rfl := Option.some.inj H
   go_enter Try.func10, Try.ntmps10
   go_wp2_with (first | ((with_reducible refine gate_callee (f := 14) rfl ?_); refine goesL_ (some 7) rfl rfl Try.func14 (by kernel_rfl) rfl #[.int .i64 8, .agg #[.int .i64 1, .bool false, .int .i64 22, .int .u64 9223372036854775808, .int .u64 0, .bool false]] rfl z5_ ?_; (with_reducible refine (round_Round.calls k 8 1 false 22 9223372036854775808 0 false t193 none _ A1.out).mono ?_); rintro e w8 ⟨rfl, hb⟩; refine ⟨_, rfl, ?_⟩; have n0_ := Aside0.mk (below_step (z3_ HB.out) hb); clear HB; have HB := n0_; clear n0_; (try clear hb); (try clear hb2); (try clear hk); (try clear hi); (try simp only [errW_none, errW_some])) | ((with_reducible refine gate_callee (f := 14) rfl ?_); refine goesL_ (some 12) rfl rfl Try.func14 (by kernel_rfl) rfl #[.int .i64 8, .agg #[.int .i64 1, .bool false, .int .i64 23, .int .u64 9223372036854775808, .int .u64 0, .bool false]] rfl z5_ ?_; (with_reducible refine (round_Round.calls k 8 1 false 23 9223372036854775808 0 false t195 (some q198) _ A2.out).mono ?_); rintro e w9 ⟨rfl, hb⟩; refine ⟨_, rfl, ?_⟩; have n0_ := Aside0.mk (below_step (z3_ HB.out) hb); clear HB; have HB := n0_; clear n0_; (try clear hb); (try clear hb2); (try clear hk); (try clear hi); (try simp only [errW_none, errW_some])))
   go_ret
   exact ⟨by first | rfl | (simp [errW_none, errW_some] <;> rfl) | (simp [*, errW_none, errW_some] <;> rfl), by repeat (first | (with_reducible first | exact HB.out | apply below_alloc | apply pw_below_drewN | apply below_drew1) | exact HB.out)⟩
 ·have H1 : (some false) = some r := by rw [if_neg (show ¬ (some q197).isNone = true by simp)] at H; exact H
  clear H
  have H := H1
  clear H1
  try simp only [errW_none, errW_some]
  obtain rfl := Option.some.inj H
  go_enter Try.func10, Try.ntmps10
  go_wp2_with (first | ((with_reducible refine gate_callee (f := 14) rfl ?_); refine goesL_ (some 7) rfl rfl Try.func14 (by kernel_rfl) rfl #[.int .i64 8, .agg #[.int .i64 1, .bool false, .int .i64 22, .int .u64 9223372036854775808, .int .u64 0, .bool false]] rfl z5_ ?_; (with_reducible refine (round_Round.calls k 8 1 false 22 9223372036854775808 0 false t193 (some q197) _ A1.out).mono ?_); rintro e w10 ⟨rfl, hb⟩; refine ⟨_, rfl, ?_⟩; have n0_ := Aside0.mk (below_step (z3_ HB.out) hb); clear HB; have HB := n0_; clear n0_; (try clear hb); (try clear hb2); (try clear hk); (try clear hi); (try simp only [errW_none, errW_some])) | ((with_reducible refine gate_callee (f := 14) rfl ?_); refine goesL_ (some 12) rfl rfl Try.func14 (by kernel_rfl) rfl #[.int .i64 8, .agg #[.int .i64 1, .bool false, .int .i64 23, .int .u64 9223372036854775808, .int .u64 0, .bool false]] rfl z5_ ?_; (with_reducible refine (round_Round.calls k 8 1 false 23 9223372036854775808 0 false t195 t196 _ A2.out).mono ?_); rintro e w11 ⟨rfl, hb⟩; refine ⟨_, rfl, ?_⟩; have n0_ := Aside0.mk (below_step (z3_ HB.out) hb); clear HB; have HB := n0_; clear n0_; (try clear hb); (try clear hb2); (try clear hk); (try clear hi); (try simp only [errW_none, errW_some])))
  go_ret
  exact ⟨by first | rfl | (simp [errW_none, errW_some] <;> rfl) | (simp [*, errW_none, errW_some] <;> rfl), by repeat (first | (with_reducible first | exact HB.out | apply below_alloc | apply pw_below_drewN | apply below_drew1) | exact HB.out)⟩
end Go.Proofs.Ytfegofnplcmacaa.PAll
namespace Go.Proofs.Ytfegofnplcmacaa.PAll
open Go.RowKit Go.Proofs.YtfegofnplcmacaaW.PrintWords Go.Proofs.YtfegofnplcmacaaW.PrintLast Go.Proofs.YtfegofnplcmacaaW.PrintMore
attribute [local go_sem] max2_int min2_int max_two min_two max_three min_three max_four min_four
set_option linter.unusedVariables false
set_option linter.unusedSimpArgs false
attribute [local go_sem high] eqA24
def vernierref07_Sound.f (a0_0 : Int) (a0_1 : Bool) (a0_2 : Int) (a0_3 : Int) (a0_4 : Int) (a0_5 : Bool) : Option (Bool) := if a0_0 = 0 then (some (!a0_1 && (a0_2 == 0 && (a0_3 == 0 && (a0_4 == 0 && (!a0_5)))))) else (if a0_0 = 2 then (some (!a0_1 && (a0_2 == 0 && (a0_3 == 0 && (a0_4 == 0 && (!a0_5)))))) else (if a0_0 = 1 then (if a0_3 ≥ 9223372036854775808 then (if a0_2 ≥ (-1099511627776) then (some (decide (a0_2 ≤ 1099511627776))) else (some false)) else (some false)) else (some false)))
set_option maxHeartbeats 8000000 in
set_option maxRecDepth 100000 in
theorem vernierref07_Sound.calls (a0_0 : Int) (a0_1 : Bool) (a0_2 : Int) (a0_3 : Int) (a0_4 : Int) (a0_5 : Bool) (r : Bool) (w : World) (h : vernierref07_Sound.f a0_0 a0_1 a0_2 a0_3 a0_4 a0_5 = some r) :
  Calls Try.prog 16 #[.agg #[.int .i64 a0_0, .bool a0_1, .int .i64 a0_2, .int .u64 a0_3, .int .u64 a0_4, .bool a0_5]] w fun e w' => e = .returned (.bool r) ∧ Below w.heap.size w w' := by
 have hu24 := Try.underlying24
 have HB := Aside0.mk (Below.refl w.heap.size w)
 have H : (if a0_0 = 0 then (some (!a0_1 && (a0_2 == 0 && (a0_3 == 0 && (a0_4 == 0 && (!a0_5)))))) else (if a0_0 = 2 then (some (!a0_1 && (a0_2 == 0 && (a0_3 == 0 && (a0_4 == 0 && (!a0_5)))))) else (if a0_0 = 1 then (if a0_3 ≥ 9223372036854775808 then (if a0_2 ≥ (-1099511627776) then (some (decide (a0_2 ≤ 1099511627776))) else (some false)) else (some false)) else (some false)))) = some r := h
 clear h
 by_cases c2 : a0_0 = 0
 ·rw [if_pos c2] at H
  have c2b0 : (a0_0 == 0) = true := beq_iff_eq.mpr c2
  have c2b1 : (a0_0 != 0) = false := bne_eq_false_iff_eq.mpr c2
  clear c2
  obtain rfl := Option.some.inj H
  go_enter Try.func16, Try.ntmps16
  go_wp2_with (first | ((with_reducible refine gate_dst (N := 1) rfl ?_); refine box_event ?hg (N := 1) ?hd (cs := #[.int .i64 a0_0, .bool a0_1, .int .i64 a0_2, .int .u64 a0_3, .int .u64 a0_4, .bool a0_5]) (t := 24) ?hr ?_; (case hd => rfl); (case hg => rfl); (case hr => first | (go_simp; done) | (go_simp; rfl)); intro gb199 hg w3 hbox hb; have n0_ := Aside0.mk (below_step (z3_ HB.out) hb); have n1_ := Aside0.mk (hbox); have n2_ := Aside0.mk ((by rw [hg]; exact (below_size (z3_ HB.out)) : w.heap.size ≤ gb199)); have n3_ := Aside0.mk ((by rw [hg]; exact (below_size (z3_ HB.out)) : w.heap.size ≤ gb199)); clear HB; have HB := n0_; have BK199 := n1_; have GW199 := n2_; have GE199 := n3_; clear n0_ n1_ n2_ n3_; clear hb hbox hg; have hcz4_0 := z4_ BK199.out 0 (.int .i64 a0_0) rfl; have hcz4_1 := z4_ BK199.out 1 (.bool a0_1) rfl; have hcz4_2 := z4_ BK199.out 2 (.int .i64 a0_2) rfl; have hcz4_3 := z4_ BK199.out 3 (.int .u64 a0_3) rfl; have hcz4_4 := z4_ BK199.out 4 (.int .u64 a0_4) rfl; have hcz4_5 := z4_ BK199.out 5 (.bool a0_5) rfl; have hfz4_0 := blk_frozen BK199.out 0; have hfz4_1 := blk_frozen BK199.out 1; have hfz4_2 := blk_frozen BK199.out 2; have hfz4_3 := blk_frozen BK199.out 3; have hfz4_4 := blk_frozen BK199.out 4; have hfz4_5 := blk_frozen BK199.out 5))
  go_ret
  exact ⟨by first | rfl | (simp [errW_none, errW_some] <;> rfl) | (simp [*, errW_none, errW_some] <;> rfl), by repeat (first | (with_reducible first | exact HB.out | apply below_alloc | apply pw_below_drewN | apply below_drew1 | refine below_set ?_ GE199.out) | exact HB.out)⟩
 ·rw [if_neg c2] at H
  have c2b0 : (a0_0 == 0) = false := beq_eq_false_iff_ne.mpr c2
  have c2b1 : (a0_0 != 0) = true := bne_iff_ne.mpr c2
  by_cases c5 : a0_0 = 2
  ·rw [if_pos c5] at H
   have c5b0 : (a0_0 == 2) = true := beq_iff_eq.mpr c5
   have c5b1 : (a0_0 != 2) = false := bne_eq_false_iff_eq.mpr c5
   clear c5
   obtain rfl := Option.some.inj H
   go_enter Try.func16, Try.ntmps16
   go_wp2_with (first | ((with_reducible refine gate_dst (N := 1) rfl ?_); refine box_event ?hg (N := 1) ?hd (cs := #[.int .i64 a0_0, .bool a0_1, .int .i64 a0_2, .int .u64 a0_3, .int .u64 a0_4, .bool a0_5]) (t := 24) ?hr ?_; (case hd => rfl); (case hg => rfl); (case hr => first | (go_simp; done) | (go_simp; rfl)); intro gb199 hg w6 hbox hb; have n0_ := Aside0.mk (below_step (z3_ HB.out) hb); have n1_ := Aside0.mk (hbox); have n2_ := Aside0.mk ((by rw [hg]; exact (below_size (z3_ HB.out)) : w.heap.size ≤ gb199)); have n3_ := Aside0.mk ((by rw [hg]; exact (below_size (z3_ HB.out)) : w.heap.size ≤ gb199)); clear HB; have HB := n0_; have BK199 := n1_; have GW199 := n2_; have GE199 := n3_; clear n0_ n1_ n2_ n3_; clear hb hbox hg; have hcz7_0 := z4_ BK199.out 0 (.int .i64 a0_0) rfl; have hcz7_1 := z4_ BK199.out 1 (.bool a0_1) rfl; have hcz7_2 := z4_ BK199.out 2 (.int .i64 a0_2) rfl; have hcz7_3 := z4_ BK199.out 3 (.int .u64 a0_3) rfl; have hcz7_4 := z4_ BK199.out 4 (.int .u64 a0_4) rfl; have hcz7_5 := z4_ BK199.out 5 (.bool a0_5) rfl; have hfz7_0 := blk_frozen BK199.out 0; have hfz7_1 := blk_frozen BK199.out 1; have hfz7_2 := blk_frozen BK199.out 2; have hfz7_3 := blk_frozen BK199.out 3; have hfz7_4 := blk_frozen BK199.out 4; have hfz7_5 := blk_frozen BK199.out 5))
   go_ret
   exact ⟨by first | rfl | (simp [errW_none, errW_some] <;> rfl) | (simp [*, errW_none, errW_some] <;> rfl), by repeat (first | (with_reducible first | exact HB.out | apply below_alloc | apply pw_below_drewN | apply below_drew1 | refine below_set ?_ GE199.out) | exact HB.out)⟩
  ·rw [if_neg c5] at H
   have c5b0 : (a0_0 == 2) = false := beq_eq_false_iff_ne.mpr c5
   have c5b1 : (a0_0 != 2) = true := bne_iff_ne.mpr c5
   by_cases c8 : a0_0 = 1
   ·rw [if_pos c8] at H
    have c8b0 : (a0_0 == 1) = true := beq_iff_eq.mpr c8
    have c8b1 : (a0_0 != 1) = false := bne_eq_false_iff_eq.mpr c8
    clear c8
    by_cases c9 : a0_3 ≥ 9223372036854775808
    ·rw [if_pos c9] at H
     have c9b0 : decide (9223372036854775808 ≤ a0_3) = true := decide_eq_true c9
     clear c9
     by_cases c10 : a0_2 ≥ (-1099511627776)
     ·rw [if_pos c10] at H
      have c10b0 : decide ((-1099511627776) ≤ a0_2) = true := decide_eq_true c10
      clear c10
      obtain rfl := Option.some.inj H
      go_enter Try.func16, Try.ntmps16
      go_wp2_with (first | ((with_reducible refine gate_dst (N := 1) rfl ?_); refine box_event ?hg (N := 1) ?hd (cs := #[.int .i64 a0_0, .bool a0_1, .int .i64 a0_2, .int .u64 a0_3, .int .u64 a0_4, .bool a0_5]) (t := 24) ?hr ?_; (case hd => rfl); (case hg => rfl); (case hr => first | (go_simp; done) | (go_simp; rfl)); intro gb199 hg w11 hbox hb; have n0_ := Aside0.mk (below_step (z3_ HB.out) hb); have n1_ := Aside0.mk (hbox); have n2_ := Aside0.mk ((by rw [hg]; exact (below_size (z3_ HB.out)) : w.heap.size ≤ gb199)); have n3_ := Aside0.mk ((by rw [hg]; exact (below_size (z3_ HB.out)) : w.heap.size ≤ gb199)); clear HB; have HB := n0_; have BK199 := n1_; have GW199 := n2_; have GE199 := n3_; clear n0_ n1_ n2_ n3_; clear hb hbox hg; have hcz12_0 := z4_ BK199.out 0 (.int .i64 a0_0) rfl; have hcz12_1 := z4_ BK199.out 1 (.bool a0_1) rfl; have hcz12_2 := z4_ BK199.out 2 (.int .i64 a0_2) rfl; have hcz12_3 := z4_ BK199.out 3 (.int .u64 a0_3) rfl; have hcz12_4 := z4_ BK199.out 4 (.int .u64 a0_4) rfl; have hcz12_5 := z4_ BK199.out 5 (.bool a0_5) rfl; have hfz12_0 := blk_frozen BK199.out 0; have hfz12_1 := blk_frozen BK199.out 1; have hfz12_2 := blk_frozen BK199.out 2; have hfz12_3 := blk_frozen BK199.out 3; have hfz12_4 := blk_frozen BK199.out 4; have hfz12_5 := blk_frozen BK199.out 5))
      go_ret
      exact ⟨by first | rfl | (simp [errW_none, errW_some] <;> rfl) | (simp [*, errW_none, errW_some] <;> rfl), by repeat (first | (with_reducible first | exact HB.out | apply below_alloc | apply pw_below_drewN | apply below_drew1 | refine below_set ?_ GE199.out) | exact HB.out)⟩
     ·rw [if_neg c10] at H
      have c10b0 : decide ((-1099511627776) ≤ a0_2) = false := decide_eq_false c10
      clear c10
      obtain rfl := Option.some.inj H
      go_enter Try.func16, Try.ntmps16
      go_wp2_with (first | ((with_reducible refine gate_dst (N := 1) rfl ?_); refine box_event ?hg (N := 1) ?hd (cs := #[.int .i64 a0_0, .bool a0_1, .int .i64 a0_2, .int .u64 a0_3, .int .u64 a0_4, .bool a0_5]) (t := 24) ?hr ?_; (case hd => rfl); (case hg => rfl); (case hr => first | (go_simp; done) | (go_simp; rfl)); intro gb199 hg w13 hbox hb; have n0_ := Aside0.mk (below_step (z3_ HB.out) hb); have n1_ := Aside0.mk (hbox); have n2_ := Aside0.mk ((by rw [hg]; exact (below_size (z3_ HB.out)) : w.heap.size ≤ gb199)); have n3_ := Aside0.mk ((by rw [hg]; exact (below_size (z3_ HB.out)) : w.heap.size ≤ gb199)); clear HB; have HB := n0_; have BK199 := n1_; have GW199 := n2_; have GE199 := n3_; clear n0_ n1_ n2_ n3_; clear hb hbox hg; have hcz14_0 := z4_ BK199.out 0 (.int .i64 a0_0) rfl; have hcz14_1 := z4_ BK199.out 1 (.bool a0_1) rfl; have hcz14_2 := z4_ BK199.out 2 (.int .i64 a0_2) rfl; have hcz14_3 := z4_ BK199.out 3 (.int .u64 a0_3) rfl; have hcz14_4 := z4_ BK199.out 4 (.int .u64 a0_4) rfl; have hcz14_5 := z4_ BK199.out 5 (.bool a0_5) rfl; have hfz14_0 := blk_frozen BK199.out 0; have hfz14_1 := blk_frozen BK199.out 1; have hfz14_2 := blk_frozen BK199.out 2; have hfz14_3 := blk_frozen BK199.out 3; have hfz14_4 := blk_frozen BK199.out 4; have hfz14_5 := blk_frozen BK199.out 5))
      go_ret
      exact ⟨by first | rfl | (simp [errW_none, errW_some] <;> rfl) | (simp [*, errW_none, errW_some] <;> rfl), by repeat (first | (with_reducible first | exact HB.out | apply below_alloc | apply pw_below_drewN | apply below_drew1 | refine below_set ?_ GE199.out) | exact HB.out)⟩
    ·rw [if_neg c9] at H
     have c9b0 : decide (9223372036854775808 ≤ a0_3) = false := decide_eq_false c9
     clear c9
     obtain rfl := Option.some.inj H
     go_enter Try.func16, Try.ntmps16
     go_wp2_with (first | ((with_reducible refine gate_dst (N := 1) rfl ?_); refine box_event ?hg (N := 1) ?hd (cs := #[.int .i64 a0_0, .bool a0_1, .int .i64 a0_2, .int .u64 a0_3, .int .u64 a0_4, .bool a0_5]) (t := 24) ?hr ?_; (case hd => rfl); (case hg => rfl); (case hr => first | (go_simp; done) | (go_simp; rfl)); intro gb199 hg w15 hbox hb; have n0_ := Aside0.mk (below_step (z3_ HB.out) hb); have n1_ := Aside0.mk (hbox); have n2_ := Aside0.mk ((by rw [hg]; exact (below_size (z3_ HB.out)) : w.heap.size ≤ gb199)); have n3_ := Aside0.mk ((by rw [hg]; exact (below_size (z3_ HB.out)) : w.heap.size ≤ gb199)); clear HB; have HB := n0_; have BK199 := n1_; have GW199 := n2_; have GE199 := n3_; clear n0_ n1_ n2_ n3_; clear hb hbox hg; have hcz16_0 := z4_ BK199.out 0 (.int .i64 a0_0) rfl; have hcz16_1 := z4_ BK199.out 1 (.bool a0_1) rfl; have hcz16_2 := z4_ BK199.out 2 (.int .i64 a0_2) rfl; have hcz16_3 := z4_ BK199.out 3 (.int .u64 a0_3) rfl; have hcz16_4 := z4_ BK199.out 4 (.int .u64 a0_4) rfl; have hcz16_5 := z4_ BK199.out 5 (.bool a0_5) rfl; have hfz16_0 := blk_frozen BK199.out 0; have hfz16_1 := blk_frozen BK199.out 1; have hfz16_2 := blk_frozen BK199.out 2; have hfz16_3 := blk_frozen BK199.out 3; have hfz16_4 := blk_frozen BK199.out 4; have hfz16_5 := blk_frozen BK199.out 5))
     go_ret
     exact ⟨by first | rfl | (simp [errW_none, errW_some] <;> rfl) | (simp [*, errW_none, errW_some] <;> rfl), by repeat (first | (with_reducible first | exact HB.out | apply below_alloc | apply pw_below_drewN | apply below_drew1 | refine below_set ?_ GE199.out) | exact HB.out)⟩
   ·rw [if_neg c8] at H
    have c8b0 : (a0_0 == 1) = false := beq_eq_false_iff_ne.mpr c8
    have c8b1 : (a0_0 != 1) = true := bne_iff_ne.mpr c8
    obtain rfl := Option.some.inj H
    go_enter Try.func16, Try.ntmps16
    go_wp2_with (first | ((with_reducible refine gate_dst (N := 1) rfl ?_); refine box_event ?hg (N := 1) ?hd (cs := #[.int .i64 a0_0, .bool a0_1, .int .i64 a0_2, .int .u64 a0_3, .int .u64 a0_4, .bool a0_5]) (t := 24) ?hr ?_; (case hd => rfl); (case hg => rfl); (case hr => first | (go_simp; done) | (go_simp; rfl)); intro gb199 hg w17 hbox hb; have n0_ := Aside0.mk (below_step (z3_ HB.out) hb); have n1_ := Aside0.mk (hbox); have n2_ := Aside0.mk ((by rw [hg]; exact (below_size (z3_ HB.out)) : w.heap.size ≤ gb199)); have n3_ := Aside0.mk ((by rw [hg]; exact (below_size (z3_ HB.out)) : w.heap.size ≤ gb199)); clear HB; have HB := n0_; have BK199 := n1_; have GW199 := n2_; have GE199 := n3_; clear n0_ n1_ n2_ n3_; clear hb hbox hg; have hcz18_0 := z4_ BK199.out 0 (.int .i64 a0_0) rfl; have hcz18_1 := z4_ BK199.out 1 (.bool a0_1) rfl; have hcz18_2 := z4_ BK199.out 2 (.int .i64 a0_2) rfl; have hcz18_3 := z4_ BK199.out 3 (.int .u64 a0_3) rfl; have hcz18_4 := z4_ BK199.out 4 (.int .u64 a0_4) rfl; have hcz18_5 := z4_ BK199.out 5 (.bool a0_5) rfl; have hfz18_0 := blk_frozen BK199.out 0; have hfz18_1 := blk_frozen BK199.out 1; have hfz18_2 := blk_frozen BK199.out 2; have hfz18_3 := blk_frozen BK199.out 3; have hfz18_4 := blk_frozen BK199.out 4; have hfz18_5 := blk_frozen BK199.out 5))
    go_ret
    exact ⟨by first | rfl | (simp [errW_none, errW_some] <;> rfl) | (simp [*, errW_none, errW_some] <;> rfl), by repeat (first | (with_reducible first | exact HB.out | apply below_alloc | apply pw_below_drewN | apply below_drew1 | refine below_set ?_ GE199.out) | exact HB.out)⟩
end Go.Proofs.Ytfegofnplcmacaa.PAll
namespace Go.Proofs.Ytfegofnplcmacaa.PAll
open Go.RowKit Go.Proofs.YtfegofnplcmacaaW.PrintWords Go.Proofs.YtfegofnplcmacaaW.PrintLast Go.Proofs.YtfegofnplcmacaaW.PrintMore
attribute [local go_sem] max2_int min2_int max_two min_two max_three min_three max_four min_four
set_option linter.unusedVariables false
set_option linter.unusedSimpArgs false
def vernierref05_Power.l0 : Nat → Int → Int → Int → Option (Int)
 | 0, _, _, _ => none
 | k + 1, x0, x3, x4 => if x4 < x0 then (vernierref05_Power.l0 k x0 (IntKind.u64.wrap (2 * x3)) (wrap64 (x4 + 1))) else (some x3)
def vernierref05_Power.f (k : Nat) (a0 : Int) : Option (Int) := vernierref05_Power.l0 k a0 1 0
theorem vernierref05_Power.mono_l : ∀ k, (∀ y0 y1 y2, LeO (vernierref05_Power.l0 k y0 y1 y2) (vernierref05_Power.l0 (k + 1) y0 y1 y2))
 | 0 => fun _ _ _ r h => by simp [vernierref05_Power.l0] at h
 | k + 1 => by
  have ih0 := vernierref05_Power.mono_l k
  ·intro y0 y1 y2
   unfold vernierref05_Power.l0
   repeat' first
   | (with_reducible exact ih0 _ _ _)
   | (with_reducible exact LeO.refl _)
   | (with_reducible exact LeO.none _)
   | (with_reducible refine LeO.ite ?_ ?_)
   | (with_reducible refine LeO.bind ?_ (fun _ => ?_))
   | exact ih0 _ _ _
   | exact LeO.none _
   | refine LeO.ite ?_ ?_
   | refine LeO.bind ?_ (fun _ => ?_)
theorem vernierref05_Power.mono : ∀ a0 k, LeO (vernierref05_Power.f k a0) (vernierref05_Power.f (k + 1) a0) := by
 intro a0 k
 have ih0 := vernierref05_Power.mono_l k
 unfold vernierref05_Power.f
 repeat' first
   | (with_reducible exact ih0 _ _ _)
   | (with_reducible exact LeO.refl _)
   | (with_reducible exact LeO.none _)
   | (with_reducible refine LeO.ite ?_ ?_)
   | (with_reducible refine LeO.bind ?_ (fun _ => ?_))
   | exact ih0 _ _ _
   | exact LeO.none _
   | refine LeO.ite ?_ ?_
   | refine LeO.bind ?_ (fun _ => ?_)
set_option maxHeartbeats 8000000 in
set_option maxRecDepth 100000 in
theorem vernierref05_Power.calls (k : Nat) (a0 : Int) (r : Int) (w : World) (h : vernierref05_Power.f k a0 = some r) :
  Calls Try.prog 26 #[.int .i64 a0] w fun e w' => e = .returned (.int .u64 r) ∧ Drawn0 w w' := by
 have H : (vernierref05_Power.l0 k a0 1 0) = some r := h
 clear h
 have H' := Aside0.mk H
 clear H
 go_enter Try.func26, Try.ntmps26
 go_wp2
 go_loopg [3, 4] k (fun kq v3 v4 w' => ∃ (x3_1 : Int) (x4_1 : Int), v3 = .int .u64 x3_1 ∧ v4 = .int .i64 x4_1 ∧ Aside0 (vernierref05_Power.l0 kq a0 x3_1 x4_1 = some r) ∧ Aside0 (kq ≤ k) ∧ Drawn0 w w')
 case atStart => exact ⟨(1), (0), (by first | rfl | (simp; done) | (simp [*]; done)), (by first | rfl | (simp; done) | (simp [*]; done)), H', ⟨Nat.le_refl _⟩, by repeat (first | exact Drawn0.refl _ | apply Drawn0.step)⟩
 case round =>
  clear H'
  obtain ⟨x3_1, x4_1, rfl, rfl, HA, HK1, ⟨m1, rfl⟩⟩ := hrel
  cases gk with
  | zero => exact absurd HA.out (by simp [vernierref05_Power.l0])
  | succ k1 =>
   have H := HA.out
   clear HA
   simp only [vernierref05_Power.l0] at H
   by_cases c2 : x4_1 < a0
   ·rw [if_pos c2] at H
    have c2b0 : decide (x4_1 < a0) = true := decide_eq_true c2
    clear c2
    have H' := Aside0.mk H
    clear H
    go_wp2
    go_roundg k1
    case measure => have := HK1.out; omega
    case rel => exact ⟨(IntKind.u64.wrap (2 * x3_1)), (wrap64 (x4_1 + 1)), (by first | rfl | (simp; done) | (simp [*]; done)), (by first | rfl | (simp; done) | (simp [*]; done)), H', ⟨by have := HK1.out; omega⟩, by repeat (first | exact Drawn0.refl _ | apply Drawn0.step)⟩
   ·rw [if_neg c2] at H
    have c2b0 : decide (x4_1 < a0) = false := decide_eq_false c2
    clear c2
    obtain rfl := Option.some.inj H
    go_wp2
    go_ret
    exact ⟨by first | rfl | (simp; done) | (simp [*]; done), by repeat (first | exact Drawn0.refl _ | apply Drawn0.step)⟩
end Go.Proofs.Ytfegofnplcmacaa.PAll
namespace Go.Proofs.Ytfegofnplcmacaa.PAll
open Go.RowKit Go.Proofs.YtfegofnplcmacaaW.PrintWords Go.Proofs.YtfegofnplcmacaaW.PrintLast Go.Proofs.YtfegofnplcmacaaW.PrintMore
attribute [local go_sem] max2_int min2_int max_two min_two max_three min_three max_four min_four
set_option linter.unusedVariables false
set_option linter.unusedSimpArgs false
def vernierref07_sign.f (a0_0 : Int) (a0_1 : Bool) (a0_2 : Int) (a0_3 : Int) (a0_4 : Int) (a0_5 : Bool) : Option (Int) := if a0_0 = 1 then (if a0_1 = true then (some (-1)) else (some 1)) else (some 0)
set_option maxHeartbeats 8000000 in
set_option maxRecDepth 100000 in
theorem vernierref07_sign.calls (a0_0 : Int) (a0_1 : Bool) (a0_2 : Int) (a0_3 : Int) (a0_4 : Int) (a0_5 : Bool) (r : Int) (w : World) (h : vernierref07_sign.f a0_0 a0_1 a0_2 a0_3 a0_4 a0_5 = some r) :
  Calls Try.prog 40 #[.agg #[.int .i64 a0_0, .bool a0_1, .int .i64 a0_2, .int .u64 a0_3, .int .u64 a0_4, .bool a0_5]] w fun e w' => e = .returned (.int .i64 r) ∧ Below w.heap.size w w' := by
 have hu24 := Try.underlying24
 have HB := Aside0.mk (Below.refl w.heap.size w)
 have H : (if a0_0 = 1 then (if a0_1 = true then (some (-1)) else (some 1)) else (some 0)) = some r := h
 clear h
 by_cases c2 : a0_0 = 1
 ·rw [if_pos c2] at H
  have c2b0 : (a0_0 == 1) = true := beq_iff_eq.mpr c2
  have c2b1 : (a0_0 != 1) = false := bne_eq_false_iff_eq.mpr c2
  clear c2
  by_cases c3 : a0_1 = true
  ·subst c3
   have H1 : (some (-1)) = some r := by rw [if_pos rfl] at H; exact H
   clear H
   have H := H1
   clear H1
   obtain rfl := Option.some.inj H
   go_enter Try.func40, Try.ntmps40
   go_wp2_with (first | ((with_reducible refine gate_dst (N := 1) rfl ?_); refine box_event ?hg (N := 1) ?hd (cs := #[.int .i64 a0_0, .bool true, .int .i64 a0_2, .int .u64 a0_3, .int .u64 a0_4, .bool a0_5]) (t := 24) ?hr ?_; (case hd => rfl); (case hg => rfl); (case hr => first | (go_simp; done) | (go_simp; rfl)); intro gb261 hg w4 hbox hb; have n0_ := Aside0.mk (below_step (z3_ HB.out) hb); have n1_ := Aside0.mk (hbox); have n2_ := Aside0.mk ((by rw [hg]; exact (below_size (z3_ HB.out)) : w.heap.size ≤ gb261)); have n3_ := Aside0.mk ((by rw [hg]; exact (below_size (z3_ HB.out)) : w.heap.size ≤ gb261)); clear HB; have HB := n0_; have BK261 := n1_; have GW261 := n2_; have GE261 := n3_; clear n0_ n1_ n2_ n3_; clear hb hbox hg; have hcz5_0 := z4_ BK261.out 0 (.int .i64 a0_0) rfl; have hcz5_1 := z4_ BK261.out 1 (.bool true) rfl; have hcz5_2 := z4_ BK261.out 2 (.int .i64 a0_2) rfl; have hcz5_3 := z4_ BK261.out 3 (.int .u64 a0_3) rfl; have hcz5_4 := z4_ BK261.out 4 (.int .u64 a0_4) rfl; have hcz5_5 := z4_ BK261.out 5 (.bool a0_5) rfl; have hfz5_0 := blk_frozen BK261.out 0; have hfz5_1 := blk_frozen BK261.out 1; have hfz5_2 := blk_frozen BK261.out 2; have hfz5_3 := blk_frozen BK261.out 3; have hfz5_4 := blk_frozen BK261.out 4; have hfz5_5 := blk_frozen BK261.out 5))
   go_ret
   exact ⟨by first | rfl | (simp [errW_none, errW_some] <;> rfl) | (simp [*, errW_none, errW_some] <;> rfl), by repeat (first | (with_reducible first | exact HB.out | apply below_alloc | apply pw_below_drewN | apply below_drew1 | refine below_set ?_ GE261.out) | exact HB.out)⟩
  ·replace c3 := Bool.eq_false_iff.mpr c3
   subst c3
   have H1 : (some 1) = some r := by rw [if_neg (show ¬ (false = true) by decide)] at H; exact H
   clear H
   have H := H1
   clear H1
   obtain rfl := Option.some.inj H
   go_enter Try.func40, Try.ntmps40
   go_wp2_with (first | ((with_reducible refine gate_dst (N := 1) rfl ?_); refine box_event ?hg (N := 1) ?hd (cs := #[.int .i64 a0_0, .bool false, .int .i64 a0_2, .int .u64 a0_3, .int .u64 a0_4, .bool a0_5]) (t := 24) ?hr ?_; (case hd => rfl); (case hg => rfl); (case hr => first | (go_simp; done) | (go_simp; rfl)); intro gb261 hg w6 hbox hb; have n0_ := Aside0.mk (below_step (z3_ HB.out) hb); have n1_ := Aside0.mk (hbox); have n2_ := Aside0.mk ((by rw [hg]; exact (below_size (z3_ HB.out)) : w.heap.size ≤ gb261)); have n3_ := Aside0.mk ((by rw [hg]; exact (below_size (z3_ HB.out)) : w.heap.size ≤ gb261)); clear HB; have HB := n0_; have BK261 := n1_; have GW261 := n2_; have GE261 := n3_; clear n0_ n1_ n2_ n3_; clear hb hbox hg; have hcz7_0 := z4_ BK261.out 0 (.int .i64 a0_0) rfl; have hcz7_1 := z4_ BK261.out 1 (.bool false) rfl; have hcz7_2 := z4_ BK261.out 2 (.int .i64 a0_2) rfl; have hcz7_3 := z4_ BK261.out 3 (.int .u64 a0_3) rfl; have hcz7_4 := z4_ BK261.out 4 (.int .u64 a0_4) rfl; have hcz7_5 := z4_ BK261.out 5 (.bool a0_5) rfl; have hfz7_0 := blk_frozen BK261.out 0; have hfz7_1 := blk_frozen BK261.out 1; have hfz7_2 := blk_frozen BK261.out 2; have hfz7_3 := blk_frozen BK261.out 3; have hfz7_4 := blk_frozen BK261.out 4; have hfz7_5 := blk_frozen BK261.out 5))
   go_ret
   exact ⟨by first | rfl | (simp [errW_none, errW_some] <;> rfl) | (simp [*, errW_none, errW_some] <;> rfl), by repeat (first | (with_reducible first | exact HB.out | apply below_alloc | apply pw_below_drewN | apply below_drew1 | refine below_set ?_ GE261.out) | exact HB.out)⟩
 ·rw [if_neg c2] at H
  have c2b0 : (a0_0 == 1) = false := beq_eq_false_iff_ne.mpr c2
  have c2b1 : (a0_0 != 1) = true := bne_iff_ne.mpr c2
  obtain rfl := Option.some.inj H
  go_enter Try.func40, Try.ntmps40
  go_wp2_with (first | ((with_reducible refine gate_dst (N := 1) rfl ?_); refine box_event ?hg (N := 1) ?hd (cs := #[.int .i64 a0_0, .bool a0_1, .int .i64 a0_2, .int .u64 a0_3, .int .u64 a0_4, .bool a0_5]) (t := 24) ?hr ?_; (case hd => rfl); (case hg => rfl); (case hr => first | (go_simp; done) | (go_simp; rfl)); intro gb261 hg w8 hbox hb; have n0_ := Aside0.mk (below_step (z3_ HB.out) hb); have n1_ := Aside0.mk (hbox); have n2_ := Aside0.mk ((by rw [hg]; exact (below_size (z3_ HB.out)) : w.heap.size ≤ gb261)); have n3_ := Aside0.mk ((by rw [hg]; exact (below_size (z3_ HB.out)) : w.heap.size ≤ gb261)); clear HB; have HB := n0_; have BK261 := n1_; have GW261 := n2_; have GE261 := n3_; clear n0_ n1_ n2_ n3_; clear hb hbox hg; have hcz9_0 := z4_ BK261.out 0 (.int .i64 a0_0) rfl; have hcz9_1 := z4_ BK261.out 1 (.bool a0_1) rfl; have hcz9_2 := z4_ BK261.out 2 (.int .i64 a0_2) rfl; have hcz9_3 := z4_ BK261.out 3 (.int .u64 a0_3) rfl; have hcz9_4 := z4_ BK261.out 4 (.int .u64 a0_4) rfl; have hcz9_5 := z4_ BK261.out 5 (.bool a0_5) rfl; have hfz9_0 := blk_frozen BK261.out 0; have hfz9_1 := blk_frozen BK261.out 1; have hfz9_2 := blk_frozen BK261.out 2; have hfz9_3 := blk_frozen BK261.out 3; have hfz9_4 := blk_frozen BK261.out 4; have hfz9_5 := blk_frozen BK261.out 5))
  go_ret
  exact ⟨by first | rfl | (simp [errW_none, errW_some] <;> rfl) | (simp [*, errW_none, errW_some] <;> rfl), by repeat (first | (with_reducible first | exact HB.out | apply below_alloc | apply pw_below_drewN | apply below_drew1 | refine below_set ?_ GE261.out) | exact HB.out)⟩
end Go.Proofs.Ytfegofnplcmacaa.PAll
namespace Go.Proofs.Ytfegofnplcmacaa.PAll
open Go.RowKit Go.Proofs.YtfegofnplcmacaaW.PrintWords Go.Proofs.YtfegofnplcmacaaW.PrintLast Go.Proofs.YtfegofnplcmacaaW.PrintMore
attribute [local go_sem] max2_int min2_int max_two min_two max_three min_three max_four min_four
set_option linter.unusedVariables false
set_option linter.unusedSimpArgs false
attribute [local go_sem high] eqA24
def vernierref07_Cmp.j0 : Nat → Int → Bool → Int → Bool → Int → Int → Int → Bool → Int → Bool → Int → Int → Int → Bool → Option (Int)
 | 0, _, _, _, _, _, _, _, _, _, _, _, _, _, _ => none
 | k + 1, x5, x19, x263000, x263001, x263002, x263003, x263004, x263005, x264000, x264001, x264002, x264003, x264004, x264005 => if x19 = true then (some 0) else (if x263002 < x264002 then (some (wrap64 (-x5))) else (if x263002 = x264002 then (if x263003 < x264003 then (some (wrap64 (-x5))) else (if x263003 = x264003 then (if x263004 < x264004 then (some (wrap64 (-x5))) else (some x5)) else (some x5))) else (some x5)))
def vernierref07_Cmp.f (k : Nat) (a0_0 : Int) (a0_1 : Bool) (a0_2 : Int) (a0_3 : Int) (a0_4 : Int) (a0_5 : Bool) (a1_0 : Int) (a1_1 : Bool) (a1_2 : Int) (a1_3 : Int) (a1_4 : Int) (a1_5 : Bool) : Option (Int) := (vernierref07_sign.f a0_0 a0_1 a0_2 a0_3 a0_4 a0_5).bind fun t264 => ((vernierref07_sign.f a1_0 a1_1 a1_2 a1_3 a1_4 a1_5).bind fun t265 => (if t264 < t265 then (some (-1)) else (if t264 > t265 then (some 1) else (if t264 = 0 then (vernierref07_Cmp.j0 k t264 true a0_0 a0_1 a0_2 a0_3 a0_4 a0_5 a1_0 a1_1 a1_2 a1_3 a1_4 a1_5) else (vernierref07_Cmp.j0 k t264 (a0_0 == a1_0 && (a0_1 == a1_1 && (a0_2 == a1_2 && (a0_3 == a1_3 && (a0_4 == a1_4 && (a0_5 == a1_5)))))) a0_0 a0_1 a0_2 a0_3 a0_4 a0_5 a1_0 a1_1 a1_2 a1_3 a1_4 a1_5)))))
theorem vernierref07_Cmp.mono_l : ∀ k, (∀ y0 y1 y2 y3 y4 y5 y6 y7 y8 y9 y10 y11 y12 y13, LeO (vernierref07_Cmp.j0 k y0 y1 y2 y3 y4 y5 y6 y7 y8 y9 y10 y11 y12 y13) (vernierref07_Cmp.j0 (k + 1) y0 y1 y2 y3 y4 y5 y6 y7 y8 y9 y10 y11 y12 y13))
 | 0 => fun _ _ _ _ _ _ _ _ _ _ _ _ _ _ r h => by simp [vernierref07_Cmp.j0] at h
 | k + 1 => by
  have ih0 := vernierref07_Cmp.mono_l k
  ·intro y0 y1 y2 y3 y4 y5 y6 y7 y8 y9 y10 y11 y12 y13
   unfold vernierref07_Cmp.j0
   repeat' first
   | (with_reducible exact ih0 _ _ _ _ _ _ _ _ _ _ _ _ _ _)
   | (with_reducible exact LeO.refl _)
   | (with_reducible exact LeO.none _)
   | (with_reducible refine LeO.ite ?_ ?_)
   | (with_reducible refine LeO.bind ?_ (fun _ => ?_))
   | exact ih0 _ _ _ _ _ _ _ _ _ _ _ _ _ _
   | exact LeO.none _
   | refine LeO.ite ?_ ?_
   | refine LeO.bind ?_ (fun _ => ?_)
theorem vernierref07_Cmp.mono : ∀ a0 a1 a2 a3 a4 a5 a6 a7 a8 a9 a10 a11 k, LeO (vernierref07_Cmp.f k a0 a1 a2 a3 a4 a5 a6 a7 a8 a9 a10 a11) (vernierref07_Cmp.f (k + 1) a0 a1 a2 a3 a4 a5 a6 a7 a8 a9 a10 a11) := by
 intro a0 a1 a2 a3 a4 a5 a6 a7 a8 a9 a10 a11 k
 have ih0 := vernierref07_Cmp.mono_l k
 unfold vernierref07_Cmp.f
 repeat' first
   | (with_reducible exact ih0 _ _ _ _ _ _ _ _ _ _ _ _ _ _)
   | (with_reducible exact LeO.refl _)
   | (with_reducible exact LeO.none _)
   | (with_reducible refine LeO.ite ?_ ?_)
   | (with_reducible refine LeO.bind ?_ (fun _ => ?_))
   | exact ih0 _ _ _ _ _ _ _ _ _ _ _ _ _ _
   | exact LeO.none _
   | refine LeO.ite ?_ ?_
   | refine LeO.bind ?_ (fun _ => ?_)
set_option maxHeartbeats 8000000 in
set_option maxRecDepth 100000 in
theorem vernierref07_Cmp.calls (k : Nat) (a0_0 : Int) (a0_1 : Bool) (a0_2 : Int) (a0_3 : Int) (a0_4 : Int) (a0_5 : Bool) (a1_0 : Int) (a1_1 : Bool) (a1_2 : Int) (a1_3 : Int) (a1_4 : Int) (a1_5 : Bool) (r : Int) (w : World) (h : vernierref07_Cmp.f k a0_0 a0_1 a0_2 a0_3 a0_4 a0_5 a1_0 a1_1 a1_2 a1_3 a1_4 a1_5 = some r) :
  Calls Try.prog 18 #[.agg #[.int .i64 a0_0, .bool a0_1, .int .i64 a0_2, .int .u64 a0_3, .int .u64 a0_4, .bool a0_5], .agg #[.int .i64 a1_0, .bool a1_1, .int .i64 a1_2, .int .u64 a1_3, .int .u64 a1_4, .bool a1_5]] w fun e w' => e = .returned (.int .i64 r) ∧ Below w.heap.size w w' := by
 have hu24 := Try.underlying24
 have HB := Aside0.mk (Below.refl w.heap.size w)
 have H : ((vernierref07_sign.f a0_0 a0_1 a0_2 a0_3 a0_4 a0_5).bind fun t264 => ((vernierref07_sign.f a1_0 a1_1 a1_2 a1_3 a1_4 a1_5).bind fun t265 => (if t264 < t265 then (some (-1)) else (if t264 > t265 then (some 1) else (if t264 = 0 then (vernierref07_Cmp.j0 k t264 true a0_0 a0_1 a0_2 a0_3 a0_4 a0_5 a1_0 a1_1 a1_2 a1_3 a1_4 a1_5) else (vernierref07_Cmp.j0 k t264 (a0_0 == a1_0 && (a0_1 == a1_1 && (a0_2 == a1_2 && (a0_3 == a1_3 && (a0_4 == a1_4 && (a0_5 == a1_5)))))) a0_0 a0_1 a0_2 a0_3 a0_4 a0_5 a1_0 a1_1 a1_2 a1_3 a1_4 a1_5)))))) = some r := h
 clear h
 replace H := Option.bind_eq_some_iff.mp H
 obtain ⟨t264, A30, H⟩ := H
 replace H : ((vernierref07_sign.f a1_0 a1_1 a1_2 a1_3 a1_4 a1_5).bind fun t265 => (if t264 < t265 then (some (-1)) else (if t264 > t265 then (some 1) else (if t264 = 0 then (vernierref07_Cmp.j0 k t264 true a0_0 a0_1 a0_2 a0_3 a0_4 a0_5 a1_0 a1_1 a1_2 a1_3 a1_4 a1_5) else (vernierref07_Cmp.j0 k t264 (a0_0 == a1_0 && (a0_1 == a1_1 && (a0_2 == a1_2 && (a0_3 == a1_3 && (a0_4 == a1_4 && (a0_5 == a1_5)))))) a0_0 a0_1 a0_2 a0_3 a0_4 a0_5 a1_0 a1_1 a1_2 a1_3 a1_4 a1_5))))) = some r := H
 have A3 := Aside0.mk A30
 clear A30
 replace H := Option.bind_eq_some_iff.mp H
 obtain ⟨t265, A40, H⟩ := H
 replace H : (if t264 < t265 then (some (-1)) else (if t264 > t265 then (some 1) else (if t264 = 0 then (vernierref07_Cmp.j0 k t264 true a0_0 a0_1 a0_2 a0_3 a0_4 a0_5 a1_0 a1_1 a1_2 a1_3 a1_4 a1_5) else (vernierref07_Cmp.j0 k t264 (a0_0 == a1_0 && (a0_1 == a1_1 && (a0_2 == a1_2 && (a0_3 == a1_3 && (a0_4 == a1_4 && (a0_5 == a1_5)))))) a0_0 a0_1 a0_2 a0_3 a0_4 a0_5 a1_0 a1_1 a1_2 a1_3 a1_4 a1_5)))) = some r := H
 have A4 := Aside0.mk A40
 clear A40
 by_cases c5 : t264 < t265
 ·rw [if_pos c5] at H
  have c5b0 : decide (t264 < t265) = true := decide_eq_true c5
  clear c5
  obtain rfl := Option.some.inj H
  go_enter Try.func18, Try.ntmps18
  go_wp2_with (first | ((with_reducible refine gate_dst (N := 2) rfl ?_); refine box_event ?hg (N := 2) ?hd (cs := #[.int .i64 a0_0, .bool a0_1, .int .i64 a0_2, .int .u64 a0_3, .int .u64 a0_4, .bool a0_5]) (t := 24) ?hr ?_; (case hd => rfl); (case hg => rfl); (case hr => first | (go_simp; done) | (go_simp; rfl)); intro gb262 hg w6 hbox hb; have n0_ := Aside0.mk (below_step (z3_ HB.out) hb); have n1_ := Aside0.mk (hbox); have n2_ := Aside0.mk ((by rw [hg]; exact (below_size (z3_ HB.out)) : w.heap.size ≤ gb262)); have n3_ := Aside0.mk ((by rw [hg]; exact (below_size (z3_ HB.out)) : w.heap.size ≤ gb262)); clear HB; have HB := n0_; have BK262 := n1_; have GW262 := n2_; have GE262 := n3_; clear n0_ n1_ n2_ n3_; clear hb hbox hg) | ((with_reducible refine gate_dst (N := 3) rfl ?_); refine box_event ?hg (N := 3) ?hd (cs := #[.int .i64 a1_0, .bool a1_1, .int .i64 a1_2, .int .u64 a1_3, .int .u64 a1_4, .bool a1_5]) (t := 24) ?hr ?_; (case hd => rfl); (case hg => rfl); (case hr => first | (go_simp; done) | (go_simp; rfl)); intro gb263 hg w7 hbox hb; have n0_ := Aside0.mk (blk_below (g := gb262) (z1_ BK262.out) hb); have n1_ := Aside0.mk (below_step (z3_ HB.out) hb); have n2_ := Aside0.mk (hbox); have n3_ := Aside0.mk ((by rw [hg]; exact (below_size (z3_ HB.out)) : w.heap.size ≤ gb263)); have n4_ := Aside0.mk ((by rw [hg]; exact (below_size (z3_ HB.out)) : w.heap.size ≤ gb263)); have n5_ := Aside0.mk ((by rw [hg]; exact Nat.ne_of_lt (blk_lt (g := gb262) (o := .cells #[.int .i64 a0_0, .bool a0_1, .int .i64 a0_2, .int .u64 a0_3, .int .u64 a0_4, .bool a0_5] 24 (0, 0)) (z1_ BK262.out)) : gb262 ≠ gb263)); have n6_ := Aside0.mk ((by rw [hg]; exact Nat.ne_of_gt (blk_lt (g := gb262) (o := .cells #[.int .i64 a0_0, .bool a0_1, .int .i64 a0_2, .int .u64 a0_3, .int .u64 a0_4, .bool a0_5] 24 (0, 0)) (z1_ BK262.out)) : gb263 ≠ gb262)); clear BK262; clear HB; have BK262 := n0_; have HB := n1_; have BK263 := n2_; have GW263 := n3_; have GE263 := n4_; have NB262_263 := n5_; have NB263_262 := n6_; clear n0_ n1_ n2_ n3_ n4_ n5_ n6_; clear hb hbox hg; have hnb8 := NB262_263.out; have hnc8 := NB263_262.out; have hcz9_0 := z4_ BK262.out 0 (.int .i64 a0_0) rfl; have hcz9_1 := z4_ BK262.out 1 (.bool a0_1) rfl; have hcz9_2 := z4_ BK262.out 2 (.int .i64 a0_2) rfl; have hcz9_3 := z4_ BK262.out 3 (.int .u64 a0_3) rfl; have hcz9_4 := z4_ BK262.out 4 (.int .u64 a0_4) rfl; have hcz9_5 := z4_ BK262.out 5 (.bool a0_5) rfl; have hfz9_0 := blk_frozen BK262.out 0; have hfz9_1 := blk_frozen BK262.out 1; have hfz9_2 := blk_frozen BK262.out 2; have hfz9_3 := blk_frozen BK262.out 3; have hfz9_4 := blk_frozen BK262.out 4; have hfz9_5 := blk_frozen BK262.out 5) | ((with_reducible refine gate_callee (f := 40) rfl ?_); refine goesL_ (some 8) rfl rfl Try.func40 (by kernel_rfl) rfl #[.agg #[.int .i64 a0_0, .bool a0_1, .int .i64 a0_2, .int .u64 a0_3, .int .u64 a0_4, .bool a0_5]] rfl z5_ ?_; (with_reducible refine (vernierref07_sign.calls a0_0 a0_1 a0_2 a0_3 a0_4 a0_5 t264 _ A3.out).mono ?_); rintro e w10 ⟨rfl, hb⟩; refine ⟨_, rfl, ?_⟩; have n0_ := Aside0.mk (blk_below (g := gb262) (z1_ BK262.out) hb); have n1_ := Aside0.mk (blk_below (g := gb263) (z1_ BK263.out) hb); have n2_ := Aside0.mk (below_step (z3_ HB.out) hb); clear BK262; clear BK263; clear HB; have BK262 := n0_; have BK263 := n1_; have HB := n2_; clear n0_ n1_ n2_; (try clear hb); (try clear hb2); (try clear hk); (try clear hi); have hcz11_0 := z4_ BK263.out 0 (.int .i64 a1_0) rfl; have hcz11_1 := z4_ BK263.out 1 (.bool a1_1) rfl; have hcz11_2 := z4_ BK263.out 2 (.int .i64 a1_2) rfl; have hcz11_3 := z4_ BK263.out 3 (.int .u64 a1_3) rfl; have hcz11_4 := z4_ BK263.out 4 (.int .u64 a1_4) rfl; have hcz11_5 := z4_ BK263.out 5 (.bool a1_5) rfl; have hfz11_0 := blk_frozen BK263.out 0; have hfz11_1 := blk_frozen BK263.out 1; have hfz11_2 := blk_frozen BK263.out 2; have hfz11_3 := blk_frozen BK263.out 3; have hfz11_4 := blk_frozen BK263.out 4; have hfz11_5 := blk_frozen BK263.out 5) | ((with_reducible refine gate_callee (f := 40) rfl ?_); refine goesL_ (some 10) rfl rfl Try.func40 (by kernel_rfl) rfl #[.agg #[.int .i64 a1_0, .bool a1_1, .int .i64 a1_2, .int .u64 a1_3, .int .u64 a1_4, .bool a1_5]] rfl z5_ ?_; (with_reducible refine (vernierref07_sign.calls a1_0 a1_1 a1_2 a1_3 a1_4 a1_5 t265 _ A4.out).mono ?_); rintro e w12 ⟨rfl, hb⟩; refine ⟨_, rfl, ?_⟩; have n0_ := Aside0.mk (blk_below (g := gb262) (z1_ BK262.out) hb); have n1_ := Aside0.mk (blk_below (g := gb263) (z1_ BK263.out) hb); have n2_ := Aside0.mk (below_step (z3_ HB.out) hb); clear BK262; clear BK263; clear HB; have BK262 := n0_; have BK263 := n1_; have HB := n2_; clear n0_ n1_ n2_; (try clear hb); (try clear hb2); (try clear hk); (try clear hi)))
  go_ret
  exact ⟨by first | rfl | (simp [errW_none, errW_some] <;> rfl) | (simp [*, errW_none, errW_some] <;> rfl), by repeat (first | (with_reducible first | exact HB.out | apply below_alloc | apply pw_below_drewN | apply below_drew1 | refine below_set ?_ GE262.out | refine below_set ?_ GE263.out) | exact HB.out)⟩
 ·rw [if_neg c5] at H
  have c5b0 : decide (t264 < t265) = false := decide_eq_false c5
  clear c5
  by_cases c13 : t264 > t265
  ·rw [if_pos c13] at H
   have c13b0 : decide (t265 < t264) = true := decide_eq_true c13
   clear c13
   obtain rfl := Option.some.inj H
   go_enter Try.func18, Try.ntmps18
   go_wp2_with (first | ((with_reducible refine gate_dst (N := 2) rfl ?_); refine box_event ?hg (N := 2) ?hd (cs := #[.int .i64 a0_0, .bool a0_1, .int .i64 a0_2, .int .u64 a0_3, .int .u64 a0_4, .bool a0_5]) (t := 24) ?hr ?_; (case hd => rfl); (case hg => rfl); (case hr => first | (go_simp; done) | (go_simp; rfl)); intro gb262 hg w14 hbox hb; have n0_ := Aside0.mk (below_step (z3_ HB.out) hb); have n1_ := Aside0.mk (hbox); have n2_ := Aside0.mk ((by rw [hg]; exact (below_size (z3_ HB.out)) : w.heap.size ≤ gb262)); have n3_ := Aside0.mk ((by rw [hg]; exact (below_size (z3_ HB.out)) : w.heap.size ≤ gb262)); clear HB; have HB := n0_; have BK262 := n1_; have GW262 := n2_; have GE262 := n3_; clear n0_ n1_ n2_ n3_; clear hb hbox hg) | ((with_reducible refine gate_dst (N := 3) rfl ?_); refine box_event ?hg (N := 3) ?hd (cs := #[.int .i64 a1_0, .bool a1_1, .int .i64 a1_2, .int .u64 a1_3, .int .u64 a1_4, .bool a1_5]) (t := 24) ?hr ?_; (case hd => rfl); (case hg => rfl); (case hr => first | (go_simp; done) | (go_simp; rfl)); intro gb263 hg w15 hbox hb; have n0_ := Aside0.mk (blk_below (g := gb262) (z1_ BK262.out) hb); have n1_ := Aside0.mk (below_step (z3_ HB.out) hb); have n2_ := Aside0.mk (hbox); have n3_ := Aside0.mk ((by rw [hg]; exact (below_size (z3_ HB.out)) : w.heap.size ≤ gb263)); have n4_ := Aside0.mk ((by rw [hg]; exact (below_size (z3_ HB.out)) : w.heap.size ≤ gb263)); have n5_ := Aside0.mk ((by rw [hg]; exact Nat.ne_of_lt (blk_lt (g := gb262) (o := .cells #[.int .i64 a0_0, .bool a0_1, .int .i64 a0_2, .int .u64 a0_3, .int .u64 a0_4, .bool a0_5] 24 (0, 0)) (z1_ BK262.out)) : gb262 ≠ gb263)); have n6_ := Aside0.mk ((by rw [hg]; exact Nat.ne_of_gt (blk_lt (g := gb262) (o := .cells #[.int .i64 a0_0, .bool a0_1, .int .i64 a0_2, .int .u64 a0_3, .int .u64 a0_4, .bool a0_5] 24 (0, 0)) (z1_ BK262.out)) : gb263 ≠ gb262)); clear BK262; clear HB; have BK262 := n0_; have HB := n1_; have BK263 := n2_; have GW263 := n3_; have GE263 := n4_; have NB262_263 := n5_; have NB263_262 := n6_; clear n0_ n1_ n2_ n3_ n4_ n5_ n6_; clear hb hbox hg; have hnb16 := NB262_263.out; have hnc16 := NB263_262.out; have hcz17_0 := z4_ BK262.out 0 (.int .i64 a0_0) rfl; have hcz17_1 := z4_ BK262.out 1 (.bool a0_1) rfl; have hcz17_2 := z4_ BK262.out 2 (.int .i64 a0_2) rfl; have hcz17_3 := z4_ BK262.out 3 (.int .u64 a0_3) rfl; have hcz17_4 := z4_ BK262.out 4 (.int .u64 a0_4) rfl; have hcz17_5 := z4_ BK262.out 5 (.bool a0_5) rfl; have hfz17_0 := blk_frozen BK262.out 0; have hfz17_1 := blk_frozen BK262.out 1; have hfz17_2 := blk_frozen BK262.out 2; have hfz17_3 := blk_frozen BK262.out 3; have hfz17_4 := blk_frozen BK262.out 4; have hfz17_5 := blk_frozen BK262.out 5) | ((with_reducible refine gate_callee (f := 40) rfl ?_); refine goesL_ (some 8) rfl rfl Try.func40 (by kernel_rfl) rfl #[.agg #[.int .i64 a0_0, .bool a0_1, .int .i64 a0_2, .int .u64 a0_3, .int .u64 a0_4, .bool a0_5]] rfl z5_ ?_; (with_reducible refine (vernierref07_sign.calls a0_0 a0_1 a0_2 a0_3 a0_4 a0_5 t264 _ A3.out).mono ?_); rintro e w18 ⟨rfl, hb⟩; refine ⟨_, rfl, ?_⟩; have n0_ := Aside0.mk (blk_below (g := gb262) (z1_ BK262.out) hb); have n1_ := Aside0.mk (blk_below (g := gb263) (z1_ BK263.out) hb); have n2_ := Aside0.mk (below_step (z3_ HB.out) hb); clear BK262; clear BK263; clear HB; have BK262 := n0_; have BK263 := n1_; have HB := n2_; clear n0_ n1_ n2_; (try clear hb); (try clear hb2); (try clear hk); (try clear hi); have hcz19_0 := z4_ BK263.out 0 (.int .i64 a1_0) rfl; have hcz19_1 := z4_ BK263.out 1 (.bool a1_1) rfl; have hcz19_2 := z4_ BK263.out 2 (.int .i64 a1_2) rfl; have hcz19_3 := z4_ BK263.out 3 (.int .u64 a1_3) rfl; have hcz19_4 := z4_ BK263.out 4 (.int .u64 a1_4) rfl; have hcz19_5 := z4_ BK263.out 5 (.bool a1_5) rfl; have hfz19_0 := blk_frozen BK263.out 0; have hfz19_1 := blk_frozen BK263.out 1; have hfz19_2 := blk_frozen BK263.out 2; have hfz19_3 := blk_frozen BK263.out 3; have hfz19_4 := blk_frozen BK263.out 4; have hfz19_5 := blk_frozen BK263.out 5) | ((with_reducible refine gate_callee (f := 40) rfl ?_); refine goesL_ (some 10) rfl rfl Try.func40 (by kernel_rfl) rfl #[.agg #[.int .i64 a1_0, .bool a1_1, .int .i64 a1_2, .int .u64 a1_3, .int .u64 a1_4, .bool a1_5]] rfl z5_ ?_; (with_reducible refine (vernierref07_sign.calls a1_0 a1_1 a1_2 a1_3 a1_4 a1_5 t265 _ A4.out).mono ?_); rintro e w20 ⟨rfl, hb⟩; refine ⟨_, rfl, ?_⟩; have n0_ := Aside0.mk (blk_below (g := gb262) (z1_ BK262.out) hb); have n1_ := Aside0.mk (blk_below (g := gb263) (z1_ BK263.out) hb); have n2_ := Aside0.mk (below_step (z3_ HB.out) hb); clear BK262; clear BK263; clear HB; have BK262 := n0_; have BK263 := n1_; have HB := n2_; clear n0_ n1_ n2_; (try clear hb); (try clear hb2); (try clear hk); (try clear hi)))
   go_ret
   exact ⟨by first | rfl | (simp [errW_none, errW_some] <;> rfl) | (simp [*, errW_none, errW_some] <;> rfl), by repeat (first | (with_reducible first | exact HB.out | apply below_alloc | apply pw_below_drewN | apply below_drew1 | refine below_set ?_ GE262.out | refine below_set ?_ GE263.out) | exact HB.out)⟩
  ·rw [if_neg c13] at H
   have c13b0 : decide (t265 < t264) = false := decide_eq_false c13
   clear c13
   have HC21 := Aside0.mk H
   clear H
   go_enter Try.func18, Try.ntmps18
   go_upto_region 7 with (first | ((with_reducible refine gate_dst (N := 2) rfl ?_); refine box_event ?hg (N := 2) ?hd (cs := #[.int .i64 a0_0, .bool a0_1, .int .i64 a0_2, .int .u64 a0_3, .int .u64 a0_4, .bool a0_5]) (t := 24) ?hr ?_; (case hd => rfl); (case hg => rfl); (case hr => first | (go_simp; done) | (go_simp; rfl)); intro gb262 hg w22 hbox hb; have n0_ := Aside0.mk (below_step (z3_ HB.out) hb); have n1_ := Aside0.mk (hbox); have n2_ := Aside0.mk ((by rw [hg]; exact (below_size (z3_ HB.out)) : w.heap.size ≤ gb262)); have n3_ := Aside0.mk ((by rw [hg]; exact (below_size (z3_ HB.out)) : w.heap.size ≤ gb262)); clear HB; have HB := n0_; have BK262 := n1_; have GW262 := n2_; have GE262 := n3_; clear n0_ n1_ n2_ n3_; clear hb hbox hg) | ((with_reducible refine gate_dst (N := 3) rfl ?_); refine box_event ?hg (N := 3) ?hd (cs := #[.int .i64 a1_0, .bool a1_1, .int .i64 a1_2, .int .u64 a1_3, .int .u64 a1_4, .bool a1_5]) (t := 24) ?hr ?_; (case hd => rfl); (case hg => rfl); (case hr => first | (go_simp; done) | (go_simp; rfl)); intro gb263 hg w23 hbox hb; have n0_ := Aside0.mk (blk_below (g := gb262) (z1_ BK262.out) hb); have n1_ := Aside0.mk (below_step (z3_ HB.out) hb); have n2_ := Aside0.mk (hbox); have n3_ := Aside0.mk ((by rw [hg]; exact (below_size (z3_ HB.out)) : w.heap.size ≤ gb263)); have n4_ := Aside0.mk ((by rw [hg]; exact (below_size (z3_ HB.out)) : w.heap.size ≤ gb263)); have n5_ := Aside0.mk ((by rw [hg]; exact Nat.ne_of_lt (blk_lt (g := gb262) (o := .cells #[.int .i64 a0_0, .bool a0_1, .int .i64 a0_2, .int .u64 a0_3, .int .u64 a0_4, .bool a0_5] 24 (0, 0)) (z1_ BK262.out)) : gb262 ≠ gb263)); have n6_ := Aside0.mk ((by rw [hg]; exact Nat.ne_of_gt (blk_lt (g := gb262) (o := .cells #[.int .i64 a0_0, .bool a0_1, .int .i64 a0_2, .int .u64 a0_3, .int .u64 a0_4, .bool a0_5] 24 (0, 0)) (z1_ BK262.out)) : gb263 ≠ gb262)); clear BK262; clear HB; have BK262 := n0_; have HB := n1_; have BK263 := n2_; have GW263 := n3_; have GE263 := n4_; have NB262_263 := n5_; have NB263_262 := n6_; clear n0_ n1_ n2_ n3_ n4_ n5_ n6_; clear hb hbox hg; have hnb24 := NB262_263.out; have hnc24 := NB263_262.out; have hcz25_0 := z4_ BK262.out 0 (.int .i64 a0_0) rfl; have hcz25_1 := z4_ BK262.out 1 (.bool a0_1) rfl; have hcz25_2 := z4_ BK262.out 2 (.int .i64 a0_2) rfl; have hcz25_3 := z4_ BK262.out 3 (.int .u64 a0_3) rfl; have hcz25_4 := z4_ BK262.out 4 (.int .u64 a0_4) rfl; have hcz25_5 := z4_ BK262.out 5 (.bool a0_5) rfl; have hfz25_0 := blk_frozen BK262.out 0; have hfz25_1 := blk_frozen BK262.out 1; have hfz25_2 := blk_frozen BK262.out 2; have hfz25_3 := blk_frozen BK262.out 3; have hfz25_4 := blk_frozen BK262.out 4; have hfz25_5 := blk_frozen BK262.out 5) | ((with_reducible refine gate_callee (f := 40) rfl ?_); refine goesL_ (some 8) rfl rfl Try.func40 (by kernel_rfl) rfl #[.agg #[.int .i64 a0_0, .bool a0_1, .int .i64 a0_2, .int .u64 a0_3, .int .u64 a0_4, .bool a0_5]] rfl z5_ ?_; (with_reducible refine (vernierref07_sign.calls a0_0 a0_1 a0_2 a0_3 a0_4 a0_5 t264 _ A3.out).mono ?_); rintro e w26 ⟨rfl, hb⟩; refine ⟨_, rfl, ?_⟩; have n0_ := Aside0.mk (blk_below (g := gb262) (z1_ BK262.out) hb); have n1_ := Aside0.mk (blk_below (g := gb263) (z1_ BK263.out) hb); have n2_ := Aside0.mk (below_step (z3_ HB.out) hb); clear BK262; clear BK263; clear HB; have BK262 := n0_; have BK263 := n1_; have HB := n2_; clear n0_ n1_ n2_; (try clear hb); (try clear hb2); (try clear hk); (try clear hi); have hcz27_0 := z4_ BK263.out 0 (.int .i64 a1_0) rfl; have hcz27_1 := z4_ BK263.out 1 (.bool a1_1) rfl; have hcz27_2 := z4_ BK263.out 2 (.int .i64 a1_2) rfl; have hcz27_3 := z4_ BK263.out 3 (.int .u64 a1_3) rfl; have hcz27_4 := z4_ BK263.out 4 (.int .u64 a1_4) rfl; have hcz27_5 := z4_ BK263.out 5 (.bool a1_5) rfl; have hfz27_0 := blk_frozen BK263.out 0; have hfz27_1 := blk_frozen BK263.out 1; have hfz27_2 := blk_frozen BK263.out 2; have hfz27_3 := blk_frozen BK263.out 3; have hfz27_4 := blk_frozen BK263.out 4; have hfz27_5 := blk_frozen BK263.out 5) | ((with_reducible refine gate_callee (f := 40) rfl ?_); refine goesL_ (some 10) rfl rfl Try.func40 (by kernel_rfl) rfl #[.agg #[.int .i64 a1_0, .bool a1_1, .int .i64 a1_2, .int .u64 a1_3, .int .u64 a1_4, .bool a1_5]] rfl z5_ ?_; (with_reducible refine (vernierref07_sign.calls a1_0 a1_1 a1_2 a1_3 a1_4 a1_5 t265 _ A4.out).mono ?_); rintro e w28 ⟨rfl, hb⟩; refine ⟨_, rfl, ?_⟩; have n0_ := Aside0.mk (blk_below (g := gb262) (z1_ BK262.out) hb); have n1_ := Aside0.mk (blk_below (g := gb263) (z1_ BK263.out) hb); have n2_ := Aside0.mk (below_step (z3_ HB.out) hb); clear BK262; clear BK263; clear HB; have BK262 := n0_; have BK263 := n1_; have HB := n2_; clear n0_ n1_ n2_; (try clear hb); (try clear hb2); (try clear hk); (try clear hi)))
   (try simp only [Act.put, List.setIfInBounds_toArray, List.set_cons_zero, List.set_cons_succ])
   go_cut [19] (fun v19 wc => ∃ (kq : Nat) (x19_20 : Bool), v19 = .bool x19_20 ∧ Aside0 (vernierref07_Cmp.j0 kq t264 x19_20 a0_0 a0_1 a0_2 a0_3 a0_4 a0_5 a1_0 a1_1 a1_2 a1_3 a1_4 a1_5 = some r) ∧ Aside0 (kq ≤ k) ∧ Aside0 (wc.heap[gb262]? = some (.cells #[.int .i64 a0_0, .bool a0_1, .int .i64 a0_2, .int .u64 a0_3, .int .u64 a0_4, .bool a0_5] 24 (0, 0))) ∧ Aside0 (wc.heap[gb263]? = some (.cells #[.int .i64 a1_0, .bool a1_1, .int .i64 a1_2, .int .u64 a1_3, .int .u64 a1_4, .bool a1_5] 24 (0, 0))) ∧ Aside0 (Below w.heap.size w wc))
   case first =>
    have H := HC21.out
    clear HC21
    by_cases c29 : t264 = 0
    ·rw [if_pos c29] at H
     have c29b0 : (t264 == 0) = true := beq_iff_eq.mpr c29
     have c29b1 : (t264 != 0) = false := bne_eq_false_iff_eq.mpr c29
     clear c29
     (first | rw [c29b0] | (simp only [i64_w, i32_w]; rw [c29b0]) | skip)
     have H' := Aside0.mk H
     clear H
     go_wp2
     go_meet
     case rel => exact ⟨_, (true), (by first | rfl | (simp; done) | (simp [*]; done)), H', ⟨by first | omega | exact Nat.le_refl _⟩, ⟨by refine z2_ ?_; exact BK262.out⟩, ⟨by refine z2_ ?_; exact BK263.out⟩, ⟨by repeat (first | (with_reducible first | exact HB.out | apply below_alloc | apply pw_below_drewN | apply below_drew1 | refine below_set ?_ GE262.out | refine below_set ?_ GE263.out) | exact HB.out)⟩⟩
    ·rw [if_neg c29] at H
     have c29b0 : (t264 == 0) = false := beq_eq_false_iff_ne.mpr c29
     have c29b1 : (t264 != 0) = true := bne_iff_ne.mpr c29
     (first | rw [c29b0] | (simp only [i64_w, i32_w]; rw [c29b0]) | skip)
     have H' := Aside0.mk H
     clear H
     have hnb30 := NB262_263.out
     have hnc30 := NB263_262.out
     have hcz31_0 := z4_ BK262.out 0 (.int .i64 a0_0) rfl
     have hcz31_1 := z4_ BK262.out 1 (.bool a0_1) rfl
     have hcz31_2 := z4_ BK262.out 2 (.int .i64 a0_2) rfl
     have hcz31_3 := z4_ BK262.out 3 (.int .u64 a0_3) rfl
     have hcz31_4 := z4_ BK262.out 4 (.int .u64 a0_4) rfl
     have hcz31_5 := z4_ BK262.out 5 (.bool a0_5) rfl
     have hfz31_0 := blk_frozen BK262.out 0
     have hfz31_1 := blk_frozen BK262.out 1
     have hfz31_2 := blk_frozen BK262.out 2
     have hfz31_3 := blk_frozen BK262.out 3
     have hfz31_4 := blk_frozen BK262.out 4
     have hfz31_5 := blk_frozen BK262.out 5
     have hcz32_0 := z4_ BK263.out 0 (.int .i64 a1_0) rfl
     have hcz32_1 := z4_ BK263.out 1 (.bool a1_1) rfl
     have hcz32_2 := z4_ BK263.out 2 (.int .i64 a1_2) rfl
     have hcz32_3 := z4_ BK263.out 3 (.int .u64 a1_3) rfl
     have hcz32_4 := z4_ BK263.out 4 (.int .u64 a1_4) rfl
     have hcz32_5 := z4_ BK263.out 5 (.bool a1_5) rfl
     have hfz32_0 := blk_frozen BK263.out 0
     have hfz32_1 := blk_frozen BK263.out 1
     have hfz32_2 := blk_frozen BK263.out 2
     have hfz32_3 := blk_frozen BK263.out 3
     have hfz32_4 := blk_frozen BK263.out 4
     have hfz32_5 := blk_frozen BK263.out 5
     go_wp2
     go_meet
     case rel => exact ⟨_, ((a0_0 == a1_0 && (a0_1 == a1_1 && (a0_2 == a1_2 && (a0_3 == a1_3 && (a0_4 == a1_4 && (a0_5 == a1_5))))))), (by first | rfl | (simp; done) | (simp [*]; done)), H', ⟨by first | omega | exact Nat.le_refl _⟩, ⟨by refine z2_ ?_; exact BK262.out⟩, ⟨by refine z2_ ?_; exact BK263.out⟩, ⟨by repeat (first | (with_reducible first | exact HB.out | apply below_alloc | apply pw_below_drewN | apply below_drew1 | refine below_set ?_ GE262.out | refine below_set ?_ GE263.out) | exact HB.out)⟩⟩
   case rest =>
    clear HC21
    try clear c1
    try clear c2
    try clear p2
    try clear c3
    try clear c4
    try clear c5
    try clear c5b0
    try clear c8
    try clear c13
    try clear c13b0
    try clear c16
    try clear c18
    try clear c24
    try clear c29
    try clear c29b0
    try clear c29b1
    try clear c30
    try clear hcz11_0
    try clear hcz11_1
    try clear hcz11_2
    try clear hcz11_3
    try clear hcz11_4
    try clear hcz11_5
    try clear hcz17_0
    try clear hcz17_1
    try clear hcz17_2
    try clear hcz17_3
    try clear hcz17_4
    try clear hcz17_5
    try clear hcz19_0
    try clear hcz19_1
    try clear hcz19_2
    try clear hcz19_3
    try clear hcz19_4
    try clear hcz19_5
    try clear hcz25_0
    try clear hcz25_1
    try clear hcz25_2
    try clear hcz25_3
    try clear hcz25_4
    try clear hcz25_5
    try clear hcz27_0
    try clear hcz27_1
    try clear hcz27_2
    try clear hcz27_3
    try clear hcz27_4
    try clear hcz27_5
    try clear hcz31_0
    try clear hcz31_1
    try clear hcz31_2
    try clear hcz31_3
    try clear hcz31_4
    try clear hcz31_5
    try clear hcz32_0
    try clear hcz32_1
    try clear hcz32_2
    try clear hcz32_3
    try clear hcz32_4
    try clear hcz32_5
    try clear hcz9_0
    try clear hcz9_1
    try clear hcz9_2
    try clear hcz9_3
    try clear hcz9_4
    try clear hcz9_5
    try clear hfz11_0
    try clear hfz11_1
    try clear hfz11_2
    try clear hfz11_3
    try clear hfz11_4
    try clear hfz11_5
    try clear hfz17_0
    try clear hfz17_1
    try clear hfz17_2
    try clear hfz17_3
    try clear hfz17_4
    try clear hfz17_5
    try clear hfz19_0
    try clear hfz19_1
    try clear hfz19_2
    try clear hfz19_3
    try clear hfz19_4
    try clear hfz19_5
    try clear hfz25_0
    try clear hfz25_1
    try clear hfz25_2
    try clear hfz25_3
    try clear hfz25_4
    try clear hfz25_5
    try clear hfz27_0
    try clear hfz27_1
    try clear hfz27_2
    try clear hfz27_3
    try clear hfz27_4
    try clear hfz27_5
    try clear hfz31_0
    try clear hfz31_1
    try clear hfz31_2
    try clear hfz31_3
    try clear hfz31_4
    try clear hfz31_5
    try clear hfz32_0
    try clear hfz32_1
    try clear hfz32_2
    try clear hfz32_3
    try clear hfz32_4
    try clear hfz32_5
    try clear hfz9_0
    try clear hfz9_1
    try clear hfz9_2
    try clear hfz9_3
    try clear hfz9_4
    try clear hfz9_5
    obtain ⟨kq, x19_20, rfl, HA, HJ20, BK262, BK263, HB⟩ := hcut
    cases kq with
    | zero => exact absurd HA.out (by simp [vernierref07_Cmp.j0])
    | succ kj20 =>
     have H := HA.out
     clear HA
     simp only [vernierref07_Cmp.j0] at H
     by_cases c33 : x19_20 = true
     ·subst c33
      have H1 : (some 0) = some r := by rw [if_pos rfl] at H; exact H
      clear H
      have H := H1
      clear H1
      obtain rfl := Option.some.inj H
      go_wp2
      go_ret
      exact ⟨by first | rfl | (simp [errW_none, errW_some] <;> rfl) | (simp [*, errW_none, errW_some] <;> rfl), by repeat (first | (with_reducible first | exact HB.out | apply below_alloc | apply pw_below_drewN | apply below_drew1 | refine below_set ?_ GE262.out | refine below_set ?_ GE263.out) | exact HB.out)⟩
     ·replace c33 := Bool.eq_false_iff.mpr c33
      subst c33
      have H1 : (if a0_2 < a1_2 then (some (wrap64 (-t264))) else (if a0_2 = a1_2 then (if a0_3 < a1_3 then (some (wrap64 (-t264))) else (if a0_3 = a1_3 then (if a0_4 < a1_4 then (some (wrap64 (-t264))) else (some t264)) else (some t264))) else (some t264))) = some r := by rw [if_neg (show ¬ (false = true) by decide)] at H; exact H
      clear H
      have H := H1
      clear H1
      by_cases c34 : a0_2 < a1_2
      ·rw [if_pos c34] at H
       have c34b0 : decide (a0_2 < a1_2) = true := decide_eq_true c34
       clear c34
       obtain rfl := Option.some.inj H
       have hnb35 := NB262_263.out
       have hnc35 := NB263_262.out
       have hcz36_0 := z4_ BK262.out 0 (.int .i64 a0_0) rfl
       have hcz36_1 := z4_ BK262.out 1 (.bool a0_1) rfl
       have hcz36_2 := z4_ BK262.out 2 (.int .i64 a0_2) rfl
       have hcz36_3 := z4_ BK262.out 3 (.int .u64 a0_3) rfl
       have hcz36_4 := z4_ BK262.out 4 (.int .u64 a0_4) rfl
       have hcz36_5 := z4_ BK262.out 5 (.bool a0_5) rfl
       have hfz36_0 := blk_frozen BK262.out 0
       have hfz36_1 := blk_frozen BK262.out 1
       have hfz36_2 := blk_frozen BK262.out 2
       have hfz36_3 := blk_frozen BK262.out 3
       have hfz36_4 := blk_frozen BK262.out 4
       have hfz36_5 := blk_frozen BK262.out 5
       have hcz37_0 := z4_ BK263.out 0 (.int .i64 a1_0) rfl
       have hcz37_1 := z4_ BK263.out 1 (.bool a1_1) rfl
       have hcz37_2 := z4_ BK263.out 2 (.int .i64 a1_2) rfl
       have hcz37_3 := z4_ BK263.out 3 (.int .u64 a1_3) rfl
       have hcz37_4 := z4_ BK263.out 4 (.int .u64 a1_4) rfl
       have hcz37_5 := z4_ BK263.out 5 (.bool a1_5) rfl
       have hfz37_0 := blk_frozen BK263.out 0
       have hfz37_1 := blk_frozen BK263.out 1
       have hfz37_2 := blk_frozen BK263.out 2
       have hfz37_3 := blk_frozen BK263.out 3
       have hfz37_4 := blk_frozen BK263.out 4
       have hfz37_5 := blk_frozen BK263.out 5
       go_wp2
       go_ret
       exact ⟨by first | rfl | (simp [errW_none, errW_some] <;> rfl) | (simp [*, errW_none, errW_some] <;> rfl), by repeat (first | (with_reducible first | exact HB.out | apply below_alloc | apply pw_below_drewN | apply below_drew1 | refine below_set ?_ GE262.out | refine below_set ?_ GE263.out) | exact HB.out)⟩
      ·rw [if_neg c34] at H
       have c34b0 : decide (a0_2 < a1_2) = false := decide_eq_false c34
       clear c34
       by_cases c38 : a0_2 = a1_2
       ·rw [if_pos c38] at H
        have c38b0 : (a0_2 == a1_2) = true := beq_iff_eq.mpr c38
        have c38b1 : (a0_2 != a1_2) = false := bne_eq_false_iff_eq.mpr c38
        clear c38
        by_cases c39 : a0_3 < a1_3
        ·rw [if_pos c39] at H
         have c39b0 : decide (a0_3 < a1_3) = true := decide_eq_true c39
         clear c39
         obtain rfl := Option.some.inj H
         have hnb40 := NB262_263.out
         have hnc40 := NB263_262.out
         have hcz41_0 := z4_ BK262.out 0 (.int .i64 a0_0) rfl
         have hcz41_1 := z4_ BK262.out 1 (.bool a0_1) rfl
         have hcz41_2 := z4_ BK262.out 2 (.int .i64 a0_2) rfl
         have hcz41_3 := z4_ BK262.out 3 (.int .u64 a0_3) rfl
         have hcz41_4 := z4_ BK262.out 4 (.int .u64 a0_4) rfl
         have hcz41_5 := z4_ BK262.out 5 (.bool a0_5) rfl
         have hfz41_0 := blk_frozen BK262.out 0
         have hfz41_1 := blk_frozen BK262.out 1
         have hfz41_2 := blk_frozen BK262.out 2
         have hfz41_3 := blk_frozen BK262.out 3
         have hfz41_4 := blk_frozen BK262.out 4
         have hfz41_5 := blk_frozen BK262.out 5
         have hcz42_0 := z4_ BK263.out 0 (.int .i64 a1_0) rfl
         have hcz42_1 := z4_ BK263.out 1 (.bool a1_1) rfl
         have hcz42_2 := z4_ BK263.out 2 (.int .i64 a1_2) rfl
         have hcz42_3 := z4_ BK263.out 3 (.int .u64 a1_3) rfl
         have hcz42_4 := z4_ BK263.out 4 (.int .u64 a1_4) rfl
         have hcz42_5 := z4_ BK263.out 5 (.bool a1_5) rfl
         have hfz42_0 := blk_frozen BK263.out 0
         have hfz42_1 := blk_frozen BK263.out 1
         have hfz42_2 := blk_frozen BK263.out 2
         have hfz42_3 := blk_frozen BK263.out 3
         have hfz42_4 := blk_frozen BK263.out 4
         have hfz42_5 := blk_frozen BK263.out 5
         go_wp2
         go_ret
         exact ⟨by first | rfl | (simp [errW_none, errW_some] <;> rfl) | (simp [*, errW_none, errW_some] <;> rfl), by repeat (first | (with_reducible first | exact HB.out | apply below_alloc | apply pw_below_drewN | apply below_drew1 | refine below_set ?_ GE262.out | refine below_set ?_ GE263.out) | exact HB.out)⟩
        ·rw [if_neg c39] at H
         have c39b0 : decide (a0_3 < a1_3) = false := decide_eq_false c39
         clear c39
         by_cases c43 : a0_3 = a1_3
         ·rw [if_pos c43] at H
          have c43b0 : (a0_3 == a1_3) = true := beq_iff_eq.mpr c43
          have c43b1 : (a0_3 != a1_3) = false := bne_eq_false_iff_eq.mpr c43
          clear c43
          by_cases c44 : a0_4 < a1_4
          ·rw [if_pos c44] at H
           have c44b0 : decide (a0_4 < a1_4) = true := decide_eq_true c44
           clear c44
           obtain rfl := Option.some.inj H
           have hnb45 := NB262_263.out
           have hnc45 := NB263_262.out
           have hcz46_0 := z4_ BK262.out 0 (.int .i64 a0_0) rfl
           have hcz46_1 := z4_ BK262.out 1 (.bool a0_1) rfl
           have hcz46_2 := z4_ BK262.out 2 (.int .i64 a0_2) rfl
           have hcz46_3 := z4_ BK262.out 3 (.int .u64 a0_3) rfl
           have hcz46_4 := z4_ BK262.out 4 (.int .u64 a0_4) rfl
           have hcz46_5 := z4_ BK262.out 5 (.bool a0_5) rfl
           have hfz46_0 := blk_frozen BK262.out 0
           have hfz46_1 := blk_frozen BK262.out 1
           have hfz46_2 := blk_frozen BK262.out 2
           have hfz46_3 := blk_frozen BK262.out 3
           have hfz46_4 := blk_frozen BK262.out 4
           have hfz46_5 := blk_frozen BK262.out 5
           have hcz47_0 := z4_ BK263.out 0 (.int .i64 a1_0) rfl
           have hcz47_1 := z4_ BK263.out 1 (.bool a1_1) rfl
           have hcz47_2 := z4_ BK263.out 2 (.int .i64 a1_2) rfl
           have hcz47_3 := z4_ BK263.out 3 (.int .u64 a1_3) rfl
           have hcz47_4 := z4_ BK263.out 4 (.int .u64 a1_4) rfl
           have hcz47_5 := z4_ BK263.out 5 (.bool a1_5) rfl
           have hfz47_0 := blk_frozen BK263.out 0
           have hfz47_1 := blk_frozen BK263.out 1
           have hfz47_2 := blk_frozen BK263.out 2
           have hfz47_3 := blk_frozen BK263.out 3
           have hfz47_4 := blk_frozen BK263.out 4
           have hfz47_5 := blk_frozen BK263.out 5
           go_wp2
           go_ret
           exact ⟨by first | rfl | (simp [errW_none, errW_some] <;> rfl) | (simp [*, errW_none, errW_some] <;> rfl), by repeat (first | (with_reducible first | exact HB.out | apply below_alloc | apply pw_below_drewN | apply below_drew1 | refine below_set ?_ GE262.out | refine below_set ?_ GE263.out) | exact HB.out)⟩
          ·rw [if_neg c44] at H
           have c44b0 : decide (a0_4 < a1_4) = false := decide_eq_false c44
           clear c44
           obtain rfl := Option.some.inj H
           have hnb48 := NB262_263.out
           have hnc48 := NB263_262.out
           have hcz49_0 := z4_ BK262.out 0 (.int .i64 a0_0) rfl
           have hcz49_1 := z4_ BK262.out 1 (.bool a0_1) rfl
           have hcz49_2 := z4_ BK262.out 2 (.int .i64 a0_2) rfl
           have hcz49_3 := z4_ BK262.out 3 (.int .u64 a0_3) rfl
           have hcz49_4 := z4_ BK262.out 4 (.int .u64 a0_4) rfl
           have hcz49_5 := z4_ BK262.out 5 (.bool a0_5) rfl
           have hfz49_0 := blk_frozen BK262.out 0
           have hfz49_1 := blk_frozen BK262.out 1
           have hfz49_2 := blk_frozen BK262.out 2
           have hfz49_3 := blk_frozen BK262.out 3
           have hfz49_4 := blk_frozen BK262.out 4
           have hfz49_5 := blk_frozen BK262.out 5
           have hcz50_0 := z4_ BK263.out 0 (.int .i64 a1_0) rfl
           have hcz50_1 := z4_ BK263.out 1 (.bool a1_1) rfl
           have hcz50_2 := z4_ BK263.out 2 (.int .i64 a1_2) rfl
           have hcz50_3 := z4_ BK263.out 3 (.int .u64 a1_3) rfl
           have hcz50_4 := z4_ BK263.out 4 (.int .u64 a1_4) rfl
           have hcz50_5 := z4_ BK263.out 5 (.bool a1_5) rfl
           have hfz50_0 := blk_frozen BK263.out 0
           have hfz50_1 := blk_frozen BK263.out 1
           have hfz50_2 := blk_frozen BK263.out 2
           have hfz50_3 := blk_frozen BK263.out 3
           have hfz50_4 := blk_frozen BK263.out 4
           have hfz50_5 := blk_frozen BK263.out 5
           go_wp2
           go_ret
           exact ⟨by first | rfl | (simp [errW_none, errW_some] <;> rfl) | (simp [*, errW_none, errW_some] <;> rfl), by repeat (first | (with_reducible first | exact HB.out | apply below_alloc | apply pw_below_drewN | apply below_drew1 | refine below_set ?_ GE262.out | refine below_set ?_ GE263.out) | exact HB.out)⟩
         ·rw [if_neg c43] at H
          have c43b0 : (a0_3 == a1_3) = false := beq_eq_false_iff_ne.mpr c43
          have c43b1 : (a0_3 != a1_3) = true := bne_iff_ne.mpr c43
          obtain rfl := Option.some.inj H
          have hnb51 := NB262_263.out
          have hnc51 := NB263_262.out
          have hcz52_0 := z4_ BK262.out 0 (.int .i64 a0_0) rfl
          have hcz52_1 := z4_ BK262.out 1 (.bool a0_1) rfl
          have hcz52_2 := z4_ BK262.out 2 (.int .i64 a0_2) rfl
          have hcz52_3 := z4_ BK262.out 3 (.int .u64 a0_3) rfl
          have hcz52_4 := z4_ BK262.out 4 (.int .u64 a0_4) rfl
          have hcz52_5 := z4_ BK262.out 5 (.bool a0_5) rfl
          have hfz52_0 := blk_frozen BK262.out 0
          have hfz52_1 := blk_frozen BK262.out 1
          have hfz52_2 := blk_frozen BK262.out 2
          have hfz52_3 := blk_frozen BK262.out 3
          have hfz52_4 := blk_frozen BK262.out 4
          have hfz52_5 := blk_frozen BK262.out 5
          have hcz53_0 := z4_ BK263.out 0 (.int .i64 a1_0) rfl
          have hcz53_1 := z4_ BK263.out 1 (.bool a1_1) rfl
          have hcz53_2 := z4_ BK263.out 2 (.int .i64 a1_2) rfl
          have hcz53_3 := z4_ BK263.out 3 (.int .u64 a1_3) rfl
          have hcz53_4 := z4_ BK263.out 4 (.int .u64 a1_4) rfl
          have hcz53_5 := z4_ BK263.out 5 (.bool a1_5) rfl
          have hfz53_0 := blk_frozen BK263.out 0
          have hfz53_1 := blk_frozen BK263.out 1
          have hfz53_2 := blk_frozen BK263.out 2
          have hfz53_3 := blk_frozen BK263.out 3
          have hfz53_4 := blk_frozen BK263.out 4
          have hfz53_5 := blk_frozen BK263.out 5
          go_wp2
          go_ret
          exact ⟨by first | rfl | (simp [errW_none, errW_some] <;> rfl) | (simp [*, errW_none, errW_some] <;> rfl), by repeat (first | (with_reducible first | exact HB.out | apply below_alloc | apply pw_below_drewN | apply below_drew1 | refine below_set ?_ GE262.out | refine below_set ?_ GE263.out) | exact HB.out)⟩
       ·rw [if_neg c38] at H
        have c38b0 : (a0_2 == a1_2) = false := beq_eq_false_iff_ne.mpr c38
        have c38b1 : (a0_2 != a1_2) = true := bne_iff_ne.mpr c38
        obtain rfl := Option.some.inj H
        have hnb54 := NB262_263.out
        have hnc54 := NB263_262.out
        have hcz55_0 := z4_ BK262.out 0 (.int .i64 a0_0) rfl
        have hcz55_1 := z4_ BK262.out 1 (.bool a0_1) rfl
        have hcz55_2 := z4_ BK262.out 2 (.int .i64 a0_2) rfl
        have hcz55_3 := z4_ BK262.out 3 (.int .u64 a0_3) rfl
        have hcz55_4 := z4_ BK262.out 4 (.int .u64 a0_4) rfl
        have hcz55_5 := z4_ BK262.out 5 (.bool a0_5) rfl
        have hfz55_0 := blk_frozen BK262.out 0
        have hfz55_1 := blk_frozen BK262.out 1
        have hfz55_2 := blk_frozen BK262.out 2
        have hfz55_3 := blk_frozen BK262.out 3
        have hfz55_4 := blk_frozen BK262.out 4
        have hfz55_5 := blk_frozen BK262.out 5
        have hcz56_0 := z4_ BK263.out 0 (.int .i64 a1_0) rfl
        have hcz56_1 := z4_ BK263.out 1 (.bool a1_1) rfl
        have hcz56_2 := z4_ BK263.out 2 (.int .i64 a1_2) rfl
        have hcz56_3 := z4_ BK263.out 3 (.int .u64 a1_3) rfl
        have hcz56_4 := z4_ BK263.out 4 (.int .u64 a1_4) rfl
        have hcz56_5 := z4_ BK263.out 5 (.bool a1_5) rfl
        have hfz56_0 := blk_frozen BK263.out 0
        have hfz56_1 := blk_frozen BK263.out 1
        have hfz56_2 := blk_frozen BK263.out 2
        have hfz56_3 := blk_frozen BK263.out 3
        have hfz56_4 := blk_frozen BK263.out 4
        have hfz56_5 := blk_frozen BK263.out 5
        go_wp2
        go_ret
        exact ⟨by first | rfl | (simp [errW_none, errW_some] <;> rfl) | (simp [*, errW_none, errW_some] <;> rfl), by repeat (first | (with_reducible first | exact HB.out | apply below_alloc | apply pw_below_drewN | apply below_drew1 | refine below_set ?_ GE262.out | refine below_set ?_ GE263.out) | exact HB.out)⟩
end Go.Proofs.Ytfegofnplcmacaa.PAll
