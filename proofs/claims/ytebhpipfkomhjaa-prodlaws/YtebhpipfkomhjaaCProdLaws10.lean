-- Written by a program of this session out of its own texts (wip/tools/link.py).
import Derived.ArgAppend
import Derived.Below
import Derived.BigQuiet
import Derived.Deep.AppendLies
import Derived.Deep.CutBlock
import Derived.Deep.DeepCutAuto
import Derived.Deep.Draws
import Derived.Deep.LoopGhost
import Derived.Deep.OwnRows
import Derived.Deep.QuietTactic
import Derived.Deep.RegionHeld3
import Derived.KernelRfl
import Derived.LaidEql
import Derived.Laws.BitsLemmas
import Derived.Laws.BytesArg
import Derived.Laws.IdiomCopy
import Derived.Laws.MakeOwn
import Derived.Laws.OwnMore
import Derived.Laws.Rows
import Derived.Laws.Slices
import Derived.Laws.StructEq
import Derived.Lib.AppendStr
import Derived.Lib.BitFns
import Derived.Lib.ConvBytes
import Derived.Lib.Slices
import Derived.Lib.Small
import Derived.Lib.Strings
import Derived.Lib.Walk
import Derived.Maps.AppendAt
import Derived.OrdersHeld
import Derived.OwnWalk
import Derived.RowKit
import Derived.RowKit3
import Derived.Tactics
import Derived.Test.YtebhpipfkomhjaaProg
import Derived.WalkKit
import Derived.WideLaws
import Derived.Test.YtebhpipfkomhjaaCProdLaws8
import Derived.Test.YtebhpipfkomhjaaCProdLaws9
namespace Go.Proofs.Ytebhpipfkomhjaa.PAll
open Go.RowKit Go.Proofs.YtebhpipfkomhjaaW.PrintWords Go.Proofs.YtebhpipfkomhjaaW.PrintLast Go.Proofs.YtebhpipfkomhjaaW.PrintMore
attribute [local go_sem] max2_int min2_int max_two min_two max_three min_three max_four min_four
set_option linter.unusedVariables false
set_option linter.unusedSimpArgs false
mutual
def round_Cut.j0 : Nat → Int → Int → Bool → Int → Int → Int → Bool → Option (Int × Int × Option Int)
 | 0, _, _, _, _, _, _, _ => none
 | k + 1, x0, x224000, x224001, x224002, x224003, x224004, x224005 => (twin_Shl.f x224003 x224004 1).bind fun bt233 => ((round_under.f bt233.1 bt233.2.1 (IntKind.u64.wrap (Go.bits .and .i64 x224002 3)) 2 x224005).bind fun bt238 => (if (x224002 / 4) ≥ 0 then ((round_under.f bt238.1 bt238.2.1 0 1 bt238.2.2).bind fun bt241 => (round_Cut.l0 k x0 bt241.2.2 (wrap64 ((x224002 / 4) + 1)) 0 bt241.1 bt241.2.1)) else ((round_under.f bt238.1 bt238.2.1 1 1 bt238.2.2).bind fun bt247 => (round_Cut.l1 k x0 bt247.2.2 (wrap64 (-(x224002 / 4))) 0 bt247.1 bt247.2.1))))
def round_Cut.j3 : Nat → Int → Bool → Int → Int → Option (Int × Int × Option Int)
 | 0, _, _, _, _ => none
 | k + 1, x0, x12, x238000, x238001 => if 0 ≤ (wrap64 (65 - x0)) then ((twin_Shl.f x238000 x238001 (wrap64 (x0 - 1))).bind fun bt253 => (if bt253.2.1 = 0 then ((round_left.f k bt253.1 x12).bind fun t258 => (some (shr .u64 x238000 (wrap64 (65 - x0)), t258, none))) else ((round_left.f k bt253.1 true).bind fun t259 => (some (shr .u64 x238000 (wrap64 (65 - x0)), t259, none))))) else (none)
def round_Cut.l0 : Nat → Int → Bool → Int → Int → Int → Int → Option (Int × Int × Option Int)
 | 0, _, _, _, _, _, _ => none
 | k + 1, x0, x12, x114, x115, x238000, x238001 => if x115 < x114 then ((round_under.f x238000 x238001 1 1 x12).bind fun bt244 => (round_Cut.l0 k x0 bt244.2.2 x114 (wrap64 (x115 + 1)) bt244.1 bt244.2.1)) else (round_Cut.j3 k x0 x12 x238000 x238001)
def round_Cut.l1 : Nat → Int → Bool → Int → Int → Int → Int → Option (Int × Int × Option Int)
 | 0, _, _, _, _, _, _ => none
 | k + 1, x0, x12, x131, x132, x238000, x238001 => if x132 < x131 then ((round_under.f x238000 x238001 0 1 x12).bind fun bt250 => (round_Cut.l1 k x0 bt250.2.2 x131 (wrap64 (x132 + 1)) bt250.1 bt250.2.1)) else (round_Cut.j3 k x0 x12 x238000 x238001)
end
def round_Cut.f (k : Nat) (a0 : Int) (a1_0 : Int) (a1_1 : Bool) (a1_2 : Int) (a1_3 : Int) (a1_4 : Int) (a1_5 : Bool) : Option (Int × Int × Option Int) := (shape_Of.f a0).bind fun bt224 => (if bt224.2.2.2.2.2.isNone = true then ((round_sound.f k a1_0 a1_1 a1_2 a1_3 a1_4 a1_5).bind fun t232 => (if t232 = true then (if a1_0 = 0 then (some (0, 0, none)) else (if a1_0 = 2 then (some (bt224.2.2.2.1, 0, none)) else (if a1_2 ≥ bt224.2.2.2.2.1 then (some (bt224.2.1, 0, none)) else (if a1_2 < (wrap64 (-bt224.2.2.2.2.1)) then (some (bt224.2.2.1, 0, none)) else (if a1_2 = (wrap64 (-bt224.2.2.2.2.1)) then (if a1_3 = 9223372036854775808 then (if a1_4 = 0 then (if a1_5 = true then (round_Cut.j0 k a0 a1_0 a1_1 a1_2 a1_3 a1_4 a1_5) else (some (bt224.2.2.1, 0, none))) else (round_Cut.j0 k a0 a1_0 a1_1 a1_2 a1_3 a1_4 a1_5)) else (round_Cut.j0 k a0 a1_0 a1_1 a1_2 a1_3 a1_4 a1_5)) else (round_Cut.j0 k a0 a1_0 a1_1 a1_2 a1_3 a1_4 a1_5)))))) else (some (0, 0, some 1)))) else (some (0, 0, some (bt224.2.2.2.2.2.getD 0))))
theorem round_Cut.mono_l : ∀ k, (∀ y0 y1 y2 y3 y4 y5 y6, LeO (round_Cut.j0 k y0 y1 y2 y3 y4 y5 y6) (round_Cut.j0 (k + 1) y0 y1 y2 y3 y4 y5 y6)) ∧ (∀ y0 y1 y2 y3, LeO (round_Cut.j3 k y0 y1 y2 y3) (round_Cut.j3 (k + 1) y0 y1 y2 y3)) ∧ (∀ y0 y1 y2 y3 y4 y5, LeO (round_Cut.l0 k y0 y1 y2 y3 y4 y5) (round_Cut.l0 (k + 1) y0 y1 y2 y3 y4 y5)) ∧ (∀ y0 y1 y2 y3 y4 y5, LeO (round_Cut.l1 k y0 y1 y2 y3 y4 y5) (round_Cut.l1 (k + 1) y0 y1 y2 y3 y4 y5))
 | 0 => ⟨fun _ _ _ _ _ _ _ r h => by simp [round_Cut.j0] at h, fun _ _ _ _ r h => by simp [round_Cut.j3] at h, fun _ _ _ _ _ _ r h => by simp [round_Cut.l0] at h, fun _ _ _ _ _ _ r h => by simp [round_Cut.l1] at h⟩
 | k + 1 => by
  obtain ⟨ih0, ih1, ih2, ih3⟩ := round_Cut.mono_l k
  refine ⟨?_, ?_, ?_, ?_⟩
  ·intro y0 y1 y2 y3 y4 y5 y6
   unfold round_Cut.j0
   repeat' first
   | (with_reducible exact ih0 _ _ _ _ _ _ _)
   | (with_reducible exact ih1 _ _ _ _)
   | (with_reducible exact ih2 _ _ _ _ _ _)
   | (with_reducible exact ih3 _ _ _ _ _ _)
   | (with_reducible exact round_left.mono _ _ _)
   | (with_reducible exact round_sound.mono _ _ _ _ _ _ _)
   | (with_reducible exact LeO.refl _)
   | (with_reducible exact LeO.none _)
   | (with_reducible refine LeO.ite ?_ ?_)
   | (with_reducible refine LeO.bind ?_ (fun _ => ?_))
   | exact ih0 _ _ _ _ _ _ _
   | exact ih1 _ _ _ _
   | exact ih2 _ _ _ _ _ _
   | exact ih3 _ _ _ _ _ _
   | exact round_left.mono _ _ _
   | exact round_sound.mono _ _ _ _ _ _ _
   | exact LeO.none _
   | refine LeO.ite ?_ ?_
   | refine LeO.bind ?_ (fun _ => ?_)
  ·intro y0 y1 y2 y3
   unfold round_Cut.j3
   repeat' first
   | (with_reducible exact ih0 _ _ _ _ _ _ _)
   | (with_reducible exact ih1 _ _ _ _)
   | (with_reducible exact ih2 _ _ _ _ _ _)
   | (with_reducible exact ih3 _ _ _ _ _ _)
   | (with_reducible exact round_left.mono _ _ _)
   | (with_reducible exact round_sound.mono _ _ _ _ _ _ _)
   | (with_reducible exact LeO.refl _)
   | (with_reducible exact LeO.none _)
   | (with_reducible refine LeO.ite ?_ ?_)
   | (with_reducible refine LeO.bind ?_ (fun _ => ?_))
   | exact ih0 _ _ _ _ _ _ _
   | exact ih1 _ _ _ _
   | exact ih2 _ _ _ _ _ _
   | exact ih3 _ _ _ _ _ _
   | exact round_left.mono _ _ _
   | exact round_sound.mono _ _ _ _ _ _ _
   | exact LeO.none _
   | refine LeO.ite ?_ ?_
   | refine LeO.bind ?_ (fun _ => ?_)
  ·intro y0 y1 y2 y3 y4 y5
   unfold round_Cut.l0
   repeat' first
   | (with_reducible exact ih0 _ _ _ _ _ _ _)
   | (with_reducible exact ih1 _ _ _ _)
   | (with_reducible exact ih2 _ _ _ _ _ _)
   | (with_reducible exact ih3 _ _ _ _ _ _)
   | (with_reducible exact round_left.mono _ _ _)
   | (with_reducible exact round_sound.mono _ _ _ _ _ _ _)
   | (with_reducible exact LeO.refl _)
   | (with_reducible exact LeO.none _)
   | (with_reducible refine LeO.ite ?_ ?_)
   | (with_reducible refine LeO.bind ?_ (fun _ => ?_))
   | exact ih0 _ _ _ _ _ _ _
   | exact ih1 _ _ _ _
   | exact ih2 _ _ _ _ _ _
   | exact ih3 _ _ _ _ _ _
   | exact round_left.mono _ _ _
   | exact round_sound.mono _ _ _ _ _ _ _
   | exact LeO.none _
   | refine LeO.ite ?_ ?_
   | refine LeO.bind ?_ (fun _ => ?_)
  ·intro y0 y1 y2 y3 y4 y5
   unfold round_Cut.l1
   repeat' first
   | (with_reducible exact ih0 _ _ _ _ _ _ _)
   | (with_reducible exact ih1 _ _ _ _)
   | (with_reducible exact ih2 _ _ _ _ _ _)
   | (with_reducible exact ih3 _ _ _ _ _ _)
   | (with_reducible exact round_left.mono _ _ _)
   | (with_reducible exact round_sound.mono _ _ _ _ _ _ _)
   | (with_reducible exact LeO.refl _)
   | (with_reducible exact LeO.none _)
   | (with_reducible refine LeO.ite ?_ ?_)
   | (with_reducible refine LeO.bind ?_ (fun _ => ?_))
   | exact ih0 _ _ _ _ _ _ _
   | exact ih1 _ _ _ _
   | exact ih2 _ _ _ _ _ _
   | exact ih3 _ _ _ _ _ _
   | exact round_left.mono _ _ _
   | exact round_sound.mono _ _ _ _ _ _ _
   | exact LeO.none _
   | refine LeO.ite ?_ ?_
   | refine LeO.bind ?_ (fun _ => ?_)
theorem round_Cut.mono : ∀ a0 a1 a2 a3 a4 a5 a6 k, LeO (round_Cut.f k a0 a1 a2 a3 a4 a5 a6) (round_Cut.f (k + 1) a0 a1 a2 a3 a4 a5 a6) := by
 intro a0 a1 a2 a3 a4 a5 a6 k
 obtain ⟨ih0, ih1, ih2, ih3⟩ := round_Cut.mono_l k
 unfold round_Cut.f
 repeat' first
   | (with_reducible exact ih0 _ _ _ _ _ _ _)
   | (with_reducible exact ih1 _ _ _ _)
   | (with_reducible exact ih2 _ _ _ _ _ _)
   | (with_reducible exact ih3 _ _ _ _ _ _)
   | (with_reducible exact round_left.mono _ _ _)
   | (with_reducible exact round_sound.mono _ _ _ _ _ _ _)
   | (with_reducible exact LeO.refl _)
   | (with_reducible exact LeO.none _)
   | (with_reducible refine LeO.ite ?_ ?_)
   | (with_reducible refine LeO.bind ?_ (fun _ => ?_))
   | exact ih0 _ _ _ _ _ _ _
   | exact ih1 _ _ _ _
   | exact ih2 _ _ _ _ _ _
   | exact ih3 _ _ _ _ _ _
   | exact round_left.mono _ _ _
   | exact round_sound.mono _ _ _ _ _ _ _
   | exact LeO.none _
   | refine LeO.ite ?_ ?_
   | refine LeO.bind ?_ (fun _ => ?_)
set_option maxHeartbeats 8000000 in
set_option maxRecDepth 100000 in
theorem round_Cut.calls (k : Nat) (a0 : Int) (a1_0 : Int) (a1_1 : Bool) (a1_2 : Int) (a1_3 : Int) (a1_4 : Int) (a1_5 : Bool) (r1 : Int) (r2 : Int) (r3 : Option Int) (w : World) (h : round_Cut.f k a0 a1_0 a1_1 a1_2 a1_3 a1_4 a1_5 = some (r1, r2, r3)) :
  Calls Try.prog 49 #[.int .i64 a0, .agg #[.int .i64 a1_0, .bool a1_1, .int .i64 a1_2, .int .u64 a1_3, .int .u64 a1_4, .bool a1_5]] w fun e w' => e = .returned (.tuple #[.int .u64 r1, .int .i64 r2, errW r3]) ∧ Below w.heap.size w w' := by
 have hu27 := Try.underlying27
 have hu98 := Try.underlying98
 have hu54 := Try.underlying54
 have hu29 := Try.underlying29
 have hu42 := Try.underlying42
 have HB := Aside0.mk (Below.refl w.heap.size w)
 have H : ((shape_Of.f a0).bind fun bt224 => (if bt224.2.2.2.2.2.isNone = true then ((round_sound.f k a1_0 a1_1 a1_2 a1_3 a1_4 a1_5).bind fun t232 => (if t232 = true then (if a1_0 = 0 then (some (0, 0, none)) else (if a1_0 = 2 then (some (bt224.2.2.2.1, 0, none)) else (if a1_2 ≥ bt224.2.2.2.2.1 then (some (bt224.2.1, 0, none)) else (if a1_2 < (wrap64 (-bt224.2.2.2.2.1)) then (some (bt224.2.2.1, 0, none)) else (if a1_2 = (wrap64 (-bt224.2.2.2.2.1)) then (if a1_3 = 9223372036854775808 then (if a1_4 = 0 then (if a1_5 = true then (round_Cut.j0 k a0 a1_0 a1_1 a1_2 a1_3 a1_4 a1_5) else (some (bt224.2.2.1, 0, none))) else (round_Cut.j0 k a0 a1_0 a1_1 a1_2 a1_3 a1_4 a1_5)) else (round_Cut.j0 k a0 a1_0 a1_1 a1_2 a1_3 a1_4 a1_5)) else (round_Cut.j0 k a0 a1_0 a1_1 a1_2 a1_3 a1_4 a1_5)))))) else (some (0, 0, some 1)))) else (some (0, 0, some (bt224.2.2.2.2.2.getD 0))))) = some (r1, r2, r3) := h
 clear h
 replace H := Option.bind_eq_some_iff.mp H
 obtain ⟨⟨t224, t225, t226, t227, t228, t229⟩, A30, H⟩ := H
 replace H : (if t229.isNone = true then ((round_sound.f k a1_0 a1_1 a1_2 a1_3 a1_4 a1_5).bind fun t232 => (if t232 = true then (if a1_0 = 0 then (some (0, 0, none)) else (if a1_0 = 2 then (some (t227, 0, none)) else (if a1_2 ≥ t228 then (some (t225, 0, none)) else (if a1_2 < (wrap64 (-t228)) then (some (t226, 0, none)) else (if a1_2 = (wrap64 (-t228)) then (if a1_3 = 9223372036854775808 then (if a1_4 = 0 then (if a1_5 = true then (round_Cut.j0 k a0 a1_0 a1_1 a1_2 a1_3 a1_4 a1_5) else (some (t226, 0, none))) else (round_Cut.j0 k a0 a1_0 a1_1 a1_2 a1_3 a1_4 a1_5)) else (round_Cut.j0 k a0 a1_0 a1_1 a1_2 a1_3 a1_4 a1_5)) else (round_Cut.j0 k a0 a1_0 a1_1 a1_2 a1_3 a1_4 a1_5)))))) else (some (0, 0, some 1)))) else (some (0, 0, some (t229.getD 0)))) = some (r1, r2, r3) := H
 have A3 := Aside0.mk A30
 clear A30
 have HC4 := Aside0.mk H
 clear H
 go_enter Try.func49, Try.ntmps49
 go_upto_block 0 with (first | ((with_reducible refine gate_dst (N := 3) rfl ?_); refine box_event ?hg (N := 3) ?hd (cs := #[.int .i64 a1_0, .bool a1_1, .int .i64 a1_2, .int .u64 a1_3, .int .u64 a1_4, .bool a1_5]) (t := 27) ?hr ?_; (case hd => rfl); (case hg => rfl); (case hr => first | (go_simp; done) | (go_simp; rfl)); intro gb223 hg w5 hbox hb; have n0_ := Aside0.mk (below_step (z3_ HB.out) hb); have n1_ := Aside0.mk (hbox); have n2_ := Aside0.mk ((by rw [hg]; exact (below_size (z3_ HB.out)) : w.heap.size ≤ gb223)); have n3_ := Aside0.mk ((by rw [hg]; exact (below_size (z3_ HB.out)) : w.heap.size ≤ gb223)); clear HB; have HB := n0_; have BK223 := n1_; have GW223 := n2_; have GE223 := n3_; clear n0_ n1_ n2_ n3_; clear hb hbox hg) | ((with_reducible refine gate_callee (f := 56) rfl ?_); refine goesL_ (some 20) rfl rfl Try.func56 (by kernel_rfl) rfl #[.int .i64 a0] rfl z5_ ?_; (with_reducible refine (shape_Of.calls a0 t224 t225 t226 t227 t228 t229 _ A3.out).mono ?_); rintro e w6 ⟨rfl, hb⟩; refine ⟨_, rfl, ?_⟩; have n0_ := Aside0.mk (blk_below (g := gb223) (z1_ BK223.out) hb); have n1_ := Aside0.mk (below_step (z3_ HB.out) hb); clear BK223; clear HB; have BK223 := n0_; have HB := n1_; clear n0_ n1_; (try clear hb); (try clear hb2); (try clear hk); (try clear hi); (try simp only [errW_none, errW_some])) | ((with_reducible refine gate_dst (N := 7) rfl ?_); refine box_event ?hg (N := 7) ?hd (cs := #[.int .i64 0, .int .u64 0, .int .u64 0, .int .u64 0, .int .i64 0]) (t := 98) ?hr ?_; (case hd => rfl); (case hg => rfl); (case hr => first | (go_simp; done) | (go_simp; rfl)); intro gb230 hg w7 hbox hb; have n0_ := Aside0.mk (blk_below (g := gb223) (z1_ BK223.out) hb); have n1_ := Aside0.mk (below_step (z3_ HB.out) hb); have n2_ := Aside0.mk (hbox); have n3_ := Aside0.mk ((by rw [hg]; exact (below_size (z3_ HB.out)) : w.heap.size ≤ gb230)); have n4_ := Aside0.mk ((by rw [hg]; exact (below_size (z3_ HB.out)) : w.heap.size ≤ gb230)); have n5_ := Aside0.mk ((by rw [hg]; exact Nat.ne_of_lt (blk_lt (g := gb223) (o := .cells #[.int .i64 a1_0, .bool a1_1, .int .i64 a1_2, .int .u64 a1_3, .int .u64 a1_4, .bool a1_5] 27 (0, 0)) (z1_ BK223.out)) : gb223 ≠ gb230)); have n6_ := Aside0.mk ((by rw [hg]; exact Nat.ne_of_gt (blk_lt (g := gb223) (o := .cells #[.int .i64 a1_0, .bool a1_1, .int .i64 a1_2, .int .u64 a1_3, .int .u64 a1_4, .bool a1_5] 27 (0, 0)) (z1_ BK223.out)) : gb230 ≠ gb223)); clear BK223; clear HB; have BK223 := n0_; have HB := n1_; have BK230 := n2_; have GW230 := n3_; have GE230 := n4_; have NB223_230 := n5_; have NB230_223 := n6_; clear n0_ n1_ n2_ n3_ n4_ n5_ n6_; clear hb hbox hg; have hnb8 := NB230_223.out; have hnc8 := NB223_230.out; have hcz9_0 := z4_ BK230.out 0 (.int .i64 0) rfl; have hcz9_1 := z4_ BK230.out 1 (.int .u64 0) rfl; have hcz9_2 := z4_ BK230.out 2 (.int .u64 0) rfl; have hcz9_3 := z4_ BK230.out 3 (.int .u64 0) rfl; have hcz9_4 := z4_ BK230.out 4 (.int .i64 0) rfl; have hfz9_0 := blk_frozen BK230.out 0; have hfz9_1 := blk_frozen BK230.out 1; have hfz9_2 := blk_frozen BK230.out 2; have hfz9_3 := blk_frozen BK230.out 3; have hfz9_4 := blk_frozen BK230.out 4))
 (try simp only [Act.put, List.setIfInBounds_toArray, List.set_cons_zero, List.set_cons_succ])
 go_cut [] (fun wc => ∃ (kq : Nat), Aside0 (round_Cut.j0 kq a0 a1_0 a1_1 a1_2 a1_3 a1_4 a1_5 = some (r1, r2, r3)) ∧ Aside0 (kq ≤ k) ∧ Aside0 (wc.heap[gb223]? = some (.cells #[.int .i64 a1_0, .bool a1_1, .int .i64 a1_2, .int .u64 a1_3, .int .u64 a1_4, .bool a1_5] 27 (0, 0))) ∧ Aside0 (wc.heap[gb230]? = some (.cells #[.int .i64 t224, .int .u64 t225, .int .u64 t226, .int .u64 t227, .int .i64 t228] 98 (0, 0))) ∧ Aside0 (Below w.heap.size w wc))
 case first =>
  have H := HC4.out
  clear HC4
  rcases t229 with _ | q231
  ·have H1 : ((round_sound.f k a1_0 a1_1 a1_2 a1_3 a1_4 a1_5).bind fun t232 => (if t232 = true then (if a1_0 = 0 then (some (0, 0, none)) else (if a1_0 = 2 then (some (t227, 0, none)) else (if a1_2 ≥ t228 then (some (t225, 0, none)) else (if a1_2 < (wrap64 (-t228)) then (some (t226, 0, none)) else (if a1_2 = (wrap64 (-t228)) then (if a1_3 = 9223372036854775808 then (if a1_4 = 0 then (if a1_5 = true then (round_Cut.j0 k a0 a1_0 a1_1 a1_2 a1_3 a1_4 a1_5) else (some (t226, 0, none))) else (round_Cut.j0 k a0 a1_0 a1_1 a1_2 a1_3 a1_4 a1_5)) else (round_Cut.j0 k a0 a1_0 a1_1 a1_2 a1_3 a1_4 a1_5)) else (round_Cut.j0 k a0 a1_0 a1_1 a1_2 a1_3 a1_4 a1_5)))))) else (some (0, 0, some 1)))) = some (r1, r2, r3) := by rw [if_pos (show (none : Option Int).isNone = true by rfl)] at H; exact H
   clear H
   have H := H1
   clear H1
   try simp only [errW_none, errW_some]
   replace H := Option.bind_eq_some_iff.mp H
   obtain ⟨t232, A100, H⟩ := H
   replace H : (if t232 = true then (if a1_0 = 0 then (some (0, 0, none)) else (if a1_0 = 2 then (some (t227, 0, none)) else (if a1_2 ≥ t228 then (some (t225, 0, none)) else (if a1_2 < (wrap64 (-t228)) then (some (t226, 0, none)) else (if a1_2 = (wrap64 (-t228)) then (if a1_3 = 9223372036854775808 then (if a1_4 = 0 then (if a1_5 = true then (round_Cut.j0 k a0 a1_0 a1_1 a1_2 a1_3 a1_4 a1_5) else (some (t226, 0, none))) else (round_Cut.j0 k a0 a1_0 a1_1 a1_2 a1_3 a1_4 a1_5)) else (round_Cut.j0 k a0 a1_0 a1_1 a1_2 a1_3 a1_4 a1_5)) else (round_Cut.j0 k a0 a1_0 a1_1 a1_2 a1_3 a1_4 a1_5)))))) else (some (0, 0, some 1))) = some (r1, r2, r3) := H
   have A10 := Aside0.mk A100
   clear A100
   by_cases c11 : t232 = true
   ·subst c11
    have H1 : (if a1_0 = 0 then (some (0, 0, none)) else (if a1_0 = 2 then (some (t227, 0, none)) else (if a1_2 ≥ t228 then (some (t225, 0, none)) else (if a1_2 < (wrap64 (-t228)) then (some (t226, 0, none)) else (if a1_2 = (wrap64 (-t228)) then (if a1_3 = 9223372036854775808 then (if a1_4 = 0 then (if a1_5 = true then (round_Cut.j0 k a0 a1_0 a1_1 a1_2 a1_3 a1_4 a1_5) else (some (t226, 0, none))) else (round_Cut.j0 k a0 a1_0 a1_1 a1_2 a1_3 a1_4 a1_5)) else (round_Cut.j0 k a0 a1_0 a1_1 a1_2 a1_3 a1_4 a1_5)) else (round_Cut.j0 k a0 a1_0 a1_1 a1_2 a1_3 a1_4 a1_5)))))) = some (r1, r2, r3) := by rw [if_pos rfl] at H; exact H
    clear H
    have H := H1
    clear H1
    by_cases c12 : a1_0 = 0
    ·rw [if_pos c12] at H
     have c12b0 : (a1_0 == 0) = true := beq_iff_eq.mpr c12
     have c12b1 : (a1_0 != 0) = false := bne_eq_false_iff_eq.mpr c12
     clear c12
     (first | rw [c12b0] | (simp only [i64_w, i32_w]; rw [c12b0]) | skip)
     simp only [Option.some.injEq, Prod.mk.injEq] at H
     obtain ⟨rfl, rfl, rfl⟩ := H
     have hnb13 := NB223_230.out
     have hnc13 := NB230_223.out
     have hcz14_0 := z4_ BK223.out 0 (.int .i64 a1_0) rfl
     have hcz14_1 := z4_ BK223.out 1 (.bool a1_1) rfl
     have hcz14_2 := z4_ BK223.out 2 (.int .i64 a1_2) rfl
     have hcz14_3 := z4_ BK223.out 3 (.int .u64 a1_3) rfl
     have hcz14_4 := z4_ BK223.out 4 (.int .u64 a1_4) rfl
     have hcz14_5 := z4_ BK223.out 5 (.bool a1_5) rfl
     have hfz14_0 := blk_frozen BK223.out 0
     have hfz14_1 := blk_frozen BK223.out 1
     have hfz14_2 := blk_frozen BK223.out 2
     have hfz14_3 := blk_frozen BK223.out 3
     have hfz14_4 := blk_frozen BK223.out 4
     have hfz14_5 := blk_frozen BK223.out 5
     go_wp2_with (first | ((with_reducible refine gate_callee (f := 36) rfl ?_); refine goesL_ (some 29) rfl rfl Try.func36 (by kernel_rfl) rfl #[.agg #[.int .i64 a1_0, .bool a1_1, .int .i64 a1_2, .int .u64 a1_3, .int .u64 a1_4, .bool a1_5]] rfl z5_ ?_; (with_reducible refine (round_sound.calls k a1_0 a1_1 a1_2 a1_3 a1_4 a1_5 true _ A10.out).mono ?_); rintro e w15 ⟨rfl, hb⟩; refine ⟨_, rfl, ?_⟩; have n0_ := Aside0.mk (blk_below (g := gb223) (o := .cells #[.int .i64 a1_0, .bool a1_1, .int .i64 a1_2, .int .u64 a1_3, .int .u64 a1_4, .bool a1_5] 27 (0, 0)) (by refine z2_ ?_; refine blk_far ?_ NB223_230.out _; refine z2_ ?_; refine blk_far ?_ NB223_230.out _; refine z2_ ?_; refine blk_far ?_ NB223_230.out _; refine z2_ ?_; refine blk_far ?_ NB223_230.out _; refine z2_ ?_; refine blk_far ?_ NB223_230.out _; refine z2_ ?_; exact BK223.out) hb); have n1_ := Aside0.mk (blk_below (g := gb230) (o := .cells #[.int .i64 t224, .int .u64 t225, .int .u64 t226, .int .u64 t227, .int .i64 t228] 98 (0, 0)) (by refine z2_ ?_; refine blk_put (cs := #[.int .i64 t224, .int .u64 t225, .int .u64 t226, .int .u64 t227, .int .i64 0]) ?_ 4 _ rfl; refine z2_ ?_; refine blk_put (cs := #[.int .i64 t224, .int .u64 t225, .int .u64 t226, .int .u64 0, .int .i64 0]) ?_ 3 _ rfl; refine z2_ ?_; refine blk_put (cs := #[.int .i64 t224, .int .u64 t225, .int .u64 0, .int .u64 0, .int .i64 0]) ?_ 2 _ rfl; refine z2_ ?_; refine blk_put (cs := #[.int .i64 t224, .int .u64 0, .int .u64 0, .int .u64 0, .int .i64 0]) ?_ 1 _ rfl; refine z2_ ?_; refine blk_put (cs := #[.int .i64 0, .int .u64 0, .int .u64 0, .int .u64 0, .int .i64 0]) ?_ 0 _ rfl; refine z2_ ?_; exact BK230.out) hb); have n2_ := Aside0.mk (below_step (z3_ HB.out) hb); clear BK223; clear BK230; clear HB; have BK223 := n0_; have BK230 := n1_; have HB := n2_; clear n0_ n1_ n2_; (try clear hb); (try clear hb2); (try clear hk); (try clear hi); have hcz16_0 := z4_ BK223.out 0 (.int .i64 a1_0) rfl; have hcz16_1 := z4_ BK223.out 1 (.bool a1_1) rfl; have hcz16_2 := z4_ BK223.out 2 (.int .i64 a1_2) rfl; have hcz16_3 := z4_ BK223.out 3 (.int .u64 a1_3) rfl; have hcz16_4 := z4_ BK223.out 4 (.int .u64 a1_4) rfl; have hcz16_5 := z4_ BK223.out 5 (.bool a1_5) rfl; have hfz16_0 := blk_frozen BK223.out 0; have hfz16_1 := blk_frozen BK223.out 1; have hfz16_2 := blk_frozen BK223.out 2; have hfz16_3 := blk_frozen BK223.out 3; have hfz16_4 := blk_frozen BK223.out 4; have hfz16_5 := blk_frozen BK223.out 5))
     go_ret3
     exact ⟨by first | rfl | (simp [errW_none, errW_some] <;> rfl) | (simp [*, errW_none, errW_some] <;> rfl), by repeat (first | (with_reducible first | exact HB.out | apply below_alloc | apply pw_below_drewN | apply below_drew1 | refine below_set ?_ GE223.out | refine below_set ?_ GE230.out) | exact HB.out)⟩
    ·rw [if_neg c12] at H
     have c12b0 : (a1_0 == 0) = false := beq_eq_false_iff_ne.mpr c12
     have c12b1 : (a1_0 != 0) = true := bne_iff_ne.mpr c12
     (first | rw [c12b0] | (simp only [i64_w, i32_w]; rw [c12b0]) | skip)
     by_cases c17 : a1_0 = 2
     ·rw [if_pos c17] at H
      have c17b0 : (a1_0 == 2) = true := beq_iff_eq.mpr c17
      have c17b1 : (a1_0 != 2) = false := bne_eq_false_iff_eq.mpr c17
      clear c17
      simp only [Option.some.injEq, Prod.mk.injEq] at H
      obtain ⟨rfl, rfl, rfl⟩ := H
      have hnb18 := NB223_230.out
      have hnc18 := NB230_223.out
      have hcz19_0 := z4_ BK223.out 0 (.int .i64 a1_0) rfl
      have hcz19_1 := z4_ BK223.out 1 (.bool a1_1) rfl
      have hcz19_2 := z4_ BK223.out 2 (.int .i64 a1_2) rfl
      have hcz19_3 := z4_ BK223.out 3 (.int .u64 a1_3) rfl
      have hcz19_4 := z4_ BK223.out 4 (.int .u64 a1_4) rfl
      have hcz19_5 := z4_ BK223.out 5 (.bool a1_5) rfl
      have hfz19_0 := blk_frozen BK223.out 0
      have hfz19_1 := blk_frozen BK223.out 1
      have hfz19_2 := blk_frozen BK223.out 2
      have hfz19_3 := blk_frozen BK223.out 3
      have hfz19_4 := blk_frozen BK223.out 4
      have hfz19_5 := blk_frozen BK223.out 5
      go_wp2_with (first | ((with_reducible refine gate_callee (f := 36) rfl ?_); refine goesL_ (some 29) rfl rfl Try.func36 (by kernel_rfl) rfl #[.agg #[.int .i64 a1_0, .bool a1_1, .int .i64 a1_2, .int .u64 a1_3, .int .u64 a1_4, .bool a1_5]] rfl z5_ ?_; (with_reducible refine (round_sound.calls k a1_0 a1_1 a1_2 a1_3 a1_4 a1_5 true _ A10.out).mono ?_); rintro e w20 ⟨rfl, hb⟩; refine ⟨_, rfl, ?_⟩; have n0_ := Aside0.mk (blk_below (g := gb223) (o := .cells #[.int .i64 a1_0, .bool a1_1, .int .i64 a1_2, .int .u64 a1_3, .int .u64 a1_4, .bool a1_5] 27 (0, 0)) (by refine z2_ ?_; refine blk_far ?_ NB223_230.out _; refine z2_ ?_; refine blk_far ?_ NB223_230.out _; refine z2_ ?_; refine blk_far ?_ NB223_230.out _; refine z2_ ?_; refine blk_far ?_ NB223_230.out _; refine z2_ ?_; refine blk_far ?_ NB223_230.out _; refine z2_ ?_; exact BK223.out) hb); have n1_ := Aside0.mk (blk_below (g := gb230) (o := .cells #[.int .i64 t224, .int .u64 t225, .int .u64 t226, .int .u64 t227, .int .i64 t228] 98 (0, 0)) (by refine z2_ ?_; refine blk_put (cs := #[.int .i64 t224, .int .u64 t225, .int .u64 t226, .int .u64 t227, .int .i64 0]) ?_ 4 _ rfl; refine z2_ ?_; refine blk_put (cs := #[.int .i64 t224, .int .u64 t225, .int .u64 t226, .int .u64 0, .int .i64 0]) ?_ 3 _ rfl; refine z2_ ?_; refine blk_put (cs := #[.int .i64 t224, .int .u64 t225, .int .u64 0, .int .u64 0, .int .i64 0]) ?_ 2 _ rfl; refine z2_ ?_; refine blk_put (cs := #[.int .i64 t224, .int .u64 0, .int .u64 0, .int .u64 0, .int .i64 0]) ?_ 1 _ rfl; refine z2_ ?_; refine blk_put (cs := #[.int .i64 0, .int .u64 0, .int .u64 0, .int .u64 0, .int .i64 0]) ?_ 0 _ rfl; refine z2_ ?_; exact BK230.out) hb); have n2_ := Aside0.mk (below_step (z3_ HB.out) hb); clear BK223; clear BK230; clear HB; have BK223 := n0_; have BK230 := n1_; have HB := n2_; clear n0_ n1_ n2_; (try clear hb); (try clear hb2); (try clear hk); (try clear hi); have hcz21_0 := z4_ BK223.out 0 (.int .i64 a1_0) rfl; have hcz21_1 := z4_ BK223.out 1 (.bool a1_1) rfl; have hcz21_2 := z4_ BK223.out 2 (.int .i64 a1_2) rfl; have hcz21_3 := z4_ BK223.out 3 (.int .u64 a1_3) rfl; have hcz21_4 := z4_ BK223.out 4 (.int .u64 a1_4) rfl; have hcz21_5 := z4_ BK223.out 5 (.bool a1_5) rfl; have hfz21_0 := blk_frozen BK223.out 0; have hfz21_1 := blk_frozen BK223.out 1; have hfz21_2 := blk_frozen BK223.out 2; have hfz21_3 := blk_frozen BK223.out 3; have hfz21_4 := blk_frozen BK223.out 4; have hfz21_5 := blk_frozen BK223.out 5; have hcz22_0 := z4_ BK230.out 0 (.int .i64 t224) rfl; have hcz22_1 := z4_ BK230.out 1 (.int .u64 t225) rfl; have hcz22_2 := z4_ BK230.out 2 (.int .u64 t226) rfl; have hcz22_3 := z4_ BK230.out 3 (.int .u64 t227) rfl; have hcz22_4 := z4_ BK230.out 4 (.int .i64 t228) rfl; have hfz22_0 := blk_frozen BK230.out 0; have hfz22_1 := blk_frozen BK230.out 1; have hfz22_2 := blk_frozen BK230.out 2; have hfz22_3 := blk_frozen BK230.out 3; have hfz22_4 := blk_frozen BK230.out 4))
      go_ret3
      exact ⟨by first | rfl | (simp [errW_none, errW_some] <;> rfl) | (simp [*, errW_none, errW_some] <;> rfl), by repeat (first | (with_reducible first | exact HB.out | apply below_alloc | apply pw_below_drewN | apply below_drew1 | refine below_set ?_ GE223.out | refine below_set ?_ GE230.out) | exact HB.out)⟩
     ·rw [if_neg c17] at H
      have c17b0 : (a1_0 == 2) = false := beq_eq_false_iff_ne.mpr c17
      have c17b1 : (a1_0 != 2) = true := bne_iff_ne.mpr c17
      by_cases c23 : a1_2 ≥ t228
      ·rw [if_pos c23] at H
       have c23b0 : decide (t228 ≤ a1_2) = true := decide_eq_true c23
       clear c23
       simp only [Option.some.injEq, Prod.mk.injEq] at H
       obtain ⟨rfl, rfl, rfl⟩ := H
       have hnb24 := NB223_230.out
       have hnc24 := NB230_223.out
       have hcz25_0 := z4_ BK223.out 0 (.int .i64 a1_0) rfl
       have hcz25_1 := z4_ BK223.out 1 (.bool a1_1) rfl
       have hcz25_2 := z4_ BK223.out 2 (.int .i64 a1_2) rfl
       have hcz25_3 := z4_ BK223.out 3 (.int .u64 a1_3) rfl
       have hcz25_4 := z4_ BK223.out 4 (.int .u64 a1_4) rfl
       have hcz25_5 := z4_ BK223.out 5 (.bool a1_5) rfl
       have hfz25_0 := blk_frozen BK223.out 0
       have hfz25_1 := blk_frozen BK223.out 1
       have hfz25_2 := blk_frozen BK223.out 2
       have hfz25_3 := blk_frozen BK223.out 3
       have hfz25_4 := blk_frozen BK223.out 4
       have hfz25_5 := blk_frozen BK223.out 5
       go_wp2_with (first | ((with_reducible refine gate_callee (f := 36) rfl ?_); refine goesL_ (some 29) rfl rfl Try.func36 (by kernel_rfl) rfl #[.agg #[.int .i64 a1_0, .bool a1_1, .int .i64 a1_2, .int .u64 a1_3, .int .u64 a1_4, .bool a1_5]] rfl z5_ ?_; (with_reducible refine (round_sound.calls k a1_0 a1_1 a1_2 a1_3 a1_4 a1_5 true _ A10.out).mono ?_); rintro e w26 ⟨rfl, hb⟩; refine ⟨_, rfl, ?_⟩; have n0_ := Aside0.mk (blk_below (g := gb223) (o := .cells #[.int .i64 a1_0, .bool a1_1, .int .i64 a1_2, .int .u64 a1_3, .int .u64 a1_4, .bool a1_5] 27 (0, 0)) (by refine z2_ ?_; refine blk_far ?_ NB223_230.out _; refine z2_ ?_; refine blk_far ?_ NB223_230.out _; refine z2_ ?_; refine blk_far ?_ NB223_230.out _; refine z2_ ?_; refine blk_far ?_ NB223_230.out _; refine z2_ ?_; refine blk_far ?_ NB223_230.out _; refine z2_ ?_; exact BK223.out) hb); have n1_ := Aside0.mk (blk_below (g := gb230) (o := .cells #[.int .i64 t224, .int .u64 t225, .int .u64 t226, .int .u64 t227, .int .i64 t228] 98 (0, 0)) (by refine z2_ ?_; refine blk_put (cs := #[.int .i64 t224, .int .u64 t225, .int .u64 t226, .int .u64 t227, .int .i64 0]) ?_ 4 _ rfl; refine z2_ ?_; refine blk_put (cs := #[.int .i64 t224, .int .u64 t225, .int .u64 t226, .int .u64 0, .int .i64 0]) ?_ 3 _ rfl; refine z2_ ?_; refine blk_put (cs := #[.int .i64 t224, .int .u64 t225, .int .u64 0, .int .u64 0, .int .i64 0]) ?_ 2 _ rfl; refine z2_ ?_; refine blk_put (cs := #[.int .i64 t224, .int .u64 0, .int .u64 0, .int .u64 0, .int .i64 0]) ?_ 1 _ rfl; refine z2_ ?_; refine blk_put (cs := #[.int .i64 0, .int .u64 0, .int .u64 0, .int .u64 0, .int .i64 0]) ?_ 0 _ rfl; refine z2_ ?_; exact BK230.out) hb); have n2_ := Aside0.mk (below_step (z3_ HB.out) hb); clear BK223; clear BK230; clear HB; have BK223 := n0_; have BK230 := n1_; have HB := n2_; clear n0_ n1_ n2_; (try clear hb); (try clear hb2); (try clear hk); (try clear hi); have hcz27_0 := z4_ BK223.out 0 (.int .i64 a1_0) rfl; have hcz27_1 := z4_ BK223.out 1 (.bool a1_1) rfl; have hcz27_2 := z4_ BK223.out 2 (.int .i64 a1_2) rfl; have hcz27_3 := z4_ BK223.out 3 (.int .u64 a1_3) rfl; have hcz27_4 := z4_ BK223.out 4 (.int .u64 a1_4) rfl; have hcz27_5 := z4_ BK223.out 5 (.bool a1_5) rfl; have hfz27_0 := blk_frozen BK223.out 0; have hfz27_1 := blk_frozen BK223.out 1; have hfz27_2 := blk_frozen BK223.out 2; have hfz27_3 := blk_frozen BK223.out 3; have hfz27_4 := blk_frozen BK223.out 4; have hfz27_5 := blk_frozen BK223.out 5; have hcz28_0 := z4_ BK230.out 0 (.int .i64 t224) rfl; have hcz28_1 := z4_ BK230.out 1 (.int .u64 t225) rfl; have hcz28_2 := z4_ BK230.out 2 (.int .u64 t226) rfl; have hcz28_3 := z4_ BK230.out 3 (.int .u64 t227) rfl; have hcz28_4 := z4_ BK230.out 4 (.int .i64 t228) rfl; have hfz28_0 := blk_frozen BK230.out 0; have hfz28_1 := blk_frozen BK230.out 1; have hfz28_2 := blk_frozen BK230.out 2; have hfz28_3 := blk_frozen BK230.out 3; have hfz28_4 := blk_frozen BK230.out 4))
       go_ret3
       exact ⟨by first | rfl | (simp [errW_none, errW_some] <;> rfl) | (simp [*, errW_none, errW_some] <;> rfl), by repeat (first | (with_reducible first | exact HB.out | apply below_alloc | apply pw_below_drewN | apply below_drew1 | refine below_set ?_ GE223.out | refine below_set ?_ GE230.out) | exact HB.out)⟩
      ·rw [if_neg c23] at H
       have c23b0 : decide (t228 ≤ a1_2) = false := decide_eq_false c23
       clear c23
       by_cases c29 : a1_2 < (wrap64 (-t228))
       ·rw [if_pos c29] at H
        have c29b0 : decide (a1_2 < (wrap64 (-t228))) = true := decide_eq_true c29
        clear c29
        simp only [Option.some.injEq, Prod.mk.injEq] at H
        obtain ⟨rfl, rfl, rfl⟩ := H
        have hnb30 := NB223_230.out
        have hnc30 := NB230_223.out
        have hcz31_0 := z4_ BK223.out 0 (.int .i64 a1_0) rfl
        have hcz31_1 := z4_ BK223.out 1 (.bool a1_1) rfl
        have hcz31_2 := z4_ BK223.out 2 (.int .i64 a1_2) rfl
        have hcz31_3 := z4_ BK223.out 3 (.int .u64 a1_3) rfl
        have hcz31_4 := z4_ BK223.out 4 (.int .u64 a1_4) rfl
        have hcz31_5 := z4_ BK223.out 5 (.bool a1_5) rfl
        have hfz31_0 := blk_frozen BK223.out 0
        have hfz31_1 := blk_frozen BK223.out 1
        have hfz31_2 := blk_frozen BK223.out 2
        have hfz31_3 := blk_frozen BK223.out 3
        have hfz31_4 := blk_frozen BK223.out 4
        have hfz31_5 := blk_frozen BK223.out 5
        go_wp2_with (first | ((with_reducible refine gate_callee (f := 36) rfl ?_); refine goesL_ (some 29) rfl rfl Try.func36 (by kernel_rfl) rfl #[.agg #[.int .i64 a1_0, .bool a1_1, .int .i64 a1_2, .int .u64 a1_3, .int .u64 a1_4, .bool a1_5]] rfl z5_ ?_; (with_reducible refine (round_sound.calls k a1_0 a1_1 a1_2 a1_3 a1_4 a1_5 true _ A10.out).mono ?_); rintro e w32 ⟨rfl, hb⟩; refine ⟨_, rfl, ?_⟩; have n0_ := Aside0.mk (blk_below (g := gb223) (o := .cells #[.int .i64 a1_0, .bool a1_1, .int .i64 a1_2, .int .u64 a1_3, .int .u64 a1_4, .bool a1_5] 27 (0, 0)) (by refine z2_ ?_; refine blk_far ?_ NB223_230.out _; refine z2_ ?_; refine blk_far ?_ NB223_230.out _; refine z2_ ?_; refine blk_far ?_ NB223_230.out _; refine z2_ ?_; refine blk_far ?_ NB223_230.out _; refine z2_ ?_; refine blk_far ?_ NB223_230.out _; refine z2_ ?_; exact BK223.out) hb); have n1_ := Aside0.mk (blk_below (g := gb230) (o := .cells #[.int .i64 t224, .int .u64 t225, .int .u64 t226, .int .u64 t227, .int .i64 t228] 98 (0, 0)) (by refine z2_ ?_; refine blk_put (cs := #[.int .i64 t224, .int .u64 t225, .int .u64 t226, .int .u64 t227, .int .i64 0]) ?_ 4 _ rfl; refine z2_ ?_; refine blk_put (cs := #[.int .i64 t224, .int .u64 t225, .int .u64 t226, .int .u64 0, .int .i64 0]) ?_ 3 _ rfl; refine z2_ ?_; refine blk_put (cs := #[.int .i64 t224, .int .u64 t225, .int .u64 0, .int .u64 0, .int .i64 0]) ?_ 2 _ rfl; refine z2_ ?_; refine blk_put (cs := #[.int .i64 t224, .int .u64 0, .int .u64 0, .int .u64 0, .int .i64 0]) ?_ 1 _ rfl; refine z2_ ?_; refine blk_put (cs := #[.int .i64 0, .int .u64 0, .int .u64 0, .int .u64 0, .int .i64 0]) ?_ 0 _ rfl; refine z2_ ?_; exact BK230.out) hb); have n2_ := Aside0.mk (below_step (z3_ HB.out) hb); clear BK223; clear BK230; clear HB; have BK223 := n0_; have BK230 := n1_; have HB := n2_; clear n0_ n1_ n2_; (try clear hb); (try clear hb2); (try clear hk); (try clear hi); have hcz33_0 := z4_ BK223.out 0 (.int .i64 a1_0) rfl; have hcz33_1 := z4_ BK223.out 1 (.bool a1_1) rfl; have hcz33_2 := z4_ BK223.out 2 (.int .i64 a1_2) rfl; have hcz33_3 := z4_ BK223.out 3 (.int .u64 a1_3) rfl; have hcz33_4 := z4_ BK223.out 4 (.int .u64 a1_4) rfl; have hcz33_5 := z4_ BK223.out 5 (.bool a1_5) rfl; have hfz33_0 := blk_frozen BK223.out 0; have hfz33_1 := blk_frozen BK223.out 1; have hfz33_2 := blk_frozen BK223.out 2; have hfz33_3 := blk_frozen BK223.out 3; have hfz33_4 := blk_frozen BK223.out 4; have hfz33_5 := blk_frozen BK223.out 5; have hcz34_0 := z4_ BK230.out 0 (.int .i64 t224) rfl; have hcz34_1 := z4_ BK230.out 1 (.int .u64 t225) rfl; have hcz34_2 := z4_ BK230.out 2 (.int .u64 t226) rfl; have hcz34_3 := z4_ BK230.out 3 (.int .u64 t227) rfl; have hcz34_4 := z4_ BK230.out 4 (.int .i64 t228) rfl; have hfz34_0 := blk_frozen BK230.out 0; have hfz34_1 := blk_frozen BK230.out 1; have hfz34_2 := blk_frozen BK230.out 2; have hfz34_3 := blk_frozen BK230.out 3; have hfz34_4 := blk_frozen BK230.out 4))
        go_ret3
        exact ⟨by first | rfl | (simp [errW_none, errW_some] <;> rfl) | (simp [*, errW_none, errW_some] <;> rfl), by repeat (first | (with_reducible first | exact HB.out | apply below_alloc | apply pw_below_drewN | apply below_drew1 | refine below_set ?_ GE223.out | refine below_set ?_ GE230.out) | exact HB.out)⟩
       ·rw [if_neg c29] at H
        have c29b0 : decide (a1_2 < (wrap64 (-t228))) = false := decide_eq_false c29
        clear c29
        by_cases c35 : a1_2 = (wrap64 (-t228))
        ·rw [if_pos c35] at H
         have c35b0 : (a1_2 == (wrap64 (-t228))) = true := beq_iff_eq.mpr c35
         have c35b1 : (a1_2 != (wrap64 (-t228))) = false := bne_eq_false_iff_eq.mpr c35
         clear c35
         by_cases c36 : a1_3 = 9223372036854775808
         ·rw [if_pos c36] at H
          have c36b0 : (a1_3 == 9223372036854775808) = true := beq_iff_eq.mpr c36
          have c36b1 : (a1_3 != 9223372036854775808) = false := bne_eq_false_iff_eq.mpr c36
          clear c36
          by_cases c37 : a1_4 = 0
          ·rw [if_pos c37] at H
           have c37b0 : (a1_4 == 0) = true := beq_iff_eq.mpr c37
           have c37b1 : (a1_4 != 0) = false := bne_eq_false_iff_eq.mpr c37
           clear c37
           by_cases c38 : a1_5 = true
           ·subst c38
            have H1 : (round_Cut.j0 k a0 a1_0 a1_1 a1_2 a1_3 a1_4 true) = some (r1, r2, r3) := by rw [if_pos rfl] at H; exact H
            clear H
            have H := H1
            clear H1
            have H' := Aside0.mk H
            clear H
            have hnb39 := NB223_230.out
            have hnc39 := NB230_223.out
            have hcz40_0 := z4_ BK223.out 0 (.int .i64 a1_0) rfl
            have hcz40_1 := z4_ BK223.out 1 (.bool a1_1) rfl
            have hcz40_2 := z4_ BK223.out 2 (.int .i64 a1_2) rfl
            have hcz40_3 := z4_ BK223.out 3 (.int .u64 a1_3) rfl
            have hcz40_4 := z4_ BK223.out 4 (.int .u64 a1_4) rfl
            have hcz40_5 := z4_ BK223.out 5 (.bool true) rfl
            have hfz40_0 := blk_frozen BK223.out 0
            have hfz40_1 := blk_frozen BK223.out 1
            have hfz40_2 := blk_frozen BK223.out 2
            have hfz40_3 := blk_frozen BK223.out 3
            have hfz40_4 := blk_frozen BK223.out 4
            have hfz40_5 := blk_frozen BK223.out 5
            go_wp2_with (first | ((with_reducible refine gate_callee (f := 36) rfl ?_); refine goesL_ (some 29) rfl rfl Try.func36 (by kernel_rfl) rfl #[.agg #[.int .i64 a1_0, .bool a1_1, .int .i64 a1_2, .int .u64 a1_3, .int .u64 a1_4, .bool true]] rfl z5_ ?_; (with_reducible refine (round_sound.calls k a1_0 a1_1 a1_2 a1_3 a1_4 true true _ A10.out).mono ?_); rintro e w41 ⟨rfl, hb⟩; refine ⟨_, rfl, ?_⟩; have n0_ := Aside0.mk (blk_below (g := gb223) (o := .cells #[.int .i64 a1_0, .bool a1_1, .int .i64 a1_2, .int .u64 a1_3, .int .u64 a1_4, .bool true] 27 (0, 0)) (by refine z2_ ?_; refine blk_far ?_ NB223_230.out _; refine z2_ ?_; refine blk_far ?_ NB223_230.out _; refine z2_ ?_; refine blk_far ?_ NB223_230.out _; refine z2_ ?_; refine blk_far ?_ NB223_230.out _; refine z2_ ?_; refine blk_far ?_ NB223_230.out _; refine z2_ ?_; exact BK223.out) hb); have n1_ := Aside0.mk (blk_below (g := gb230) (o := .cells #[.int .i64 t224, .int .u64 t225, .int .u64 t226, .int .u64 t227, .int .i64 t228] 98 (0, 0)) (by refine z2_ ?_; refine blk_put (cs := #[.int .i64 t224, .int .u64 t225, .int .u64 t226, .int .u64 t227, .int .i64 0]) ?_ 4 _ rfl; refine z2_ ?_; refine blk_put (cs := #[.int .i64 t224, .int .u64 t225, .int .u64 t226, .int .u64 0, .int .i64 0]) ?_ 3 _ rfl; refine z2_ ?_; refine blk_put (cs := #[.int .i64 t224, .int .u64 t225, .int .u64 0, .int .u64 0, .int .i64 0]) ?_ 2 _ rfl; refine z2_ ?_; refine blk_put (cs := #[.int .i64 t224, .int .u64 0, .int .u64 0, .int .u64 0, .int .i64 0]) ?_ 1 _ rfl; refine z2_ ?_; refine blk_put (cs := #[.int .i64 0, .int .u64 0, .int .u64 0, .int .u64 0, .int .i64 0]) ?_ 0 _ rfl; refine z2_ ?_; exact BK230.out) hb); have n2_ := Aside0.mk (below_step (z3_ HB.out) hb); clear BK223; clear BK230; clear HB; have BK223 := n0_; have BK230 := n1_; have HB := n2_; clear n0_ n1_ n2_; (try clear hb); (try clear hb2); (try clear hk); (try clear hi); have hcz42_0 := z4_ BK223.out 0 (.int .i64 a1_0) rfl; have hcz42_1 := z4_ BK223.out 1 (.bool a1_1) rfl; have hcz42_2 := z4_ BK223.out 2 (.int .i64 a1_2) rfl; have hcz42_3 := z4_ BK223.out 3 (.int .u64 a1_3) rfl; have hcz42_4 := z4_ BK223.out 4 (.int .u64 a1_4) rfl; have hcz42_5 := z4_ BK223.out 5 (.bool true) rfl; have hfz42_0 := blk_frozen BK223.out 0; have hfz42_1 := blk_frozen BK223.out 1; have hfz42_2 := blk_frozen BK223.out 2; have hfz42_3 := blk_frozen BK223.out 3; have hfz42_4 := blk_frozen BK223.out 4; have hfz42_5 := blk_frozen BK223.out 5; have hcz43_0 := z4_ BK230.out 0 (.int .i64 t224) rfl; have hcz43_1 := z4_ BK230.out 1 (.int .u64 t225) rfl; have hcz43_2 := z4_ BK230.out 2 (.int .u64 t226) rfl; have hcz43_3 := z4_ BK230.out 3 (.int .u64 t227) rfl; have hcz43_4 := z4_ BK230.out 4 (.int .i64 t228) rfl; have hfz43_0 := blk_frozen BK230.out 0; have hfz43_1 := blk_frozen BK230.out 1; have hfz43_2 := blk_frozen BK230.out 2; have hfz43_3 := blk_frozen BK230.out 3; have hfz43_4 := blk_frozen BK230.out 4))
            go_meet
            case rel => exact ⟨_, H', ⟨by first | omega | exact Nat.le_refl _⟩, ⟨by refine z2_ ?_; exact BK223.out⟩, ⟨by refine z2_ ?_; exact BK230.out⟩, ⟨by repeat (first | (with_reducible first | exact HB.out | apply below_alloc | apply pw_below_drewN | apply below_drew1 | refine below_set ?_ GE223.out | refine below_set ?_ GE230.out) | exact HB.out)⟩⟩
           ·replace c38 := Bool.eq_false_iff.mpr c38
            subst c38
            have H1 : (some (t226, 0, none)) = some (r1, r2, r3) := by rw [if_neg (show ¬ (false = true) by decide)] at H; exact H
            clear H
            have H := H1
            clear H1
            simp only [Option.some.injEq, Prod.mk.injEq] at H
            obtain ⟨rfl, rfl, rfl⟩ := H
            have hnb44 := NB223_230.out
            have hnc44 := NB230_223.out
            have hcz45_0 := z4_ BK223.out 0 (.int .i64 a1_0) rfl
            have hcz45_1 := z4_ BK223.out 1 (.bool a1_1) rfl
            have hcz45_2 := z4_ BK223.out 2 (.int .i64 a1_2) rfl
            have hcz45_3 := z4_ BK223.out 3 (.int .u64 a1_3) rfl
            have hcz45_4 := z4_ BK223.out 4 (.int .u64 a1_4) rfl
            have hcz45_5 := z4_ BK223.out 5 (.bool false) rfl
            have hfz45_0 := blk_frozen BK223.out 0
            have hfz45_1 := blk_frozen BK223.out 1
            have hfz45_2 := blk_frozen BK223.out 2
            have hfz45_3 := blk_frozen BK223.out 3
            have hfz45_4 := blk_frozen BK223.out 4
            have hfz45_5 := blk_frozen BK223.out 5
            go_wp2_with (first | ((with_reducible refine gate_callee (f := 36) rfl ?_); refine goesL_ (some 29) rfl rfl Try.func36 (by kernel_rfl) rfl #[.agg #[.int .i64 a1_0, .bool a1_1, .int .i64 a1_2, .int .u64 a1_3, .int .u64 a1_4, .bool false]] rfl z5_ ?_; (with_reducible refine (round_sound.calls k a1_0 a1_1 a1_2 a1_3 a1_4 false true _ A10.out).mono ?_); rintro e w46 ⟨rfl, hb⟩; refine ⟨_, rfl, ?_⟩; have n0_ := Aside0.mk (blk_below (g := gb223) (o := .cells #[.int .i64 a1_0, .bool a1_1, .int .i64 a1_2, .int .u64 a1_3, .int .u64 a1_4, .bool false] 27 (0, 0)) (by refine z2_ ?_; refine blk_far ?_ NB223_230.out _; refine z2_ ?_; refine blk_far ?_ NB223_230.out _; refine z2_ ?_; refine blk_far ?_ NB223_230.out _; refine z2_ ?_; refine blk_far ?_ NB223_230.out _; refine z2_ ?_; refine blk_far ?_ NB223_230.out _; refine z2_ ?_; exact BK223.out) hb); have n1_ := Aside0.mk (blk_below (g := gb230) (o := .cells #[.int .i64 t224, .int .u64 t225, .int .u64 t226, .int .u64 t227, .int .i64 t228] 98 (0, 0)) (by refine z2_ ?_; refine blk_put (cs := #[.int .i64 t224, .int .u64 t225, .int .u64 t226, .int .u64 t227, .int .i64 0]) ?_ 4 _ rfl; refine z2_ ?_; refine blk_put (cs := #[.int .i64 t224, .int .u64 t225, .int .u64 t226, .int .u64 0, .int .i64 0]) ?_ 3 _ rfl; refine z2_ ?_; refine blk_put (cs := #[.int .i64 t224, .int .u64 t225, .int .u64 0, .int .u64 0, .int .i64 0]) ?_ 2 _ rfl; refine z2_ ?_; refine blk_put (cs := #[.int .i64 t224, .int .u64 0, .int .u64 0, .int .u64 0, .int .i64 0]) ?_ 1 _ rfl; refine z2_ ?_; refine blk_put (cs := #[.int .i64 0, .int .u64 0, .int .u64 0, .int .u64 0, .int .i64 0]) ?_ 0 _ rfl; refine z2_ ?_; exact BK230.out) hb); have n2_ := Aside0.mk (below_step (z3_ HB.out) hb); clear BK223; clear BK230; clear HB; have BK223 := n0_; have BK230 := n1_; have HB := n2_; clear n0_ n1_ n2_; (try clear hb); (try clear hb2); (try clear hk); (try clear hi); have hcz47_0 := z4_ BK223.out 0 (.int .i64 a1_0) rfl; have hcz47_1 := z4_ BK223.out 1 (.bool a1_1) rfl; have hcz47_2 := z4_ BK223.out 2 (.int .i64 a1_2) rfl; have hcz47_3 := z4_ BK223.out 3 (.int .u64 a1_3) rfl; have hcz47_4 := z4_ BK223.out 4 (.int .u64 a1_4) rfl; have hcz47_5 := z4_ BK223.out 5 (.bool false) rfl; have hfz47_0 := blk_frozen BK223.out 0; have hfz47_1 := blk_frozen BK223.out 1; have hfz47_2 := blk_frozen BK223.out 2; have hfz47_3 := blk_frozen BK223.out 3; have hfz47_4 := blk_frozen BK223.out 4; have hfz47_5 := blk_frozen BK223.out 5; have hcz48_0 := z4_ BK230.out 0 (.int .i64 t224) rfl; have hcz48_1 := z4_ BK230.out 1 (.int .u64 t225) rfl; have hcz48_2 := z4_ BK230.out 2 (.int .u64 t226) rfl; have hcz48_3 := z4_ BK230.out 3 (.int .u64 t227) rfl; have hcz48_4 := z4_ BK230.out 4 (.int .i64 t228) rfl; have hfz48_0 := blk_frozen BK230.out 0; have hfz48_1 := blk_frozen BK230.out 1; have hfz48_2 := blk_frozen BK230.out 2; have hfz48_3 := blk_frozen BK230.out 3; have hfz48_4 := blk_frozen BK230.out 4))
            go_ret3
            exact ⟨by first | rfl | (simp [errW_none, errW_some] <;> rfl) | (simp [*, errW_none, errW_some] <;> rfl), by repeat (first | (with_reducible first | exact HB.out | apply below_alloc | apply pw_below_drewN | apply below_drew1 | refine below_set ?_ GE223.out | refine below_set ?_ GE230.out) | exact HB.out)⟩
          ·rw [if_neg c37] at H
           have c37b0 : (a1_4 == 0) = false := beq_eq_false_iff_ne.mpr c37
           have c37b1 : (a1_4 != 0) = true := bne_iff_ne.mpr c37
           have H' := Aside0.mk H
           clear H
           have hnb49 := NB223_230.out
           have hnc49 := NB230_223.out
           have hcz50_0 := z4_ BK223.out 0 (.int .i64 a1_0) rfl
           have hcz50_1 := z4_ BK223.out 1 (.bool a1_1) rfl
           have hcz50_2 := z4_ BK223.out 2 (.int .i64 a1_2) rfl
           have hcz50_3 := z4_ BK223.out 3 (.int .u64 a1_3) rfl
           have hcz50_4 := z4_ BK223.out 4 (.int .u64 a1_4) rfl
           have hcz50_5 := z4_ BK223.out 5 (.bool a1_5) rfl
           have hfz50_0 := blk_frozen BK223.out 0
           have hfz50_1 := blk_frozen BK223.out 1
           have hfz50_2 := blk_frozen BK223.out 2
           have hfz50_3 := blk_frozen BK223.out 3
           have hfz50_4 := blk_frozen BK223.out 4
           have hfz50_5 := blk_frozen BK223.out 5
           go_wp2_with (first | ((with_reducible refine gate_callee (f := 36) rfl ?_); refine goesL_ (some 29) rfl rfl Try.func36 (by kernel_rfl) rfl #[.agg #[.int .i64 a1_0, .bool a1_1, .int .i64 a1_2, .int .u64 a1_3, .int .u64 a1_4, .bool a1_5]] rfl z5_ ?_; (with_reducible refine (round_sound.calls k a1_0 a1_1 a1_2 a1_3 a1_4 a1_5 true _ A10.out).mono ?_); rintro e w51 ⟨rfl, hb⟩; refine ⟨_, rfl, ?_⟩; have n0_ := Aside0.mk (blk_below (g := gb223) (o := .cells #[.int .i64 a1_0, .bool a1_1, .int .i64 a1_2, .int .u64 a1_3, .int .u64 a1_4, .bool a1_5] 27 (0, 0)) (by refine z2_ ?_; refine blk_far ?_ NB223_230.out _; refine z2_ ?_; refine blk_far ?_ NB223_230.out _; refine z2_ ?_; refine blk_far ?_ NB223_230.out _; refine z2_ ?_; refine blk_far ?_ NB223_230.out _; refine z2_ ?_; refine blk_far ?_ NB223_230.out _; refine z2_ ?_; exact BK223.out) hb); have n1_ := Aside0.mk (blk_below (g := gb230) (o := .cells #[.int .i64 t224, .int .u64 t225, .int .u64 t226, .int .u64 t227, .int .i64 t228] 98 (0, 0)) (by refine z2_ ?_; refine blk_put (cs := #[.int .i64 t224, .int .u64 t225, .int .u64 t226, .int .u64 t227, .int .i64 0]) ?_ 4 _ rfl; refine z2_ ?_; refine blk_put (cs := #[.int .i64 t224, .int .u64 t225, .int .u64 t226, .int .u64 0, .int .i64 0]) ?_ 3 _ rfl; refine z2_ ?_; refine blk_put (cs := #[.int .i64 t224, .int .u64 t225, .int .u64 0, .int .u64 0, .int .i64 0]) ?_ 2 _ rfl; refine z2_ ?_; refine blk_put (cs := #[.int .i64 t224, .int .u64 0, .int .u64 0, .int .u64 0, .int .i64 0]) ?_ 1 _ rfl; refine z2_ ?_; refine blk_put (cs := #[.int .i64 0, .int .u64 0, .int .u64 0, .int .u64 0, .int .i64 0]) ?_ 0 _ rfl; refine z2_ ?_; exact BK230.out) hb); have n2_ := Aside0.mk (below_step (z3_ HB.out) hb); clear BK223; clear BK230; clear HB; have BK223 := n0_; have BK230 := n1_; have HB := n2_; clear n0_ n1_ n2_; (try clear hb); (try clear hb2); (try clear hk); (try clear hi); have hcz52_0 := z4_ BK223.out 0 (.int .i64 a1_0) rfl; have hcz52_1 := z4_ BK223.out 1 (.bool a1_1) rfl; have hcz52_2 := z4_ BK223.out 2 (.int .i64 a1_2) rfl; have hcz52_3 := z4_ BK223.out 3 (.int .u64 a1_3) rfl; have hcz52_4 := z4_ BK223.out 4 (.int .u64 a1_4) rfl; have hcz52_5 := z4_ BK223.out 5 (.bool a1_5) rfl; have hfz52_0 := blk_frozen BK223.out 0; have hfz52_1 := blk_frozen BK223.out 1; have hfz52_2 := blk_frozen BK223.out 2; have hfz52_3 := blk_frozen BK223.out 3; have hfz52_4 := blk_frozen BK223.out 4; have hfz52_5 := blk_frozen BK223.out 5; have hcz53_0 := z4_ BK230.out 0 (.int .i64 t224) rfl; have hcz53_1 := z4_ BK230.out 1 (.int .u64 t225) rfl; have hcz53_2 := z4_ BK230.out 2 (.int .u64 t226) rfl; have hcz53_3 := z4_ BK230.out 3 (.int .u64 t227) rfl; have hcz53_4 := z4_ BK230.out 4 (.int .i64 t228) rfl; have hfz53_0 := blk_frozen BK230.out 0; have hfz53_1 := blk_frozen BK230.out 1; have hfz53_2 := blk_frozen BK230.out 2; have hfz53_3 := blk_frozen BK230.out 3; have hfz53_4 := blk_frozen BK230.out 4))
           go_meet
           case rel => exact ⟨_, H', ⟨by first | omega | exact Nat.le_refl _⟩, ⟨by refine z2_ ?_; exact BK223.out⟩, ⟨by refine z2_ ?_; exact BK230.out⟩, ⟨by repeat (first | (with_reducible first | exact HB.out | apply below_alloc | apply pw_below_drewN | apply below_drew1 | refine below_set ?_ GE223.out | refine below_set ?_ GE230.out) | exact HB.out)⟩⟩
         ·rw [if_neg c36] at H
          have c36b0 : (a1_3 == 9223372036854775808) = false := beq_eq_false_iff_ne.mpr c36
          have c36b1 : (a1_3 != 9223372036854775808) = true := bne_iff_ne.mpr c36
          have H' := Aside0.mk H
          clear H
          have hnb54 := NB223_230.out
          have hnc54 := NB230_223.out
          have hcz55_0 := z4_ BK223.out 0 (.int .i64 a1_0) rfl
          have hcz55_1 := z4_ BK223.out 1 (.bool a1_1) rfl
          have hcz55_2 := z4_ BK223.out 2 (.int .i64 a1_2) rfl
          have hcz55_3 := z4_ BK223.out 3 (.int .u64 a1_3) rfl
          have hcz55_4 := z4_ BK223.out 4 (.int .u64 a1_4) rfl
          have hcz55_5 := z4_ BK223.out 5 (.bool a1_5) rfl
          have hfz55_0 := blk_frozen BK223.out 0
          have hfz55_1 := blk_frozen BK223.out 1
          have hfz55_2 := blk_frozen BK223.out 2
          have hfz55_3 := blk_frozen BK223.out 3
          have hfz55_4 := blk_frozen BK223.out 4
          have hfz55_5 := blk_frozen BK223.out 5
          go_wp2_with (first | ((with_reducible refine gate_callee (f := 36) rfl ?_); refine goesL_ (some 29) rfl rfl Try.func36 (by kernel_rfl) rfl #[.agg #[.int .i64 a1_0, .bool a1_1, .int .i64 a1_2, .int .u64 a1_3, .int .u64 a1_4, .bool a1_5]] rfl z5_ ?_; (with_reducible refine (round_sound.calls k a1_0 a1_1 a1_2 a1_3 a1_4 a1_5 true _ A10.out).mono ?_); rintro e w56 ⟨rfl, hb⟩; refine ⟨_, rfl, ?_⟩; have n0_ := Aside0.mk (blk_below (g := gb223) (o := .cells #[.int .i64 a1_0, .bool a1_1, .int .i64 a1_2, .int .u64 a1_3, .int .u64 a1_4, .bool a1_5] 27 (0, 0)) (by refine z2_ ?_; refine blk_far ?_ NB223_230.out _; refine z2_ ?_; refine blk_far ?_ NB223_230.out _; refine z2_ ?_; refine blk_far ?_ NB223_230.out _; refine z2_ ?_; refine blk_far ?_ NB223_230.out _; refine z2_ ?_; refine blk_far ?_ NB223_230.out _; refine z2_ ?_; exact BK223.out) hb); have n1_ := Aside0.mk (blk_below (g := gb230) (o := .cells #[.int .i64 t224, .int .u64 t225, .int .u64 t226, .int .u64 t227, .int .i64 t228] 98 (0, 0)) (by refine z2_ ?_; refine blk_put (cs := #[.int .i64 t224, .int .u64 t225, .int .u64 t226, .int .u64 t227, .int .i64 0]) ?_ 4 _ rfl; refine z2_ ?_; refine blk_put (cs := #[.int .i64 t224, .int .u64 t225, .int .u64 t226, .int .u64 0, .int .i64 0]) ?_ 3 _ rfl; refine z2_ ?_; refine blk_put (cs := #[.int .i64 t224, .int .u64 t225, .int .u64 0, .int .u64 0, .int .i64 0]) ?_ 2 _ rfl; refine z2_ ?_; refine blk_put (cs := #[.int .i64 t224, .int .u64 0, .int .u64 0, .int .u64 0, .int .i64 0]) ?_ 1 _ rfl; refine z2_ ?_; refine blk_put (cs := #[.int .i64 0, .int .u64 0, .int .u64 0, .int .u64 0, .int .i64 0]) ?_ 0 _ rfl; refine z2_ ?_; exact BK230.out) hb); have n2_ := Aside0.mk (below_step (z3_ HB.out) hb); clear BK223; clear BK230; clear HB; have BK223 := n0_; have BK230 := n1_; have HB := n2_; clear n0_ n1_ n2_; (try clear hb); (try clear hb2); (try clear hk); (try clear hi); have hcz57_0 := z4_ BK223.out 0 (.int .i64 a1_0) rfl; have hcz57_1 := z4_ BK223.out 1 (.bool a1_1) rfl; have hcz57_2 := z4_ BK223.out 2 (.int .i64 a1_2) rfl; have hcz57_3 := z4_ BK223.out 3 (.int .u64 a1_3) rfl; have hcz57_4 := z4_ BK223.out 4 (.int .u64 a1_4) rfl; have hcz57_5 := z4_ BK223.out 5 (.bool a1_5) rfl; have hfz57_0 := blk_frozen BK223.out 0; have hfz57_1 := blk_frozen BK223.out 1; have hfz57_2 := blk_frozen BK223.out 2; have hfz57_3 := blk_frozen BK223.out 3; have hfz57_4 := blk_frozen BK223.out 4; have hfz57_5 := blk_frozen BK223.out 5; have hcz58_0 := z4_ BK230.out 0 (.int .i64 t224) rfl; have hcz58_1 := z4_ BK230.out 1 (.int .u64 t225) rfl; have hcz58_2 := z4_ BK230.out 2 (.int .u64 t226) rfl; have hcz58_3 := z4_ BK230.out 3 (.int .u64 t227) rfl; have hcz58_4 := z4_ BK230.out 4 (.int .i64 t228) rfl; have hfz58_0 := blk_frozen BK230.out 0; have hfz58_1 := blk_frozen BK230.out 1; have hfz58_2 := blk_frozen BK230.out 2; have hfz58_3 := blk_frozen BK230.out 3; have hfz58_4 := blk_frozen BK230.out 4))
          go_meet
          case rel => exact ⟨_, H', ⟨by first | omega | exact Nat.le_refl _⟩, ⟨by refine z2_ ?_; exact BK223.out⟩, ⟨by refine z2_ ?_; exact BK230.out⟩, ⟨by repeat (first | (with_reducible first | exact HB.out | apply below_alloc | apply pw_below_drewN | apply below_drew1 | refine below_set ?_ GE223.out | refine below_set ?_ GE230.out) | exact HB.out)⟩⟩
        ·rw [if_neg c35] at H
         have c35b0 : (a1_2 == (wrap64 (-t228))) = false := beq_eq_false_iff_ne.mpr c35
         have c35b1 : (a1_2 != (wrap64 (-t228))) = true := bne_iff_ne.mpr c35
         have H' := Aside0.mk H
         clear H
         have hnb59 := NB223_230.out
         have hnc59 := NB230_223.out
         have hcz60_0 := z4_ BK223.out 0 (.int .i64 a1_0) rfl
         have hcz60_1 := z4_ BK223.out 1 (.bool a1_1) rfl
         have hcz60_2 := z4_ BK223.out 2 (.int .i64 a1_2) rfl
         have hcz60_3 := z4_ BK223.out 3 (.int .u64 a1_3) rfl
         have hcz60_4 := z4_ BK223.out 4 (.int .u64 a1_4) rfl
         have hcz60_5 := z4_ BK223.out 5 (.bool a1_5) rfl
         have hfz60_0 := blk_frozen BK223.out 0
         have hfz60_1 := blk_frozen BK223.out 1
         have hfz60_2 := blk_frozen BK223.out 2
         have hfz60_3 := blk_frozen BK223.out 3
         have hfz60_4 := blk_frozen BK223.out 4
         have hfz60_5 := blk_frozen BK223.out 5
         go_wp2_with (first | ((with_reducible refine gate_callee (f := 36) rfl ?_); refine goesL_ (some 29) rfl rfl Try.func36 (by kernel_rfl) rfl #[.agg #[.int .i64 a1_0, .bool a1_1, .int .i64 a1_2, .int .u64 a1_3, .int .u64 a1_4, .bool a1_5]] rfl z5_ ?_; (with_reducible refine (round_sound.calls k a1_0 a1_1 a1_2 a1_3 a1_4 a1_5 true _ A10.out).mono ?_); rintro e w61 ⟨rfl, hb⟩; refine ⟨_, rfl, ?_⟩; have n0_ := Aside0.mk (blk_below (g := gb223) (o := .cells #[.int .i64 a1_0, .bool a1_1, .int .i64 a1_2, .int .u64 a1_3, .int .u64 a1_4, .bool a1_5] 27 (0, 0)) (by refine z2_ ?_; refine blk_far ?_ NB223_230.out _; refine z2_ ?_; refine blk_far ?_ NB223_230.out _; refine z2_ ?_; refine blk_far ?_ NB223_230.out _; refine z2_ ?_; refine blk_far ?_ NB223_230.out _; refine z2_ ?_; refine blk_far ?_ NB223_230.out _; refine z2_ ?_; exact BK223.out) hb); have n1_ := Aside0.mk (blk_below (g := gb230) (o := .cells #[.int .i64 t224, .int .u64 t225, .int .u64 t226, .int .u64 t227, .int .i64 t228] 98 (0, 0)) (by refine z2_ ?_; refine blk_put (cs := #[.int .i64 t224, .int .u64 t225, .int .u64 t226, .int .u64 t227, .int .i64 0]) ?_ 4 _ rfl; refine z2_ ?_; refine blk_put (cs := #[.int .i64 t224, .int .u64 t225, .int .u64 t226, .int .u64 0, .int .i64 0]) ?_ 3 _ rfl; refine z2_ ?_; refine blk_put (cs := #[.int .i64 t224, .int .u64 t225, .int .u64 0, .int .u64 0, .int .i64 0]) ?_ 2 _ rfl; refine z2_ ?_; refine blk_put (cs := #[.int .i64 t224, .int .u64 0, .int .u64 0, .int .u64 0, .int .i64 0]) ?_ 1 _ rfl; refine z2_ ?_; refine blk_put (cs := #[.int .i64 0, .int .u64 0, .int .u64 0, .int .u64 0, .int .i64 0]) ?_ 0 _ rfl; refine z2_ ?_; exact BK230.out) hb); have n2_ := Aside0.mk (below_step (z3_ HB.out) hb); clear BK223; clear BK230; clear HB; have BK223 := n0_; have BK230 := n1_; have HB := n2_; clear n0_ n1_ n2_; (try clear hb); (try clear hb2); (try clear hk); (try clear hi); have hcz62_0 := z4_ BK223.out 0 (.int .i64 a1_0) rfl; have hcz62_1 := z4_ BK223.out 1 (.bool a1_1) rfl; have hcz62_2 := z4_ BK223.out 2 (.int .i64 a1_2) rfl; have hcz62_3 := z4_ BK223.out 3 (.int .u64 a1_3) rfl; have hcz62_4 := z4_ BK223.out 4 (.int .u64 a1_4) rfl; have hcz62_5 := z4_ BK223.out 5 (.bool a1_5) rfl; have hfz62_0 := blk_frozen BK223.out 0; have hfz62_1 := blk_frozen BK223.out 1; have hfz62_2 := blk_frozen BK223.out 2; have hfz62_3 := blk_frozen BK223.out 3; have hfz62_4 := blk_frozen BK223.out 4; have hfz62_5 := blk_frozen BK223.out 5; have hcz63_0 := z4_ BK230.out 0 (.int .i64 t224) rfl; have hcz63_1 := z4_ BK230.out 1 (.int .u64 t225) rfl; have hcz63_2 := z4_ BK230.out 2 (.int .u64 t226) rfl; have hcz63_3 := z4_ BK230.out 3 (.int .u64 t227) rfl; have hcz63_4 := z4_ BK230.out 4 (.int .i64 t228) rfl; have hfz63_0 := blk_frozen BK230.out 0; have hfz63_1 := blk_frozen BK230.out 1; have hfz63_2 := blk_frozen BK230.out 2; have hfz63_3 := blk_frozen BK230.out 3; have hfz63_4 := blk_frozen BK230.out 4))
         go_meet
         case rel => exact ⟨_, H', ⟨by first | omega | exact Nat.le_refl _⟩, ⟨by refine z2_ ?_; exact BK223.out⟩, ⟨by refine z2_ ?_; exact BK230.out⟩, ⟨by repeat (first | (with_reducible first | exact HB.out | apply below_alloc | apply pw_below_drewN | apply below_drew1 | refine below_set ?_ GE223.out | refine below_set ?_ GE230.out) | exact HB.out)⟩⟩
   ·replace c11 := Bool.eq_false_iff.mpr c11
    subst c11
    have H1 : (some (0, 0, some 1)) = some (r1, r2, r3) := by rw [if_neg (show ¬ (false = true) by decide)] at H; exact H
    clear H
    have H := H1
    clear H1
    simp only [Option.some.injEq, Prod.mk.injEq] at H
    obtain ⟨rfl, rfl, rfl⟩ := H
    have hnb64 := NB223_230.out
    have hnc64 := NB230_223.out
    have hcz65_0 := z4_ BK223.out 0 (.int .i64 a1_0) rfl
    have hcz65_1 := z4_ BK223.out 1 (.bool a1_1) rfl
    have hcz65_2 := z4_ BK223.out 2 (.int .i64 a1_2) rfl
    have hcz65_3 := z4_ BK223.out 3 (.int .u64 a1_3) rfl
    have hcz65_4 := z4_ BK223.out 4 (.int .u64 a1_4) rfl
    have hcz65_5 := z4_ BK223.out 5 (.bool a1_5) rfl
    have hfz65_0 := blk_frozen BK223.out 0
    have hfz65_1 := blk_frozen BK223.out 1
    have hfz65_2 := blk_frozen BK223.out 2
    have hfz65_3 := blk_frozen BK223.out 3
    have hfz65_4 := blk_frozen BK223.out 4
    have hfz65_5 := blk_frozen BK223.out 5
    go_wp2_with (first | ((with_reducible refine gate_callee (f := 36) rfl ?_); refine goesL_ (some 29) rfl rfl Try.func36 (by kernel_rfl) rfl #[.agg #[.int .i64 a1_0, .bool a1_1, .int .i64 a1_2, .int .u64 a1_3, .int .u64 a1_4, .bool a1_5]] rfl z5_ ?_; (with_reducible refine (round_sound.calls k a1_0 a1_1 a1_2 a1_3 a1_4 a1_5 false _ A10.out).mono ?_); rintro e w66 ⟨rfl, hb⟩; refine ⟨_, rfl, ?_⟩; have n0_ := Aside0.mk (blk_below (g := gb223) (o := .cells #[.int .i64 a1_0, .bool a1_1, .int .i64 a1_2, .int .u64 a1_3, .int .u64 a1_4, .bool a1_5] 27 (0, 0)) (by refine z2_ ?_; refine blk_far ?_ NB223_230.out _; refine z2_ ?_; refine blk_far ?_ NB223_230.out _; refine z2_ ?_; refine blk_far ?_ NB223_230.out _; refine z2_ ?_; refine blk_far ?_ NB223_230.out _; refine z2_ ?_; refine blk_far ?_ NB223_230.out _; refine z2_ ?_; exact BK223.out) hb); have n1_ := Aside0.mk (blk_below (g := gb230) (o := .cells #[.int .i64 t224, .int .u64 t225, .int .u64 t226, .int .u64 t227, .int .i64 t228] 98 (0, 0)) (by refine z2_ ?_; refine blk_put (cs := #[.int .i64 t224, .int .u64 t225, .int .u64 t226, .int .u64 t227, .int .i64 0]) ?_ 4 _ rfl; refine z2_ ?_; refine blk_put (cs := #[.int .i64 t224, .int .u64 t225, .int .u64 t226, .int .u64 0, .int .i64 0]) ?_ 3 _ rfl; refine z2_ ?_; refine blk_put (cs := #[.int .i64 t224, .int .u64 t225, .int .u64 0, .int .u64 0, .int .i64 0]) ?_ 2 _ rfl; refine z2_ ?_; refine blk_put (cs := #[.int .i64 t224, .int .u64 0, .int .u64 0, .int .u64 0, .int .i64 0]) ?_ 1 _ rfl; refine z2_ ?_; refine blk_put (cs := #[.int .i64 0, .int .u64 0, .int .u64 0, .int .u64 0, .int .i64 0]) ?_ 0 _ rfl; refine z2_ ?_; exact BK230.out) hb); have n2_ := Aside0.mk (below_step (z3_ HB.out) hb); clear BK223; clear BK230; clear HB; have BK223 := n0_; have BK230 := n1_; have HB := n2_; clear n0_ n1_ n2_; (try clear hb); (try clear hb2); (try clear hk); (try clear hi)))
    go_ret3
    exact ⟨by first | rfl | (simp [errW_none, errW_some] <;> rfl) | (simp [*, errW_none, errW_some] <;> rfl), by repeat (first | (with_reducible first | exact HB.out | apply below_alloc | apply pw_below_drewN | apply below_drew1 | refine below_set ?_ GE223.out | refine below_set ?_ GE230.out) | exact HB.out)⟩
  ·have H1 : (some (0, 0, some q231)) = some (r1, r2, r3) := by rw [if_neg (show ¬ (some q231).isNone = true by simp)] at H; exact H
   clear H
   have H := H1
   clear H1
   try simp only [errW_none, errW_some]
   simp only [Option.some.injEq, Prod.mk.injEq] at H
   obtain ⟨rfl, rfl, rfl⟩ := H
   go_wp2
   go_ret3
   exact ⟨by first | rfl | (simp [errW_none, errW_some] <;> rfl) | (simp [*, errW_none, errW_some] <;> rfl), by repeat (first | (with_reducible first | exact HB.out | apply below_alloc | apply pw_below_drewN | apply below_drew1 | refine below_set ?_ GE223.out | refine below_set ?_ GE230.out) | exact HB.out)⟩
 case rest =>
  clear HC4
  try clear c1
  try clear c2
  try clear p2
  try clear q2
  try clear c3
  try clear c4
  try clear c5
  try clear c6
  try clear p6
  try clear c8
  try clear c11
  try clear c12
  try clear c12b0
  try clear c12b1
  try clear c13
  try clear c17
  try clear c17b0
  try clear c17b1
  try clear c18
  try clear c23
  try clear c23b0
  try clear q23
  try clear c24
  try clear c29
  try clear c29b0
  try clear c30
  try clear c35
  try clear c35b0
  try clear c35b1
  try clear c36
  try clear c36b0
  try clear c36b1
  try clear c37
  try clear c37b0
  try clear c37b1
  try clear c38
  try clear c39
  try clear c44
  try clear c49
  try clear c54
  try clear c56
  try clear c59
  try clear c64
  try clear p64
  try clear hcz14_0
  try clear hcz14_1
  try clear hcz14_2
  try clear hcz14_3
  try clear hcz14_4
  try clear hcz14_5
  try clear hcz16_0
  try clear hcz16_1
  try clear hcz16_2
  try clear hcz16_3
  try clear hcz16_4
  try clear hcz16_5
  try clear hcz19_0
  try clear hcz19_1
  try clear hcz19_2
  try clear hcz19_3
  try clear hcz19_4
  try clear hcz19_5
  try clear hcz21_0
  try clear hcz21_1
  try clear hcz21_2
  try clear hcz21_3
  try clear hcz21_4
  try clear hcz21_5
  try clear hcz22_0
  try clear hcz22_1
  try clear hcz22_2
  try clear hcz22_3
  try clear hcz22_4
  try clear hcz25_0
  try clear hcz25_1
  try clear hcz25_2
  try clear hcz25_3
  try clear hcz25_4
  try clear hcz25_5
  try clear hcz27_0
  try clear hcz27_1
  try clear hcz27_2
  try clear hcz27_3
  try clear hcz27_4
  try clear hcz27_5
  try clear hcz28_0
  try clear hcz28_1
  try clear hcz28_2
  try clear hcz28_3
  try clear hcz28_4
  try clear hcz31_0
  try clear hcz31_1
  try clear hcz31_2
  try clear hcz31_3
  try clear hcz31_4
  try clear hcz31_5
  try clear hcz33_0
  try clear hcz33_1
  try clear hcz33_2
  try clear hcz33_3
  try clear hcz33_4
  try clear hcz33_5
  try clear hcz34_0
  try clear hcz34_1
  try clear hcz34_2
  try clear hcz34_3
  try clear hcz34_4
  try clear hcz40_0
  try clear hcz40_1
  try clear hcz40_2
  try clear hcz40_3
  try clear hcz40_4
  try clear hcz40_5
  try clear hcz42_0
  try clear hcz42_1
  try clear hcz42_2
  try clear hcz42_3
  try clear hcz42_4
  try clear hcz42_5
  try clear hcz43_0
  try clear hcz43_1
  try clear hcz43_2
  try clear hcz43_3
  try clear hcz43_4
  try clear hcz45_0
  try clear hcz45_1
  try clear hcz45_2
  try clear hcz45_3
  try clear hcz45_4
  try clear hcz45_5
  try clear hcz47_0
  try clear hcz47_1
  try clear hcz47_2
  try clear hcz47_3
  try clear hcz47_4
  try clear hcz47_5
  try clear hcz48_0
  try clear hcz48_1
  try clear hcz48_2
  try clear hcz48_3
  try clear hcz48_4
  try clear hcz50_0
  try clear hcz50_1
  try clear hcz50_2
  try clear hcz50_3
  try clear hcz50_4
  try clear hcz50_5
  try clear hcz52_0
  try clear hcz52_1
  try clear hcz52_2
  try clear hcz52_3
  try clear hcz52_4
  try clear hcz52_5
  try clear hcz53_0
  try clear hcz53_1
  try clear hcz53_2
  try clear hcz53_3
  try clear hcz53_4
  try clear hcz55_0
  try clear hcz55_1
  try clear hcz55_2
  try clear hcz55_3
  try clear hcz55_4
  try clear hcz55_5
  try clear hcz57_0
  try clear hcz57_1
  try clear hcz57_2
  try clear hcz57_3
  try clear hcz57_4
  try clear hcz57_5
  try clear hcz58_0
  try clear hcz58_1
  try clear hcz58_2
  try clear hcz58_3
  try clear hcz58_4
  try clear hcz60_0
  try clear hcz60_1
  try clear hcz60_2
  try clear hcz60_3
  try clear hcz60_4
  try clear hcz60_5
  try clear hcz62_0
  try clear hcz62_1
  try clear hcz62_2
  try clear hcz62_3
  try clear hcz62_4
  try clear hcz62_5
  try clear hcz63_0
  try clear hcz63_1
  try clear hcz63_2
  try clear hcz63_3
  try clear hcz63_4
  try clear hcz65_0
  try clear hcz65_1
  try clear hcz65_2
  try clear hcz65_3
  try clear hcz65_4
  try clear hcz65_5
  try clear hcz9_0
  try clear hcz9_1
  try clear hcz9_2
  try clear hcz9_3
  try clear hcz9_4
  try clear hfz14_0
  try clear hfz14_1
  try clear hfz14_2
  try clear hfz14_3
  try clear hfz14_4
  try clear hfz14_5
  try clear hfz16_0
  try clear hfz16_1
  try clear hfz16_2
  try clear hfz16_3
  try clear hfz16_4
  try clear hfz16_5
  try clear hfz19_0
  try clear hfz19_1
  try clear hfz19_2
  try clear hfz19_3
  try clear hfz19_4
  try clear hfz19_5
  try clear hfz21_0
  try clear hfz21_1
  try clear hfz21_2
  try clear hfz21_3
  try clear hfz21_4
  try clear hfz21_5
  try clear hfz22_0
  try clear hfz22_1
  try clear hfz22_2
  try clear hfz22_3
  try clear hfz22_4
  try clear hfz25_0
  try clear hfz25_1
  try clear hfz25_2
  try clear hfz25_3
  try clear hfz25_4
  try clear hfz25_5
  try clear hfz27_0
  try clear hfz27_1
  try clear hfz27_2
  try clear hfz27_3
  try clear hfz27_4
  try clear hfz27_5
  try clear hfz28_0
  try clear hfz28_1
  try clear hfz28_2
  try clear hfz28_3
  try clear hfz28_4
  try clear hfz31_0
  try clear hfz31_1
  try clear hfz31_2
  try clear hfz31_3
  try clear hfz31_4
  try clear hfz31_5
  try clear hfz33_0
  try clear hfz33_1
  try clear hfz33_2
  try clear hfz33_3
  try clear hfz33_4
  try clear hfz33_5
  try clear hfz34_0
  try clear hfz34_1
  try clear hfz34_2
  try clear hfz34_3
  try clear hfz34_4
  try clear hfz40_0
  try clear hfz40_1
  try clear hfz40_2
  try clear hfz40_3
  try clear hfz40_4
  try clear hfz40_5
  try clear hfz42_0
  try clear hfz42_1
  try clear hfz42_2
  try clear hfz42_3
  try clear hfz42_4
  try clear hfz42_5
  try clear hfz43_0
  try clear hfz43_1
  try clear hfz43_2
  try clear hfz43_3
  try clear hfz43_4
  try clear hfz45_0
  try clear hfz45_1
  try clear hfz45_2
  try clear hfz45_3
  try clear hfz45_4
  try clear hfz45_5
  try clear hfz47_0
  try clear hfz47_1
  try clear hfz47_2
  try clear hfz47_3
  try clear hfz47_4
  try clear hfz47_5
  try clear hfz48_0
  try clear hfz48_1
  try clear hfz48_2
  try clear hfz48_3
  try clear hfz48_4
  try clear hfz50_0
  try clear hfz50_1
  try clear hfz50_2
  try clear hfz50_3
  try clear hfz50_4
  try clear hfz50_5
  try clear hfz52_0
  try clear hfz52_1
  try clear hfz52_2
  try clear hfz52_3
  try clear hfz52_4
  try clear hfz52_5
  try clear hfz53_0
  try clear hfz53_1
  try clear hfz53_2
  try clear hfz53_3
  try clear hfz53_4
  try clear hfz55_0
  try clear hfz55_1
  try clear hfz55_2
  try clear hfz55_3
  try clear hfz55_4
  try clear hfz55_5
  try clear hfz57_0
  try clear hfz57_1
  try clear hfz57_2
  try clear hfz57_3
  try clear hfz57_4
  try clear hfz57_5
  try clear hfz58_0
  try clear hfz58_1
  try clear hfz58_2
  try clear hfz58_3
  try clear hfz58_4
  try clear hfz60_0
  try clear hfz60_1
  try clear hfz60_2
  try clear hfz60_3
  try clear hfz60_4
  try clear hfz60_5
  try clear hfz62_0
  try clear hfz62_1
  try clear hfz62_2
  try clear hfz62_3
  try clear hfz62_4
  try clear hfz62_5
  try clear hfz63_0
  try clear hfz63_1
  try clear hfz63_2
  try clear hfz63_3
  try clear hfz63_4
  try clear hfz65_0
  try clear hfz65_1
  try clear hfz65_2
  try clear hfz65_3
  try clear hfz65_4
  try clear hfz65_5
  try clear hfz9_0
  try clear hfz9_1
  try clear hfz9_2
  try clear hfz9_3
  try clear hfz9_4
  try clear q231
  obtain ⟨kq, HA, HJ3, BK223, BK230, HB⟩ := hcut
  cases kq with
  | zero => exact absurd HA.out (by simp [round_Cut.j0])
  | succ kj3 =>
   have H := HA.out
   clear HA
   simp only [round_Cut.j0] at H
   replace H := Option.bind_eq_some_iff.mp H
   obtain ⟨⟨t233, t234, t235, t236⟩, A670, H⟩ := H
   replace H : ((round_under.f t233 t234 (IntKind.u64.wrap (Go.bits .and .i64 a1_2 3)) 2 a1_5).bind fun bt238 => (if (a1_2 / 4) ≥ 0 then ((round_under.f bt238.1 bt238.2.1 0 1 bt238.2.2).bind fun bt241 => (round_Cut.l0 kj3 a0 bt241.2.2 (wrap64 ((a1_2 / 4) + 1)) 0 bt241.1 bt241.2.1)) else ((round_under.f bt238.1 bt238.2.1 1 1 bt238.2.2).bind fun bt247 => (round_Cut.l1 kj3 a0 bt247.2.2 (wrap64 (-(a1_2 / 4))) 0 bt247.1 bt247.2.1)))) = some (r1, r2, r3) := H
   have A67 := Aside0.mk A670
   clear A670
   replace H := Option.bind_eq_some_iff.mp H
   obtain ⟨⟨t238, t239, t240⟩, A680, H⟩ := H
   replace H : (if (a1_2 / 4) ≥ 0 then ((round_under.f t238 t239 0 1 t240).bind fun bt241 => (round_Cut.l0 kj3 a0 bt241.2.2 (wrap64 ((a1_2 / 4) + 1)) 0 bt241.1 bt241.2.1)) else ((round_under.f t238 t239 1 1 t240).bind fun bt247 => (round_Cut.l1 kj3 a0 bt247.2.2 (wrap64 (-(a1_2 / 4))) 0 bt247.1 bt247.2.1))) = some (r1, r2, r3) := H
   have A68 := Aside0.mk A680
   clear A680
   have HC69 := Aside0.mk H
   clear H
   have hnb70 := NB223_230.out
   have hnc70 := NB230_223.out
   have hcz71_0 := z4_ BK223.out 0 (.int .i64 a1_0) rfl
   have hcz71_1 := z4_ BK223.out 1 (.bool a1_1) rfl
   have hcz71_2 := z4_ BK223.out 2 (.int .i64 a1_2) rfl
   have hcz71_3 := z4_ BK223.out 3 (.int .u64 a1_3) rfl
   have hcz71_4 := z4_ BK223.out 4 (.int .u64 a1_4) rfl
   have hcz71_5 := z4_ BK223.out 5 (.bool a1_5) rfl
   have hfz71_0 := blk_frozen BK223.out 0
   have hfz71_1 := blk_frozen BK223.out 1
   have hfz71_2 := blk_frozen BK223.out 2
   have hfz71_3 := blk_frozen BK223.out 3
   have hfz71_4 := blk_frozen BK223.out 4
   have hfz71_5 := blk_frozen BK223.out 5
   go_upto_if 106 with (first | ((with_reducible refine gate_callee (f := 67) rfl ?_); refine goesL_ (some 86) rfl rfl Try.func67 (by kernel_rfl) rfl #[.agg #[.int .u64 a1_3, .int .u64 a1_4], .int .i64 1] rfl z5_ ?_; (with_reducible refine (twin_Shl.calls a1_3 a1_4 1 t233 t234 t235 t236 _ A67.out).mono ?_); rintro e w72 ⟨rfl, hb⟩; refine ⟨_, rfl, ?_⟩; have n0_ := Aside0.mk (blk_below (g := gb223) (z1_ BK223.out) hb); have n1_ := Aside0.mk (blk_below (g := gb230) (z1_ BK230.out) hb); have n2_ := Aside0.mk (below_step (z3_ HB.out) hb); clear BK223; clear BK230; clear HB; have BK223 := n0_; have BK230 := n1_; have HB := n2_; clear n0_ n1_ n2_; (try clear hb); (try clear hb2); (try clear hk); (try clear hi); (try simp only [errW_none, errW_some])) | ((with_reducible refine gate_dst (N := 9) rfl ?_); refine box_event ?hg (N := 9) ?hd (cs := #[.int .u64 0, .int .u64 0]) (t := 54) ?hr ?_; (case hd => rfl); (case hg => rfl); (case hr => first | (go_simp; done) | (go_simp; rfl)); intro gb237 hg w73 hbox hb; have n0_ := Aside0.mk (blk_below (g := gb223) (z1_ BK223.out) hb); have n1_ := Aside0.mk (blk_below (g := gb230) (z1_ BK230.out) hb); have n2_ := Aside0.mk (below_step (z3_ HB.out) hb); have n3_ := Aside0.mk (hbox); have n4_ := Aside0.mk ((by rw [hg]; exact (below_size (z3_ HB.out)) : w.heap.size ≤ gb237)); have n5_ := Aside0.mk ((by rw [hg]; exact (below_size (z3_ HB.out)) : w.heap.size ≤ gb237)); have n6_ := Aside0.mk ((by rw [hg]; exact Nat.ne_of_lt (blk_lt (g := gb223) (o := .cells #[.int .i64 a1_0, .bool a1_1, .int .i64 a1_2, .int .u64 a1_3, .int .u64 a1_4, .bool a1_5] 27 (0, 0)) (z1_ BK223.out)) : gb223 ≠ gb237)); have n7_ := Aside0.mk ((by rw [hg]; exact Nat.ne_of_gt (blk_lt (g := gb223) (o := .cells #[.int .i64 a1_0, .bool a1_1, .int .i64 a1_2, .int .u64 a1_3, .int .u64 a1_4, .bool a1_5] 27 (0, 0)) (z1_ BK223.out)) : gb237 ≠ gb223)); have n8_ := Aside0.mk ((by rw [hg]; exact Nat.ne_of_lt (blk_lt (g := gb230) (o := .cells #[.int .i64 t224, .int .u64 t225, .int .u64 t226, .int .u64 t227, .int .i64 t228] 98 (0, 0)) (z1_ BK230.out)) : gb230 ≠ gb237)); have n9_ := Aside0.mk ((by rw [hg]; exact Nat.ne_of_gt (blk_lt (g := gb230) (o := .cells #[.int .i64 t224, .int .u64 t225, .int .u64 t226, .int .u64 t227, .int .i64 t228] 98 (0, 0)) (z1_ BK230.out)) : gb237 ≠ gb230)); clear BK223; clear BK230; clear HB; have BK223 := n0_; have BK230 := n1_; have HB := n2_; have BK237 := n3_; have GW237 := n4_; have GE237 := n5_; have NB223_237 := n6_; have NB237_223 := n7_; have NB230_237 := n8_; have NB237_230 := n9_; clear n0_ n1_ n2_ n3_ n4_ n5_ n6_ n7_ n8_ n9_; clear hb hbox hg; have hnb74 := NB237_223.out; have hnc74 := NB223_237.out; have hnb75 := NB237_230.out; have hnc75 := NB230_237.out; have hcz76_0 := z4_ BK237.out 0 (.int .u64 0) rfl; have hcz76_1 := z4_ BK237.out 1 (.int .u64 0) rfl; have hfz76_0 := blk_frozen BK237.out 0; have hfz76_1 := blk_frozen BK237.out 1; have hcz77_0 := z4_ BK223.out 0 (.int .i64 a1_0) rfl; have hcz77_1 := z4_ BK223.out 1 (.bool a1_1) rfl; have hcz77_2 := z4_ BK223.out 2 (.int .i64 a1_2) rfl; have hcz77_3 := z4_ BK223.out 3 (.int .u64 a1_3) rfl; have hcz77_4 := z4_ BK223.out 4 (.int .u64 a1_4) rfl; have hcz77_5 := z4_ BK223.out 5 (.bool a1_5) rfl; have hfz77_0 := blk_frozen BK223.out 0; have hfz77_1 := blk_frozen BK223.out 1; have hfz77_2 := blk_frozen BK223.out 2; have hfz77_3 := blk_frozen BK223.out 3; have hfz77_4 := blk_frozen BK223.out 4; have hfz77_5 := blk_frozen BK223.out 5) | ((with_reducible refine gate_callee (f := 68) rfl ?_); refine goesL_ (some 102) rfl rfl Try.func68 (by kernel_rfl) rfl #[.agg #[.int .u64 t233, .int .u64 t234], .int .u64 (IntKind.u64.wrap (Go.bits .and .i64 a1_2 3)), .int .i64 2, .bool a1_5] rfl z5_ ?_; (with_reducible refine (round_under.calls t233 t234 (IntKind.u64.wrap (Go.bits .and .i64 a1_2 3)) 2 a1_5 t238 t239 t240 _ A68.out).mono ?_); rintro e w78 ⟨rfl, hb⟩; refine ⟨_, rfl, ?_⟩; have n0_ := Aside0.mk (blk_below (g := gb223) (o := .cells #[.int .i64 a1_0, .bool a1_1, .int .i64 a1_2, .int .u64 a1_3, .int .u64 a1_4, .bool a1_5] 27 (0, 0)) (by refine z2_ ?_; refine blk_far ?_ NB223_237.out _; refine z2_ ?_; refine blk_far ?_ NB223_237.out _; refine z2_ ?_; exact BK223.out) hb); have n1_ := Aside0.mk (blk_below (g := gb230) (o := .cells #[.int .i64 t224, .int .u64 t225, .int .u64 t226, .int .u64 t227, .int .i64 t228] 98 (0, 0)) (by refine z2_ ?_; refine blk_far ?_ NB230_237.out _; refine z2_ ?_; refine blk_far ?_ NB230_237.out _; refine z2_ ?_; exact BK230.out) hb); have n2_ := Aside0.mk (blk_below (g := gb237) (o := .cells #[.int .u64 t233, .int .u64 t234] 54 (0, 0)) (by refine z2_ ?_; refine blk_put (cs := #[.int .u64 t233, .int .u64 0]) ?_ 1 _ rfl; refine z2_ ?_; refine blk_put (cs := #[.int .u64 0, .int .u64 0]) ?_ 0 _ rfl; refine z2_ ?_; exact BK237.out) hb); have n3_ := Aside0.mk (below_step (z3_ HB.out) hb); clear BK223; clear BK230; clear BK237; clear HB; have BK223 := n0_; have BK230 := n1_; have BK237 := n2_; have HB := n3_; clear n0_ n1_ n2_ n3_; (try clear hb); (try clear hb2); (try clear hk); (try clear hi); have hcz79_0 := z4_ BK237.out 0 (.int .u64 t233) rfl; have hcz79_1 := z4_ BK237.out 1 (.int .u64 t234) rfl; have hfz79_0 := blk_frozen BK237.out 0; have hfz79_1 := blk_frozen BK237.out 1))
   (try simp only [Act.put, List.setIfInBounds_toArray, List.set_cons_zero, List.set_cons_succ])
   go_cut [12] (fun v12 wc => ∃ (kq : Nat) (x12_68 : Bool) (x238000_68 : Int) (x238001_68 : Int), v12 = .bool x12_68 ∧ Aside0 (round_Cut.j3 kq a0 x12_68 x238000_68 x238001_68 = some (r1, r2, r3)) ∧ Aside0 (kq ≤ kj3) ∧ Aside0 (wc.heap[gb223]? = some (.cells #[.int .i64 a1_0, .bool a1_1, .int .i64 a1_2, .int .u64 a1_3, .int .u64 a1_4, .bool a1_5] 27 (0, 0))) ∧ Aside0 (wc.heap[gb230]? = some (.cells #[.int .i64 t224, .int .u64 t225, .int .u64 t226, .int .u64 t227, .int .i64 t228] 98 (0, 0))) ∧ Aside0 (wc.heap[gb237]? = some (.cells #[.int .u64 x238000_68, .int .u64 x238001_68] 54 (0, 0))) ∧ Aside0 (Below w.heap.size w wc))
   case first =>
    have H := HC69.out
    clear HC69
    by_cases c80 : (a1_2 / 4) ≥ 0
    ·rw [if_pos c80] at H
     have c80b0 : decide (0 ≤ (a1_2 / 4)) = true := decide_eq_true c80
     clear c80
     (first | rw [c80b0] | (simp only [i64_w, i32_w]; rw [c80b0]) | skip)
     replace H := Option.bind_eq_some_iff.mp H
     obtain ⟨⟨t241, t242, t243⟩, A810, H⟩ := H
     replace H : (round_Cut.l0 kj3 a0 t243 (wrap64 ((a1_2 / 4) + 1)) 0 t241 t242) = some (r1, r2, r3) := H
     have A81 := Aside0.mk A810
     clear A810
     have H' := Aside0.mk H
     clear H
     have hnb82 := NB237_223.out
     have hnc82 := NB223_237.out
     have hnb83 := NB237_230.out
     have hnc83 := NB230_237.out
     have hcz84_0 := z4_ BK237.out 0 (.int .u64 t233) rfl
     have hcz84_1 := z4_ BK237.out 1 (.int .u64 t234) rfl
     have hfz84_0 := blk_frozen BK237.out 0
     have hfz84_1 := blk_frozen BK237.out 1
     go_wp2_with (first | ((with_reducible refine gate_callee (f := 68) rfl ?_); refine goesL_ (some 110) rfl rfl Try.func68 (by kernel_rfl) rfl #[.agg #[.int .u64 t238, .int .u64 t239], .int .u64 0, .int .i64 1, .bool t240] rfl z5_ ?_; (with_reducible refine (round_under.calls t238 t239 0 1 t240 t241 t242 t243 _ A81.out).mono ?_); rintro e w85 ⟨rfl, hb⟩; refine ⟨_, rfl, ?_⟩; have n0_ := Aside0.mk (blk_below (g := gb223) (o := .cells #[.int .i64 a1_0, .bool a1_1, .int .i64 a1_2, .int .u64 a1_3, .int .u64 a1_4, .bool a1_5] 27 (0, 0)) (by refine z2_ ?_; refine blk_far ?_ NB223_237.out _; refine z2_ ?_; refine blk_far ?_ NB223_237.out _; refine z2_ ?_; exact BK223.out) hb); have n1_ := Aside0.mk (blk_below (g := gb230) (o := .cells #[.int .i64 t224, .int .u64 t225, .int .u64 t226, .int .u64 t227, .int .i64 t228] 98 (0, 0)) (by refine z2_ ?_; refine blk_far ?_ NB230_237.out _; refine z2_ ?_; refine blk_far ?_ NB230_237.out _; refine z2_ ?_; exact BK230.out) hb); have n2_ := Aside0.mk (blk_below (g := gb237) (o := .cells #[.int .u64 t238, .int .u64 t239] 54 (0, 0)) (by refine z2_ ?_; refine blk_put (cs := #[.int .u64 t238, .int .u64 t234]) ?_ 1 _ rfl; refine z2_ ?_; refine blk_put (cs := #[.int .u64 t233, .int .u64 t234]) ?_ 0 _ rfl; refine z2_ ?_; exact BK237.out) hb); have n3_ := Aside0.mk (below_step (z3_ HB.out) hb); clear BK223; clear BK230; clear BK237; clear HB; have BK223 := n0_; have BK230 := n1_; have BK237 := n2_; have HB := n3_; clear n0_ n1_ n2_ n3_; (try clear hb); (try clear hb2); (try clear hk); (try clear hi); have hcz86_0 := z4_ BK237.out 0 (.int .u64 t238) rfl; have hcz86_1 := z4_ BK237.out 1 (.int .u64 t239) rfl; have hfz86_0 := blk_frozen BK237.out 0; have hfz86_1 := blk_frozen BK237.out 1))
     go_loopg [12, 115] kj3 (fun kq v12 v115 w' => ∃ (x12_2 : Bool) (x115_2 : Int) (x238000_2 : Int) (x238001_2 : Int), v12 = .bool x12_2 ∧ v115 = .int .i64 x115_2 ∧ Aside0 (round_Cut.l0 kq a0 x12_2 (wrap64 ((a1_2 / 4) + 1)) x115_2 x238000_2 x238001_2 = some (r1, r2, r3)) ∧ Aside0 (kq ≤ kj3) ∧ Aside0 (w'.heap[gb223]? = some (.cells #[.int .i64 a1_0, .bool a1_1, .int .i64 a1_2, .int .u64 a1_3, .int .u64 a1_4, .bool a1_5] 27 (0, 0))) ∧ Aside0 (w'.heap[gb230]? = some (.cells #[.int .i64 t224, .int .u64 t225, .int .u64 t226, .int .u64 t227, .int .i64 t228] 98 (0, 0))) ∧ Aside0 (w'.heap[gb237]? = some (.cells #[.int .u64 x238000_2, .int .u64 x238001_2] 54 (0, 0))) ∧ Aside0 (Below w.heap.size w w'))
     case atStart => exact ⟨(t243), (0), (t241), (t242), (by first | rfl | (simp; done) | (simp [*]; done)), (by first | rfl | (simp; done) | (simp [*]; done)), H', ⟨Nat.le_refl _⟩, ⟨by refine z2_ ?_; refine blk_far ?_ NB223_237.out _; refine z2_ ?_; refine blk_far ?_ NB223_237.out _; refine z2_ ?_; exact BK223.out⟩, ⟨by refine z2_ ?_; refine blk_far ?_ NB230_237.out _; refine z2_ ?_; refine blk_far ?_ NB230_237.out _; refine z2_ ?_; exact BK230.out⟩, ⟨by refine z2_ ?_; refine blk_put (cs := #[.int .u64 t241, .int .u64 t239]) ?_ 1 _ rfl; refine z2_ ?_; refine blk_put (cs := #[.int .u64 t238, .int .u64 t239]) ?_ 0 _ rfl; refine z2_ ?_; exact BK237.out⟩, ⟨by repeat (first | (with_reducible first | exact HB.out | apply below_alloc | apply pw_below_drewN | apply below_drew1 | refine below_set ?_ GE223.out | refine below_set ?_ GE230.out | refine below_set ?_ GE237.out) | exact HB.out)⟩⟩
     case round =>
      clear H'
      try clear c1
      try clear c2
      try clear p2
      try clear q2
      try clear c3
      try clear c4
      try clear c5
      try clear c6
      try clear p6
      try clear c7
      try clear c8
      try clear c11
      try clear c12
      try clear c12b0
      try clear c12b1
      try clear c13
      try clear c17
      try clear c17b0
      try clear c17b1
      try clear c18
      try clear c23
      try clear c23b0
      try clear q23
      try clear c24
      try clear c29
      try clear c29b0
      try clear c30
      try clear c35
      try clear c35b0
      try clear c35b1
      try clear c36
      try clear c36b0
      try clear c36b1
      try clear c37
      try clear c37b0
      try clear c37b1
      try clear c38
      try clear c39
      try clear c44
      try clear c49
      try clear c54
      try clear c56
      try clear c59
      try clear c64
      try clear p64
      try clear c67
      try clear c68
      try clear c70
      try clear c74
      try clear c75
      try clear c80
      try clear c80b0
      try clear c82
      try clear c83
      try clear hcz14_0
      try clear hcz14_1
      try clear hcz14_2
      try clear hcz14_3
      try clear hcz14_4
      try clear hcz14_5
      try clear hcz16_0
      try clear hcz16_1
      try clear hcz16_2
      try clear hcz16_3
      try clear hcz16_4
      try clear hcz16_5
      try clear hcz19_0
      try clear hcz19_1
      try clear hcz19_2
      try clear hcz19_3
      try clear hcz19_4
      try clear hcz19_5
      try clear hcz21_0
      try clear hcz21_1
      try clear hcz21_2
      try clear hcz21_3
      try clear hcz21_4
      try clear hcz21_5
      try clear hcz22_0
      try clear hcz22_1
      try clear hcz22_2
      try clear hcz22_3
      try clear hcz22_4
      try clear hcz25_0
      try clear hcz25_1
      try clear hcz25_2
      try clear hcz25_3
      try clear hcz25_4
      try clear hcz25_5
      try clear hcz27_0
      try clear hcz27_1
      try clear hcz27_2
      try clear hcz27_3
      try clear hcz27_4
      try clear hcz27_5
      try clear hcz28_0
      try clear hcz28_1
      try clear hcz28_2
      try clear hcz28_3
      try clear hcz28_4
      try clear hcz31_0
      try clear hcz31_1
      try clear hcz31_2
      try clear hcz31_3
      try clear hcz31_4
      try clear hcz31_5
      try clear hcz33_0
      try clear hcz33_1
      try clear hcz33_2
      try clear hcz33_3
      try clear hcz33_4
      try clear hcz33_5
      try clear hcz34_0
      try clear hcz34_1
      try clear hcz34_2
      try clear hcz34_3
      try clear hcz34_4
      try clear hcz40_0
      try clear hcz40_1
      try clear hcz40_2
      try clear hcz40_3
      try clear hcz40_4
      try clear hcz40_5
      try clear hcz42_0
      try clear hcz42_1
      try clear hcz42_2
      try clear hcz42_3
      try clear hcz42_4
      try clear hcz42_5
      try clear hcz43_0
      try clear hcz43_1
      try clear hcz43_2
      try clear hcz43_3
      try clear hcz43_4
      try clear hcz45_0
      try clear hcz45_1
      try clear hcz45_2
      try clear hcz45_3
      try clear hcz45_4
      try clear hcz45_5
      try clear hcz47_0
      try clear hcz47_1
      try clear hcz47_2
      try clear hcz47_3
      try clear hcz47_4
      try clear hcz47_5
      try clear hcz48_0
      try clear hcz48_1
      try clear hcz48_2
      try clear hcz48_3
      try clear hcz48_4
      try clear hcz50_0
      try clear hcz50_1
      try clear hcz50_2
      try clear hcz50_3
      try clear hcz50_4
      try clear hcz50_5
      try clear hcz52_0
      try clear hcz52_1
      try clear hcz52_2
      try clear hcz52_3
      try clear hcz52_4
      try clear hcz52_5
      try clear hcz53_0
      try clear hcz53_1
      try clear hcz53_2
      try clear hcz53_3
      try clear hcz53_4
      try clear hcz55_0
      try clear hcz55_1
      try clear hcz55_2
      try clear hcz55_3
      try clear hcz55_4
      try clear hcz55_5
      try clear hcz57_0
      try clear hcz57_1
      try clear hcz57_2
      try clear hcz57_3
      try clear hcz57_4
      try clear hcz57_5
      try clear hcz58_0
      try clear hcz58_1
      try clear hcz58_2
      try clear hcz58_3
      try clear hcz58_4
      try clear hcz60_0
      try clear hcz60_1
      try clear hcz60_2
      try clear hcz60_3
      try clear hcz60_4
      try clear hcz60_5
      try clear hcz62_0
      try clear hcz62_1
      try clear hcz62_2
      try clear hcz62_3
      try clear hcz62_4
      try clear hcz62_5
      try clear hcz63_0
      try clear hcz63_1
      try clear hcz63_2
      try clear hcz63_3
      try clear hcz63_4
      try clear hcz65_0
      try clear hcz65_1
      try clear hcz65_2
      try clear hcz65_3
      try clear hcz65_4
      try clear hcz65_5
      try clear hcz71_0
      try clear hcz71_1
      try clear hcz71_2
      try clear hcz71_3
      try clear hcz71_4
      try clear hcz71_5
      try clear hcz76_0
      try clear hcz76_1
      try clear hcz77_0
      try clear hcz77_1
      try clear hcz77_2
      try clear hcz77_3
      try clear hcz77_4
      try clear hcz77_5
      try clear hcz79_0
      try clear hcz79_1
      try clear hcz84_0
      try clear hcz84_1
      try clear hcz86_0
      try clear hcz86_1
      try clear hcz9_0
      try clear hcz9_1
      try clear hcz9_2
      try clear hcz9_3
      try clear hcz9_4
      try clear hfz14_0
      try clear hfz14_1
      try clear hfz14_2
      try clear hfz14_3
      try clear hfz14_4
      try clear hfz14_5
      try clear hfz16_0
      try clear hfz16_1
      try clear hfz16_2
      try clear hfz16_3
      try clear hfz16_4
      try clear hfz16_5
      try clear hfz19_0
      try clear hfz19_1
      try clear hfz19_2
      try clear hfz19_3
      try clear hfz19_4
      try clear hfz19_5
      try clear hfz21_0
      try clear hfz21_1
      try clear hfz21_2
      try clear hfz21_3
      try clear hfz21_4
      try clear hfz21_5
      try clear hfz22_0
      try clear hfz22_1
      try clear hfz22_2
      try clear hfz22_3
      try clear hfz22_4
      try clear hfz25_0
      try clear hfz25_1
      try clear hfz25_2
      try clear hfz25_3
      try clear hfz25_4
      try clear hfz25_5
      try clear hfz27_0
      try clear hfz27_1
      try clear hfz27_2
      try clear hfz27_3
      try clear hfz27_4
      try clear hfz27_5
      try clear hfz28_0
      try clear hfz28_1
      try clear hfz28_2
      try clear hfz28_3
      try clear hfz28_4
      try clear hfz31_0
      try clear hfz31_1
      try clear hfz31_2
      try clear hfz31_3
      try clear hfz31_4
      try clear hfz31_5
      try clear hfz33_0
      try clear hfz33_1
      try clear hfz33_2
      try clear hfz33_3
      try clear hfz33_4
      try clear hfz33_5
      try clear hfz34_0
      try clear hfz34_1
      try clear hfz34_2
      try clear hfz34_3
      try clear hfz34_4
      try clear hfz40_0
      try clear hfz40_1
      try clear hfz40_2
      try clear hfz40_3
      try clear hfz40_4
      try clear hfz40_5
      try clear hfz42_0
      try clear hfz42_1
      try clear hfz42_2
      try clear hfz42_3
      try clear hfz42_4
      try clear hfz42_5
      try clear hfz43_0
      try clear hfz43_1
      try clear hfz43_2
      try clear hfz43_3
      try clear hfz43_4
      try clear hfz45_0
      try clear hfz45_1
      try clear hfz45_2
      try clear hfz45_3
      try clear hfz45_4
      try clear hfz45_5
      try clear hfz47_0
      try clear hfz47_1
      try clear hfz47_2
      try clear hfz47_3
      try clear hfz47_4
      try clear hfz47_5
      try clear hfz48_0
      try clear hfz48_1
      try clear hfz48_2
      try clear hfz48_3
      try clear hfz48_4
      try clear hfz50_0
      try clear hfz50_1
      try clear hfz50_2
      try clear hfz50_3
      try clear hfz50_4
      try clear hfz50_5
      try clear hfz52_0
      try clear hfz52_1
      try clear hfz52_2
      try clear hfz52_3
      try clear hfz52_4
      try clear hfz52_5
      try clear hfz53_0
      try clear hfz53_1
      try clear hfz53_2
      try clear hfz53_3
      try clear hfz53_4
      try clear hfz55_0
      try clear hfz55_1
      try clear hfz55_2
      try clear hfz55_3
      try clear hfz55_4
      try clear hfz55_5
      try clear hfz57_0
      try clear hfz57_1
      try clear hfz57_2
      try clear hfz57_3
      try clear hfz57_4
      try clear hfz57_5
      try clear hfz58_0
      try clear hfz58_1
      try clear hfz58_2
      try clear hfz58_3
      try clear hfz58_4
      try clear hfz60_0
      try clear hfz60_1
      try clear hfz60_2
      try clear hfz60_3
      try clear hfz60_4
      try clear hfz60_5
      try clear hfz62_0
      try clear hfz62_1
      try clear hfz62_2
      try clear hfz62_3
      try clear hfz62_4
      try clear hfz62_5
      try clear hfz63_0
      try clear hfz63_1
      try clear hfz63_2
      try clear hfz63_3
      try clear hfz63_4
      try clear hfz65_0
      try clear hfz65_1
      try clear hfz65_2
      try clear hfz65_3
      try clear hfz65_4
      try clear hfz65_5
      try clear hfz71_0
      try clear hfz71_1
      try clear hfz71_2
      try clear hfz71_3
      try clear hfz71_4
      try clear hfz71_5
      try clear hfz76_0
      try clear hfz76_1
      try clear hfz77_0
      try clear hfz77_1
      try clear hfz77_2
      try clear hfz77_3
      try clear hfz77_4
      try clear hfz77_5
      try clear hfz79_0
      try clear hfz79_1
      try clear hfz84_0
      try clear hfz84_1
      try clear hfz86_0
      try clear hfz86_1
      try clear hfz9_0
      try clear hfz9_1
      try clear hfz9_2
      try clear hfz9_3
      try clear hfz9_4
      try clear p2
      try clear p6
      try clear p64
      try clear q2
      try clear q23
      try clear q231
      obtain ⟨x12_2, x115_2, x238000_2, x238001_2, rfl, rfl, HA, HK2, BK223, BK230, BK237, HB⟩ := hrel
      cases gk with
      | zero => exact absurd HA.out (by simp [round_Cut.l0])
      | succ k2 =>
       have H := HA.out
       clear HA
       simp only [round_Cut.l0] at H
       by_cases c87 : x115_2 < (wrap64 ((a1_2 / 4) + 1))
       ·rw [if_pos c87] at H
        have c87b0 : decide (x115_2 < (wrap64 ((a1_2 / 4) + 1))) = true := decide_eq_true c87
        clear c87
        replace H := Option.bind_eq_some_iff.mp H
        obtain ⟨⟨t244, t245, t246⟩, A880, H⟩ := H
        replace H : (round_Cut.l0 k2 a0 t246 (wrap64 ((a1_2 / 4) + 1)) (wrap64 (x115_2 + 1)) t244 t245) = some (r1, r2, r3) := H
        have A88 := Aside0.mk A880
        clear A880
        have H' := Aside0.mk H
        clear H
        have hnb89 := NB237_223.out
        have hnc89 := NB223_237.out
        have hnb90 := NB237_230.out
        have hnc90 := NB230_237.out
        have hcz91_0 := z4_ BK237.out 0 (.int .u64 x238000_2) rfl
        have hcz91_1 := z4_ BK237.out 1 (.int .u64 x238001_2) rfl
        have hfz91_0 := blk_frozen BK237.out 0
        have hfz91_1 := blk_frozen BK237.out 1
        go_wp2_with (first | ((with_reducible refine gate_callee (f := 68) rfl ?_); refine goesL_ (some 120) rfl rfl Try.func68 (by kernel_rfl) rfl #[.agg #[.int .u64 x238000_2, .int .u64 x238001_2], .int .u64 1, .int .i64 1, .bool x12_2] rfl z5_ ?_; (with_reducible refine (round_under.calls x238000_2 x238001_2 1 1 x12_2 t244 t245 t246 _ A88.out).mono ?_); rintro e w92 ⟨rfl, hb⟩; refine ⟨_, rfl, ?_⟩; have n0_ := Aside0.mk (blk_below (g := gb223) (z1_ BK223.out) hb); have n1_ := Aside0.mk (blk_below (g := gb230) (z1_ BK230.out) hb); have n2_ := Aside0.mk (blk_below (g := gb237) (z1_ BK237.out) hb); have n3_ := Aside0.mk (below_step (z3_ HB.out) hb); clear BK223; clear BK230; clear BK237; clear HB; have BK223 := n0_; have BK230 := n1_; have BK237 := n2_; have HB := n3_; clear n0_ n1_ n2_ n3_; (try clear hb); (try clear hb2); (try clear hk); (try clear hi); have hcz93_0 := z4_ BK237.out 0 (.int .u64 x238000_2) rfl; have hcz93_1 := z4_ BK237.out 1 (.int .u64 x238001_2) rfl; have hfz93_0 := blk_frozen BK237.out 0; have hfz93_1 := blk_frozen BK237.out 1))
        go_roundg k2
        case measure => have := HJ3.out; have := HK2.out; omega
        case rel => exact ⟨(t246), (wrap64 (x115_2 + 1)), (t244), (t245), (by first | rfl | (simp; done) | (simp [*]; done)), (by first | rfl | (simp; done) | (simp [*]; done)), H', ⟨by have := HJ3.out; have := HK2.out; omega⟩, ⟨by refine z2_ ?_; refine blk_far ?_ NB223_237.out _; refine z2_ ?_; refine blk_far ?_ NB223_237.out _; refine z2_ ?_; exact BK223.out⟩, ⟨by refine z2_ ?_; refine blk_far ?_ NB230_237.out _; refine z2_ ?_; refine blk_far ?_ NB230_237.out _; refine z2_ ?_; exact BK230.out⟩, ⟨by refine z2_ ?_; refine blk_put (cs := #[.int .u64 t244, .int .u64 x238001_2]) ?_ 1 _ rfl; refine z2_ ?_; refine blk_put (cs := #[.int .u64 x238000_2, .int .u64 x238001_2]) ?_ 0 _ rfl; refine z2_ ?_; exact BK237.out⟩, ⟨by repeat (first | (with_reducible first | exact HB.out | apply below_alloc | apply pw_below_drewN | apply below_drew1 | refine below_set ?_ GE223.out | refine below_set ?_ GE230.out | refine below_set ?_ GE237.out) | exact HB.out)⟩⟩
       ·rw [if_neg c87] at H
        have c87b0 : decide (x115_2 < (wrap64 ((a1_2 / 4) + 1))) = false := decide_eq_false c87
        clear c87
        have H' := Aside0.mk H
        clear H
        go_wp2
        go_meet
        case rel => exact ⟨_, (x12_2), (x238000_2), (x238001_2), (by first | rfl | (simp; done) | (simp [*]; done)), H', ⟨by have := HJ3.out; have := HK2.out; first | omega | exact Nat.le_refl _⟩, ⟨by refine z2_ ?_; exact BK223.out⟩, ⟨by refine z2_ ?_; exact BK230.out⟩, ⟨by refine z2_ ?_; exact BK237.out⟩, ⟨by repeat (first | (with_reducible first | exact HB.out | apply below_alloc | apply pw_below_drewN | apply below_drew1 | refine below_set ?_ GE223.out | refine below_set ?_ GE230.out | refine below_set ?_ GE237.out) | exact HB.out)⟩⟩
    ·rw [if_neg c80] at H
     have c80b0 : decide (0 ≤ (a1_2 / 4)) = false := decide_eq_false c80
     clear c80
     (first | rw [c80b0] | (simp only [i64_w, i32_w]; rw [c80b0]) | skip)
     replace H := Option.bind_eq_some_iff.mp H
     obtain ⟨⟨t247, t248, t249⟩, A940, H⟩ := H
     replace H : (round_Cut.l1 kj3 a0 t249 (wrap64 (-(a1_2 / 4))) 0 t247 t248) = some (r1, r2, r3) := H
     have A94 := Aside0.mk A940
     clear A940
     have H' := Aside0.mk H
     clear H
     have hnb95 := NB237_223.out
     have hnc95 := NB223_237.out
     have hnb96 := NB237_230.out
     have hnc96 := NB230_237.out
     have hcz97_0 := z4_ BK237.out 0 (.int .u64 t233) rfl
     have hcz97_1 := z4_ BK237.out 1 (.int .u64 t234) rfl
     have hfz97_0 := blk_frozen BK237.out 0
     have hfz97_1 := blk_frozen BK237.out 1
     go_wp2_with (first | ((with_reducible refine gate_callee (f := 68) rfl ?_); refine goesL_ (some 127) rfl rfl Try.func68 (by kernel_rfl) rfl #[.agg #[.int .u64 t238, .int .u64 t239], .int .u64 1, .int .i64 1, .bool t240] rfl z5_ ?_; (with_reducible refine (round_under.calls t238 t239 1 1 t240 t247 t248 t249 _ A94.out).mono ?_); rintro e w98 ⟨rfl, hb⟩; refine ⟨_, rfl, ?_⟩; have n0_ := Aside0.mk (blk_below (g := gb223) (o := .cells #[.int .i64 a1_0, .bool a1_1, .int .i64 a1_2, .int .u64 a1_3, .int .u64 a1_4, .bool a1_5] 27 (0, 0)) (by refine z2_ ?_; refine blk_far ?_ NB223_237.out _; refine z2_ ?_; refine blk_far ?_ NB223_237.out _; refine z2_ ?_; exact BK223.out) hb); have n1_ := Aside0.mk (blk_below (g := gb230) (o := .cells #[.int .i64 t224, .int .u64 t225, .int .u64 t226, .int .u64 t227, .int .i64 t228] 98 (0, 0)) (by refine z2_ ?_; refine blk_far ?_ NB230_237.out _; refine z2_ ?_; refine blk_far ?_ NB230_237.out _; refine z2_ ?_; exact BK230.out) hb); have n2_ := Aside0.mk (blk_below (g := gb237) (o := .cells #[.int .u64 t238, .int .u64 t239] 54 (0, 0)) (by refine z2_ ?_; refine blk_put (cs := #[.int .u64 t238, .int .u64 t234]) ?_ 1 _ rfl; refine z2_ ?_; refine blk_put (cs := #[.int .u64 t233, .int .u64 t234]) ?_ 0 _ rfl; refine z2_ ?_; exact BK237.out) hb); have n3_ := Aside0.mk (below_step (z3_ HB.out) hb); clear BK223; clear BK230; clear BK237; clear HB; have BK223 := n0_; have BK230 := n1_; have BK237 := n2_; have HB := n3_; clear n0_ n1_ n2_ n3_; (try clear hb); (try clear hb2); (try clear hk); (try clear hi); have hcz99_0 := z4_ BK237.out 0 (.int .u64 t238) rfl; have hcz99_1 := z4_ BK237.out 1 (.int .u64 t239) rfl; have hfz99_0 := blk_frozen BK237.out 0; have hfz99_1 := blk_frozen BK237.out 1))
     go_loopg [12, 132] kj3 (fun kq v12 v132 w' => ∃ (x12_2 : Bool) (x132_2 : Int) (x238000_2 : Int) (x238001_2 : Int), v12 = .bool x12_2 ∧ v132 = .int .i64 x132_2 ∧ Aside0 (round_Cut.l1 kq a0 x12_2 (wrap64 (-(a1_2 / 4))) x132_2 x238000_2 x238001_2 = some (r1, r2, r3)) ∧ Aside0 (kq ≤ kj3) ∧ Aside0 (w'.heap[gb223]? = some (.cells #[.int .i64 a1_0, .bool a1_1, .int .i64 a1_2, .int .u64 a1_3, .int .u64 a1_4, .bool a1_5] 27 (0, 0))) ∧ Aside0 (w'.heap[gb230]? = some (.cells #[.int .i64 t224, .int .u64 t225, .int .u64 t226, .int .u64 t227, .int .i64 t228] 98 (0, 0))) ∧ Aside0 (w'.heap[gb237]? = some (.cells #[.int .u64 x238000_2, .int .u64 x238001_2] 54 (0, 0))) ∧ Aside0 (Below w.heap.size w w'))
     case atStart => exact ⟨(t249), (0), (t247), (t248), (by first | rfl | (simp; done) | (simp [*]; done)), (by first | rfl | (simp; done) | (simp [*]; done)), H', ⟨Nat.le_refl _⟩, ⟨by refine z2_ ?_; refine blk_far ?_ NB223_237.out _; refine z2_ ?_; refine blk_far ?_ NB223_237.out _; refine z2_ ?_; exact BK223.out⟩, ⟨by refine z2_ ?_; refine blk_far ?_ NB230_237.out _; refine z2_ ?_; refine blk_far ?_ NB230_237.out _; refine z2_ ?_; exact BK230.out⟩, ⟨by refine z2_ ?_; refine blk_put (cs := #[.int .u64 t247, .int .u64 t239]) ?_ 1 _ rfl; refine z2_ ?_; refine blk_put (cs := #[.int .u64 t238, .int .u64 t239]) ?_ 0 _ rfl; refine z2_ ?_; exact BK237.out⟩, ⟨by repeat (first | (with_reducible first | exact HB.out | apply below_alloc | apply pw_below_drewN | apply below_drew1 | refine below_set ?_ GE223.out | refine below_set ?_ GE230.out | refine below_set ?_ GE237.out) | exact HB.out)⟩⟩
     case round =>
      clear H'
      try clear c1
      try clear c2
      try clear p2
      try clear q2
      try clear c3
      try clear c4
      try clear c5
      try clear c6
      try clear p6
      try clear c7
      try clear c8
      try clear c9
      try clear c11
      try clear c12
      try clear c12b0
      try clear c12b1
      try clear c13
      try clear c17
      try clear c17b0
      try clear c17b1
      try clear c18
      try clear c23
      try clear c23b0
      try clear q23
      try clear c24
      try clear c29
      try clear c29b0
      try clear c30
      try clear c35
      try clear c35b0
      try clear c35b1
      try clear c36
      try clear c36b0
      try clear c36b1
      try clear c37
      try clear c37b0
      try clear c37b1
      try clear c38
      try clear c39
      try clear c44
      try clear c49
      try clear c54
      try clear c56
      try clear c59
      try clear c64
      try clear p64
      try clear c67
      try clear c68
      try clear c70
      try clear c74
      try clear c75
      try clear c80
      try clear c80b0
      try clear c82
      try clear c83
      try clear c87
      try clear c87b0
      try clear c89
      try clear c90
      try clear c95
      try clear c96
      try clear hcz14_0
      try clear hcz14_1
      try clear hcz14_2
      try clear hcz14_3
      try clear hcz14_4
      try clear hcz14_5
      try clear hcz16_0
      try clear hcz16_1
      try clear hcz16_2
      try clear hcz16_3
      try clear hcz16_4
      try clear hcz16_5
      try clear hcz19_0
      try clear hcz19_1
      try clear hcz19_2
      try clear hcz19_3
      try clear hcz19_4
      try clear hcz19_5
      try clear hcz21_0
      try clear hcz21_1
      try clear hcz21_2
      try clear hcz21_3
      try clear hcz21_4
      try clear hcz21_5
      try clear hcz22_0
      try clear hcz22_1
      try clear hcz22_2
      try clear hcz22_3
      try clear hcz22_4
      try clear hcz25_0
      try clear hcz25_1
      try clear hcz25_2
      try clear hcz25_3
      try clear hcz25_4
      try clear hcz25_5
      try clear hcz27_0
      try clear hcz27_1
      try clear hcz27_2
      try clear hcz27_3
      try clear hcz27_4
      try clear hcz27_5
      try clear hcz28_0
      try clear hcz28_1
      try clear hcz28_2
      try clear hcz28_3
      try clear hcz28_4
      try clear hcz31_0
      try clear hcz31_1
      try clear hcz31_2
      try clear hcz31_3
      try clear hcz31_4
      try clear hcz31_5
      try clear hcz33_0
      try clear hcz33_1
      try clear hcz33_2
      try clear hcz33_3
      try clear hcz33_4
      try clear hcz33_5
      try clear hcz34_0
      try clear hcz34_1
      try clear hcz34_2
      try clear hcz34_3
      try clear hcz34_4
      try clear hcz40_0
      try clear hcz40_1
      try clear hcz40_2
      try clear hcz40_3
      try clear hcz40_4
      try clear hcz40_5
      try clear hcz42_0
      try clear hcz42_1
      try clear hcz42_2
      try clear hcz42_3
      try clear hcz42_4
      try clear hcz42_5
      try clear hcz43_0
      try clear hcz43_1
      try clear hcz43_2
      try clear hcz43_3
      try clear hcz43_4
      try clear hcz45_0
      try clear hcz45_1
      try clear hcz45_2
      try clear hcz45_3
      try clear hcz45_4
      try clear hcz45_5
      try clear hcz47_0
      try clear hcz47_1
      try clear hcz47_2
      try clear hcz47_3
      try clear hcz47_4
      try clear hcz47_5
      try clear hcz48_0
      try clear hcz48_1
      try clear hcz48_2
      try clear hcz48_3
      try clear hcz48_4
      try clear hcz50_0
      try clear hcz50_1
      try clear hcz50_2
      try clear hcz50_3
      try clear hcz50_4
      try clear hcz50_5
      try clear hcz52_0
      try clear hcz52_1
      try clear hcz52_2
      try clear hcz52_3
      try clear hcz52_4
      try clear hcz52_5
      try clear hcz53_0
      try clear hcz53_1
      try clear hcz53_2
      try clear hcz53_3
      try clear hcz53_4
      try clear hcz55_0
      try clear hcz55_1
      try clear hcz55_2
      try clear hcz55_3
      try clear hcz55_4
      try clear hcz55_5
      try clear hcz57_0
      try clear hcz57_1
      try clear hcz57_2
      try clear hcz57_3
      try clear hcz57_4
      try clear hcz57_5
      try clear hcz58_0
      try clear hcz58_1
      try clear hcz58_2
      try clear hcz58_3
      try clear hcz58_4
      try clear hcz60_0
      try clear hcz60_1
      try clear hcz60_2
      try clear hcz60_3
      try clear hcz60_4
      try clear hcz60_5
      try clear hcz62_0
      try clear hcz62_1
      try clear hcz62_2
      try clear hcz62_3
      try clear hcz62_4
      try clear hcz62_5
      try clear hcz63_0
      try clear hcz63_1
      try clear hcz63_2
      try clear hcz63_3
      try clear hcz63_4
      try clear hcz65_0
      try clear hcz65_1
      try clear hcz65_2
      try clear hcz65_3
      try clear hcz65_4
      try clear hcz65_5
      try clear hcz71_0
      try clear hcz71_1
      try clear hcz71_2
      try clear hcz71_3
      try clear hcz71_4
      try clear hcz71_5
      try clear hcz76_0
      try clear hcz76_1
      try clear hcz77_0
      try clear hcz77_1
      try clear hcz77_2
      try clear hcz77_3
      try clear hcz77_4
      try clear hcz77_5
      try clear hcz79_0
      try clear hcz79_1
      try clear hcz84_0
      try clear hcz84_1
      try clear hcz86_0
      try clear hcz86_1
      try clear hcz91_0
      try clear hcz91_1
      try clear hcz93_0
      try clear hcz93_1
      try clear hcz97_0
      try clear hcz97_1
      try clear hcz99_0
      try clear hcz99_1
      try clear hcz9_0
      try clear hcz9_1
      try clear hcz9_2
      try clear hcz9_3
      try clear hcz9_4
      try clear hfz14_0
      try clear hfz14_1
      try clear hfz14_2
      try clear hfz14_3
      try clear hfz14_4
      try clear hfz14_5
      try clear hfz16_0
      try clear hfz16_1
      try clear hfz16_2
      try clear hfz16_3
      try clear hfz16_4
      try clear hfz16_5
      try clear hfz19_0
      try clear hfz19_1
      try clear hfz19_2
      try clear hfz19_3
      try clear hfz19_4
      try clear hfz19_5
      try clear hfz21_0
      try clear hfz21_1
      try clear hfz21_2
      try clear hfz21_3
      try clear hfz21_4
      try clear hfz21_5
      try clear hfz22_0
      try clear hfz22_1
      try clear hfz22_2
      try clear hfz22_3
      try clear hfz22_4
      try clear hfz25_0
      try clear hfz25_1
      try clear hfz25_2
      try clear hfz25_3
      try clear hfz25_4
      try clear hfz25_5
      try clear hfz27_0
      try clear hfz27_1
      try clear hfz27_2
      try clear hfz27_3
      try clear hfz27_4
      try clear hfz27_5
      try clear hfz28_0
      try clear hfz28_1
      try clear hfz28_2
      try clear hfz28_3
      try clear hfz28_4
      try clear hfz31_0
      try clear hfz31_1
      try clear hfz31_2
      try clear hfz31_3
      try clear hfz31_4
      try clear hfz31_5
      try clear hfz33_0
      try clear hfz33_1
      try clear hfz33_2
      try clear hfz33_3
      try clear hfz33_4
      try clear hfz33_5
      try clear hfz34_0
      try clear hfz34_1
      try clear hfz34_2
      try clear hfz34_3
      try clear hfz34_4
      try clear hfz40_0
      try clear hfz40_1
      try clear hfz40_2
      try clear hfz40_3
      try clear hfz40_4
      try clear hfz40_5
      try clear hfz42_0
      try clear hfz42_1
      try clear hfz42_2
      try clear hfz42_3
      try clear hfz42_4
      try clear hfz42_5
      try clear hfz43_0
      try clear hfz43_1
      try clear hfz43_2
      try clear hfz43_3
      try clear hfz43_4
      try clear hfz45_0
      try clear hfz45_1
      try clear hfz45_2
      try clear hfz45_3
      try clear hfz45_4
      try clear hfz45_5
      try clear hfz47_0
      try clear hfz47_1
      try clear hfz47_2
      try clear hfz47_3
      try clear hfz47_4
      try clear hfz47_5
      try clear hfz48_0
      try clear hfz48_1
      try clear hfz48_2
      try clear hfz48_3
      try clear hfz48_4
      try clear hfz50_0
      try clear hfz50_1
      try clear hfz50_2
      try clear hfz50_3
      try clear hfz50_4
      try clear hfz50_5
      try clear hfz52_0
      try clear hfz52_1
      try clear hfz52_2
      try clear hfz52_3
      try clear hfz52_4
      try clear hfz52_5
      try clear hfz53_0
      try clear hfz53_1
      try clear hfz53_2
      try clear hfz53_3
      try clear hfz53_4
      try clear hfz55_0
      try clear hfz55_1
      try clear hfz55_2
      try clear hfz55_3
      try clear hfz55_4
      try clear hfz55_5
      try clear hfz57_0
      try clear hfz57_1
      try clear hfz57_2
      try clear hfz57_3
      try clear hfz57_4
      try clear hfz57_5
      try clear hfz58_0
      try clear hfz58_1
      try clear hfz58_2
      try clear hfz58_3
      try clear hfz58_4
      try clear hfz60_0
      try clear hfz60_1
      try clear hfz60_2
      try clear hfz60_3
      try clear hfz60_4
      try clear hfz60_5
      try clear hfz62_0
      try clear hfz62_1
      try clear hfz62_2
      try clear hfz62_3
      try clear hfz62_4
      try clear hfz62_5
      try clear hfz63_0
      try clear hfz63_1
      try clear hfz63_2
      try clear hfz63_3
      try clear hfz63_4
      try clear hfz65_0
      try clear hfz65_1
      try clear hfz65_2
      try clear hfz65_3
      try clear hfz65_4
      try clear hfz65_5
      try clear hfz71_0
      try clear hfz71_1
      try clear hfz71_2
      try clear hfz71_3
      try clear hfz71_4
      try clear hfz71_5
      try clear hfz76_0
      try clear hfz76_1
      try clear hfz77_0
      try clear hfz77_1
      try clear hfz77_2
      try clear hfz77_3
      try clear hfz77_4
      try clear hfz77_5
      try clear hfz79_0
      try clear hfz79_1
      try clear hfz84_0
      try clear hfz84_1
      try clear hfz86_0
      try clear hfz86_1
      try clear hfz91_0
      try clear hfz91_1
      try clear hfz93_0
      try clear hfz93_1
      try clear hfz97_0
      try clear hfz97_1
      try clear hfz99_0
      try clear hfz99_1
      try clear hfz9_0
      try clear hfz9_1
      try clear hfz9_2
      try clear hfz9_3
      try clear hfz9_4
      try clear p2
      try clear p6
      try clear p64
      try clear q2
      try clear q23
      try clear q231
      obtain ⟨x12_2, x132_2, x238000_2, x238001_2, rfl, rfl, HA, HK2, BK223, BK230, BK237, HB⟩ := hrel
      cases gk with
      | zero => exact absurd HA.out (by simp [round_Cut.l1])
      | succ k2 =>
       have H := HA.out
       clear HA
       simp only [round_Cut.l1] at H
       by_cases c100 : x132_2 < (wrap64 (-(a1_2 / 4)))
       ·rw [if_pos c100] at H
        have c100b0 : decide (x132_2 < (wrap64 (-(a1_2 / 4)))) = true := decide_eq_true c100
        clear c100
        replace H := Option.bind_eq_some_iff.mp H
        obtain ⟨⟨t250, t251, t252⟩, A1010, H⟩ := H
        replace H : (round_Cut.l1 k2 a0 t252 (wrap64 (-(a1_2 / 4))) (wrap64 (x132_2 + 1)) t250 t251) = some (r1, r2, r3) := H
        have A101 := Aside0.mk A1010
        clear A1010
        have H' := Aside0.mk H
        clear H
        have hnb102 := NB237_223.out
        have hnc102 := NB223_237.out
        have hnb103 := NB237_230.out
        have hnc103 := NB230_237.out
        have hcz104_0 := z4_ BK237.out 0 (.int .u64 x238000_2) rfl
        have hcz104_1 := z4_ BK237.out 1 (.int .u64 x238001_2) rfl
        have hfz104_0 := blk_frozen BK237.out 0
        have hfz104_1 := blk_frozen BK237.out 1
        go_wp2_with (first | ((with_reducible refine gate_callee (f := 68) rfl ?_); refine goesL_ (some 137) rfl rfl Try.func68 (by kernel_rfl) rfl #[.agg #[.int .u64 x238000_2, .int .u64 x238001_2], .int .u64 0, .int .i64 1, .bool x12_2] rfl z5_ ?_; (with_reducible refine (round_under.calls x238000_2 x238001_2 0 1 x12_2 t250 t251 t252 _ A101.out).mono ?_); rintro e w105 ⟨rfl, hb⟩; refine ⟨_, rfl, ?_⟩; have n0_ := Aside0.mk (blk_below (g := gb223) (z1_ BK223.out) hb); have n1_ := Aside0.mk (blk_below (g := gb230) (z1_ BK230.out) hb); have n2_ := Aside0.mk (blk_below (g := gb237) (z1_ BK237.out) hb); have n3_ := Aside0.mk (below_step (z3_ HB.out) hb); clear BK223; clear BK230; clear BK237; clear HB; have BK223 := n0_; have BK230 := n1_; have BK237 := n2_; have HB := n3_; clear n0_ n1_ n2_ n3_; (try clear hb); (try clear hb2); (try clear hk); (try clear hi); have hcz106_0 := z4_ BK237.out 0 (.int .u64 x238000_2) rfl; have hcz106_1 := z4_ BK237.out 1 (.int .u64 x238001_2) rfl; have hfz106_0 := blk_frozen BK237.out 0; have hfz106_1 := blk_frozen BK237.out 1))
        go_roundg k2
        case measure => have := HJ3.out; have := HK2.out; omega
        case rel => exact ⟨(t252), (wrap64 (x132_2 + 1)), (t250), (t251), (by first | rfl | (simp; done) | (simp [*]; done)), (by first | rfl | (simp; done) | (simp [*]; done)), H', ⟨by have := HJ3.out; have := HK2.out; omega⟩, ⟨by refine z2_ ?_; refine blk_far ?_ NB223_237.out _; refine z2_ ?_; refine blk_far ?_ NB223_237.out _; refine z2_ ?_; exact BK223.out⟩, ⟨by refine z2_ ?_; refine blk_far ?_ NB230_237.out _; refine z2_ ?_; refine blk_far ?_ NB230_237.out _; refine z2_ ?_; exact BK230.out⟩, ⟨by refine z2_ ?_; refine blk_put (cs := #[.int .u64 t250, .int .u64 x238001_2]) ?_ 1 _ rfl; refine z2_ ?_; refine blk_put (cs := #[.int .u64 x238000_2, .int .u64 x238001_2]) ?_ 0 _ rfl; refine z2_ ?_; exact BK237.out⟩, ⟨by repeat (first | (with_reducible first | exact HB.out | apply below_alloc | apply pw_below_drewN | apply below_drew1 | refine below_set ?_ GE223.out | refine below_set ?_ GE230.out | refine below_set ?_ GE237.out) | exact HB.out)⟩⟩
       ·rw [if_neg c100] at H
        have c100b0 : decide (x132_2 < (wrap64 (-(a1_2 / 4)))) = false := decide_eq_false c100
        clear c100
        have H' := Aside0.mk H
        clear H
        go_wp2
        go_meet
        case rel => exact ⟨_, (x12_2), (x238000_2), (x238001_2), (by first | rfl | (simp; done) | (simp [*]; done)), H', ⟨by have := HJ3.out; have := HK2.out; first | omega | exact Nat.le_refl _⟩, ⟨by refine z2_ ?_; exact BK223.out⟩, ⟨by refine z2_ ?_; exact BK230.out⟩, ⟨by refine z2_ ?_; exact BK237.out⟩, ⟨by repeat (first | (with_reducible first | exact HB.out | apply below_alloc | apply pw_below_drewN | apply below_drew1 | refine below_set ?_ GE223.out | refine below_set ?_ GE230.out | refine below_set ?_ GE237.out) | exact HB.out)⟩⟩
   case rest =>
    clear HC69
    try clear c1
    try clear c2
    try clear p2
    try clear q2
    try clear c3
    try clear c4
    try clear c5
    try clear c6
    try clear p6
    try clear c7
    try clear c8
    try clear c9
    try clear c10
    try clear c11
    try clear c12
    try clear c12b0
    try clear c12b1
    try clear c13
    try clear c17
    try clear c17b0
    try clear c17b1
    try clear c18
    try clear c23
    try clear c23b0
    try clear q23
    try clear c24
    try clear c29
    try clear c29b0
    try clear c30
    try clear c35
    try clear c35b0
    try clear c35b1
    try clear c36
    try clear c36b0
    try clear c36b1
    try clear c37
    try clear c37b0
    try clear c37b1
    try clear c38
    try clear c39
    try clear c44
    try clear c49
    try clear c54
    try clear c56
    try clear c59
    try clear c64
    try clear p64
    try clear c67
    try clear c68
    try clear c70
    try clear c74
    try clear c75
    try clear c80
    try clear c80b0
    try clear c82
    try clear c83
    try clear c87
    try clear c87b0
    try clear c89
    try clear c90
    try clear c95
    try clear c96
    try clear c100
    try clear c100b0
    try clear c102
    try clear c103
    try clear hcz104_0
    try clear hcz104_1
    try clear hcz106_0
    try clear hcz106_1
    try clear hcz14_0
    try clear hcz14_1
    try clear hcz14_2
    try clear hcz14_3
    try clear hcz14_4
    try clear hcz14_5
    try clear hcz16_0
    try clear hcz16_1
    try clear hcz16_2
    try clear hcz16_3
    try clear hcz16_4
    try clear hcz16_5
    try clear hcz19_0
    try clear hcz19_1
    try clear hcz19_2
    try clear hcz19_3
    try clear hcz19_4
    try clear hcz19_5
    try clear hcz21_0
    try clear hcz21_1
    try clear hcz21_2
    try clear hcz21_3
    try clear hcz21_4
    try clear hcz21_5
    try clear hcz22_0
    try clear hcz22_1
    try clear hcz22_2
    try clear hcz22_3
    try clear hcz22_4
    try clear hcz25_0
    try clear hcz25_1
    try clear hcz25_2
    try clear hcz25_3
    try clear hcz25_4
    try clear hcz25_5
    try clear hcz27_0
    try clear hcz27_1
    try clear hcz27_2
    try clear hcz27_3
    try clear hcz27_4
    try clear hcz27_5
    try clear hcz28_0
    try clear hcz28_1
    try clear hcz28_2
    try clear hcz28_3
    try clear hcz28_4
    try clear hcz31_0
    try clear hcz31_1
    try clear hcz31_2
    try clear hcz31_3
    try clear hcz31_4
    try clear hcz31_5
    try clear hcz33_0
    try clear hcz33_1
    try clear hcz33_2
    try clear hcz33_3
    try clear hcz33_4
    try clear hcz33_5
    try clear hcz34_0
    try clear hcz34_1
    try clear hcz34_2
    try clear hcz34_3
    try clear hcz34_4
    try clear hcz40_0
    try clear hcz40_1
    try clear hcz40_2
    try clear hcz40_3
    try clear hcz40_4
    try clear hcz40_5
    try clear hcz42_0
    try clear hcz42_1
    try clear hcz42_2
    try clear hcz42_3
    try clear hcz42_4
    try clear hcz42_5
    try clear hcz43_0
    try clear hcz43_1
    try clear hcz43_2
    try clear hcz43_3
    try clear hcz43_4
    try clear hcz45_0
    try clear hcz45_1
    try clear hcz45_2
    try clear hcz45_3
    try clear hcz45_4
    try clear hcz45_5
    try clear hcz47_0
    try clear hcz47_1
    try clear hcz47_2
    try clear hcz47_3
    try clear hcz47_4
    try clear hcz47_5
    try clear hcz48_0
    try clear hcz48_1
    try clear hcz48_2
    try clear hcz48_3
    try clear hcz48_4
    try clear hcz50_0
    try clear hcz50_1
    try clear hcz50_2
    try clear hcz50_3
    try clear hcz50_4
    try clear hcz50_5
    try clear hcz52_0
    try clear hcz52_1
    try clear hcz52_2
    try clear hcz52_3
    try clear hcz52_4
    try clear hcz52_5
    try clear hcz53_0
    try clear hcz53_1
    try clear hcz53_2
    try clear hcz53_3
    try clear hcz53_4
    try clear hcz55_0
    try clear hcz55_1
    try clear hcz55_2
    try clear hcz55_3
    try clear hcz55_4
    try clear hcz55_5
    try clear hcz57_0
    try clear hcz57_1
    try clear hcz57_2
    try clear hcz57_3
    try clear hcz57_4
    try clear hcz57_5
    try clear hcz58_0
    try clear hcz58_1
    try clear hcz58_2
    try clear hcz58_3
    try clear hcz58_4
    try clear hcz60_0
    try clear hcz60_1
    try clear hcz60_2
    try clear hcz60_3
    try clear hcz60_4
    try clear hcz60_5
    try clear hcz62_0
    try clear hcz62_1
    try clear hcz62_2
    try clear hcz62_3
    try clear hcz62_4
    try clear hcz62_5
    try clear hcz63_0
    try clear hcz63_1
    try clear hcz63_2
    try clear hcz63_3
    try clear hcz63_4
    try clear hcz65_0
    try clear hcz65_1
    try clear hcz65_2
    try clear hcz65_3
    try clear hcz65_4
    try clear hcz65_5
    try clear hcz71_0
    try clear hcz71_1
    try clear hcz71_2
    try clear hcz71_3
    try clear hcz71_4
    try clear hcz71_5
    try clear hcz76_0
    try clear hcz76_1
    try clear hcz77_0
    try clear hcz77_1
    try clear hcz77_2
    try clear hcz77_3
    try clear hcz77_4
    try clear hcz77_5
    try clear hcz79_0
    try clear hcz79_1
    try clear hcz84_0
    try clear hcz84_1
    try clear hcz86_0
    try clear hcz86_1
    try clear hcz91_0
    try clear hcz91_1
    try clear hcz93_0
    try clear hcz93_1
    try clear hcz97_0
    try clear hcz97_1
    try clear hcz99_0
    try clear hcz99_1
    try clear hcz9_0
    try clear hcz9_1
    try clear hcz9_2
    try clear hcz9_3
    try clear hcz9_4
    try clear hfz104_0
    try clear hfz104_1
    try clear hfz106_0
    try clear hfz106_1
    try clear hfz14_0
    try clear hfz14_1
    try clear hfz14_2
    try clear hfz14_3
    try clear hfz14_4
    try clear hfz14_5
    try clear hfz16_0
    try clear hfz16_1
    try clear hfz16_2
    try clear hfz16_3
    try clear hfz16_4
    try clear hfz16_5
    try clear hfz19_0
    try clear hfz19_1
    try clear hfz19_2
    try clear hfz19_3
    try clear hfz19_4
    try clear hfz19_5
    try clear hfz21_0
    try clear hfz21_1
    try clear hfz21_2
    try clear hfz21_3
    try clear hfz21_4
    try clear hfz21_5
    try clear hfz22_0
    try clear hfz22_1
    try clear hfz22_2
    try clear hfz22_3
    try clear hfz22_4
    try clear hfz25_0
    try clear hfz25_1
    try clear hfz25_2
    try clear hfz25_3
    try clear hfz25_4
    try clear hfz25_5
    try clear hfz27_0
    try clear hfz27_1
    try clear hfz27_2
    try clear hfz27_3
    try clear hfz27_4
    try clear hfz27_5
    try clear hfz28_0
    try clear hfz28_1
    try clear hfz28_2
    try clear hfz28_3
    try clear hfz28_4
    try clear hfz31_0
    try clear hfz31_1
    try clear hfz31_2
    try clear hfz31_3
    try clear hfz31_4
    try clear hfz31_5
    try clear hfz33_0
    try clear hfz33_1
    try clear hfz33_2
    try clear hfz33_3
    try clear hfz33_4
    try clear hfz33_5
    try clear hfz34_0
    try clear hfz34_1
    try clear hfz34_2
    try clear hfz34_3
    try clear hfz34_4
    try clear hfz40_0
    try clear hfz40_1
    try clear hfz40_2
    try clear hfz40_3
    try clear hfz40_4
    try clear hfz40_5
    try clear hfz42_0
    try clear hfz42_1
    try clear hfz42_2
    try clear hfz42_3
    try clear hfz42_4
    try clear hfz42_5
    try clear hfz43_0
    try clear hfz43_1
    try clear hfz43_2
    try clear hfz43_3
    try clear hfz43_4
    try clear hfz45_0
    try clear hfz45_1
    try clear hfz45_2
    try clear hfz45_3
    try clear hfz45_4
    try clear hfz45_5
    try clear hfz47_0
    try clear hfz47_1
    try clear hfz47_2
    try clear hfz47_3
    try clear hfz47_4
    try clear hfz47_5
    try clear hfz48_0
    try clear hfz48_1
    try clear hfz48_2
    try clear hfz48_3
    try clear hfz48_4
    try clear hfz50_0
    try clear hfz50_1
    try clear hfz50_2
    try clear hfz50_3
    try clear hfz50_4
    try clear hfz50_5
    try clear hfz52_0
    try clear hfz52_1
    try clear hfz52_2
    try clear hfz52_3
    try clear hfz52_4
    try clear hfz52_5
    try clear hfz53_0
    try clear hfz53_1
    try clear hfz53_2
    try clear hfz53_3
    try clear hfz53_4
    try clear hfz55_0
    try clear hfz55_1
    try clear hfz55_2
    try clear hfz55_3
    try clear hfz55_4
    try clear hfz55_5
    try clear hfz57_0
    try clear hfz57_1
    try clear hfz57_2
    try clear hfz57_3
    try clear hfz57_4
    try clear hfz57_5
    try clear hfz58_0
    try clear hfz58_1
    try clear hfz58_2
    try clear hfz58_3
    try clear hfz58_4
    try clear hfz60_0
    try clear hfz60_1
    try clear hfz60_2
    try clear hfz60_3
    try clear hfz60_4
    try clear hfz60_5
    try clear hfz62_0
    try clear hfz62_1
    try clear hfz62_2
    try clear hfz62_3
    try clear hfz62_4
    try clear hfz62_5
    try clear hfz63_0
    try clear hfz63_1
    try clear hfz63_2
    try clear hfz63_3
    try clear hfz63_4
    try clear hfz65_0
    try clear hfz65_1
    try clear hfz65_2
    try clear hfz65_3
    try clear hfz65_4
    try clear hfz65_5
    try clear hfz71_0
    try clear hfz71_1
    try clear hfz71_2
    try clear hfz71_3
    try clear hfz71_4
    try clear hfz71_5
    try clear hfz76_0
    try clear hfz76_1
    try clear hfz77_0
    try clear hfz77_1
    try clear hfz77_2
    try clear hfz77_3
    try clear hfz77_4
    try clear hfz77_5
    try clear hfz79_0
    try clear hfz79_1
    try clear hfz84_0
    try clear hfz84_1
    try clear hfz86_0
    try clear hfz86_1
    try clear hfz91_0
    try clear hfz91_1
    try clear hfz93_0
    try clear hfz93_1
    try clear hfz97_0
    try clear hfz97_1
    try clear hfz99_0
    try clear hfz99_1
    try clear hfz9_0
    try clear hfz9_1
    try clear hfz9_2
    try clear hfz9_3
    try clear hfz9_4
    try clear p2
    try clear p6
    try clear p64
    try clear q2
    try clear q23
    try clear q231
    obtain ⟨kq, x12_68, x238000_68, x238001_68, rfl, HA, HJ68, BK223, BK230, BK237, HB⟩ := hcut
    cases kq with
    | zero => exact absurd HA.out (by simp [round_Cut.j3])
    | succ kj68 =>
     have H := HA.out
     clear HA
     simp only [round_Cut.j3] at H
     obtain ⟨ji107, hji107⟩ : ∃ j_ : Int, (wrap64 (65 - a0)) = j_ := ⟨_, rfl⟩
     replace H : (if 0 ≤ (ji107) then ((twin_Shl.f x238000_68 x238001_68 (wrap64 (a0 - 1))).bind fun bt253 => (if bt253.2.1 = 0 then ((round_left.f kj68 bt253.1 x12_68).bind fun t258 => (some (shr .u64 x238000_68 (ji107), t258, none))) else ((round_left.f kj68 bt253.1 true).bind fun t259 => (some (shr .u64 x238000_68 (ji107), t259, none))))) else (none)) = some (r1, r2, r3) := by first | (rw [hji107] at H; exact H) | (simp only [hji107] at H ⊢; exact H)
     have hji107w : (IntKind.i64.wrap (65 - a0)) = ji107 := (i64_w _).trans hji107
     by_cases c108 : 0 ≤ (ji107)
     ·rw [if_pos c108] at H
      have c108b0 := eq_true c108
      have c108b1 : decide (0 ≤ (ji107)) = true := decide_eq_true c108
      clear c108
      obtain ⟨ji109, hji109⟩ : ∃ j_ : Int, (shr .u64 x238000_68 (ji107)) = j_ := ⟨_, rfl⟩
      replace H : ((twin_Shl.f x238000_68 x238001_68 (wrap64 (a0 - 1))).bind fun bt253 => (if bt253.2.1 = 0 then ((round_left.f kj68 bt253.1 x12_68).bind fun t258 => (some (ji109, t258, none))) else ((round_left.f kj68 bt253.1 true).bind fun t259 => (some (ji109, t259, none))))) = some (r1, r2, r3) := by first | (rw [hji109] at H; exact H) | (simp only [hji109] at H ⊢; exact H)
      have hji109_ : (x238000_68 / 2 ^ min (ji107).toNat 64) = ji109 := hji109
      have hji109z : (ji107) ≤ 64 → (x238000_68 / 2 ^ (ji107).toNat) = ji109 := shr_small hji109
      (try (have hji109Z_ := hji109z (by omega)))
      replace H := Option.bind_eq_some_iff.mp H
      obtain ⟨⟨t253, t254, t255, t256⟩, A1100, H⟩ := H
      replace H : (if t254 = 0 then ((round_left.f kj68 t253 x12_68).bind fun t258 => (some (ji109, t258, none))) else ((round_left.f kj68 t253 true).bind fun t259 => (some (ji109, t259, none)))) = some (r1, r2, r3) := H
      have A110 := Aside0.mk A1100
      clear A1100
      by_cases c111 : t254 = 0
      ·rw [if_pos c111] at H
       have c111b0 : (t254 == 0) = true := beq_iff_eq.mpr c111
       have c111b1 : (t254 != 0) = false := bne_eq_false_iff_eq.mpr c111
       clear c111
       replace H := Option.bind_eq_some_iff.mp H
       obtain ⟨t258, A1120, H⟩ := H
       replace H : (some (ji109, t258, none)) = some (r1, r2, r3) := H
       have A112 := Aside0.mk A1120
       clear A1120
       simp only [Option.some.injEq, Prod.mk.injEq] at H
       obtain ⟨rfl, rfl, rfl⟩ := H
       have hnb113 := NB237_223.out
       have hnc113 := NB223_237.out
       have hnb114 := NB237_230.out
       have hnc114 := NB230_237.out
       have hcz115_0 := z4_ BK237.out 0 (.int .u64 x238000_68) rfl
       have hcz115_1 := z4_ BK237.out 1 (.int .u64 x238001_68) rfl
       have hfz115_0 := blk_frozen BK237.out 0
       have hfz115_1 := blk_frozen BK237.out 1
       go_wp2_with (first | ((with_reducible refine gate_callee (f := 67) rfl ?_); refine goesL_ (some 150) rfl rfl Try.func67 (by kernel_rfl) rfl #[.agg #[.int .u64 x238000_68, .int .u64 x238001_68], .int .i64 (wrap64 (a0 - 1))] rfl z5_ ?_; (with_reducible refine (twin_Shl.calls x238000_68 x238001_68 (wrap64 (a0 - 1)) t253 t254 t255 t256 _ A110.out).mono ?_); rintro e w116 ⟨rfl, hb⟩; refine ⟨_, rfl, ?_⟩; have n0_ := Aside0.mk (blk_below (g := gb223) (z1_ BK223.out) hb); have n1_ := Aside0.mk (blk_below (g := gb230) (z1_ BK230.out) hb); have n2_ := Aside0.mk (blk_below (g := gb237) (z1_ BK237.out) hb); have n3_ := Aside0.mk (below_step (z3_ HB.out) hb); clear BK223; clear BK230; clear BK237; clear HB; have BK223 := n0_; have BK230 := n1_; have BK237 := n2_; have HB := n3_; clear n0_ n1_ n2_ n3_; (try clear hb); (try clear hb2); (try clear hk); (try clear hi); (try simp only [errW_none, errW_some])) | ((with_reducible refine gate_dst (N := 15) rfl ?_); refine box_event ?hg (N := 15) ?hd (cs := #[.int .u64 0, .int .u64 0]) (t := 54) ?hr ?_; (case hd => rfl); (case hg => rfl); (case hr => first | (go_simp; done) | (go_simp; rfl)); intro gb257 hg w117 hbox hb; have n0_ := Aside0.mk (blk_below (g := gb223) (z1_ BK223.out) hb); have n1_ := Aside0.mk (blk_below (g := gb230) (z1_ BK230.out) hb); have n2_ := Aside0.mk (blk_below (g := gb237) (z1_ BK237.out) hb); have n3_ := Aside0.mk (below_step (z3_ HB.out) hb); have n4_ := Aside0.mk (hbox); have n5_ := Aside0.mk ((by rw [hg]; exact (below_size (z3_ HB.out)) : w.heap.size ≤ gb257)); have n6_ := Aside0.mk ((by rw [hg]; exact (below_size (z3_ HB.out)) : w.heap.size ≤ gb257)); have n7_ := Aside0.mk ((by rw [hg]; exact Nat.ne_of_lt (blk_lt (g := gb223) (o := .cells #[.int .i64 a1_0, .bool a1_1, .int .i64 a1_2, .int .u64 a1_3, .int .u64 a1_4, .bool a1_5] 27 (0, 0)) (z1_ BK223.out)) : gb223 ≠ gb257)); have n8_ := Aside0.mk ((by rw [hg]; exact Nat.ne_of_gt (blk_lt (g := gb223) (o := .cells #[.int .i64 a1_0, .bool a1_1, .int .i64 a1_2, .int .u64 a1_3, .int .u64 a1_4, .bool a1_5] 27 (0, 0)) (z1_ BK223.out)) : gb257 ≠ gb223)); have n9_ := Aside0.mk ((by rw [hg]; exact Nat.ne_of_lt (blk_lt (g := gb230) (o := .cells #[.int .i64 t224, .int .u64 t225, .int .u64 t226, .int .u64 t227, .int .i64 t228] 98 (0, 0)) (z1_ BK230.out)) : gb230 ≠ gb257)); have n10_ := Aside0.mk ((by rw [hg]; exact Nat.ne_of_gt (blk_lt (g := gb230) (o := .cells #[.int .i64 t224, .int .u64 t225, .int .u64 t226, .int .u64 t227, .int .i64 t228] 98 (0, 0)) (z1_ BK230.out)) : gb257 ≠ gb230)); have n11_ := Aside0.mk ((by rw [hg]; exact Nat.ne_of_lt (blk_lt (g := gb237) (o := .cells #[.int .u64 x238000_68, .int .u64 x238001_68] 54 (0, 0)) (z1_ BK237.out)) : gb237 ≠ gb257)); have n12_ := Aside0.mk ((by rw [hg]; exact Nat.ne_of_gt (blk_lt (g := gb237) (o := .cells #[.int .u64 x238000_68, .int .u64 x238001_68] 54 (0, 0)) (z1_ BK237.out)) : gb257 ≠ gb237)); clear BK223; clear BK230; clear BK237; clear HB; have BK223 := n0_; have BK230 := n1_; have BK237 := n2_; have HB := n3_; have BK257 := n4_; have GW257 := n5_; have GE257 := n6_; have NB223_257 := n7_; have NB257_223 := n8_; have NB230_257 := n9_; have NB257_230 := n10_; have NB237_257 := n11_; have NB257_237 := n12_; clear n0_ n1_ n2_ n3_ n4_ n5_ n6_ n7_ n8_ n9_ n10_ n11_ n12_; clear hb hbox hg; have hnb118 := NB257_223.out; have hnc118 := NB223_257.out; have hnb119 := NB257_230.out; have hnc119 := NB230_257.out; have hnb120 := NB257_237.out; have hnc120 := NB237_257.out; have hcz121_0 := z4_ BK257.out 0 (.int .u64 0) rfl; have hcz121_1 := z4_ BK257.out 1 (.int .u64 0) rfl; have hfz121_0 := blk_frozen BK257.out 0; have hfz121_1 := blk_frozen BK257.out 1) | ((with_reducible refine gate_callee (f := 69) rfl ?_); refine goesL_ (some 161) rfl rfl Try.func69 (by kernel_rfl) rfl #[.int .u64 t253, .bool x12_68] rfl z5_ ?_; (with_reducible refine (round_left.calls kj68 t253 x12_68 t258 _ A112.out).mono ?_); rintro e w' ⟨rfl, ⟨nd, rfl⟩⟩; refine ⟨_, rfl, ?_⟩))
       go_ret3
       exact ⟨by first | rfl | (simp [errW_none, errW_some] <;> rfl) | (simp only [← hji107, ← hji109]; first | rfl | (simp [errW_none, errW_some] <;> rfl)) | (simp [*, errW_none, errW_some] <;> rfl), by repeat (first | (with_reducible first | exact HB.out | apply below_alloc | apply pw_below_drewN | apply below_drew1 | refine below_set ?_ GE223.out | refine below_set ?_ GE230.out | refine below_set ?_ GE237.out | refine below_set ?_ GE257.out) | exact HB.out)⟩
      ·rw [if_neg c111] at H
       have c111b0 : (t254 == 0) = false := beq_eq_false_iff_ne.mpr c111
       have c111b1 : (t254 != 0) = true := bne_iff_ne.mpr c111
       replace H := Option.bind_eq_some_iff.mp H
       obtain ⟨t259, A1220, H⟩ := H
       replace H : (some (ji109, t259, none)) = some (r1, r2, r3) := H
       have A122 := Aside0.mk A1220
       clear A1220
       simp only [Option.some.injEq, Prod.mk.injEq] at H
       obtain ⟨rfl, rfl, rfl⟩ := H
       have hnb123 := NB237_223.out
       have hnc123 := NB223_237.out
       have hnb124 := NB237_230.out
       have hnc124 := NB230_237.out
       have hcz125_0 := z4_ BK237.out 0 (.int .u64 x238000_68) rfl
       have hcz125_1 := z4_ BK237.out 1 (.int .u64 x238001_68) rfl
       have hfz125_0 := blk_frozen BK237.out 0
       have hfz125_1 := blk_frozen BK237.out 1
       go_wp2_with (first | ((with_reducible refine gate_callee (f := 67) rfl ?_); refine goesL_ (some 150) rfl rfl Try.func67 (by kernel_rfl) rfl #[.agg #[.int .u64 x238000_68, .int .u64 x238001_68], .int .i64 (wrap64 (a0 - 1))] rfl z5_ ?_; (with_reducible refine (twin_Shl.calls x238000_68 x238001_68 (wrap64 (a0 - 1)) t253 t254 t255 t256 _ A110.out).mono ?_); rintro e w126 ⟨rfl, hb⟩; refine ⟨_, rfl, ?_⟩; have n0_ := Aside0.mk (blk_below (g := gb223) (z1_ BK223.out) hb); have n1_ := Aside0.mk (blk_below (g := gb230) (z1_ BK230.out) hb); have n2_ := Aside0.mk (blk_below (g := gb237) (z1_ BK237.out) hb); have n3_ := Aside0.mk (below_step (z3_ HB.out) hb); clear BK223; clear BK230; clear BK237; clear HB; have BK223 := n0_; have BK230 := n1_; have BK237 := n2_; have HB := n3_; clear n0_ n1_ n2_ n3_; (try clear hb); (try clear hb2); (try clear hk); (try clear hi); (try simp only [errW_none, errW_some])) | ((with_reducible refine gate_dst (N := 15) rfl ?_); refine box_event ?hg (N := 15) ?hd (cs := #[.int .u64 0, .int .u64 0]) (t := 54) ?hr ?_; (case hd => rfl); (case hg => rfl); (case hr => first | (go_simp; done) | (go_simp; rfl)); intro gb257 hg w127 hbox hb; have n0_ := Aside0.mk (blk_below (g := gb223) (z1_ BK223.out) hb); have n1_ := Aside0.mk (blk_below (g := gb230) (z1_ BK230.out) hb); have n2_ := Aside0.mk (blk_below (g := gb237) (z1_ BK237.out) hb); have n3_ := Aside0.mk (below_step (z3_ HB.out) hb); have n4_ := Aside0.mk (hbox); have n5_ := Aside0.mk ((by rw [hg]; exact (below_size (z3_ HB.out)) : w.heap.size ≤ gb257)); have n6_ := Aside0.mk ((by rw [hg]; exact (below_size (z3_ HB.out)) : w.heap.size ≤ gb257)); have n7_ := Aside0.mk ((by rw [hg]; exact Nat.ne_of_lt (blk_lt (g := gb223) (o := .cells #[.int .i64 a1_0, .bool a1_1, .int .i64 a1_2, .int .u64 a1_3, .int .u64 a1_4, .bool a1_5] 27 (0, 0)) (z1_ BK223.out)) : gb223 ≠ gb257)); have n8_ := Aside0.mk ((by rw [hg]; exact Nat.ne_of_gt (blk_lt (g := gb223) (o := .cells #[.int .i64 a1_0, .bool a1_1, .int .i64 a1_2, .int .u64 a1_3, .int .u64 a1_4, .bool a1_5] 27 (0, 0)) (z1_ BK223.out)) : gb257 ≠ gb223)); have n9_ := Aside0.mk ((by rw [hg]; exact Nat.ne_of_lt (blk_lt (g := gb230) (o := .cells #[.int .i64 t224, .int .u64 t225, .int .u64 t226, .int .u64 t227, .int .i64 t228] 98 (0, 0)) (z1_ BK230.out)) : gb230 ≠ gb257)); have n10_ := Aside0.mk ((by rw [hg]; exact Nat.ne_of_gt (blk_lt (g := gb230) (o := .cells #[.int .i64 t224, .int .u64 t225, .int .u64 t226, .int .u64 t227, .int .i64 t228] 98 (0, 0)) (z1_ BK230.out)) : gb257 ≠ gb230)); have n11_ := Aside0.mk ((by rw [hg]; exact Nat.ne_of_lt (blk_lt (g := gb237) (o := .cells #[.int .u64 x238000_68, .int .u64 x238001_68] 54 (0, 0)) (z1_ BK237.out)) : gb237 ≠ gb257)); have n12_ := Aside0.mk ((by rw [hg]; exact Nat.ne_of_gt (blk_lt (g := gb237) (o := .cells #[.int .u64 x238000_68, .int .u64 x238001_68] 54 (0, 0)) (z1_ BK237.out)) : gb257 ≠ gb237)); clear BK223; clear BK230; clear BK237; clear HB; have BK223 := n0_; have BK230 := n1_; have BK237 := n2_; have HB := n3_; have BK257 := n4_; have GW257 := n5_; have GE257 := n6_; have NB223_257 := n7_; have NB257_223 := n8_; have NB230_257 := n9_; have NB257_230 := n10_; have NB237_257 := n11_; have NB257_237 := n12_; clear n0_ n1_ n2_ n3_ n4_ n5_ n6_ n7_ n8_ n9_ n10_ n11_ n12_; clear hb hbox hg; have hnb128 := NB257_223.out; have hnc128 := NB223_257.out; have hnb129 := NB257_230.out; have hnc129 := NB230_257.out; have hnb130 := NB257_237.out; have hnc130 := NB237_257.out; have hcz131_0 := z4_ BK257.out 0 (.int .u64 0) rfl; have hcz131_1 := z4_ BK257.out 1 (.int .u64 0) rfl; have hfz131_0 := blk_frozen BK257.out 0; have hfz131_1 := blk_frozen BK257.out 1) | ((with_reducible refine gate_callee (f := 69) rfl ?_); refine goesL_ (some 161) rfl rfl Try.func69 (by kernel_rfl) rfl #[.int .u64 t253, .bool true] rfl z5_ ?_; (with_reducible refine (round_left.calls kj68 t253 true t259 _ A122.out).mono ?_); rintro e w' ⟨rfl, ⟨nd, rfl⟩⟩; refine ⟨_, rfl, ?_⟩))
       go_ret3
       exact ⟨by first | rfl | (simp [errW_none, errW_some] <;> rfl) | (simp only [← hji107, ← hji109]; first | rfl | (simp [errW_none, errW_some] <;> rfl)) | (simp [*, errW_none, errW_some] <;> rfl), by repeat (first | (with_reducible first | exact HB.out | apply below_alloc | apply pw_below_drewN | apply below_drew1 | refine below_set ?_ GE223.out | refine below_set ?_ GE230.out | refine below_set ?_ GE237.out | refine below_set ?_ GE257.out) | exact HB.out)⟩
     ·rw [if_neg c108] at H
      exact absurd H (by simp)
end Go.Proofs.Ytebhpipfkomhjaa.PAll
namespace Go.Proofs.Ytebhpipfkomhjaa.PAll
open Go.RowKit Go.Proofs.YtebhpipfkomhjaaW.PrintWords Go.Proofs.YtebhpipfkomhjaaW.PrintLast Go.Proofs.YtebhpipfkomhjaaW.PrintMore
attribute [local go_sem] max2_int min2_int max_two min_two max_three min_three max_four min_four
set_option linter.unusedVariables false
set_option linter.unusedSimpArgs false
def round_Round.f (k : Nat) (a0 : Int) (a1_0 : Int) (a1_1 : Bool) (a1_2 : Int) (a1_3 : Int) (a1_4 : Int) (a1_5 : Bool) : Option (Int × Option Int) := (round_Cut.f k a0 a1_0 a1_1 a1_2 a1_3 a1_4 a1_5).bind fun bt261 => (if bt261.2.2.isNone = true then (if bt261.2.1 = 2 then (if (Go.bits .and .u64 bt261.1 1) = 0 then (if a1_1 = true then ((shape_Fold.f a0 (IntKind.u64.wrap (-bt261.1))).bind fun bt273 => (some (bt273.1, bt273.2))) else ((shape_Fold.f a0 bt261.1).bind fun bt275 => (some (bt275.1, bt275.2)))) else (if a1_1 = true then ((shape_Fold.f a0 (IntKind.u64.wrap (-(IntKind.u64.wrap (bt261.1 + 1))))).bind fun bt277 => (some (bt277.1, bt277.2))) else ((shape_Fold.f a0 (IntKind.u64.wrap (bt261.1 + 1))).bind fun bt279 => (some (bt279.1, bt279.2))))) else (if bt261.2.1 = 3 then (if a1_1 = true then ((shape_Fold.f a0 (IntKind.u64.wrap (-(IntKind.u64.wrap (bt261.1 + 1))))).bind fun bt265 => (some (bt265.1, bt265.2))) else ((shape_Fold.f a0 (IntKind.u64.wrap (bt261.1 + 1))).bind fun bt267 => (some (bt267.1, bt267.2)))) else (if a1_1 = true then ((shape_Fold.f a0 (IntKind.u64.wrap (-bt261.1))).bind fun bt269 => (some (bt269.1, bt269.2))) else ((shape_Fold.f a0 bt261.1).bind fun bt271 => (some (bt271.1, bt271.2)))))) else (some (0, some (bt261.2.2.getD 0))))
theorem round_Round.mono : ∀ a0 a1 a2 a3 a4 a5 a6 k, LeO (round_Round.f k a0 a1 a2 a3 a4 a5 a6) (round_Round.f (k + 1) a0 a1 a2 a3 a4 a5 a6) := by
 intro a0 a1 a2 a3 a4 a5 a6 k
 unfold round_Round.f
 repeat' first
   | (with_reducible exact round_Cut.mono _ _ _ _ _ _ _ _)
   | (with_reducible exact LeO.refl _)
   | (with_reducible exact LeO.none _)
   | (with_reducible refine LeO.ite ?_ ?_)
   | (with_reducible refine LeO.bind ?_ (fun _ => ?_))
   | exact round_Cut.mono _ _ _ _ _ _ _ _
   | exact LeO.none _
   | refine LeO.ite ?_ ?_
   | refine LeO.bind ?_ (fun _ => ?_)
set_option maxHeartbeats 8000000 in
set_option maxRecDepth 100000 in
theorem round_Round.calls (k : Nat) (a0 : Int) (a1_0 : Int) (a1_1 : Bool) (a1_2 : Int) (a1_3 : Int) (a1_4 : Int) (a1_5 : Bool) (r1 : Int) (r2 : Option Int) (w : World) (h : round_Round.f k a0 a1_0 a1_1 a1_2 a1_3 a1_4 a1_5 = some (r1, r2)) :
  Calls Try.prog 30 #[.int .i64 a0, .agg #[.int .i64 a1_0, .bool a1_1, .int .i64 a1_2, .int .u64 a1_3, .int .u64 a1_4, .bool a1_5]] w fun e w' => e = .returned (.tuple #[.int .u64 r1, errW r2]) ∧ Below w.heap.size w w' := by
 have hu27 := Try.underlying27
 have hu29 := Try.underlying29
 have hu42 := Try.underlying42
 have HB := Aside0.mk (Below.refl w.heap.size w)
 have H : ((round_Cut.f k a0 a1_0 a1_1 a1_2 a1_3 a1_4 a1_5).bind fun bt261 => (if bt261.2.2.isNone = true then (if bt261.2.1 = 2 then (if (Go.bits .and .u64 bt261.1 1) = 0 then (if a1_1 = true then ((shape_Fold.f a0 (IntKind.u64.wrap (-bt261.1))).bind fun bt273 => (some (bt273.1, bt273.2))) else ((shape_Fold.f a0 bt261.1).bind fun bt275 => (some (bt275.1, bt275.2)))) else (if a1_1 = true then ((shape_Fold.f a0 (IntKind.u64.wrap (-(IntKind.u64.wrap (bt261.1 + 1))))).bind fun bt277 => (some (bt277.1, bt277.2))) else ((shape_Fold.f a0 (IntKind.u64.wrap (bt261.1 + 1))).bind fun bt279 => (some (bt279.1, bt279.2))))) else (if bt261.2.1 = 3 then (if a1_1 = true then ((shape_Fold.f a0 (IntKind.u64.wrap (-(IntKind.u64.wrap (bt261.1 + 1))))).bind fun bt265 => (some (bt265.1, bt265.2))) else ((shape_Fold.f a0 (IntKind.u64.wrap (bt261.1 + 1))).bind fun bt267 => (some (bt267.1, bt267.2)))) else (if a1_1 = true then ((shape_Fold.f a0 (IntKind.u64.wrap (-bt261.1))).bind fun bt269 => (some (bt269.1, bt269.2))) else ((shape_Fold.f a0 bt261.1).bind fun bt271 => (some (bt271.1, bt271.2)))))) else (some (0, some (bt261.2.2.getD 0))))) = some (r1, r2) := h
 clear h
 replace H := Option.bind_eq_some_iff.mp H
 obtain ⟨⟨t261, t262, t263⟩, A30, H⟩ := H
 replace H : (if t263.isNone = true then (if t262 = 2 then (if (Go.bits .and .u64 t261 1) = 0 then (if a1_1 = true then ((shape_Fold.f a0 (IntKind.u64.wrap (-t261))).bind fun bt273 => (some (bt273.1, bt273.2))) else ((shape_Fold.f a0 t261).bind fun bt275 => (some (bt275.1, bt275.2)))) else (if a1_1 = true then ((shape_Fold.f a0 (IntKind.u64.wrap (-(IntKind.u64.wrap (t261 + 1))))).bind fun bt277 => (some (bt277.1, bt277.2))) else ((shape_Fold.f a0 (IntKind.u64.wrap (t261 + 1))).bind fun bt279 => (some (bt279.1, bt279.2))))) else (if t262 = 3 then (if a1_1 = true then ((shape_Fold.f a0 (IntKind.u64.wrap (-(IntKind.u64.wrap (t261 + 1))))).bind fun bt265 => (some (bt265.1, bt265.2))) else ((shape_Fold.f a0 (IntKind.u64.wrap (t261 + 1))).bind fun bt267 => (some (bt267.1, bt267.2)))) else (if a1_1 = true then ((shape_Fold.f a0 (IntKind.u64.wrap (-t261))).bind fun bt269 => (some (bt269.1, bt269.2))) else ((shape_Fold.f a0 t261).bind fun bt271 => (some (bt271.1, bt271.2)))))) else (some (0, some (t263.getD 0)))) = some (r1, r2) := H
 have A3 := Aside0.mk A30
 clear A30
 rcases t263 with _ | q264
 ·have H1 : (if t262 = 2 then (if (Go.bits .and .u64 t261 1) = 0 then (if a1_1 = true then ((shape_Fold.f a0 (IntKind.u64.wrap (-t261))).bind fun bt273 => (some (bt273.1, bt273.2))) else ((shape_Fold.f a0 t261).bind fun bt275 => (some (bt275.1, bt275.2)))) else (if a1_1 = true then ((shape_Fold.f a0 (IntKind.u64.wrap (-(IntKind.u64.wrap (t261 + 1))))).bind fun bt277 => (some (bt277.1, bt277.2))) else ((shape_Fold.f a0 (IntKind.u64.wrap (t261 + 1))).bind fun bt279 => (some (bt279.1, bt279.2))))) else (if t262 = 3 then (if a1_1 = true then ((shape_Fold.f a0 (IntKind.u64.wrap (-(IntKind.u64.wrap (t261 + 1))))).bind fun bt265 => (some (bt265.1, bt265.2))) else ((shape_Fold.f a0 (IntKind.u64.wrap (t261 + 1))).bind fun bt267 => (some (bt267.1, bt267.2)))) else (if a1_1 = true then ((shape_Fold.f a0 (IntKind.u64.wrap (-t261))).bind fun bt269 => (some (bt269.1, bt269.2))) else ((shape_Fold.f a0 t261).bind fun bt271 => (some (bt271.1, bt271.2)))))) = some (r1, r2) := by rw [if_pos (show (none : Option Int).isNone = true by rfl)] at H; exact H
  clear H
  have H := H1
  clear H1
  try simp only [errW_none, errW_some]
  by_cases c4 : t262 = 2
  ·rw [if_pos c4] at H
   have c4b0 : (t262 == 2) = true := beq_iff_eq.mpr c4
   have c4b1 : (t262 != 2) = false := bne_eq_false_iff_eq.mpr c4
   clear c4
   by_cases c5 : (Go.bits .and .u64 t261 1) = 0
   ·rw [if_pos c5] at H
    have c5b0 : ((Go.bits .and .u64 t261 1) == 0) = true := beq_iff_eq.mpr c5
    have c5b1 : ((Go.bits .and .u64 t261 1) != 0) = false := bne_eq_false_iff_eq.mpr c5
    clear c5
    by_cases c6 : a1_1 = true
    ·subst c6
     have H1 : ((shape_Fold.f a0 (IntKind.u64.wrap (-t261))).bind fun bt273 => (some (bt273.1, bt273.2))) = some (r1, r2) := by rw [if_pos rfl] at H; exact H
     clear H
     have H := H1
     clear H1
     replace H := Option.bind_eq_some_iff.mp H
     obtain ⟨⟨t273, t274⟩, A70, H⟩ := H
     replace H : (some (t273, t274)) = some (r1, r2) := H
     have A7 := Aside0.mk A70
     clear A70
     simp only [Option.some.injEq, Prod.mk.injEq] at H
     obtain ⟨rfl, rfl⟩ := H
     go_enter Try.func30, Try.ntmps30
     go_wp2_with (first | ((with_reducible refine gate_dst (N := 3) rfl ?_); refine box_event ?hg (N := 3) ?hd (cs := #[.int .i64 a1_0, .bool true, .int .i64 a1_2, .int .u64 a1_3, .int .u64 a1_4, .bool a1_5]) (t := 27) ?hr ?_; (case hd => rfl); (case hg => rfl); (case hr => first | (go_simp; done) | (go_simp; rfl)); intro gb260 hg w8 hbox hb; have n0_ := Aside0.mk (below_step (z3_ HB.out) hb); have n1_ := Aside0.mk (hbox); have n2_ := Aside0.mk ((by rw [hg]; exact (below_size (z3_ HB.out)) : w.heap.size ≤ gb260)); have n3_ := Aside0.mk ((by rw [hg]; exact (below_size (z3_ HB.out)) : w.heap.size ≤ gb260)); clear HB; have HB := n0_; have BK260 := n1_; have GW260 := n2_; have GE260 := n3_; clear n0_ n1_ n2_ n3_; clear hb hbox hg; have hcz9_0 := z4_ BK260.out 0 (.int .i64 a1_0) rfl; have hcz9_1 := z4_ BK260.out 1 (.bool true) rfl; have hcz9_2 := z4_ BK260.out 2 (.int .i64 a1_2) rfl; have hcz9_3 := z4_ BK260.out 3 (.int .u64 a1_3) rfl; have hcz9_4 := z4_ BK260.out 4 (.int .u64 a1_4) rfl; have hcz9_5 := z4_ BK260.out 5 (.bool a1_5) rfl; have hfz9_0 := blk_frozen BK260.out 0; have hfz9_1 := blk_frozen BK260.out 1; have hfz9_2 := blk_frozen BK260.out 2; have hfz9_3 := blk_frozen BK260.out 3; have hfz9_4 := blk_frozen BK260.out 4; have hfz9_5 := blk_frozen BK260.out 5) | ((with_reducible refine gate_callee (f := 49) rfl ?_); refine goesL_ (some 12) rfl rfl Try.func49 (by kernel_rfl) rfl #[.int .i64 a0, .agg #[.int .i64 a1_0, .bool true, .int .i64 a1_2, .int .u64 a1_3, .int .u64 a1_4, .bool a1_5]] rfl z5_ ?_; (with_reducible refine (round_Cut.calls k a0 a1_0 true a1_2 a1_3 a1_4 a1_5 t261 t262 none _ A3.out).mono ?_); rintro e w10 ⟨rfl, hb⟩; refine ⟨_, rfl, ?_⟩; have n0_ := Aside0.mk (blk_below (g := gb260) (z1_ BK260.out) hb); have n1_ := Aside0.mk (below_step (z3_ HB.out) hb); clear BK260; clear HB; have BK260 := n0_; have HB := n1_; clear n0_ n1_; (try clear hb); (try clear hb2); (try clear hk); (try clear hi); (try simp only [errW_none, errW_some]); have hcz11_0 := z4_ BK260.out 0 (.int .i64 a1_0) rfl; have hcz11_1 := z4_ BK260.out 1 (.bool true) rfl; have hcz11_2 := z4_ BK260.out 2 (.int .i64 a1_2) rfl; have hcz11_3 := z4_ BK260.out 3 (.int .u64 a1_3) rfl; have hcz11_4 := z4_ BK260.out 4 (.int .u64 a1_4) rfl; have hcz11_5 := z4_ BK260.out 5 (.bool a1_5) rfl; have hfz11_0 := blk_frozen BK260.out 0; have hfz11_1 := blk_frozen BK260.out 1; have hfz11_2 := blk_frozen BK260.out 2; have hfz11_3 := blk_frozen BK260.out 3; have hfz11_4 := blk_frozen BK260.out 4; have hfz11_5 := blk_frozen BK260.out 5) | ((with_reducible refine gate_callee (f := 50) rfl ?_); refine goesL_ (some 35) rfl rfl Try.func50 (by kernel_rfl) rfl #[.int .i64 a0, .int .u64 (IntKind.u64.wrap (-t261))] rfl z5_ ?_; (with_reducible refine (shape_Fold.calls a0 (IntKind.u64.wrap (-t261)) t273 t274 _ A7.out).mono ?_); rintro e w' ⟨rfl, ⟨nd, rfl⟩⟩; refine ⟨_, rfl, ?_⟩; (try simp only [errW_none, errW_some])))
     go_ret2
     exact ⟨by first | rfl | (simp [errW_none, errW_some] <;> rfl) | (simp [*, errW_none, errW_some] <;> rfl), by repeat (first | (with_reducible first | exact HB.out | apply below_alloc | apply pw_below_drewN | apply below_drew1 | refine below_set ?_ GE260.out) | exact HB.out)⟩
    ·replace c6 := Bool.eq_false_iff.mpr c6
     subst c6
     have H1 : ((shape_Fold.f a0 t261).bind fun bt275 => (some (bt275.1, bt275.2))) = some (r1, r2) := by rw [if_neg (show ¬ (false = true) by decide)] at H; exact H
     clear H
     have H := H1
     clear H1
     replace H := Option.bind_eq_some_iff.mp H
     obtain ⟨⟨t275, t276⟩, A120, H⟩ := H
     replace H : (some (t275, t276)) = some (r1, r2) := H
     have A12 := Aside0.mk A120
     clear A120
     simp only [Option.some.injEq, Prod.mk.injEq] at H
     obtain ⟨rfl, rfl⟩ := H
     go_enter Try.func30, Try.ntmps30
     go_wp2_with (first | ((with_reducible refine gate_dst (N := 3) rfl ?_); refine box_event ?hg (N := 3) ?hd (cs := #[.int .i64 a1_0, .bool false, .int .i64 a1_2, .int .u64 a1_3, .int .u64 a1_4, .bool a1_5]) (t := 27) ?hr ?_; (case hd => rfl); (case hg => rfl); (case hr => first | (go_simp; done) | (go_simp; rfl)); intro gb260 hg w13 hbox hb; have n0_ := Aside0.mk (below_step (z3_ HB.out) hb); have n1_ := Aside0.mk (hbox); have n2_ := Aside0.mk ((by rw [hg]; exact (below_size (z3_ HB.out)) : w.heap.size ≤ gb260)); have n3_ := Aside0.mk ((by rw [hg]; exact (below_size (z3_ HB.out)) : w.heap.size ≤ gb260)); clear HB; have HB := n0_; have BK260 := n1_; have GW260 := n2_; have GE260 := n3_; clear n0_ n1_ n2_ n3_; clear hb hbox hg; have hcz14_0 := z4_ BK260.out 0 (.int .i64 a1_0) rfl; have hcz14_1 := z4_ BK260.out 1 (.bool false) rfl; have hcz14_2 := z4_ BK260.out 2 (.int .i64 a1_2) rfl; have hcz14_3 := z4_ BK260.out 3 (.int .u64 a1_3) rfl; have hcz14_4 := z4_ BK260.out 4 (.int .u64 a1_4) rfl; have hcz14_5 := z4_ BK260.out 5 (.bool a1_5) rfl; have hfz14_0 := blk_frozen BK260.out 0; have hfz14_1 := blk_frozen BK260.out 1; have hfz14_2 := blk_frozen BK260.out 2; have hfz14_3 := blk_frozen BK260.out 3; have hfz14_4 := blk_frozen BK260.out 4; have hfz14_5 := blk_frozen BK260.out 5) | ((with_reducible refine gate_callee (f := 49) rfl ?_); refine goesL_ (some 12) rfl rfl Try.func49 (by kernel_rfl) rfl #[.int .i64 a0, .agg #[.int .i64 a1_0, .bool false, .int .i64 a1_2, .int .u64 a1_3, .int .u64 a1_4, .bool a1_5]] rfl z5_ ?_; (with_reducible refine (round_Cut.calls k a0 a1_0 false a1_2 a1_3 a1_4 a1_5 t261 t262 none _ A3.out).mono ?_); rintro e w15 ⟨rfl, hb⟩; refine ⟨_, rfl, ?_⟩; have n0_ := Aside0.mk (blk_below (g := gb260) (z1_ BK260.out) hb); have n1_ := Aside0.mk (below_step (z3_ HB.out) hb); clear BK260; clear HB; have BK260 := n0_; have HB := n1_; clear n0_ n1_; (try clear hb); (try clear hb2); (try clear hk); (try clear hi); (try simp only [errW_none, errW_some]); have hcz16_0 := z4_ BK260.out 0 (.int .i64 a1_0) rfl; have hcz16_1 := z4_ BK260.out 1 (.bool false) rfl; have hcz16_2 := z4_ BK260.out 2 (.int .i64 a1_2) rfl; have hcz16_3 := z4_ BK260.out 3 (.int .u64 a1_3) rfl; have hcz16_4 := z4_ BK260.out 4 (.int .u64 a1_4) rfl; have hcz16_5 := z4_ BK260.out 5 (.bool a1_5) rfl; have hfz16_0 := blk_frozen BK260.out 0; have hfz16_1 := blk_frozen BK260.out 1; have hfz16_2 := blk_frozen BK260.out 2; have hfz16_3 := blk_frozen BK260.out 3; have hfz16_4 := blk_frozen BK260.out 4; have hfz16_5 := blk_frozen BK260.out 5) | ((with_reducible refine gate_callee (f := 50) rfl ?_); refine goesL_ (some 35) rfl rfl Try.func50 (by kernel_rfl) rfl #[.int .i64 a0, .int .u64 t261] rfl z5_ ?_; (with_reducible refine (shape_Fold.calls a0 t261 t275 t276 _ A12.out).mono ?_); rintro e w' ⟨rfl, ⟨nd, rfl⟩⟩; refine ⟨_, rfl, ?_⟩; (try simp only [errW_none, errW_some])))
     go_ret2
     exact ⟨by first | rfl | (simp [errW_none, errW_some] <;> rfl) | (simp [*, errW_none, errW_some] <;> rfl), by repeat (first | (with_reducible first | exact HB.out | apply below_alloc | apply pw_below_drewN | apply below_drew1 | refine below_set ?_ GE260.out) | exact HB.out)⟩
   ·rw [if_neg c5] at H
    have c5b0 : ((Go.bits .and .u64 t261 1) == 0) = false := beq_eq_false_iff_ne.mpr c5
    have c5b1 : ((Go.bits .and .u64 t261 1) != 0) = true := bne_iff_ne.mpr c5
    by_cases c17 : a1_1 = true
    ·subst c17
     have H1 : ((shape_Fold.f a0 (IntKind.u64.wrap (-(IntKind.u64.wrap (t261 + 1))))).bind fun bt277 => (some (bt277.1, bt277.2))) = some (r1, r2) := by rw [if_pos rfl] at H; exact H
     clear H
     have H := H1
     clear H1
     replace H := Option.bind_eq_some_iff.mp H
     obtain ⟨⟨t277, t278⟩, A180, H⟩ := H
     replace H : (some (t277, t278)) = some (r1, r2) := H
     have A18 := Aside0.mk A180
     clear A180
     simp only [Option.some.injEq, Prod.mk.injEq] at H
     obtain ⟨rfl, rfl⟩ := H
     go_enter Try.func30, Try.ntmps30
     go_wp2_with (first | ((with_reducible refine gate_dst (N := 3) rfl ?_); refine box_event ?hg (N := 3) ?hd (cs := #[.int .i64 a1_0, .bool true, .int .i64 a1_2, .int .u64 a1_3, .int .u64 a1_4, .bool a1_5]) (t := 27) ?hr ?_; (case hd => rfl); (case hg => rfl); (case hr => first | (go_simp; done) | (go_simp; rfl)); intro gb260 hg w19 hbox hb; have n0_ := Aside0.mk (below_step (z3_ HB.out) hb); have n1_ := Aside0.mk (hbox); have n2_ := Aside0.mk ((by rw [hg]; exact (below_size (z3_ HB.out)) : w.heap.size ≤ gb260)); have n3_ := Aside0.mk ((by rw [hg]; exact (below_size (z3_ HB.out)) : w.heap.size ≤ gb260)); clear HB; have HB := n0_; have BK260 := n1_; have GW260 := n2_; have GE260 := n3_; clear n0_ n1_ n2_ n3_; clear hb hbox hg; have hcz20_0 := z4_ BK260.out 0 (.int .i64 a1_0) rfl; have hcz20_1 := z4_ BK260.out 1 (.bool true) rfl; have hcz20_2 := z4_ BK260.out 2 (.int .i64 a1_2) rfl; have hcz20_3 := z4_ BK260.out 3 (.int .u64 a1_3) rfl; have hcz20_4 := z4_ BK260.out 4 (.int .u64 a1_4) rfl; have hcz20_5 := z4_ BK260.out 5 (.bool a1_5) rfl; have hfz20_0 := blk_frozen BK260.out 0; have hfz20_1 := blk_frozen BK260.out 1; have hfz20_2 := blk_frozen BK260.out 2; have hfz20_3 := blk_frozen BK260.out 3; have hfz20_4 := blk_frozen BK260.out 4; have hfz20_5 := blk_frozen BK260.out 5) | ((with_reducible refine gate_callee (f := 49) rfl ?_); refine goesL_ (some 12) rfl rfl Try.func49 (by kernel_rfl) rfl #[.int .i64 a0, .agg #[.int .i64 a1_0, .bool true, .int .i64 a1_2, .int .u64 a1_3, .int .u64 a1_4, .bool a1_5]] rfl z5_ ?_; (with_reducible refine (round_Cut.calls k a0 a1_0 true a1_2 a1_3 a1_4 a1_5 t261 t262 none _ A3.out).mono ?_); rintro e w21 ⟨rfl, hb⟩; refine ⟨_, rfl, ?_⟩; have n0_ := Aside0.mk (blk_below (g := gb260) (z1_ BK260.out) hb); have n1_ := Aside0.mk (below_step (z3_ HB.out) hb); clear BK260; clear HB; have BK260 := n0_; have HB := n1_; clear n0_ n1_; (try clear hb); (try clear hb2); (try clear hk); (try clear hi); (try simp only [errW_none, errW_some]); have hcz22_0 := z4_ BK260.out 0 (.int .i64 a1_0) rfl; have hcz22_1 := z4_ BK260.out 1 (.bool true) rfl; have hcz22_2 := z4_ BK260.out 2 (.int .i64 a1_2) rfl; have hcz22_3 := z4_ BK260.out 3 (.int .u64 a1_3) rfl; have hcz22_4 := z4_ BK260.out 4 (.int .u64 a1_4) rfl; have hcz22_5 := z4_ BK260.out 5 (.bool a1_5) rfl; have hfz22_0 := blk_frozen BK260.out 0; have hfz22_1 := blk_frozen BK260.out 1; have hfz22_2 := blk_frozen BK260.out 2; have hfz22_3 := blk_frozen BK260.out 3; have hfz22_4 := blk_frozen BK260.out 4; have hfz22_5 := blk_frozen BK260.out 5) | ((with_reducible refine gate_callee (f := 50) rfl ?_); refine goesL_ (some 35) rfl rfl Try.func50 (by kernel_rfl) rfl #[.int .i64 a0, .int .u64 (IntKind.u64.wrap (-(IntKind.u64.wrap (t261 + 1))))] rfl z5_ ?_; (with_reducible refine (shape_Fold.calls a0 (IntKind.u64.wrap (-(IntKind.u64.wrap (t261 + 1)))) t277 t278 _ A18.out).mono ?_); rintro e w' ⟨rfl, ⟨nd, rfl⟩⟩; refine ⟨_, rfl, ?_⟩; (try simp only [errW_none, errW_some])))
     go_ret2
     exact ⟨by first | rfl | (simp [errW_none, errW_some] <;> rfl) | (simp [*, errW_none, errW_some] <;> rfl), by repeat (first | (with_reducible first | exact HB.out | apply below_alloc | apply pw_below_drewN | apply below_drew1 | refine below_set ?_ GE260.out) | exact HB.out)⟩
    ·replace c17 := Bool.eq_false_iff.mpr c17
     subst c17
     have H1 : ((shape_Fold.f a0 (IntKind.u64.wrap (t261 + 1))).bind fun bt279 => (some (bt279.1, bt279.2))) = some (r1, r2) := by rw [if_neg (show ¬ (false = true) by decide)] at H; exact H
     clear H
     have H := H1
     clear H1
     replace H := Option.bind_eq_some_iff.mp H
     obtain ⟨⟨t279, t280⟩, A230, H⟩ := H
     replace H : (some (t279, t280)) = some (r1, r2) := H
     have A23 := Aside0.mk A230
     clear A230
     simp only [Option.some.injEq, Prod.mk.injEq] at H
     obtain ⟨rfl, rfl⟩ := H
     go_enter Try.func30, Try.ntmps30
     go_wp2_with (first | ((with_reducible refine gate_dst (N := 3) rfl ?_); refine box_event ?hg (N := 3) ?hd (cs := #[.int .i64 a1_0, .bool false, .int .i64 a1_2, .int .u64 a1_3, .int .u64 a1_4, .bool a1_5]) (t := 27) ?hr ?_; (case hd => rfl); (case hg => rfl); (case hr => first | (go_simp; done) | (go_simp; rfl)); intro gb260 hg w24 hbox hb; have n0_ := Aside0.mk (below_step (z3_ HB.out) hb); have n1_ := Aside0.mk (hbox); have n2_ := Aside0.mk ((by rw [hg]; exact (below_size (z3_ HB.out)) : w.heap.size ≤ gb260)); have n3_ := Aside0.mk ((by rw [hg]; exact (below_size (z3_ HB.out)) : w.heap.size ≤ gb260)); clear HB; have HB := n0_; have BK260 := n1_; have GW260 := n2_; have GE260 := n3_; clear n0_ n1_ n2_ n3_; clear hb hbox hg; have hcz25_0 := z4_ BK260.out 0 (.int .i64 a1_0) rfl; have hcz25_1 := z4_ BK260.out 1 (.bool false) rfl; have hcz25_2 := z4_ BK260.out 2 (.int .i64 a1_2) rfl; have hcz25_3 := z4_ BK260.out 3 (.int .u64 a1_3) rfl; have hcz25_4 := z4_ BK260.out 4 (.int .u64 a1_4) rfl; have hcz25_5 := z4_ BK260.out 5 (.bool a1_5) rfl; have hfz25_0 := blk_frozen BK260.out 0; have hfz25_1 := blk_frozen BK260.out 1; have hfz25_2 := blk_frozen BK260.out 2; have hfz25_3 := blk_frozen BK260.out 3; have hfz25_4 := blk_frozen BK260.out 4; have hfz25_5 := blk_frozen BK260.out 5) | ((with_reducible refine gate_callee (f := 49) rfl ?_); refine goesL_ (some 12) rfl rfl Try.func49 (by kernel_rfl) rfl #[.int .i64 a0, .agg #[.int .i64 a1_0, .bool false, .int .i64 a1_2, .int .u64 a1_3, .int .u64 a1_4, .bool a1_5]] rfl z5_ ?_; (with_reducible refine (round_Cut.calls k a0 a1_0 false a1_2 a1_3 a1_4 a1_5 t261 t262 none _ A3.out).mono ?_); rintro e w26 ⟨rfl, hb⟩; refine ⟨_, rfl, ?_⟩; have n0_ := Aside0.mk (blk_below (g := gb260) (z1_ BK260.out) hb); have n1_ := Aside0.mk (below_step (z3_ HB.out) hb); clear BK260; clear HB; have BK260 := n0_; have HB := n1_; clear n0_ n1_; (try clear hb); (try clear hb2); (try clear hk); (try clear hi); (try simp only [errW_none, errW_some]); have hcz27_0 := z4_ BK260.out 0 (.int .i64 a1_0) rfl; have hcz27_1 := z4_ BK260.out 1 (.bool false) rfl; have hcz27_2 := z4_ BK260.out 2 (.int .i64 a1_2) rfl; have hcz27_3 := z4_ BK260.out 3 (.int .u64 a1_3) rfl; have hcz27_4 := z4_ BK260.out 4 (.int .u64 a1_4) rfl; have hcz27_5 := z4_ BK260.out 5 (.bool a1_5) rfl; have hfz27_0 := blk_frozen BK260.out 0; have hfz27_1 := blk_frozen BK260.out 1; have hfz27_2 := blk_frozen BK260.out 2; have hfz27_3 := blk_frozen BK260.out 3; have hfz27_4 := blk_frozen BK260.out 4; have hfz27_5 := blk_frozen BK260.out 5) | ((with_reducible refine gate_callee (f := 50) rfl ?_); refine goesL_ (some 35) rfl rfl Try.func50 (by kernel_rfl) rfl #[.int .i64 a0, .int .u64 (IntKind.u64.wrap (t261 + 1))] rfl z5_ ?_; (with_reducible refine (shape_Fold.calls a0 (IntKind.u64.wrap (t261 + 1)) t279 t280 _ A23.out).mono ?_); rintro e w' ⟨rfl, ⟨nd, rfl⟩⟩; refine ⟨_, rfl, ?_⟩; (try simp only [errW_none, errW_some])))
     go_ret2
     exact ⟨by first | rfl | (simp [errW_none, errW_some] <;> rfl) | (simp [*, errW_none, errW_some] <;> rfl), by repeat (first | (with_reducible first | exact HB.out | apply below_alloc | apply pw_below_drewN | apply below_drew1 | refine below_set ?_ GE260.out) | exact HB.out)⟩
  ·rw [if_neg c4] at H
   have c4b0 : (t262 == 2) = false := beq_eq_false_iff_ne.mpr c4
   have c4b1 : (t262 != 2) = true := bne_iff_ne.mpr c4
   by_cases c28 : t262 = 3
   ·rw [if_pos c28] at H
    have c28b0 : (t262 == 3) = true := beq_iff_eq.mpr c28
    have c28b1 : (t262 != 3) = false := bne_eq_false_iff_eq.mpr c28
    clear c28
    by_cases c29 : a1_1 = true
    ·subst c29
     have H1 : ((shape_Fold.f a0 (IntKind.u64.wrap (-(IntKind.u64.wrap (t261 + 1))))).bind fun bt265 => (some (bt265.1, bt265.2))) = some (r1, r2) := by rw [if_pos rfl] at H; exact H
     clear H
     have H := H1
     clear H1
     replace H := Option.bind_eq_some_iff.mp H
     obtain ⟨⟨t265, t266⟩, A300, H⟩ := H
     replace H : (some (t265, t266)) = some (r1, r2) := H
     have A30 := Aside0.mk A300
     clear A300
     simp only [Option.some.injEq, Prod.mk.injEq] at H
     obtain ⟨rfl, rfl⟩ := H
     go_enter Try.func30, Try.ntmps30
     go_wp2_with (first | ((with_reducible refine gate_dst (N := 3) rfl ?_); refine box_event ?hg (N := 3) ?hd (cs := #[.int .i64 a1_0, .bool true, .int .i64 a1_2, .int .u64 a1_3, .int .u64 a1_4, .bool a1_5]) (t := 27) ?hr ?_; (case hd => rfl); (case hg => rfl); (case hr => first | (go_simp; done) | (go_simp; rfl)); intro gb260 hg w31 hbox hb; have n0_ := Aside0.mk (below_step (z3_ HB.out) hb); have n1_ := Aside0.mk (hbox); have n2_ := Aside0.mk ((by rw [hg]; exact (below_size (z3_ HB.out)) : w.heap.size ≤ gb260)); have n3_ := Aside0.mk ((by rw [hg]; exact (below_size (z3_ HB.out)) : w.heap.size ≤ gb260)); clear HB; have HB := n0_; have BK260 := n1_; have GW260 := n2_; have GE260 := n3_; clear n0_ n1_ n2_ n3_; clear hb hbox hg; have hcz32_0 := z4_ BK260.out 0 (.int .i64 a1_0) rfl; have hcz32_1 := z4_ BK260.out 1 (.bool true) rfl; have hcz32_2 := z4_ BK260.out 2 (.int .i64 a1_2) rfl; have hcz32_3 := z4_ BK260.out 3 (.int .u64 a1_3) rfl; have hcz32_4 := z4_ BK260.out 4 (.int .u64 a1_4) rfl; have hcz32_5 := z4_ BK260.out 5 (.bool a1_5) rfl; have hfz32_0 := blk_frozen BK260.out 0; have hfz32_1 := blk_frozen BK260.out 1; have hfz32_2 := blk_frozen BK260.out 2; have hfz32_3 := blk_frozen BK260.out 3; have hfz32_4 := blk_frozen BK260.out 4; have hfz32_5 := blk_frozen BK260.out 5) | ((with_reducible refine gate_callee (f := 49) rfl ?_); refine goesL_ (some 12) rfl rfl Try.func49 (by kernel_rfl) rfl #[.int .i64 a0, .agg #[.int .i64 a1_0, .bool true, .int .i64 a1_2, .int .u64 a1_3, .int .u64 a1_4, .bool a1_5]] rfl z5_ ?_; (with_reducible refine (round_Cut.calls k a0 a1_0 true a1_2 a1_3 a1_4 a1_5 t261 t262 none _ A3.out).mono ?_); rintro e w33 ⟨rfl, hb⟩; refine ⟨_, rfl, ?_⟩; have n0_ := Aside0.mk (blk_below (g := gb260) (z1_ BK260.out) hb); have n1_ := Aside0.mk (below_step (z3_ HB.out) hb); clear BK260; clear HB; have BK260 := n0_; have HB := n1_; clear n0_ n1_; (try clear hb); (try clear hb2); (try clear hk); (try clear hi); (try simp only [errW_none, errW_some]); have hcz34_0 := z4_ BK260.out 0 (.int .i64 a1_0) rfl; have hcz34_1 := z4_ BK260.out 1 (.bool true) rfl; have hcz34_2 := z4_ BK260.out 2 (.int .i64 a1_2) rfl; have hcz34_3 := z4_ BK260.out 3 (.int .u64 a1_3) rfl; have hcz34_4 := z4_ BK260.out 4 (.int .u64 a1_4) rfl; have hcz34_5 := z4_ BK260.out 5 (.bool a1_5) rfl; have hfz34_0 := blk_frozen BK260.out 0; have hfz34_1 := blk_frozen BK260.out 1; have hfz34_2 := blk_frozen BK260.out 2; have hfz34_3 := blk_frozen BK260.out 3; have hfz34_4 := blk_frozen BK260.out 4; have hfz34_5 := blk_frozen BK260.out 5) | ((with_reducible refine gate_callee (f := 50) rfl ?_); refine goesL_ (some 35) rfl rfl Try.func50 (by kernel_rfl) rfl #[.int .i64 a0, .int .u64 (IntKind.u64.wrap (-(IntKind.u64.wrap (t261 + 1))))] rfl z5_ ?_; (with_reducible refine (shape_Fold.calls a0 (IntKind.u64.wrap (-(IntKind.u64.wrap (t261 + 1)))) t265 t266 _ A30.out).mono ?_); rintro e w' ⟨rfl, ⟨nd, rfl⟩⟩; refine ⟨_, rfl, ?_⟩; (try simp only [errW_none, errW_some])))
     go_ret2
     exact ⟨by first | rfl | (simp [errW_none, errW_some] <;> rfl) | (simp [*, errW_none, errW_some] <;> rfl), by repeat (first | (with_reducible first | exact HB.out | apply below_alloc | apply pw_below_drewN | apply below_drew1 | refine below_set ?_ GE260.out) | exact HB.out)⟩
    ·replace c29 := Bool.eq_false_iff.mpr c29
     subst c29
     have H1 : ((shape_Fold.f a0 (IntKind.u64.wrap (t261 + 1))).bind fun bt267 => (some (bt267.1, bt267.2))) = some (r1, r2) := by rw [if_neg (show ¬ (false = true) by decide)] at H; exact H
     clear H
     have H := H1
     clear H1
     replace H := Option.bind_eq_some_iff.mp H
     obtain ⟨⟨t267, t268⟩, A350, H⟩ := H
     replace H : (some (t267, t268)) = some (r1, r2) := H
     have A35 := Aside0.mk A350
     clear A350
     simp only [Option.some.injEq, Prod.mk.injEq] at H
     obtain ⟨rfl, rfl⟩ := H
     go_enter Try.func30, Try.ntmps30
     go_wp2_with (first | ((with_reducible refine gate_dst (N := 3) rfl ?_); refine box_event ?hg (N := 3) ?hd (cs := #[.int .i64 a1_0, .bool false, .int .i64 a1_2, .int .u64 a1_3, .int .u64 a1_4, .bool a1_5]) (t := 27) ?hr ?_; (case hd => rfl); (case hg => rfl); (case hr => first | (go_simp; done) | (go_simp; rfl)); intro gb260 hg w36 hbox hb; have n0_ := Aside0.mk (below_step (z3_ HB.out) hb); have n1_ := Aside0.mk (hbox); have n2_ := Aside0.mk ((by rw [hg]; exact (below_size (z3_ HB.out)) : w.heap.size ≤ gb260)); have n3_ := Aside0.mk ((by rw [hg]; exact (below_size (z3_ HB.out)) : w.heap.size ≤ gb260)); clear HB; have HB := n0_; have BK260 := n1_; have GW260 := n2_; have GE260 := n3_; clear n0_ n1_ n2_ n3_; clear hb hbox hg; have hcz37_0 := z4_ BK260.out 0 (.int .i64 a1_0) rfl; have hcz37_1 := z4_ BK260.out 1 (.bool false) rfl; have hcz37_2 := z4_ BK260.out 2 (.int .i64 a1_2) rfl; have hcz37_3 := z4_ BK260.out 3 (.int .u64 a1_3) rfl; have hcz37_4 := z4_ BK260.out 4 (.int .u64 a1_4) rfl; have hcz37_5 := z4_ BK260.out 5 (.bool a1_5) rfl; have hfz37_0 := blk_frozen BK260.out 0; have hfz37_1 := blk_frozen BK260.out 1; have hfz37_2 := blk_frozen BK260.out 2; have hfz37_3 := blk_frozen BK260.out 3; have hfz37_4 := blk_frozen BK260.out 4; have hfz37_5 := blk_frozen BK260.out 5) | ((with_reducible refine gate_callee (f := 49) rfl ?_); refine goesL_ (some 12) rfl rfl Try.func49 (by kernel_rfl) rfl #[.int .i64 a0, .agg #[.int .i64 a1_0, .bool false, .int .i64 a1_2, .int .u64 a1_3, .int .u64 a1_4, .bool a1_5]] rfl z5_ ?_; (with_reducible refine (round_Cut.calls k a0 a1_0 false a1_2 a1_3 a1_4 a1_5 t261 t262 none _ A3.out).mono ?_); rintro e w38 ⟨rfl, hb⟩; refine ⟨_, rfl, ?_⟩; have n0_ := Aside0.mk (blk_below (g := gb260) (z1_ BK260.out) hb); have n1_ := Aside0.mk (below_step (z3_ HB.out) hb); clear BK260; clear HB; have BK260 := n0_; have HB := n1_; clear n0_ n1_; (try clear hb); (try clear hb2); (try clear hk); (try clear hi); (try simp only [errW_none, errW_some]); have hcz39_0 := z4_ BK260.out 0 (.int .i64 a1_0) rfl; have hcz39_1 := z4_ BK260.out 1 (.bool false) rfl; have hcz39_2 := z4_ BK260.out 2 (.int .i64 a1_2) rfl; have hcz39_3 := z4_ BK260.out 3 (.int .u64 a1_3) rfl; have hcz39_4 := z4_ BK260.out 4 (.int .u64 a1_4) rfl; have hcz39_5 := z4_ BK260.out 5 (.bool a1_5) rfl; have hfz39_0 := blk_frozen BK260.out 0; have hfz39_1 := blk_frozen BK260.out 1; have hfz39_2 := blk_frozen BK260.out 2; have hfz39_3 := blk_frozen BK260.out 3; have hfz39_4 := blk_frozen BK260.out 4; have hfz39_5 := blk_frozen BK260.out 5) | ((with_reducible refine gate_callee (f := 50) rfl ?_); refine goesL_ (some 35) rfl rfl Try.func50 (by kernel_rfl) rfl #[.int .i64 a0, .int .u64 (IntKind.u64.wrap (t261 + 1))] rfl z5_ ?_; (with_reducible refine (shape_Fold.calls a0 (IntKind.u64.wrap (t261 + 1)) t267 t268 _ A35.out).mono ?_); rintro e w' ⟨rfl, ⟨nd, rfl⟩⟩; refine ⟨_, rfl, ?_⟩; (try simp only [errW_none, errW_some])))
     go_ret2
     exact ⟨by first | rfl | (simp [errW_none, errW_some] <;> rfl) | (simp [*, errW_none, errW_some] <;> rfl), by repeat (first | (with_reducible first | exact HB.out | apply below_alloc | apply pw_below_drewN | apply below_drew1 | refine below_set ?_ GE260.out) | exact HB.out)⟩
   ·rw [if_neg c28] at H
    have c28b0 : (t262 == 3) = false := beq_eq_false_iff_ne.mpr c28
    have c28b1 : (t262 != 3) = true := bne_iff_ne.mpr c28
    by_cases c40 : a1_1 = true
    ·subst c40
     have H1 : ((shape_Fold.f a0 (IntKind.u64.wrap (-t261))).bind fun bt269 => (some (bt269.1, bt269.2))) = some (r1, r2) := by rw [if_pos rfl] at H; exact H
     clear H
     have H := H1
     clear H1
     replace H := Option.bind_eq_some_iff.mp H
     obtain ⟨⟨t269, t270⟩, A410, H⟩ := H
     replace H : (some (t269, t270)) = some (r1, r2) := H
     have A41 := Aside0.mk A410
     clear A410
     simp only [Option.some.injEq, Prod.mk.injEq] at H
     obtain ⟨rfl, rfl⟩ := H
     go_enter Try.func30, Try.ntmps30
     go_wp2_with (first | ((with_reducible refine gate_dst (N := 3) rfl ?_); refine box_event ?hg (N := 3) ?hd (cs := #[.int .i64 a1_0, .bool true, .int .i64 a1_2, .int .u64 a1_3, .int .u64 a1_4, .bool a1_5]) (t := 27) ?hr ?_; (case hd => rfl); (case hg => rfl); (case hr => first | (go_simp; done) | (go_simp; rfl)); intro gb260 hg w42 hbox hb; have n0_ := Aside0.mk (below_step (z3_ HB.out) hb); have n1_ := Aside0.mk (hbox); have n2_ := Aside0.mk ((by rw [hg]; exact (below_size (z3_ HB.out)) : w.heap.size ≤ gb260)); have n3_ := Aside0.mk ((by rw [hg]; exact (below_size (z3_ HB.out)) : w.heap.size ≤ gb260)); clear HB; have HB := n0_; have BK260 := n1_; have GW260 := n2_; have GE260 := n3_; clear n0_ n1_ n2_ n3_; clear hb hbox hg; have hcz43_0 := z4_ BK260.out 0 (.int .i64 a1_0) rfl; have hcz43_1 := z4_ BK260.out 1 (.bool true) rfl; have hcz43_2 := z4_ BK260.out 2 (.int .i64 a1_2) rfl; have hcz43_3 := z4_ BK260.out 3 (.int .u64 a1_3) rfl; have hcz43_4 := z4_ BK260.out 4 (.int .u64 a1_4) rfl; have hcz43_5 := z4_ BK260.out 5 (.bool a1_5) rfl; have hfz43_0 := blk_frozen BK260.out 0; have hfz43_1 := blk_frozen BK260.out 1; have hfz43_2 := blk_frozen BK260.out 2; have hfz43_3 := blk_frozen BK260.out 3; have hfz43_4 := blk_frozen BK260.out 4; have hfz43_5 := blk_frozen BK260.out 5) | ((with_reducible refine gate_callee (f := 49) rfl ?_); refine goesL_ (some 12) rfl rfl Try.func49 (by kernel_rfl) rfl #[.int .i64 a0, .agg #[.int .i64 a1_0, .bool true, .int .i64 a1_2, .int .u64 a1_3, .int .u64 a1_4, .bool a1_5]] rfl z5_ ?_; (with_reducible refine (round_Cut.calls k a0 a1_0 true a1_2 a1_3 a1_4 a1_5 t261 t262 none _ A3.out).mono ?_); rintro e w44 ⟨rfl, hb⟩; refine ⟨_, rfl, ?_⟩; have n0_ := Aside0.mk (blk_below (g := gb260) (z1_ BK260.out) hb); have n1_ := Aside0.mk (below_step (z3_ HB.out) hb); clear BK260; clear HB; have BK260 := n0_; have HB := n1_; clear n0_ n1_; (try clear hb); (try clear hb2); (try clear hk); (try clear hi); (try simp only [errW_none, errW_some]); have hcz45_0 := z4_ BK260.out 0 (.int .i64 a1_0) rfl; have hcz45_1 := z4_ BK260.out 1 (.bool true) rfl; have hcz45_2 := z4_ BK260.out 2 (.int .i64 a1_2) rfl; have hcz45_3 := z4_ BK260.out 3 (.int .u64 a1_3) rfl; have hcz45_4 := z4_ BK260.out 4 (.int .u64 a1_4) rfl; have hcz45_5 := z4_ BK260.out 5 (.bool a1_5) rfl; have hfz45_0 := blk_frozen BK260.out 0; have hfz45_1 := blk_frozen BK260.out 1; have hfz45_2 := blk_frozen BK260.out 2; have hfz45_3 := blk_frozen BK260.out 3; have hfz45_4 := blk_frozen BK260.out 4; have hfz45_5 := blk_frozen BK260.out 5) | ((with_reducible refine gate_callee (f := 50) rfl ?_); refine goesL_ (some 35) rfl rfl Try.func50 (by kernel_rfl) rfl #[.int .i64 a0, .int .u64 (IntKind.u64.wrap (-t261))] rfl z5_ ?_; (with_reducible refine (shape_Fold.calls a0 (IntKind.u64.wrap (-t261)) t269 t270 _ A41.out).mono ?_); rintro e w' ⟨rfl, ⟨nd, rfl⟩⟩; refine ⟨_, rfl, ?_⟩; (try simp only [errW_none, errW_some])))
     go_ret2
     exact ⟨by first | rfl | (simp [errW_none, errW_some] <;> rfl) | (simp [*, errW_none, errW_some] <;> rfl), by repeat (first | (with_reducible first | exact HB.out | apply below_alloc | apply pw_below_drewN | apply below_drew1 | refine below_set ?_ GE260.out) | exact HB.out)⟩
    ·replace c40 := Bool.eq_false_iff.mpr c40
     subst c40
     have H1 : ((shape_Fold.f a0 t261).bind fun bt271 => (some (bt271.1, bt271.2))) = some (r1, r2) := by rw [if_neg (show ¬ (false = true) by decide)] at H; exact H
     clear H
     have H := H1
     clear H1
     replace H := Option.bind_eq_some_iff.mp H
     obtain ⟨⟨t271, t272⟩, A460, H⟩ := H
     replace H : (some (t271, t272)) = some (r1, r2) := H
     have A46 := Aside0.mk A460
     clear A460
     simp only [Option.some.injEq, Prod.mk.injEq] at H
     obtain ⟨rfl, rfl⟩ := H
     go_enter Try.func30, Try.ntmps30
     go_wp2_with (first | ((with_reducible refine gate_dst (N := 3) rfl ?_); refine box_event ?hg (N := 3) ?hd (cs := #[.int .i64 a1_0, .bool false, .int .i64 a1_2, .int .u64 a1_3, .int .u64 a1_4, .bool a1_5]) (t := 27) ?hr ?_; (case hd => rfl); (case hg => rfl); (case hr => first | (go_simp; done) | (go_simp; rfl)); intro gb260 hg w47 hbox hb; have n0_ := Aside0.mk (below_step (z3_ HB.out) hb); have n1_ := Aside0.mk (hbox); have n2_ := Aside0.mk ((by rw [hg]; exact (below_size (z3_ HB.out)) : w.heap.size ≤ gb260)); have n3_ := Aside0.mk ((by rw [hg]; exact (below_size (z3_ HB.out)) : w.heap.size ≤ gb260)); clear HB; have HB := n0_; have BK260 := n1_; have GW260 := n2_; have GE260 := n3_; clear n0_ n1_ n2_ n3_; clear hb hbox hg; have hcz48_0 := z4_ BK260.out 0 (.int .i64 a1_0) rfl; have hcz48_1 := z4_ BK260.out 1 (.bool false) rfl; have hcz48_2 := z4_ BK260.out 2 (.int .i64 a1_2) rfl; have hcz48_3 := z4_ BK260.out 3 (.int .u64 a1_3) rfl; have hcz48_4 := z4_ BK260.out 4 (.int .u64 a1_4) rfl; have hcz48_5 := z4_ BK260.out 5 (.bool a1_5) rfl; have hfz48_0 := blk_frozen BK260.out 0; have hfz48_1 := blk_frozen BK260.out 1; have hfz48_2 := blk_frozen BK260.out 2; have hfz48_3 := blk_frozen BK260.out 3; have hfz48_4 := blk_frozen BK260.out 4; have hfz48_5 := blk_frozen BK260.out 5) | ((with_reducible refine gate_callee (f := 49) rfl ?_); refine goesL_ (some 12) rfl rfl Try.func49 (by kernel_rfl) rfl #[.int .i64 a0, .agg #[.int .i64 a1_0, .bool false, .int .i64 a1_2, .int .u64 a1_3, .int .u64 a1_4, .bool a1_5]] rfl z5_ ?_; (with_reducible refine (round_Cut.calls k a0 a1_0 false a1_2 a1_3 a1_4 a1_5 t261 t262 none _ A3.out).mono ?_); rintro e w49 ⟨rfl, hb⟩; refine ⟨_, rfl, ?_⟩; have n0_ := Aside0.mk (blk_below (g := gb260) (z1_ BK260.out) hb); have n1_ := Aside0.mk (below_step (z3_ HB.out) hb); clear BK260; clear HB; have BK260 := n0_; have HB := n1_; clear n0_ n1_; (try clear hb); (try clear hb2); (try clear hk); (try clear hi); (try simp only [errW_none, errW_some]); have hcz50_0 := z4_ BK260.out 0 (.int .i64 a1_0) rfl; have hcz50_1 := z4_ BK260.out 1 (.bool false) rfl; have hcz50_2 := z4_ BK260.out 2 (.int .i64 a1_2) rfl; have hcz50_3 := z4_ BK260.out 3 (.int .u64 a1_3) rfl; have hcz50_4 := z4_ BK260.out 4 (.int .u64 a1_4) rfl; have hcz50_5 := z4_ BK260.out 5 (.bool a1_5) rfl; have hfz50_0 := blk_frozen BK260.out 0; have hfz50_1 := blk_frozen BK260.out 1; have hfz50_2 := blk_frozen BK260.out 2; have hfz50_3 := blk_frozen BK260.out 3; have hfz50_4 := blk_frozen BK260.out 4; have hfz50_5 := blk_frozen BK260.out 5) | ((with_reducible refine gate_callee (f := 50) rfl ?_); refine goesL_ (some 35) rfl rfl Try.func50 (by kernel_rfl) rfl #[.int .i64 a0, .int .u64 t261] rfl z5_ ?_; (with_reducible refine (shape_Fold.calls a0 t261 t271 t272 _ A46.out).mono ?_); rintro e w' ⟨rfl, ⟨nd, rfl⟩⟩; refine ⟨_, rfl, ?_⟩; (try simp only [errW_none, errW_some])))
     go_ret2
     exact ⟨by first | rfl | (simp [errW_none, errW_some] <;> rfl) | (simp [*, errW_none, errW_some] <;> rfl), by repeat (first | (with_reducible first | exact HB.out | apply below_alloc | apply pw_below_drewN | apply below_drew1 | refine below_set ?_ GE260.out) | exact HB.out)⟩
 ·have H1 : (some (0, some q264)) = some (r1, r2) := by rw [if_neg (show ¬ (some q264).isNone = true by simp)] at H; exact H
  clear H
  have H := H1
  clear H1
  try simp only [errW_none, errW_some]
  simp only [Option.some.injEq, Prod.mk.injEq] at H
  obtain ⟨rfl, rfl⟩ := H
  go_enter Try.func30, Try.ntmps30
  go_wp2_with (first | ((with_reducible refine gate_dst (N := 3) rfl ?_); refine box_event ?hg (N := 3) ?hd (cs := #[.int .i64 a1_0, .bool a1_1, .int .i64 a1_2, .int .u64 a1_3, .int .u64 a1_4, .bool a1_5]) (t := 27) ?hr ?_; (case hd => rfl); (case hg => rfl); (case hr => first | (go_simp; done) | (go_simp; rfl)); intro gb260 hg w51 hbox hb; have n0_ := Aside0.mk (below_step (z3_ HB.out) hb); have n1_ := Aside0.mk (hbox); have n2_ := Aside0.mk ((by rw [hg]; exact (below_size (z3_ HB.out)) : w.heap.size ≤ gb260)); have n3_ := Aside0.mk ((by rw [hg]; exact (below_size (z3_ HB.out)) : w.heap.size ≤ gb260)); clear HB; have HB := n0_; have BK260 := n1_; have GW260 := n2_; have GE260 := n3_; clear n0_ n1_ n2_ n3_; clear hb hbox hg; have hcz52_0 := z4_ BK260.out 0 (.int .i64 a1_0) rfl; have hcz52_1 := z4_ BK260.out 1 (.bool a1_1) rfl; have hcz52_2 := z4_ BK260.out 2 (.int .i64 a1_2) rfl; have hcz52_3 := z4_ BK260.out 3 (.int .u64 a1_3) rfl; have hcz52_4 := z4_ BK260.out 4 (.int .u64 a1_4) rfl; have hcz52_5 := z4_ BK260.out 5 (.bool a1_5) rfl; have hfz52_0 := blk_frozen BK260.out 0; have hfz52_1 := blk_frozen BK260.out 1; have hfz52_2 := blk_frozen BK260.out 2; have hfz52_3 := blk_frozen BK260.out 3; have hfz52_4 := blk_frozen BK260.out 4; have hfz52_5 := blk_frozen BK260.out 5) | ((with_reducible refine gate_callee (f := 49) rfl ?_); refine goesL_ (some 12) rfl rfl Try.func49 (by kernel_rfl) rfl #[.int .i64 a0, .agg #[.int .i64 a1_0, .bool a1_1, .int .i64 a1_2, .int .u64 a1_3, .int .u64 a1_4, .bool a1_5]] rfl z5_ ?_; (with_reducible refine (round_Cut.calls k a0 a1_0 a1_1 a1_2 a1_3 a1_4 a1_5 t261 t262 (some q264) _ A3.out).mono ?_); rintro e w53 ⟨rfl, hb⟩; refine ⟨_, rfl, ?_⟩; have n0_ := Aside0.mk (blk_below (g := gb260) (z1_ BK260.out) hb); have n1_ := Aside0.mk (below_step (z3_ HB.out) hb); clear BK260; clear HB; have BK260 := n0_; have HB := n1_; clear n0_ n1_; (try clear hb); (try clear hb2); (try clear hk); (try clear hi); (try simp only [errW_none, errW_some])))
  go_ret2
  exact ⟨by first | rfl | (simp [errW_none, errW_some] <;> rfl) | (simp [*, errW_none, errW_some] <;> rfl), by repeat (first | (with_reducible first | exact HB.out | apply below_alloc | apply pw_below_drewN | apply below_drew1 | refine below_set ?_ GE260.out) | exact HB.out)⟩
end Go.Proofs.Ytebhpipfkomhjaa.PAll
namespace Go.Proofs.Ytebhpipfkomhjaa.PAll
open Go.RowKit Go.Proofs.YtebhpipfkomhjaaW.PrintWords Go.Proofs.YtebhpipfkomhjaaW.PrintLast Go.Proofs.YtebhpipfkomhjaaW.PrintMore
attribute [local go_sem] max2_int min2_int max_two min_two max_three min_three max_four min_four
set_option linter.unusedVariables false
set_option linter.unusedSimpArgs false
def prod_Mul.f (k : Nat) (a0 : Int) (a1 : Int) (a2 : Int) : Option (Int × Option Int) := (codec_Decode.f k a0 a1).bind fun bt281 => (if bt281.2.2.2.2.isNone = true then ((codec_Decode.f k a0 a2).bind fun bt288 => ((prod_Exact.f k bt281.1 bt281.2.1 bt281.2.2.1 bt281.2.2.2.1 bt288.1 bt288.2.1 bt288.2.2.1 bt288.2.2.2.1).bind fun bt294 => ((round_Round.f k a0 bt294.1 bt294.2.1 bt294.2.2.1 bt294.2.2.2.1 bt294.2.2.2.2.1 bt294.2.2.2.2.2.1).bind fun bt302 => (some (bt302.1, bt302.2))))) else (some (0, some (bt281.2.2.2.2.getD 0))))
theorem prod_Mul.mono : ∀ a0 a1 a2 k, LeO (prod_Mul.f k a0 a1 a2) (prod_Mul.f (k + 1) a0 a1 a2) := by
 intro a0 a1 a2 k
 unfold prod_Mul.f
 repeat' first
   | (with_reducible exact codec_Decode.mono _ _ _)
   | (with_reducible exact prod_Exact.mono _ _ _ _ _ _ _ _ _)
   | (with_reducible exact round_Round.mono _ _ _ _ _ _ _ _)
   | (with_reducible exact LeO.refl _)
   | (with_reducible exact LeO.none _)
   | (with_reducible refine LeO.ite ?_ ?_)
   | (with_reducible refine LeO.bind ?_ (fun _ => ?_))
   | exact codec_Decode.mono _ _ _
   | exact prod_Exact.mono _ _ _ _ _ _ _ _ _
   | exact round_Round.mono _ _ _ _ _ _ _ _
   | exact LeO.none _
   | refine LeO.ite ?_ ?_
   | refine LeO.bind ?_ (fun _ => ?_)
set_option maxHeartbeats 8000000 in
set_option maxRecDepth 100000 in
theorem prod_Mul.calls (k : Nat) (a0 : Int) (a1 : Int) (a2 : Int) (r1 : Int) (r2 : Option Int) (w : World) (h : prod_Mul.f k a0 a1 a2 = some (r1, r2)) :
  Calls Try.prog 12 #[.int .i64 a0, .int .u64 a1, .int .u64 a2] w fun e w' => e = .returned (.tuple #[.int .u64 r1, errW r2]) ∧ Below w.heap.size w w' := by
 have hu24 := Try.underlying24
 have hu27 := Try.underlying27
 have hu29 := Try.underlying29
 have hu42 := Try.underlying42
 have HB := Aside0.mk (Below.refl w.heap.size w)
 have H : ((codec_Decode.f k a0 a1).bind fun bt281 => (if bt281.2.2.2.2.isNone = true then ((codec_Decode.f k a0 a2).bind fun bt288 => ((prod_Exact.f k bt281.1 bt281.2.1 bt281.2.2.1 bt281.2.2.2.1 bt288.1 bt288.2.1 bt288.2.2.1 bt288.2.2.2.1).bind fun bt294 => ((round_Round.f k a0 bt294.1 bt294.2.1 bt294.2.2.1 bt294.2.2.2.1 bt294.2.2.2.2.1 bt294.2.2.2.2.2.1).bind fun bt302 => (some (bt302.1, bt302.2))))) else (some (0, some (bt281.2.2.2.2.getD 0))))) = some (r1, r2) := h
 clear h
 replace H := Option.bind_eq_some_iff.mp H
 obtain ⟨⟨t281, t282, t283, t284, t285⟩, A40, H⟩ := H
 replace H : (if t285.isNone = true then ((codec_Decode.f k a0 a2).bind fun bt288 => ((prod_Exact.f k t281 t282 t283 t284 bt288.1 bt288.2.1 bt288.2.2.1 bt288.2.2.2.1).bind fun bt294 => ((round_Round.f k a0 bt294.1 bt294.2.1 bt294.2.2.1 bt294.2.2.2.1 bt294.2.2.2.2.1 bt294.2.2.2.2.2.1).bind fun bt302 => (some (bt302.1, bt302.2))))) else (some (0, some (t285.getD 0)))) = some (r1, r2) := H
 have A4 := Aside0.mk A40
 clear A40
 rcases t285 with _ | q287
 ·have H1 : ((codec_Decode.f k a0 a2).bind fun bt288 => ((prod_Exact.f k t281 t282 t283 t284 bt288.1 bt288.2.1 bt288.2.2.1 bt288.2.2.2.1).bind fun bt294 => ((round_Round.f k a0 bt294.1 bt294.2.1 bt294.2.2.1 bt294.2.2.2.1 bt294.2.2.2.2.1 bt294.2.2.2.2.2.1).bind fun bt302 => (some (bt302.1, bt302.2))))) = some (r1, r2) := by rw [if_pos (show (none : Option Int).isNone = true by rfl)] at H; exact H
  clear H
  have H := H1
  clear H1
  try simp only [errW_none, errW_some]
  replace H := Option.bind_eq_some_iff.mp H
  obtain ⟨⟨t288, t289, t290, t291, t292⟩, A50, H⟩ := H
  replace H : ((prod_Exact.f k t281 t282 t283 t284 t288 t289 t290 t291).bind fun bt294 => ((round_Round.f k a0 bt294.1 bt294.2.1 bt294.2.2.1 bt294.2.2.2.1 bt294.2.2.2.2.1 bt294.2.2.2.2.2.1).bind fun bt302 => (some (bt302.1, bt302.2)))) = some (r1, r2) := H
  have A5 := Aside0.mk A50
  clear A50
  replace H := Option.bind_eq_some_iff.mp H
  obtain ⟨⟨t294, t295, t296, t297, t298, t299, t300⟩, A60, H⟩ := H
  replace H : ((round_Round.f k a0 t294 t295 t296 t297 t298 t299).bind fun bt302 => (some (bt302.1, bt302.2))) = some (r1, r2) := H
  have A6 := Aside0.mk A60
  clear A60
  replace H := Option.bind_eq_some_iff.mp H
  obtain ⟨⟨t302, t303⟩, A70, H⟩ := H
  replace H : (some (t302, t303)) = some (r1, r2) := H
  have A7 := Aside0.mk A70
  clear A70
  simp only [Option.some.injEq, Prod.mk.injEq] at H
  obtain ⟨rfl, rfl⟩ := H
  go_enter Try.func12, Try.ntmps12
  go_wp2_with (first | ((with_reducible refine gate_callee (f := 29) rfl ?_); refine goesL_ (some 17) rfl rfl Try.func29 (by kernel_rfl) rfl #[.int .i64 a0, .int .u64 a1] rfl z5_ ?_; (with_reducible refine (codec_Decode.calls k a0 a1 t281 t282 t283 t284 none _ A4.out).mono ?_); rintro e w8 ⟨rfl, hb⟩; refine ⟨_, rfl, ?_⟩; have n0_ := Aside0.mk (below_step (z3_ HB.out) hb); clear HB; have HB := n0_; clear n0_; (try clear hb); (try clear hb2); (try clear hk); (try clear hi); (try simp only [errW_none, errW_some])) | ((with_reducible refine gate_dst (N := 8) rfl ?_); refine box_event ?hg (N := 8) ?hd (cs := #[.int .i64 0, .bool false, .int .i64 0, .int .u64 0]) (t := 24) ?hr ?_; (case hd => rfl); (case hg => rfl); (case hr => first | (go_simp; done) | (go_simp; rfl)); intro gb286 hg w9 hbox hb; have n0_ := Aside0.mk (below_step (z3_ HB.out) hb); have n1_ := Aside0.mk (hbox); have n2_ := Aside0.mk ((by rw [hg]; exact (below_size (z3_ HB.out)) : w.heap.size ≤ gb286)); have n3_ := Aside0.mk ((by rw [hg]; exact (below_size (z3_ HB.out)) : w.heap.size ≤ gb286)); clear HB; have HB := n0_; have BK286 := n1_; have GW286 := n2_; have GE286 := n3_; clear n0_ n1_ n2_ n3_; clear hb hbox hg; have hcz10_0 := z4_ BK286.out 0 (.int .i64 0) rfl; have hcz10_1 := z4_ BK286.out 1 (.bool false) rfl; have hcz10_2 := z4_ BK286.out 2 (.int .i64 0) rfl; have hcz10_3 := z4_ BK286.out 3 (.int .u64 0) rfl; have hfz10_0 := blk_frozen BK286.out 0; have hfz10_1 := blk_frozen BK286.out 1; have hfz10_2 := blk_frozen BK286.out 2; have hfz10_3 := blk_frozen BK286.out 3) | ((with_reducible refine gate_callee (f := 29) rfl ?_); refine goesL_ (some 26) rfl rfl Try.func29 (by kernel_rfl) rfl #[.int .i64 a0, .int .u64 a2] rfl z5_ ?_; (with_reducible refine (codec_Decode.calls k a0 a2 t288 t289 t290 t291 t292 _ A5.out).mono ?_); rintro e w11 ⟨rfl, hb⟩; refine ⟨_, rfl, ?_⟩; have n0_ := Aside0.mk (blk_below (g := gb286) (o := .cells #[.int .i64 t281, .bool t282, .int .i64 t283, .int .u64 t284] 24 (0, 0)) (by refine z2_ ?_; refine blk_put (cs := #[.int .i64 t281, .bool t282, .int .i64 t283, .int .u64 0]) ?_ 3 _ rfl; refine z2_ ?_; refine blk_put (cs := #[.int .i64 t281, .bool t282, .int .i64 0, .int .u64 0]) ?_ 2 _ rfl; refine z2_ ?_; refine blk_put (cs := #[.int .i64 t281, .bool false, .int .i64 0, .int .u64 0]) ?_ 1 _ rfl; refine z2_ ?_; refine blk_put (cs := #[.int .i64 0, .bool false, .int .i64 0, .int .u64 0]) ?_ 0 _ rfl; refine z2_ ?_; exact BK286.out) hb); have n1_ := Aside0.mk (below_step (z3_ HB.out) hb); clear BK286; clear HB; have BK286 := n0_; have HB := n1_; clear n0_ n1_; (try clear hb); (try clear hb2); (try clear hk); (try clear hi); (try simp only [errW_none, errW_some])) | ((with_reducible refine gate_dst (N := 10) rfl ?_); refine box_event ?hg (N := 10) ?hd (cs := #[.int .i64 0, .bool false, .int .i64 0, .int .u64 0]) (t := 24) ?hr ?_; (case hd => rfl); (case hg => rfl); (case hr => first | (go_simp; done) | (go_simp; rfl)); intro gb293 hg w12 hbox hb; have n0_ := Aside0.mk (blk_below (g := gb286) (z1_ BK286.out) hb); have n1_ := Aside0.mk (below_step (z3_ HB.out) hb); have n2_ := Aside0.mk (hbox); have n3_ := Aside0.mk ((by rw [hg]; exact (below_size (z3_ HB.out)) : w.heap.size ≤ gb293)); have n4_ := Aside0.mk ((by rw [hg]; exact (below_size (z3_ HB.out)) : w.heap.size ≤ gb293)); have n5_ := Aside0.mk ((by rw [hg]; exact Nat.ne_of_lt (blk_lt (g := gb286) (o := .cells #[.int .i64 t281, .bool t282, .int .i64 t283, .int .u64 t284] 24 (0, 0)) (z1_ BK286.out)) : gb286 ≠ gb293)); have n6_ := Aside0.mk ((by rw [hg]; exact Nat.ne_of_gt (blk_lt (g := gb286) (o := .cells #[.int .i64 t281, .bool t282, .int .i64 t283, .int .u64 t284] 24 (0, 0)) (z1_ BK286.out)) : gb293 ≠ gb286)); clear BK286; clear HB; have BK286 := n0_; have HB := n1_; have BK293 := n2_; have GW293 := n3_; have GE293 := n4_; have NB286_293 := n5_; have NB293_286 := n6_; clear n0_ n1_ n2_ n3_ n4_ n5_ n6_; clear hb hbox hg; have hnb13 := NB293_286.out; have hnc13 := NB286_293.out; have hcz14_0 := z4_ BK293.out 0 (.int .i64 0) rfl; have hcz14_1 := z4_ BK293.out 1 (.bool false) rfl; have hcz14_2 := z4_ BK293.out 2 (.int .i64 0) rfl; have hcz14_3 := z4_ BK293.out 3 (.int .u64 0) rfl; have hfz14_0 := blk_frozen BK293.out 0; have hfz14_1 := blk_frozen BK293.out 1; have hfz14_2 := blk_frozen BK293.out 2; have hfz14_3 := blk_frozen BK293.out 3; have hcz15_0 := z4_ BK286.out 0 (.int .i64 t281) rfl; have hcz15_1 := z4_ BK286.out 1 (.bool t282) rfl; have hcz15_2 := z4_ BK286.out 2 (.int .i64 t283) rfl; have hcz15_3 := z4_ BK286.out 3 (.int .u64 t284) rfl; have hfz15_0 := blk_frozen BK286.out 0; have hfz15_1 := blk_frozen BK286.out 1; have hfz15_2 := blk_frozen BK286.out 2; have hfz15_3 := blk_frozen BK286.out 3) | ((with_reducible refine gate_callee (f := 9) rfl ?_); refine goesL_ (some 32) rfl rfl Try.func9 (by kernel_rfl) rfl #[.agg #[.int .i64 t281, .bool t282, .int .i64 t283, .int .u64 t284], .agg #[.int .i64 t288, .bool t289, .int .i64 t290, .int .u64 t291]] rfl z5_ ?_; (with_reducible refine (prod_Exact.calls k t281 t282 t283 t284 t288 t289 t290 t291 t294 t295 t296 t297 t298 t299 t300 _ A6.out).mono ?_); rintro e w16 ⟨rfl, hb⟩; refine ⟨_, rfl, ?_⟩; have n0_ := Aside0.mk (blk_below (g := gb286) (o := .cells #[.int .i64 t281, .bool t282, .int .i64 t283, .int .u64 t284] 24 (0, 0)) (by refine z2_ ?_; refine blk_far ?_ NB286_293.out _; refine z2_ ?_; refine blk_far ?_ NB286_293.out _; refine z2_ ?_; refine blk_far ?_ NB286_293.out _; refine z2_ ?_; refine blk_far ?_ NB286_293.out _; refine z2_ ?_; exact BK286.out) hb); have n1_ := Aside0.mk (blk_below (g := gb293) (o := .cells #[.int .i64 t288, .bool t289, .int .i64 t290, .int .u64 t291] 24 (0, 0)) (by refine z2_ ?_; refine blk_put (cs := #[.int .i64 t288, .bool t289, .int .i64 t290, .int .u64 0]) ?_ 3 _ rfl; refine z2_ ?_; refine blk_put (cs := #[.int .i64 t288, .bool t289, .int .i64 0, .int .u64 0]) ?_ 2 _ rfl; refine z2_ ?_; refine blk_put (cs := #[.int .i64 t288, .bool false, .int .i64 0, .int .u64 0]) ?_ 1 _ rfl; refine z2_ ?_; refine blk_put (cs := #[.int .i64 0, .bool false, .int .i64 0, .int .u64 0]) ?_ 0 _ rfl; refine z2_ ?_; exact BK293.out) hb); have n2_ := Aside0.mk (below_step (z3_ HB.out) hb); clear BK286; clear BK293; clear HB; have BK286 := n0_; have BK293 := n1_; have HB := n2_; clear n0_ n1_ n2_; (try clear hb); (try clear hb2); (try clear hk); (try clear hi); (try simp only [errW_none, errW_some])) | ((with_reducible refine gate_dst (N := 12) rfl ?_); refine box_event ?hg (N := 12) ?hd (cs := #[.int .i64 0, .bool false, .int .i64 0, .int .u64 0, .int .u64 0, .bool false]) (t := 27) ?hr ?_; (case hd => rfl); (case hg => rfl); (case hr => first | (go_simp; done) | (go_simp; rfl)); intro gb301 hg w17 hbox hb; have n0_ := Aside0.mk (blk_below (g := gb286) (z1_ BK286.out) hb); have n1_ := Aside0.mk (blk_below (g := gb293) (z1_ BK293.out) hb); have n2_ := Aside0.mk (below_step (z3_ HB.out) hb); have n3_ := Aside0.mk (hbox); have n4_ := Aside0.mk ((by rw [hg]; exact (below_size (z3_ HB.out)) : w.heap.size ≤ gb301)); have n5_ := Aside0.mk ((by rw [hg]; exact (below_size (z3_ HB.out)) : w.heap.size ≤ gb301)); have n6_ := Aside0.mk ((by rw [hg]; exact Nat.ne_of_lt (blk_lt (g := gb286) (o := .cells #[.int .i64 t281, .bool t282, .int .i64 t283, .int .u64 t284] 24 (0, 0)) (z1_ BK286.out)) : gb286 ≠ gb301)); have n7_ := Aside0.mk ((by rw [hg]; exact Nat.ne_of_gt (blk_lt (g := gb286) (o := .cells #[.int .i64 t281, .bool t282, .int .i64 t283, .int .u64 t284] 24 (0, 0)) (z1_ BK286.out)) : gb301 ≠ gb286)); have n8_ := Aside0.mk ((by rw [hg]; exact Nat.ne_of_lt (blk_lt (g := gb293) (o := .cells #[.int .i64 t288, .bool t289, .int .i64 t290, .int .u64 t291] 24 (0, 0)) (z1_ BK293.out)) : gb293 ≠ gb301)); have n9_ := Aside0.mk ((by rw [hg]; exact Nat.ne_of_gt (blk_lt (g := gb293) (o := .cells #[.int .i64 t288, .bool t289, .int .i64 t290, .int .u64 t291] 24 (0, 0)) (z1_ BK293.out)) : gb301 ≠ gb293)); clear BK286; clear BK293; clear HB; have BK286 := n0_; have BK293 := n1_; have HB := n2_; have BK301 := n3_; have GW301 := n4_; have GE301 := n5_; have NB286_301 := n6_; have NB301_286 := n7_; have NB293_301 := n8_; have NB301_293 := n9_; clear n0_ n1_ n2_ n3_ n4_ n5_ n6_ n7_ n8_ n9_; clear hb hbox hg; have hnb18 := NB301_286.out; have hnc18 := NB286_301.out; have hnb19 := NB301_293.out; have hnc19 := NB293_301.out; have hcz20_0 := z4_ BK301.out 0 (.int .i64 0) rfl; have hcz20_1 := z4_ BK301.out 1 (.bool false) rfl; have hcz20_2 := z4_ BK301.out 2 (.int .i64 0) rfl; have hcz20_3 := z4_ BK301.out 3 (.int .u64 0) rfl; have hcz20_4 := z4_ BK301.out 4 (.int .u64 0) rfl; have hcz20_5 := z4_ BK301.out 5 (.bool false) rfl; have hfz20_0 := blk_frozen BK301.out 0; have hfz20_1 := blk_frozen BK301.out 1; have hfz20_2 := blk_frozen BK301.out 2; have hfz20_3 := blk_frozen BK301.out 3; have hfz20_4 := blk_frozen BK301.out 4; have hfz20_5 := blk_frozen BK301.out 5) | ((with_reducible refine gate_callee (f := 30) rfl ?_); refine goesL_ (some 37) rfl rfl Try.func30 (by kernel_rfl) rfl #[.int .i64 a0, .agg #[.int .i64 t294, .bool t295, .int .i64 t296, .int .u64 t297, .int .u64 t298, .bool t299]] rfl z5_ ?_; (with_reducible refine (round_Round.calls k a0 t294 t295 t296 t297 t298 t299 t302 t303 _ A7.out).mono ?_); rintro e w21 ⟨rfl, hb⟩; refine ⟨_, rfl, ?_⟩; have n0_ := Aside0.mk (blk_below (g := gb286) (o := .cells #[.int .i64 t281, .bool t282, .int .i64 t283, .int .u64 t284] 24 (0, 0)) (by refine z2_ ?_; refine blk_far ?_ NB286_301.out _; refine z2_ ?_; refine blk_far ?_ NB286_301.out _; refine z2_ ?_; refine blk_far ?_ NB286_301.out _; refine z2_ ?_; refine blk_far ?_ NB286_301.out _; refine z2_ ?_; refine blk_far ?_ NB286_301.out _; refine z2_ ?_; refine blk_far ?_ NB286_301.out _; refine z2_ ?_; exact BK286.out) hb); have n1_ := Aside0.mk (blk_below (g := gb293) (o := .cells #[.int .i64 t288, .bool t289, .int .i64 t290, .int .u64 t291] 24 (0, 0)) (by refine z2_ ?_; refine blk_far ?_ NB293_301.out _; refine z2_ ?_; refine blk_far ?_ NB293_301.out _; refine z2_ ?_; refine blk_far ?_ NB293_301.out _; refine z2_ ?_; refine blk_far ?_ NB293_301.out _; refine z2_ ?_; refine blk_far ?_ NB293_301.out _; refine z2_ ?_; refine blk_far ?_ NB293_301.out _; refine z2_ ?_; exact BK293.out) hb); have n2_ := Aside0.mk (blk_below (g := gb301) (o := .cells #[.int .i64 t294, .bool t295, .int .i64 t296, .int .u64 t297, .int .u64 t298, .bool t299] 27 (0, 0)) (by refine z2_ ?_; refine blk_put (cs := #[.int .i64 t294, .bool t295, .int .i64 t296, .int .u64 t297, .int .u64 t298, .bool false]) ?_ 5 _ rfl; refine z2_ ?_; refine blk_put (cs := #[.int .i64 t294, .bool t295, .int .i64 t296, .int .u64 t297, .int .u64 0, .bool false]) ?_ 4 _ rfl; refine z2_ ?_; refine blk_put (cs := #[.int .i64 t294, .bool t295, .int .i64 t296, .int .u64 0, .int .u64 0, .bool false]) ?_ 3 _ rfl; refine z2_ ?_; refine blk_put (cs := #[.int .i64 t294, .bool t295, .int .i64 0, .int .u64 0, .int .u64 0, .bool false]) ?_ 2 _ rfl; refine z2_ ?_; refine blk_put (cs := #[.int .i64 t294, .bool false, .int .i64 0, .int .u64 0, .int .u64 0, .bool false]) ?_ 1 _ rfl; refine z2_ ?_; refine blk_put (cs := #[.int .i64 0, .bool false, .int .i64 0, .int .u64 0, .int .u64 0, .bool false]) ?_ 0 _ rfl; refine z2_ ?_; exact BK301.out) hb); have n3_ := Aside0.mk (below_step (z3_ HB.out) hb); clear BK286; clear BK293; clear BK301; clear HB; have BK286 := n0_; have BK293 := n1_; have BK301 := n2_; have HB := n3_; clear n0_ n1_ n2_ n3_; (try clear hb); (try clear hb2); (try clear hk); (try clear hi); (try simp only [errW_none, errW_some])))
  go_ret2
  exact ⟨by first | rfl | (simp [errW_none, errW_some] <;> rfl) | (simp [*, errW_none, errW_some] <;> rfl), by repeat (first | (with_reducible first | exact HB.out | apply below_alloc | apply pw_below_drewN | apply below_drew1 | refine below_set ?_ GE286.out | refine below_set ?_ GE293.out | refine below_set ?_ GE301.out) | exact HB.out)⟩
 ·have H1 : (some (0, some q287)) = some (r1, r2) := by rw [if_neg (show ¬ (some q287).isNone = true by simp)] at H; exact H
  clear H
  have H := H1
  clear H1
  try simp only [errW_none, errW_some]
  simp only [Option.some.injEq, Prod.mk.injEq] at H
  obtain ⟨rfl, rfl⟩ := H
  go_enter Try.func12, Try.ntmps12
  go_wp2_with (first | ((with_reducible refine gate_callee (f := 29) rfl ?_); refine goesL_ (some 17) rfl rfl Try.func29 (by kernel_rfl) rfl #[.int .i64 a0, .int .u64 a1] rfl z5_ ?_; (with_reducible refine (codec_Decode.calls k a0 a1 t281 t282 t283 t284 (some q287) _ A4.out).mono ?_); rintro e w22 ⟨rfl, hb⟩; refine ⟨_, rfl, ?_⟩; have n0_ := Aside0.mk (below_step (z3_ HB.out) hb); clear HB; have HB := n0_; clear n0_; (try clear hb); (try clear hb2); (try clear hk); (try clear hi); (try simp only [errW_none, errW_some])) | ((with_reducible refine gate_dst (N := 8) rfl ?_); refine box_event ?hg (N := 8) ?hd (cs := #[.int .i64 0, .bool false, .int .i64 0, .int .u64 0]) (t := 24) ?hr ?_; (case hd => rfl); (case hg => rfl); (case hr => first | (go_simp; done) | (go_simp; rfl)); intro gb286 hg w23 hbox hb; have n0_ := Aside0.mk (below_step (z3_ HB.out) hb); have n1_ := Aside0.mk (hbox); have n2_ := Aside0.mk ((by rw [hg]; exact (below_size (z3_ HB.out)) : w.heap.size ≤ gb286)); have n3_ := Aside0.mk ((by rw [hg]; exact (below_size (z3_ HB.out)) : w.heap.size ≤ gb286)); clear HB; have HB := n0_; have BK286 := n1_; have GW286 := n2_; have GE286 := n3_; clear n0_ n1_ n2_ n3_; clear hb hbox hg; have hcz24_0 := z4_ BK286.out 0 (.int .i64 0) rfl; have hcz24_1 := z4_ BK286.out 1 (.bool false) rfl; have hcz24_2 := z4_ BK286.out 2 (.int .i64 0) rfl; have hcz24_3 := z4_ BK286.out 3 (.int .u64 0) rfl; have hfz24_0 := blk_frozen BK286.out 0; have hfz24_1 := blk_frozen BK286.out 1; have hfz24_2 := blk_frozen BK286.out 2; have hfz24_3 := blk_frozen BK286.out 3))
  go_ret2
  exact ⟨by first | rfl | (simp [errW_none, errW_some] <;> rfl) | (simp [*, errW_none, errW_some] <;> rfl), by repeat (first | (with_reducible first | exact HB.out | apply below_alloc | apply pw_below_drewN | apply below_drew1 | refine below_set ?_ GE286.out) | exact HB.out)⟩
end Go.Proofs.Ytebhpipfkomhjaa.PAll
namespace Go.Proofs.Ytebhpipfkomhjaa.PAll
open Go.RowKit Go.Proofs.YtebhpipfkomhjaaW.PrintWords Go.Proofs.YtebhpipfkomhjaaW.PrintLast Go.Proofs.YtebhpipfkomhjaaW.PrintMore
attribute [local go_sem] max2_int min2_int max_two min_two max_three min_three max_four min_four
set_option linter.unusedVariables false
set_option linter.unusedSimpArgs false
def vernierlaw10_up.f (k : Nat)  : Option (Bool) := (prod_Mul.f k 8 72 72).bind fun bt304 => ((prod_Mul.f k 8 1 255).bind fun bt306 => (if bt304.2.isNone = true then (if bt306.2.isNone = true then (if bt304.1 = 80 then (some (bt306.1 == 255)) else (some false)) else (some false)) else (some false)))
theorem vernierlaw10_up.mono : ∀ k, LeO (vernierlaw10_up.f k ) (vernierlaw10_up.f (k + 1) ) := by
 intro  k
 unfold vernierlaw10_up.f
 repeat' first
   | (with_reducible exact prod_Mul.mono _ _ _ _)
   | (with_reducible exact LeO.refl _)
   | (with_reducible exact LeO.none _)
   | (with_reducible refine LeO.ite ?_ ?_)
   | (with_reducible refine LeO.bind ?_ (fun _ => ?_))
   | exact prod_Mul.mono _ _ _ _
   | exact LeO.none _
   | refine LeO.ite ?_ ?_
   | refine LeO.bind ?_ (fun _ => ?_)
set_option maxHeartbeats 8000000 in
set_option maxRecDepth 100000 in
theorem vernierlaw10_up.calls (k : Nat)  (r : Bool) (w : World) (h : vernierlaw10_up.f k  = some r) :
  Calls Try.prog 8 #[] w fun e w' => e = .returned (.bool r) ∧ Below w.heap.size w w' := by
 have hu29 := Try.underlying29
 have hu42 := Try.underlying42
 have HB := Aside0.mk (Below.refl w.heap.size w)
 have H : ((prod_Mul.f k 8 72 72).bind fun bt304 => ((prod_Mul.f k 8 1 255).bind fun bt306 => (if bt304.2.isNone = true then (if bt306.2.isNone = true then (if bt304.1 = 80 then (some (bt306.1 == 255)) else (some false)) else (some false)) else (some false)))) = some r := h
 clear h
 replace H := Option.bind_eq_some_iff.mp H
 obtain ⟨⟨t304, t305⟩, A10, H⟩ := H
 replace H : ((prod_Mul.f k 8 1 255).bind fun bt306 => (if t305.isNone = true then (if bt306.2.isNone = true then (if t304 = 80 then (some (bt306.1 == 255)) else (some false)) else (some false)) else (some false))) = some r := H
 have A1 := Aside0.mk A10
 clear A10
 replace H := Option.bind_eq_some_iff.mp H
 obtain ⟨⟨t306, t307⟩, A20, H⟩ := H
 replace H : (if t305.isNone = true then (if t307.isNone = true then (if t304 = 80 then (some (t306 == 255)) else (some false)) else (some false)) else (some false)) = some r := H
 have A2 := Aside0.mk A20
 clear A20
 rcases t305 with _ | q308
 ·have H1 : (if t307.isNone = true then (if t304 = 80 then (some (t306 == 255)) else (some false)) else (some false)) = some r := by rw [if_pos (show (none : Option Int).isNone = true by rfl)] at H; exact H
  clear H
  have H := H1
  clear H1
  try simp only [errW_none, errW_some]
  rcases t307 with _ | q309
  ·have H1 : (if t304 = 80 then (some (t306 == 255)) else (some false)) = some r := by rw [if_pos (show (none : Option Int).isNone = true by rfl)] at H; exact H
   clear H
   have H := H1
   clear H1
   try simp only [errW_none, errW_some]
   by_cases c3 : t304 = 80
   ·rw [if_pos c3] at H
    have c3b0 : (t304 == 80) = true := beq_iff_eq.mpr c3
    have c3b1 : (t304 != 80) = false := bne_eq_false_iff_eq.mpr c3
    clear c3
    obtain rfl := Option.some.inj H
    go_enter Try.func8, Try.ntmps8
    go_wp2_with (first | ((with_reducible refine gate_callee (f := 12) rfl ?_); refine goesL_ (some 6) rfl rfl Try.func12 (by kernel_rfl) rfl #[.int .i64 8, .int .u64 72, .int .u64 72] rfl z5_ ?_; (with_reducible refine (prod_Mul.calls k 8 72 72 t304 none _ A1.out).mono ?_); rintro e w4 ⟨rfl, hb⟩; refine ⟨_, rfl, ?_⟩; have n0_ := Aside0.mk (below_step (z3_ HB.out) hb); clear HB; have HB := n0_; clear n0_; (try clear hb); (try clear hb2); (try clear hk); (try clear hi); (try simp only [errW_none, errW_some])) | ((with_reducible refine gate_callee (f := 12) rfl ?_); refine goesL_ (some 10) rfl rfl Try.func12 (by kernel_rfl) rfl #[.int .i64 8, .int .u64 1, .int .u64 255] rfl z5_ ?_; (with_reducible refine (prod_Mul.calls k 8 1 255 t306 none _ A2.out).mono ?_); rintro e w5 ⟨rfl, hb⟩; refine ⟨_, rfl, ?_⟩; have n0_ := Aside0.mk (below_step (z3_ HB.out) hb); clear HB; have HB := n0_; clear n0_; (try clear hb); (try clear hb2); (try clear hk); (try clear hi); (try simp only [errW_none, errW_some])))
    go_ret
    exact ⟨by first | rfl | (simp [errW_none, errW_some] <;> rfl) | (simp [*, errW_none, errW_some] <;> rfl), by repeat (first | (with_reducible first | exact HB.out | apply below_alloc | apply pw_below_drewN | apply below_drew1) | exact HB.out)⟩
   ·rw [if_neg c3] at H
    have c3b0 : (t304 == 80) = false := beq_eq_false_iff_ne.mpr c3
    have c3b1 : (t304 != 80) = true := bne_iff_ne.mpr c3
    obtain rfl := Option.some.inj H
    go_enter Try.func8, Try.ntmps8
    go_wp2_with (first | ((with_reducible refine gate_callee (f := 12) rfl ?_); refine goesL_ (some 6) rfl rfl Try.func12 (by kernel_rfl) rfl #[.int .i64 8, .int .u64 72, .int .u64 72] rfl z5_ ?_; (with_reducible refine (prod_Mul.calls k 8 72 72 t304 none _ A1.out).mono ?_); rintro e w6 ⟨rfl, hb⟩; refine ⟨_, rfl, ?_⟩; have n0_ := Aside0.mk (below_step (z3_ HB.out) hb); clear HB; have HB := n0_; clear n0_; (try clear hb); (try clear hb2); (try clear hk); (try clear hi); (try simp only [errW_none, errW_some])) | ((with_reducible refine gate_callee (f := 12) rfl ?_); refine goesL_ (some 10) rfl rfl Try.func12 (by kernel_rfl) rfl #[.int .i64 8, .int .u64 1, .int .u64 255] rfl z5_ ?_; (with_reducible refine (prod_Mul.calls k 8 1 255 t306 none _ A2.out).mono ?_); rintro e w7 ⟨rfl, hb⟩; refine ⟨_, rfl, ?_⟩; have n0_ := Aside0.mk (below_step (z3_ HB.out) hb); clear HB; have HB := n0_; clear n0_; (try clear hb); (try clear hb2); (try clear hk); (try clear hi); (try simp only [errW_none, errW_some])))
    go_ret
    exact ⟨by first | rfl | (simp [errW_none, errW_some] <;> rfl) | (simp [*, errW_none, errW_some] <;> rfl), by repeat (first | (with_reducible first | exact HB.out | apply below_alloc | apply pw_below_drewN | apply below_drew1) | exact HB.out)⟩
  ·have H1 : (some false) = some r := by rw [if_neg (show ¬ (some q309).isNone = true by simp)] at H; exact H
   clear H
   have H := H1
   clear H1
   try simp only [errW_none, errW_some]
   obtain rfl := Option.some.inj H
   go_enter Try.func8, Try.ntmps8
   go_wp2_with (first | ((with_reducible refine gate_callee (f := 12) rfl ?_); refine goesL_ (some 6) rfl rfl Try.func12 (by kernel_rfl) rfl #[.int .i64 8, .int .u64 72, .int .u64 72] rfl z5_ ?_; (with_reducible refine (prod_Mul.calls k 8 72 72 t304 none _ A1.out).mono ?_); rintro e w8 ⟨rfl, hb⟩; refine ⟨_, rfl, ?_⟩; have n0_ := Aside0.mk (below_step (z3_ HB.out) hb); clear HB; have HB := n0_; clear n0_; (try clear hb); (try clear hb2); (try clear hk); (try clear hi); (try simp only [errW_none, errW_some])) | ((with_reducible refine gate_callee (f := 12) rfl ?_); refine goesL_ (some 10) rfl rfl Try.func12 (by kernel_rfl) rfl #[.int .i64 8, .int .u64 1, .int .u64 255] rfl z5_ ?_; (with_reducible refine (prod_Mul.calls k 8 1 255 t306 (some q309) _ A2.out).mono ?_); rintro e w9 ⟨rfl, hb⟩; refine ⟨_, rfl, ?_⟩; have n0_ := Aside0.mk (below_step (z3_ HB.out) hb); clear HB; have HB := n0_; clear n0_; (try clear hb); (try clear hb2); (try clear hk); (try clear hi); (try simp only [errW_none, errW_some])))
   go_ret
   exact ⟨by first | rfl | (simp [errW_none, errW_some] <;> rfl) | (simp [*, errW_none, errW_some] <;> rfl), by repeat (first | (with_reducible first | exact HB.out | apply below_alloc | apply pw_below_drewN | apply below_drew1) | exact HB.out)⟩
 ·have H1 : (some false) = some r := by rw [if_neg (show ¬ (some q308).isNone = true by simp)] at H; exact H
  clear H
  have H := H1
  clear H1
  try simp only [errW_none, errW_some]
  obtain rfl := Option.some.inj H
  go_enter Try.func8, Try.ntmps8
  go_wp2_with (first | ((with_reducible refine gate_callee (f := 12) rfl ?_); refine goesL_ (some 6) rfl rfl Try.func12 (by kernel_rfl) rfl #[.int .i64 8, .int .u64 72, .int .u64 72] rfl z5_ ?_; (with_reducible refine (prod_Mul.calls k 8 72 72 t304 (some q308) _ A1.out).mono ?_); rintro e w10 ⟨rfl, hb⟩; refine ⟨_, rfl, ?_⟩; have n0_ := Aside0.mk (below_step (z3_ HB.out) hb); clear HB; have HB := n0_; clear n0_; (try clear hb); (try clear hb2); (try clear hk); (try clear hi); (try simp only [errW_none, errW_some])) | ((with_reducible refine gate_callee (f := 12) rfl ?_); refine goesL_ (some 10) rfl rfl Try.func12 (by kernel_rfl) rfl #[.int .i64 8, .int .u64 1, .int .u64 255] rfl z5_ ?_; (with_reducible refine (prod_Mul.calls k 8 1 255 t306 t307 _ A2.out).mono ?_); rintro e w11 ⟨rfl, hb⟩; refine ⟨_, rfl, ?_⟩; have n0_ := Aside0.mk (below_step (z3_ HB.out) hb); clear HB; have HB := n0_; clear n0_; (try clear hb); (try clear hb2); (try clear hk); (try clear hi); (try simp only [errW_none, errW_some])))
  go_ret
  exact ⟨by first | rfl | (simp [errW_none, errW_some] <;> rfl) | (simp [*, errW_none, errW_some] <;> rfl), by repeat (first | (with_reducible first | exact HB.out | apply below_alloc | apply pw_below_drewN | apply below_drew1) | exact HB.out)⟩
end Go.Proofs.Ytebhpipfkomhjaa.PAll
namespace Go.Proofs.Ytebhpipfkomhjaa.PAll
open Go.RowKit Go.Proofs.YtebhpipfkomhjaaW.PrintWords Go.Proofs.YtebhpipfkomhjaaW.PrintLast Go.Proofs.YtebhpipfkomhjaaW.PrintMore
attribute [local go_sem] max2_int min2_int max_two min_two max_three min_three max_four min_four
set_option linter.unusedVariables false
set_option linter.unusedSimpArgs false
def vernierref05_Is.f (a0 : Int) : Option (Bool) := if a0 = 8 then (some true) else (if a0 = 16 then (some true) else (if a0 = 32 then (some true) else (some (a0 == 64))))
set_option maxHeartbeats 8000000 in
set_option maxRecDepth 100000 in
theorem vernierref05_Is.calls (a0 : Int) (r : Bool) (w : World) (h : vernierref05_Is.f a0 = some r) :
  Calls Try.prog 14 #[.int .i64 a0] w fun e w' => e = .returned (.bool r) ∧ Drawn0 w w' := by
 have H : (if a0 = 8 then (some true) else (if a0 = 16 then (some true) else (if a0 = 32 then (some true) else (some (a0 == 64))))) = some r := h
 clear h
 by_cases c2 : a0 = 8
 ·rw [if_pos c2] at H
  have c2b0 : (a0 == 8) = true := beq_iff_eq.mpr c2
  have c2b1 : (a0 != 8) = false := bne_eq_false_iff_eq.mpr c2
  clear c2
  obtain rfl := Option.some.inj H
  go_enter Try.func14, Try.ntmps14
  go_wp2
  go_ret
  exact ⟨by first | rfl | (simp; done) | (simp [*]; done), by repeat (first | exact Drawn0.refl _ | apply Drawn0.step)⟩
 ·rw [if_neg c2] at H
  have c2b0 : (a0 == 8) = false := beq_eq_false_iff_ne.mpr c2
  have c2b1 : (a0 != 8) = true := bne_iff_ne.mpr c2
  by_cases c3 : a0 = 16
  ·rw [if_pos c3] at H
   have c3b0 : (a0 == 16) = true := beq_iff_eq.mpr c3
   have c3b1 : (a0 != 16) = false := bne_eq_false_iff_eq.mpr c3
   clear c3
   obtain rfl := Option.some.inj H
   go_enter Try.func14, Try.ntmps14
   go_wp2
   go_ret
   exact ⟨by first | rfl | (simp; done) | (simp [*]; done), by repeat (first | exact Drawn0.refl _ | apply Drawn0.step)⟩
  ·rw [if_neg c3] at H
   have c3b0 : (a0 == 16) = false := beq_eq_false_iff_ne.mpr c3
   have c3b1 : (a0 != 16) = true := bne_iff_ne.mpr c3
   by_cases c4 : a0 = 32
   ·rw [if_pos c4] at H
    have c4b0 : (a0 == 32) = true := beq_iff_eq.mpr c4
    have c4b1 : (a0 != 32) = false := bne_eq_false_iff_eq.mpr c4
    clear c4
    obtain rfl := Option.some.inj H
    go_enter Try.func14, Try.ntmps14
    go_wp2
    go_ret
    exact ⟨by first | rfl | (simp; done) | (simp [*]; done), by repeat (first | exact Drawn0.refl _ | apply Drawn0.step)⟩
   ·rw [if_neg c4] at H
    have c4b0 : (a0 == 32) = false := beq_eq_false_iff_ne.mpr c4
    have c4b1 : (a0 != 32) = true := bne_iff_ne.mpr c4
    obtain rfl := Option.some.inj H
    go_enter Try.func14, Try.ntmps14
    go_wp2
    go_ret
    exact ⟨by first | rfl | (simp; done) | (simp [*]; done), by repeat (first | exact Drawn0.refl _ | apply Drawn0.step)⟩
end Go.Proofs.Ytebhpipfkomhjaa.PAll
namespace Go.Proofs.Ytebhpipfkomhjaa.PAll
open Go.RowKit Go.Proofs.YtebhpipfkomhjaaW.PrintWords Go.Proofs.YtebhpipfkomhjaaW.PrintLast Go.Proofs.YtebhpipfkomhjaaW.PrintMore
attribute [local go_sem] max2_int min2_int max_two min_two max_three min_three max_four min_four
set_option linter.unusedVariables false
set_option linter.unusedSimpArgs false
def vernierref05_Power.l0 : Nat → Int → Int → Int → Option (Int)
 | 0, _, _, _ => none
 | k + 1, x0, x3, x4 => if x4 < x0 then (vernierref05_Power.l0 k x0 (IntKind.u64.wrap (2 * x3)) (wrap64 (x4 + 1))) else (some x3)
def vernierref05_Power.f (k : Nat) (a0 : Int) : Option (Int) := vernierref05_Power.l0 k a0 1 0
theorem vernierref05_Power.mono_l : ∀ k, (∀ y0 y1 y2, LeO (vernierref05_Power.l0 k y0 y1 y2) (vernierref05_Power.l0 (k + 1) y0 y1 y2))
 | 0 => fun _ _ _ r h => by simp [vernierref05_Power.l0] at h
 | k + 1 => by
  have ih0 := vernierref05_Power.mono_l k
  ·intro y0 y1 y2
   unfold vernierref05_Power.l0
   repeat' first
   | (with_reducible exact ih0 _ _ _)
   | (with_reducible exact LeO.refl _)
   | (with_reducible exact LeO.none _)
   | (with_reducible refine LeO.ite ?_ ?_)
   | (with_reducible refine LeO.bind ?_ (fun _ => ?_))
   | exact ih0 _ _ _
   | exact LeO.none _
   | refine LeO.ite ?_ ?_
   | refine LeO.bind ?_ (fun _ => ?_)
theorem vernierref05_Power.mono : ∀ a0 k, LeO (vernierref05_Power.f k a0) (vernierref05_Power.f (k + 1) a0) := by
 intro a0 k
 have ih0 := vernierref05_Power.mono_l k
 unfold vernierref05_Power.f
 repeat' first
   | (with_reducible exact ih0 _ _ _)
   | (with_reducible exact LeO.refl _)
   | (with_reducible exact LeO.none _)
   | (with_reducible refine LeO.ite ?_ ?_)
   | (with_reducible refine LeO.bind ?_ (fun _ => ?_))
   | exact ih0 _ _ _
   | exact LeO.none _
   | refine LeO.ite ?_ ?_
   | refine LeO.bind ?_ (fun _ => ?_)
set_option maxHeartbeats 8000000 in
set_option maxRecDepth 100000 in
theorem vernierref05_Power.calls (k : Nat) (a0 : Int) (r : Int) (w : World) (h : vernierref05_Power.f k a0 = some r) :
  Calls Try.prog 15 #[.int .i64 a0] w fun e w' => e = .returned (.int .u64 r) ∧ Drawn0 w w' := by
 have H : (vernierref05_Power.l0 k a0 1 0) = some r := h
 clear h
 have H' := Aside0.mk H
 clear H
 go_enter Try.func15, Try.ntmps15
 go_wp2
 go_loopg [3, 4] k (fun kq v3 v4 w' => ∃ (x3_1 : Int) (x4_1 : Int), v3 = .int .u64 x3_1 ∧ v4 = .int .i64 x4_1 ∧ Aside0 (vernierref05_Power.l0 kq a0 x3_1 x4_1 = some r) ∧ Aside0 (kq ≤ k) ∧ Drawn0 w w')
 case atStart => exact ⟨(1), (0), (by first | rfl | (simp; done) | (simp [*]; done)), (by first | rfl | (simp; done) | (simp [*]; done)), H', ⟨Nat.le_refl _⟩, by repeat (first | exact Drawn0.refl _ | apply Drawn0.step)⟩
 case round =>
  clear H'
  try clear c1
  obtain ⟨x3_1, x4_1, rfl, rfl, HA, HK1, ⟨m1, rfl⟩⟩ := hrel
  cases gk with
  | zero => exact absurd HA.out (by simp [vernierref05_Power.l0])
  | succ k1 =>
   have H := HA.out
   clear HA
   simp only [vernierref05_Power.l0] at H
   by_cases c2 : x4_1 < a0
   ·rw [if_pos c2] at H
    have c2b0 : decide (x4_1 < a0) = true := decide_eq_true c2
    clear c2
    have H' := Aside0.mk H
    clear H
    go_wp2
    go_roundg k1
    case measure => have := HK1.out; omega
    case rel => exact ⟨(IntKind.u64.wrap (2 * x3_1)), (wrap64 (x4_1 + 1)), (by first | rfl | (simp; done) | (simp [*]; done)), (by first | rfl | (simp; done) | (simp [*]; done)), H', ⟨by have := HK1.out; omega⟩, by repeat (first | exact Drawn0.refl _ | apply Drawn0.step)⟩
   ·rw [if_neg c2] at H
    have c2b0 : decide (x4_1 < a0) = false := decide_eq_false c2
    clear c2
    obtain rfl := Option.some.inj H
    go_wp2
    go_ret
    exact ⟨by first | rfl | (simp; done) | (simp [*]; done), by repeat (first | exact Drawn0.refl _ | apply Drawn0.step)⟩
end Go.Proofs.Ytebhpipfkomhjaa.PAll
namespace Go.Proofs.Ytebhpipfkomhjaa.PAll
open Go.RowKit Go.Proofs.YtebhpipfkomhjaaW.PrintWords Go.Proofs.YtebhpipfkomhjaaW.PrintLast Go.Proofs.YtebhpipfkomhjaaW.PrintMore
attribute [local go_sem] max2_int min2_int max_two min_two max_three min_three max_four min_four
set_option linter.unusedVariables false
set_option linter.unusedSimpArgs false
def vernierref01_Number.l0 : Nat → ByteArray → Int → Int → Option (Int)
 | 0, _, _, _ => none
 | k + 1, x0, x3, x4 => if x4 < (x0.size : Int) then (if 0 ≤ x4 then (vernierref01_Number.l0 k x0 (IntKind.u64.wrap ((IntKind.u64.wrap (2 * x3)) + (((bt x0 x4) - 48) % 256))) (wrap64 (x4 + 1))) else (none)) else (some x3)
def vernierref01_Number.f (k : Nat) (a0 : ByteArray) : Option (Int) := vernierref01_Number.l0 k a0 0 0
theorem vernierref01_Number.mono_l : ∀ k, (∀ y0 y1 y2, LeO (vernierref01_Number.l0 k y0 y1 y2) (vernierref01_Number.l0 (k + 1) y0 y1 y2))
 | 0 => fun _ _ _ r h => by simp [vernierref01_Number.l0] at h
 | k + 1 => by
  have ih0 := vernierref01_Number.mono_l k
  ·intro y0 y1 y2
   unfold vernierref01_Number.l0
   repeat' first
   | (with_reducible exact ih0 _ _ _)
   | (with_reducible exact LeO.refl _)
   | (with_reducible exact LeO.none _)
   | (with_reducible refine LeO.ite ?_ ?_)
   | (with_reducible refine LeO.bind ?_ (fun _ => ?_))
   | exact ih0 _ _ _
   | exact LeO.none _
   | refine LeO.ite ?_ ?_
   | refine LeO.bind ?_ (fun _ => ?_)
theorem vernierref01_Number.mono : ∀ a0 k, LeO (vernierref01_Number.f k a0) (vernierref01_Number.f (k + 1) a0) := by
 intro a0 k
 have ih0 := vernierref01_Number.mono_l k
 unfold vernierref01_Number.f
 repeat' first
   | (with_reducible exact ih0 _ _ _)
   | (with_reducible exact LeO.refl _)
   | (with_reducible exact LeO.none _)
   | (with_reducible refine LeO.ite ?_ ?_)
   | (with_reducible refine LeO.bind ?_ (fun _ => ?_))
   | exact ih0 _ _ _
   | exact LeO.none _
   | refine LeO.ite ?_ ?_
   | refine LeO.bind ?_ (fun _ => ?_)
set_option maxHeartbeats 8000000 in
set_option maxRecDepth 100000 in
theorem vernierref01_Number.calls (k : Nat) (a0 : ByteArray) (r : Int) (w : World) (h : vernierref01_Number.f k a0 = some r) :
  Calls Try.prog 53 #[.string a0] w fun e w' => e = .returned (.int .u64 r) ∧ Drawn0 w w' := by
 have H : (vernierref01_Number.l0 k a0 0 0) = some r := h
 clear h
 have H' := Aside0.mk H
 clear H
 go_enter Try.func53, Try.ntmps53
 go_wp2
 go_loopg [3, 4] k (fun kq v3 v4 w' => ∃ (x3_1 : Int) (x4_1 : Int), v3 = .int .u64 x3_1 ∧ v4 = .int .i64 x4_1 ∧ Aside0 (vernierref01_Number.l0 kq a0 x3_1 x4_1 = some r) ∧ Aside0 (kq ≤ k) ∧ Drawn0 w w')
 case atStart => exact ⟨(0), (0), (by first | rfl | (simp; done) | (simp [*]; done)), (by first | rfl | (simp; done) | (simp [*]; done)), H', ⟨Nat.le_refl _⟩, by repeat (first | exact Drawn0.refl _ | apply Drawn0.step)⟩
 case round =>
  clear H'
  obtain ⟨x3_1, x4_1, rfl, rfl, HA, HK1, ⟨m1, rfl⟩⟩ := hrel
  cases gk with
  | zero => exact absurd HA.out (by simp [vernierref01_Number.l0])
  | succ k1 =>
   have H := HA.out
   clear HA
   simp only [vernierref01_Number.l0] at H
   by_cases c2 : x4_1 < (a0.size : Int)
   ·rw [if_pos c2] at H
    have c2b0 : decide (x4_1 < (a0.size : Int)) = true := decide_eq_true c2
    clear c2
    by_cases c3 : 0 ≤ x4_1
    ·rw [if_pos c3] at H
     have c3b0 : decide (0 ≤ x4_1) = true := decide_eq_true c3
     clear c3
     have H' := Aside0.mk H
     clear H
     have p4 : 0 ≤ (x4_1 : Int) := of_decide_eq_true (by first | (with_reducible assumption) | assumption)
     have q4 : x4_1 < (a0.size : Int) := of_decide_eq_true (by first | (with_reducible assumption) | assumption)
     have hx4 := bt_at a0 x4_1
     replace p4 := eq_true p4
     replace q4 := eq_true q4
     go_wp2
     go_roundg k1
     case measure => have := HK1.out; omega
     case rel => exact ⟨(IntKind.u64.wrap ((IntKind.u64.wrap (2 * x3_1)) + (((bt a0 x4_1) - 48) % 256))), (wrap64 (x4_1 + 1)), (by first | rfl | (simp; done) | (simp [*]; done)), (by first | rfl | (simp; done) | (simp [*]; done)), H', ⟨by have := HK1.out; omega⟩, by repeat (first | exact Drawn0.refl _ | apply Drawn0.step)⟩
    ·rw [if_neg c3] at H
     exact absurd H (by simp)
   ·rw [if_neg c2] at H
    have c2b0 : decide (x4_1 < (a0.size : Int)) = false := decide_eq_false c2
    clear c2
    obtain rfl := Option.some.inj H
    go_wp2
    go_ret
    exact ⟨by first | rfl | (simp; done) | (simp [*]; done), by repeat (first | exact Drawn0.refl _ | apply Drawn0.step)⟩
end Go.Proofs.Ytebhpipfkomhjaa.PAll
namespace Go.Proofs.Ytebhpipfkomhjaa.PAll
open Go.RowKit Go.Proofs.YtebhpipfkomhjaaW.PrintWords Go.Proofs.YtebhpipfkomhjaaW.PrintLast Go.Proofs.YtebhpipfkomhjaaW.PrintMore
attribute [local go_sem] max2_int min2_int max_two min_two max_three min_three max_four min_four
set_option linter.unusedVariables false
set_option linter.unusedSimpArgs false
def vernierref01_Text.l0 : Nat → Int → List Int → Int → Option (ByteArray)
 | 0, _, _, _ => none
 | k + 1, x0, x5, x6 => if x6 ≥ 0 then (if 0 ≤ x6 then (if x5.length < 140737488355328 then (vernierref01_Text.l0 k x0 (x5 ++ [(48 + (Int.tmod (shr .u64 x0 x6) 2)) % 256]) (wrap64 (x6 - 1))) else (none)) else (none)) else (some (strOfNums x5))
def vernierref01_Text.f (k : Nat) (a0 : Int) (a1 : Int) : Option (ByteArray) := vernierref01_Text.l0 k a0 ([] : List Int) (wrap64 (a1 - 1))
theorem vernierref01_Text.mono_l : ∀ k, (∀ y0 y1 y2, LeO (vernierref01_Text.l0 k y0 y1 y2) (vernierref01_Text.l0 (k + 1) y0 y1 y2))
 | 0 => fun _ _ _ r h => by simp [vernierref01_Text.l0] at h
 | k + 1 => by
  have ih0 := vernierref01_Text.mono_l k
  ·intro y0 y1 y2
   unfold vernierref01_Text.l0
   repeat' first
   | (with_reducible exact ih0 _ _ _)
   | (with_reducible exact LeO.refl _)
   | (with_reducible exact LeO.none _)
   | (with_reducible refine LeO.ite ?_ ?_)
   | (with_reducible refine LeO.bind ?_ (fun _ => ?_))
   | exact ih0 _ _ _
   | exact LeO.none _
   | refine LeO.ite ?_ ?_
   | refine LeO.bind ?_ (fun _ => ?_)
theorem vernierref01_Text.mono : ∀ a0 a1 k, LeO (vernierref01_Text.f k a0 a1) (vernierref01_Text.f (k + 1) a0 a1) := by
 intro a0 a1 k
 have ih0 := vernierref01_Text.mono_l k
 unfold vernierref01_Text.f
 repeat' first
   | (with_reducible exact ih0 _ _ _)
   | (with_reducible exact LeO.refl _)
   | (with_reducible exact LeO.none _)
   | (with_reducible refine LeO.ite ?_ ?_)
   | (with_reducible refine LeO.bind ?_ (fun _ => ?_))
   | exact ih0 _ _ _
   | exact LeO.none _
   | refine LeO.ite ?_ ?_
   | refine LeO.bind ?_ (fun _ => ?_)
set_option maxHeartbeats 8000000 in
set_option maxRecDepth 100000 in
theorem vernierref01_Text.calls (k : Nat) (a0 : Int) (a1 : Int) (r : ByteArray) (w : World) (h : vernierref01_Text.f k a0 a1 = some r) :
  Calls Try.prog 54 #[.int .u64 a0, .int .i64 a1] w fun e w' => e = .returned (.string r) ∧ Below w.heap.size w w' := by
 have HB := Aside0.mk (Below.refl w.heap.size w)
 have H : (vernierref01_Text.l0 k a0 ([] : List Int) (wrap64 (a1 - 1))) = some r := h
 clear h
 have H' := Aside0.mk H
 clear H
 go_enter Try.func54, Try.ntmps54
 go_wp2
 go_loopg [5, 6] k (fun kq v5 v6 w' => ∃ (x5_1 : List Int) (x6_1 : Int), v6 = .int .i64 x6_1 ∧ Aside0 (vernierref01_Text.l0 kq a0 x5_1 x6_1 = some r) ∧ Aside0 (kq ≤ k) ∧ Aside0 (Kd.R (Kd.int .u8) 5 w' w.heap.size (fun _ => True) v5 x5_1) ∧ Aside0 (Below w.heap.size w w'))
 case atStart => exact ⟨(([] : List Int)), (wrap64 (a1 - 1)), (by first | rfl | (simp; done) | (simp [*]; done)), H', ⟨Nat.le_refl _⟩, ⟨by first | exact Kd.R_nil _ _ _ _ _ | exact Kd.N_nil _ _ _ _ _ | exact Kd.V_nil _ _ _ _ _ | exact Kd.Q_nil _ _ _ _ _ | exact Kd.S_nil _ _ _ _ _⟩, ⟨by repeat (first | (with_reducible first | exact HB.out | apply below_alloc | apply pw_below_drewN | apply below_drew1) | exact HB.out)⟩⟩
 case round =>
  clear H'
  try clear p2
  obtain ⟨x5_1, x6_1, rfl, HA, HK1, HO_5, HB⟩ := hrel
  cases gk with
  | zero => exact absurd HA.out (by simp [vernierref01_Text.l0])
  | succ k1 =>
   have H := HA.out
   clear HA
   simp only [vernierref01_Text.l0] at H
   by_cases c3 : x6_1 ≥ 0
   ·rw [if_pos c3] at H
    have c3b0 : decide (0 ≤ x6_1) = true := decide_eq_true c3
    clear c3
    by_cases c4 : 0 ≤ x6_1
    ·rw [if_pos c4] at H
     have c4b0 := eq_true c4
     have c4b1 : decide (0 ≤ x6_1) = true := decide_eq_true c4
     clear c4
     obtain ⟨ji5, hji5⟩ : ∃ j_ : Int, (shr .u64 a0 x6_1) = j_ := ⟨_, rfl⟩
     replace H : (if x5_1.length < 140737488355328 then (vernierref01_Text.l0 k1 a0 (x5_1 ++ [(48 + (Int.tmod (ji5) 2)) % 256]) (wrap64 (x6_1 - 1))) else (none)) = some r := by first | (rw [hji5] at H; exact H) | (simp only [hji5] at H ⊢; exact H)
     have hji5_ : (a0 / 2 ^ min x6_1.toNat 64) = ji5 := hji5
     have hji5z : x6_1 ≤ 64 → (a0 / 2 ^ x6_1.toNat) = ji5 := shr_small hji5
     (try (have hji5Z_ := hji5z (by omega)))
     by_cases c6 : x5_1.length < 140737488355328
     ·rw [if_pos c6] at H
      have LMc6 := Aside0.mk c6
      clear c6
      obtain ⟨y438, hy438⟩ : ∃ y_ : List Int, y_ = (x5_1 ++ [(48 + (Int.tmod (ji5) 2)) % 256]) := ⟨_, rfl⟩
      replace H : (vernierref01_Text.l0 k1 a0 y438 (wrap64 (x6_1 - 1))) = some r := by first | (rw [hy438]; with_reducible exact H) | (have H2_ := (Option.bind_some _ _).symm.trans H; rw [hy438]; with_reducible exact H2_) | (have H2_ := (Option.bind_some _ _).symm.trans H; with_reducible exact H2_) | with_reducible exact H | (rw [hy438]; exact H) | exact H
      have Ny438 := Aside0.mk hy438
      clear hy438
      have H' := Aside0.mk H
      clear H
      go_wp2_with (first | ((with_reducible refine gate_builtin (b := .append) (xs := #[.tmp 13, .tmp 20]) rfl ?_); at_builtin; refine Kd.R_append (Kd.int .u8) (w0 := w) w.heap.size rfl (.tmp 13) (.tmp 20) 119 5 (.int .u8 0) 1 rfl Try.underlying119 info5 rfl (by decide) (by omega) u5 x5_1 ((48 + (Int.tmod (ji5) 2)) % 256) [.int .u8 ((48 + (Int.tmod (ji5) 2)) % 256)] (fun _ => True) (fun _ => False) rfl rfl ?aP (fun _ hk => hk.elim) ?aF ?aO ?aB ?aS ?aL ?_; (case aP => exact rfl); (case aB => exact (z3_ HB.out)); (case aF => exact (fun _ _ => trivial)); (case aO => exact (by (with_reducible repeat (first | apply Kd.R_alloc | apply Kd.R_drewN | apply Kd.R_drew)); exact HO_5.out)); (case aS => exact (below_size (z3_ HB.out))); (case aL => have := LMc6.out; omega); intro v439 w7 ho hb hg hat; rw [← Ny438.out] at ho; have n0_ := Aside0.mk (hb); have n1_ := Aside0.mk (ho); clear HB; clear HO_5; have HB := n0_; have HO440 := n1_; clear n0_ n1_; clear ho hb hg hat))
      go_roundg k1
      case measure => have := HK1.out; omega
      case rel => exact ⟨(y438), (wrap64 (x6_1 - 1)), (by first | rfl | (simp; done) | (simp [*]; done)), H', ⟨by have := HK1.out; omega⟩, ⟨by (with_reducible repeat (first | apply Kd.R_alloc | apply Kd.R_drewN | apply Kd.R_drew)); exact HO440.out⟩, ⟨by repeat (first | (with_reducible first | exact HB.out | apply below_alloc | apply pw_below_drewN | apply below_drew1) | exact HB.out)⟩⟩
     ·rw [if_neg c6] at H
      exact absurd H (by simp)
    ·rw [if_neg c4] at H
     exact absurd H (by simp)
   ·rw [if_neg c3] at H
    have c3b0 : decide (0 ≤ x6_1) = false := decide_eq_false c3
    clear c3
    obtain rfl := Option.some.inj H
    have hcv8 := own_string (P := Try.prog) Try.underlying119 Try.underlying5 Try.underlying9 (Kd.own_of_R HO_5.out)
    go_wp2
    go_ret
    exact ⟨by first | rfl | (simp [errW_none, errW_some] <;> rfl) | (simp [*, errW_none, errW_some] <;> rfl), by repeat (first | (with_reducible first | exact HB.out | apply below_alloc | apply pw_below_drewN | apply below_drew1) | exact HB.out)⟩
end Go.Proofs.Ytebhpipfkomhjaa.PAll
namespace Go.Proofs.Ytebhpipfkomhjaa.PAll
open Go.RowKit Go.Proofs.YtebhpipfkomhjaaW.PrintWords Go.Proofs.YtebhpipfkomhjaaW.PrintLast Go.Proofs.YtebhpipfkomhjaaW.PrintMore
attribute [local go_sem] max2_int min2_int max_two min_two max_three min_three max_four min_four
set_option linter.unusedVariables false
set_option linter.unusedSimpArgs false
def vernierref05_Fold.f (k : Nat) (a0 : Int) (a1 : Int) : Option (Int × Int) := (vernierref05_Is.f a0).bind fun t441 => (if t441 = true then ((vernierref01_Text.f k a1 a0).bind fun t442 => ((vernierref01_Number.f k t442).bind fun t443 => (some (t443, 0)))) else (some (0, 2)))
theorem vernierref05_Fold.mono : ∀ a0 a1 k, LeO (vernierref05_Fold.f k a0 a1) (vernierref05_Fold.f (k + 1) a0 a1) := by
 intro a0 a1 k
 unfold vernierref05_Fold.f
 repeat' first
   | (with_reducible exact vernierref01_Number.mono _ _)
   | (with_reducible exact vernierref01_Text.mono _ _ _)
   | (with_reducible exact LeO.refl _)
   | (with_reducible exact LeO.none _)
   | (with_reducible refine LeO.ite ?_ ?_)
   | (with_reducible refine LeO.bind ?_ (fun _ => ?_))
   | exact vernierref01_Number.mono _ _
   | exact vernierref01_Text.mono _ _ _
   | exact LeO.none _
   | refine LeO.ite ?_ ?_
   | refine LeO.bind ?_ (fun _ => ?_)
set_option maxHeartbeats 8000000 in
set_option maxRecDepth 100000 in
theorem vernierref05_Fold.calls (k : Nat) (a0 : Int) (a1 : Int) (r1 : Int) (r2 : Int) (w : World) (h : vernierref05_Fold.f k a0 a1 = some (r1, r2)) :
  Calls Try.prog 32 #[.int .i64 a0, .int .u64 a1] w fun e w' => e = .returned (.tuple #[.int .u64 r1, .int .i64 r2]) ∧ Below w.heap.size w w' := by
 have HB := Aside0.mk (Below.refl w.heap.size w)
 have H : ((vernierref05_Is.f a0).bind fun t441 => (if t441 = true then ((vernierref01_Text.f k a1 a0).bind fun t442 => ((vernierref01_Number.f k t442).bind fun t443 => (some (t443, 0)))) else (some (0, 2)))) = some (r1, r2) := h
 clear h
 replace H := Option.bind_eq_some_iff.mp H
 obtain ⟨t441, A30, H⟩ := H
 replace H : (if t441 = true then ((vernierref01_Text.f k a1 a0).bind fun t442 => ((vernierref01_Number.f k t442).bind fun t443 => (some (t443, 0)))) else (some (0, 2))) = some (r1, r2) := H
 have A3 := Aside0.mk A30
 clear A30
 by_cases c4 : t441 = true
 ·subst c4
  have H1 : ((vernierref01_Text.f k a1 a0).bind fun t442 => ((vernierref01_Number.f k t442).bind fun t443 => (some (t443, 0)))) = some (r1, r2) := by rw [if_pos rfl] at H; exact H
  clear H
  have H := H1
  clear H1
  replace H := Option.bind_eq_some_iff.mp H
  obtain ⟨t442, A50, H⟩ := H
  replace H : ((vernierref01_Number.f k t442).bind fun t443 => (some (t443, 0))) = some (r1, r2) := H
  have A5 := Aside0.mk A50
  clear A50
  replace H := Option.bind_eq_some_iff.mp H
  obtain ⟨t443, A60, H⟩ := H
  replace H : (some (t443, 0)) = some (r1, r2) := H
  have A6 := Aside0.mk A60
  clear A60
  simp only [Option.some.injEq, Prod.mk.injEq] at H
  obtain ⟨rfl, rfl⟩ := H
  go_enter Try.func32, Try.ntmps32
  go_wp2_with (first | ((with_reducible refine gate_callee (f := 14) rfl ?_); refine goesL_ (some 8) rfl rfl Try.func14 (by kernel_rfl) rfl #[.int .i64 a0] rfl z5_ ?_; (with_reducible refine (vernierref05_Is.calls a0 true _ A3.out).mono ?_); rintro e w' ⟨rfl, ⟨nd, rfl⟩⟩; refine ⟨_, rfl, ?_⟩) | ((with_reducible refine gate_callee (f := 54) rfl ?_); refine goesL_ (some 13) rfl rfl Try.func54 (by kernel_rfl) rfl #[.int .u64 a1, .int .i64 a0] rfl z5_ ?_; (with_reducible refine (vernierref01_Text.calls k a1 a0 t442 _ A5.out).mono ?_); rintro e w7 ⟨rfl, hb⟩; refine ⟨_, rfl, ?_⟩; have n0_ := Aside0.mk (below_step (z3_ HB.out) hb); clear HB; have HB := n0_; clear n0_; (try clear hb); (try clear hb2); (try clear hk); (try clear hi)) | ((with_reducible refine gate_callee (f := 53) rfl ?_); refine goesL_ (some 14) rfl rfl Try.func53 (by kernel_rfl) rfl #[.string t442] rfl z5_ ?_; (with_reducible refine (vernierref01_Number.calls k t442 t443 _ A6.out).mono ?_); rintro e w' ⟨rfl, ⟨nd, rfl⟩⟩; refine ⟨_, rfl, ?_⟩))
  go_ret2
  exact ⟨by first | rfl | (simp [errW_none, errW_some] <;> rfl) | (simp [*, errW_none, errW_some] <;> rfl), by repeat (first | (with_reducible first | exact HB.out | apply below_alloc | apply pw_below_drewN | apply below_drew1) | exact HB.out)⟩
 ·replace c4 := Bool.eq_false_iff.mpr c4
  subst c4
  have H1 : (some (0, 2)) = some (r1, r2) := by rw [if_neg (show ¬ (false = true) by decide)] at H; exact H
  clear H
  have H := H1
  clear H1
  simp only [Option.some.injEq, Prod.mk.injEq] at H
  obtain ⟨rfl, rfl⟩ := H
  go_enter Try.func32, Try.ntmps32
  go_wp2_with (first | ((with_reducible refine gate_callee (f := 14) rfl ?_); refine goesL_ (some 8) rfl rfl Try.func14 (by kernel_rfl) rfl #[.int .i64 a0] rfl z5_ ?_; (with_reducible refine (vernierref05_Is.calls a0 false _ A3.out).mono ?_); rintro e w' ⟨rfl, ⟨nd, rfl⟩⟩; refine ⟨_, rfl, ?_⟩))
  go_ret2
  exact ⟨by first | rfl | (simp [errW_none, errW_some] <;> rfl) | (simp [*, errW_none, errW_some] <;> rfl), by repeat (first | (with_reducible first | exact HB.out | apply below_alloc | apply pw_below_drewN | apply below_drew1) | exact HB.out)⟩
end Go.Proofs.Ytebhpipfkomhjaa.PAll
namespace Go.Proofs.Ytebhpipfkomhjaa.PAll
open Go.RowKit Go.Proofs.YtebhpipfkomhjaaW.PrintWords Go.Proofs.YtebhpipfkomhjaaW.PrintLast Go.Proofs.YtebhpipfkomhjaaW.PrintMore
attribute [local go_sem] max2_int min2_int max_two min_two max_three min_three max_four min_four
set_option linter.unusedVariables false
set_option linter.unusedSimpArgs false
def vernierref06_Fold.f (k : Nat) (a0 : Int) (a1 : Int) : Option (Int) := (vernierref05_Fold.f k a0 a1).bind fun bt483 => (some bt483.1)
theorem vernierref06_Fold.mono : ∀ a0 a1 k, LeO (vernierref06_Fold.f k a0 a1) (vernierref06_Fold.f (k + 1) a0 a1) := by
 intro a0 a1 k
 unfold vernierref06_Fold.f
 repeat' first
   | (with_reducible exact vernierref05_Fold.mono _ _ _)
   | (with_reducible exact LeO.refl _)
   | (with_reducible exact LeO.none _)
   | (with_reducible refine LeO.ite ?_ ?_)
   | (with_reducible refine LeO.bind ?_ (fun _ => ?_))
   | exact vernierref05_Fold.mono _ _ _
   | exact LeO.none _
   | refine LeO.ite ?_ ?_
   | refine LeO.bind ?_ (fun _ => ?_)
set_option maxHeartbeats 8000000 in
set_option maxRecDepth 100000 in
theorem vernierref06_Fold.calls (k : Nat) (a0 : Int) (a1 : Int) (r : Int) (w : World) (h : vernierref06_Fold.f k a0 a1 = some r) :
  Calls Try.prog 16 #[.int .i64 a0, .int .u64 a1] w fun e w' => e = .returned (.int .u64 r) ∧ Below w.heap.size w w' := by
 have HB := Aside0.mk (Below.refl w.heap.size w)
 have H : ((vernierref05_Fold.f k a0 a1).bind fun bt483 => (some bt483.1)) = some r := h
 clear h
 replace H := Option.bind_eq_some_iff.mp H
 obtain ⟨⟨t483, t484⟩, A30, H⟩ := H
 replace H : (some t483) = some r := H
 have A3 := Aside0.mk A30
 clear A30
 obtain rfl := Option.some.inj H
 go_enter Try.func16, Try.ntmps16
 go_wp2_with (first | ((with_reducible refine gate_callee (f := 32) rfl ?_); refine goesL_ (some 10) rfl rfl Try.func32 (by kernel_rfl) rfl #[.int .i64 a0, .int .u64 a1] rfl z5_ ?_; (with_reducible refine (vernierref05_Fold.calls k a0 a1 t483 t484 _ A3.out).mono ?_); rintro e w4 ⟨rfl, hb⟩; refine ⟨_, rfl, ?_⟩; have n0_ := Aside0.mk (below_step (z3_ HB.out) hb); clear HB; have HB := n0_; clear n0_; (try clear hb); (try clear hb2); (try clear hk); (try clear hi)))
 go_ret
 exact ⟨by first | rfl | (simp [errW_none, errW_some] <;> rfl) | (simp [*, errW_none, errW_some] <;> rfl), by repeat (first | (with_reducible first | exact HB.out | apply below_alloc | apply pw_below_drewN | apply below_drew1) | exact HB.out)⟩
end Go.Proofs.Ytebhpipfkomhjaa.PAll
namespace Go.Proofs.Ytebhpipfkomhjaa.PAll
open Go.RowKit Go.Proofs.YtebhpipfkomhjaaW.PrintWords Go.Proofs.YtebhpipfkomhjaaW.PrintLast Go.Proofs.YtebhpipfkomhjaaW.PrintMore
attribute [local go_sem] max2_int min2_int max_two min_two max_three min_three max_four min_four
set_option linter.unusedVariables false
set_option linter.unusedSimpArgs false
def vernierref06_Neg.f (k : Nat) (a0 : Int) (a1 : Int) : Option (Int) := (vernierref06_Fold.f k a0 (IntKind.u64.wrap (-a1))).bind fun t485 => (some t485)
theorem vernierref06_Neg.mono : ∀ a0 a1 k, LeO (vernierref06_Neg.f k a0 a1) (vernierref06_Neg.f (k + 1) a0 a1) := by
 intro a0 a1 k
 unfold vernierref06_Neg.f
 repeat' first
   | (with_reducible exact vernierref06_Fold.mono _ _ _)
   | (with_reducible exact LeO.refl _)
   | (with_reducible exact LeO.none _)
   | (with_reducible refine LeO.ite ?_ ?_)
   | (with_reducible refine LeO.bind ?_ (fun _ => ?_))
   | exact vernierref06_Fold.mono _ _ _
   | exact LeO.none _
   | refine LeO.ite ?_ ?_
   | refine LeO.bind ?_ (fun _ => ?_)
set_option maxHeartbeats 8000000 in
set_option maxRecDepth 100000 in
theorem vernierref06_Neg.calls (k : Nat) (a0 : Int) (a1 : Int) (r : Int) (w : World) (h : vernierref06_Neg.f k a0 a1 = some r) :
  Calls Try.prog 17 #[.int .i64 a0, .int .u64 a1] w fun e w' => e = .returned (.int .u64 r) ∧ Below w.heap.size w w' := by
 have HB := Aside0.mk (Below.refl w.heap.size w)
 have H : ((vernierref06_Fold.f k a0 (IntKind.u64.wrap (-a1))).bind fun t485 => (some t485)) = some r := h
 clear h
 replace H := Option.bind_eq_some_iff.mp H
 obtain ⟨t485, A30, H⟩ := H
 replace H : (some t485) = some r := H
 have A3 := Aside0.mk A30
 clear A30
 obtain rfl := Option.some.inj H
 go_enter Try.func17, Try.ntmps17
 go_wp2_with (first | ((with_reducible refine gate_callee (f := 16) rfl ?_); refine goesL_ (some 8) rfl rfl Try.func16 (by kernel_rfl) rfl #[.int .i64 a0, .int .u64 (IntKind.u64.wrap (-a1))] rfl z5_ ?_; (with_reducible refine (vernierref06_Fold.calls k a0 (IntKind.u64.wrap (-a1)) t485 _ A3.out).mono ?_); rintro e w4 ⟨rfl, hb⟩; refine ⟨_, rfl, ?_⟩; have n0_ := Aside0.mk (below_step (z3_ HB.out) hb); clear HB; have HB := n0_; clear n0_; (try clear hb); (try clear hb2); (try clear hk); (try clear hi)))
 go_ret
 exact ⟨by first | rfl | (simp [errW_none, errW_some] <;> rfl) | (simp [*, errW_none, errW_some] <;> rfl), by repeat (first | (with_reducible first | exact HB.out | apply below_alloc | apply pw_below_drewN | apply below_drew1) | exact HB.out)⟩
end Go.Proofs.Ytebhpipfkomhjaa.PAll
