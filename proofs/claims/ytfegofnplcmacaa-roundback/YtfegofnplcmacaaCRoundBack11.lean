-- Written by a program of this session out of its own texts (wip/tools/link.py).
import Derived.ArgAppend
import Derived.Below
import Derived.BigQuiet
import Derived.Deep.AppendLies
import Derived.Deep.CutBlock
import Derived.Deep.DeepCutAuto
import Derived.Deep.Draws
import Derived.Deep.LoopGhost
import Derived.Deep.OwnRows
import Derived.Deep.QuietTactic
import Derived.Deep.RegionHeld3
import Derived.KernelRfl
import Derived.LaidEql
import Derived.Laws.BitsLemmas
import Derived.Laws.BytesArg
import Derived.Laws.IdiomCopy
import Derived.Laws.MakeOwn
import Derived.Laws.OwnMore
import Derived.Laws.Rows
import Derived.Laws.Slices
import Derived.Laws.StructEq
import Derived.Lib.AppendStr
import Derived.Lib.BitFns
import Derived.Lib.ConvBytes
import Derived.Lib.Slices
import Derived.Lib.Small
import Derived.Lib.Strings
import Derived.Lib.Walk
import Derived.Maps.AppendAt
import Derived.OrdersHeld
import Derived.OwnWalk
import Derived.RowKit
import Derived.RowKit3
import Derived.Tactics
import Derived.Test.YtfegofnplcmacaaProg
import Derived.WalkKit
import Derived.WideLaws
import Derived.Test.YtfegofnplcmacaaCRoundBack7
import Derived.Test.YtfegofnplcmacaaCRoundBack8
import Derived.Test.YtfegofnplcmacaaCRoundBack9
import Derived.Test.YtfegofnplcmacaaCRoundBack10
namespace Go.Proofs.Ytfegofnplcmacaa.PAll
open Go.RowKit Go.Proofs.YtfegofnplcmacaaW.PrintWords Go.Proofs.YtfegofnplcmacaaW.PrintLast Go.Proofs.YtfegofnplcmacaaW.PrintMore
attribute [local go_sem] max2_int min2_int max_two min_two max_three min_three max_four min_four
set_option linter.unusedVariables false
set_option linter.unusedSimpArgs false
attribute [local go_sem high] eqEE27 neEE27 eqNE27 neNE27
def vernierlaw07_RoundBack.f (k : Nat) (a0 : Int) (a1 : Int) : Option (Bool) := (vernierlaw07_up.f k).bind fun t483 => ((codec_Decode.f k a0 a1).bind fun bt484 => ((round_Of.f k bt484.1 bt484.2.1 bt484.2.2.1 bt484.2.2.2.1).bind fun bt490 => ((round_Round.f k a0 bt490.1 bt490.2.1 bt490.2.2.1 bt490.2.2.2.1 bt490.2.2.2.2.1 bt490.2.2.2.2.2.1).bind fun bt498 => ((vernierref05_Is.f a0).bind fun t500 => (if t500 = true then (if t483 = true then (if bt484.2.2.2.2.isNone = true then (if bt490.2.2.2.2.2.2.isNone = true then (if bt498.2.isNone = true then ((vernierref06_Fold.f k a0 a1).bind fun t504 => (some (bt498.1 == t504))) else (some false)) else (some false)) else (some false)) else (some false)) else (if t483 = true then (if bt484.2.2.2.2.isNone = true then (some false) else (if (bt484.2.2.2.2.getD 0) = 2 then (if bt498.2.isNone = true then (some false) else (if (bt498.2.getD 0) = 2 then (some (bt498.1 == 0)) else (some false))) else (some false))) else (some false)))))))
theorem vernierlaw07_RoundBack.mono : ∀ a0 a1 k, LeO (vernierlaw07_RoundBack.f k a0 a1) (vernierlaw07_RoundBack.f (k + 1) a0 a1) := by
  intro a0 a1 k
  unfold vernierlaw07_RoundBack.f
  repeat' first
      | (with_reducible exact codec_Decode.mono _ _ _)
      | (with_reducible exact round_Of.mono _ _ _ _ _)
      | (with_reducible exact round_Round.mono _ _ _ _ _ _ _ _)
      | (with_reducible exact vernierlaw07_up.mono _)
      | (with_reducible exact vernierref06_Fold.mono _ _ _)
      | (with_reducible exact LeO.refl _)
      | (with_reducible exact LeO.none _)
      | (with_reducible refine LeO.ite ?_ ?_)
      | (with_reducible refine LeO.bind ?_ (fun _ => ?_))
      | exact codec_Decode.mono _ _ _
      | exact round_Of.mono _ _ _ _ _
      | exact round_Round.mono _ _ _ _ _ _ _ _
      | exact vernierlaw07_up.mono _
      | exact vernierref06_Fold.mono _ _ _
      | exact LeO.none _
      | refine LeO.ite ?_ ?_
      | refine LeO.bind ?_ (fun _ => ?_)
set_option maxHeartbeats 8000000 in
set_option maxRecDepth 100000 in
theorem vernierlaw07_RoundBack.calls (k : Nat) (a0 : Int) (a1 : Int) (r : Bool) (w : World) (h : vernierlaw07_RoundBack.f k a0 a1 = some r) :
    Calls Try.prog 8 #[.int .i64 a0, .int .u64 a1] w fun e w' => e = .returned (.bool r) ∧ Below w.heap.size w w' := by
  have hu44 := Try.underlying44
  have hu24 := Try.underlying24
  have hu27 := Try.underlying27
  have hu55 := Try.underlying55
  have HB := Aside0.mk (Below.refl w.heap.size w)
  have H : ((vernierlaw07_up.f k).bind fun t483 => ((codec_Decode.f k a0 a1).bind fun bt484 => ((round_Of.f k bt484.1 bt484.2.1 bt484.2.2.1 bt484.2.2.2.1).bind fun bt490 => ((round_Round.f k a0 bt490.1 bt490.2.1 bt490.2.2.1 bt490.2.2.2.1 bt490.2.2.2.2.1 bt490.2.2.2.2.2.1).bind fun bt498 => ((vernierref05_Is.f a0).bind fun t500 => (if t500 = true then (if t483 = true then (if bt484.2.2.2.2.isNone = true then (if bt490.2.2.2.2.2.2.isNone = true then (if bt498.2.isNone = true then ((vernierref06_Fold.f k a0 a1).bind fun t504 => (some (bt498.1 == t504))) else (some false)) else (some false)) else (some false)) else (some false)) else (if t483 = true then (if bt484.2.2.2.2.isNone = true then (some false) else (if (bt484.2.2.2.2.getD 0) = 2 then (if bt498.2.isNone = true then (some false) else (if (bt498.2.getD 0) = 2 then (some (bt498.1 == 0)) else (some false))) else (some false))) else (some false)))))))) = some r := h
  clear h
  replace H := Option.bind_eq_some_iff.mp H
  obtain ⟨t483, A30, H⟩ := H
  replace H : ((codec_Decode.f k a0 a1).bind fun bt484 => ((round_Of.f k bt484.1 bt484.2.1 bt484.2.2.1 bt484.2.2.2.1).bind fun bt490 => ((round_Round.f k a0 bt490.1 bt490.2.1 bt490.2.2.1 bt490.2.2.2.1 bt490.2.2.2.2.1 bt490.2.2.2.2.2.1).bind fun bt498 => ((vernierref05_Is.f a0).bind fun t500 => (if t500 = true then (if t483 = true then (if bt484.2.2.2.2.isNone = true then (if bt490.2.2.2.2.2.2.isNone = true then (if bt498.2.isNone = true then ((vernierref06_Fold.f k a0 a1).bind fun t504 => (some (bt498.1 == t504))) else (some false)) else (some false)) else (some false)) else (some false)) else (if t483 = true then (if bt484.2.2.2.2.isNone = true then (some false) else (if (bt484.2.2.2.2.getD 0) = 2 then (if bt498.2.isNone = true then (some false) else (if (bt498.2.getD 0) = 2 then (some (bt498.1 == 0)) else (some false))) else (some false))) else (some false))))))) = some r := H
  have A3 := Aside0.mk A30
  clear A30
  replace H := Option.bind_eq_some_iff.mp H
  obtain ⟨⟨t484, t485, t486, t487, t488⟩, A40, H⟩ := H
  replace H : ((round_Of.f k t484 t485 t486 t487).bind fun bt490 => ((round_Round.f k a0 bt490.1 bt490.2.1 bt490.2.2.1 bt490.2.2.2.1 bt490.2.2.2.2.1 bt490.2.2.2.2.2.1).bind fun bt498 => ((vernierref05_Is.f a0).bind fun t500 => (if t500 = true then (if t483 = true then (if t488.isNone = true then (if bt490.2.2.2.2.2.2.isNone = true then (if bt498.2.isNone = true then ((vernierref06_Fold.f k a0 a1).bind fun t504 => (some (bt498.1 == t504))) else (some false)) else (some false)) else (some false)) else (some false)) else (if t483 = true then (if t488.isNone = true then (some false) else (if (t488.getD 0) = 2 then (if bt498.2.isNone = true then (some false) else (if (bt498.2.getD 0) = 2 then (some (bt498.1 == 0)) else (some false))) else (some false))) else (some false)))))) = some r := H
  have A4 := Aside0.mk A40
  clear A40
  replace H := Option.bind_eq_some_iff.mp H
  obtain ⟨⟨t490, t491, t492, t493, t494, t495, t496⟩, A50, H⟩ := H
  replace H : ((round_Round.f k a0 t490 t491 t492 t493 t494 t495).bind fun bt498 => ((vernierref05_Is.f a0).bind fun t500 => (if t500 = true then (if t483 = true then (if t488.isNone = true then (if t496.isNone = true then (if bt498.2.isNone = true then ((vernierref06_Fold.f k a0 a1).bind fun t504 => (some (bt498.1 == t504))) else (some false)) else (some false)) else (some false)) else (some false)) else (if t483 = true then (if t488.isNone = true then (some false) else (if (t488.getD 0) = 2 then (if bt498.2.isNone = true then (some false) else (if (bt498.2.getD 0) = 2 then (some (bt498.1 == 0)) else (some false))) else (some false))) else (some false))))) = some r := H
  have A5 := Aside0.mk A50
  clear A50
  replace H := Option.bind_eq_some_iff.mp H
  obtain ⟨⟨t498, t499⟩, A60, H⟩ := H
  replace H : ((vernierref05_Is.f a0).bind fun t500 => (if t500 = true then (if t483 = true then (if t488.isNone = true then (if t496.isNone = true then (if t499.isNone = true then ((vernierref06_Fold.f k a0 a1).bind fun t504 => (some (t498 == t504))) else (some false)) else (some false)) else (some false)) else (some false)) else (if t483 = true then (if t488.isNone = true then (some false) else (if (t488.getD 0) = 2 then (if t499.isNone = true then (some false) else (if (t499.getD 0) = 2 then (some (t498 == 0)) else (some false))) else (some false))) else (some false)))) = some r := H
  have A6 := Aside0.mk A60
  clear A60
  replace H := Option.bind_eq_some_iff.mp H
  obtain ⟨t500, A70, H⟩ := H
  replace H : (if t500 = true then (if t483 = true then (if t488.isNone = true then (if t496.isNone = true then (if t499.isNone = true then ((vernierref06_Fold.f k a0 a1).bind fun t504 => (some (t498 == t504))) else (some false)) else (some false)) else (some false)) else (some false)) else (if t483 = true then (if t488.isNone = true then (some false) else (if (t488.getD 0) = 2 then (if t499.isNone = true then (some false) else (if (t499.getD 0) = 2 then (some (t498 == 0)) else (some false))) else (some false))) else (some false))) = some r := H
  have A7 := Aside0.mk A70
  clear A70
  by_cases c8 : t500 = true
  · subst c8
    have H1 : (if t483 = true then (if t488.isNone = true then (if t496.isNone = true then (if t499.isNone = true then ((vernierref06_Fold.f k a0 a1).bind fun t504 => (some (t498 == t504))) else (some false)) else (some false)) else (some false)) else (some false)) = some r := by rw [if_pos rfl] at H; exact H
    clear H
    have H := H1
    clear H1
    by_cases c9 : t483 = true
    · subst c9
      have H1 : (if t488.isNone = true then (if t496.isNone = true then (if t499.isNone = true then ((vernierref06_Fold.f k a0 a1).bind fun t504 => (some (t498 == t504))) else (some false)) else (some false)) else (some false)) = some r := by rw [if_pos rfl] at H; exact H
      clear H
      have H := H1
      clear H1
      rcases t488 with _ | q501
      · have H1 : (if t496.isNone = true then (if t499.isNone = true then ((vernierref06_Fold.f k a0 a1).bind fun t504 => (some (t498 == t504))) else (some false)) else (some false)) = some r := by rw [if_pos (show (none : Option Int).isNone = true by rfl)] at H; exact H
        clear H
        have H := H1
        clear H1
        try simp only [errW_none, errW_some]
        rcases t496 with _ | q502
        · have H1 : (if t499.isNone = true then ((vernierref06_Fold.f k a0 a1).bind fun t504 => (some (t498 == t504))) else (some false)) = some r := by rw [if_pos (show (none : Option Int).isNone = true by rfl)] at H; exact H
          clear H
          have H := H1
          clear H1
          try simp only [errW_none, errW_some]
          rcases t499 with _ | q503
          · have H1 : ((vernierref06_Fold.f k a0 a1).bind fun t504 => (some (t498 == t504))) = some r := by rw [if_pos (show (none : Option Int).isNone = true by rfl)] at H; exact H
            clear H
            have H := H1
            clear H1
            try simp only [errW_none, errW_some]
            replace H := Option.bind_eq_some_iff.mp H
            obtain ⟨t504, A100, H⟩ := H
            replace H : (some (t498 == t504)) = some r := H
            have A10 := Aside0.mk A100
            clear A100
            obtain rfl := Option.some.inj H
            go_enter Try.func8, Try.ntmps8
            go_wp2_with (first | ((with_reducible refine gate_callee (f := 10) rfl ?_); refine goesL_ (some 13) rfl rfl Try.func10 (by kernel_rfl) rfl #[] rfl (by (try simp only [List.map_toArray, List.map_cons, List.map_nil]); first | done | rfl | (simp only [List.length_drop, List.length_take]; rfl)) ?_; (with_reducible refine (vernierlaw07_up.calls k  true _ A3.out).mono ?_); rintro e w11 ⟨rfl, hb⟩; refine ⟨_, rfl, ?_⟩; have n0_ := Aside0.mk (below_step (by repeat (first | (with_reducible first | exact HB.out | apply below_alloc | apply pw_below_drewN | apply below_drew1) | exact HB.out)) hb); clear HB; have HB := n0_; clear n0_; (try clear hb); (try clear hb2); (try clear hk); (try clear hi)) | ((with_reducible refine gate_callee (f := 24) rfl ?_); refine goesL_ (some 17) rfl rfl Try.func24 (by kernel_rfl) rfl #[.int .i64 a0, .int .u64 a1] rfl (by (try simp only [List.map_toArray, List.map_cons, List.map_nil]); first | done | rfl | (simp only [List.length_drop, List.length_take]; rfl)) ?_; (with_reducible refine (codec_Decode.calls k a0 a1 t484 t485 t486 t487 none _ A4.out).mono ?_); rintro e w12 ⟨rfl, hb⟩; refine ⟨_, rfl, ?_⟩; have n0_ := Aside0.mk (below_step (by repeat (first | (with_reducible first | exact HB.out | apply below_alloc | apply pw_below_drewN | apply below_drew1) | exact HB.out)) hb); clear HB; have HB := n0_; clear n0_; (try clear hb); (try clear hb2); (try clear hk); (try clear hi); (try simp only [errW_none, errW_some])) | ((with_reducible refine gate_dst (N := 6) rfl ?_); refine box_event ?hg (N := 6) ?hd (cs := #[.int .i64 0, .bool false, .int .i64 0, .int .u64 0]) (t := 44) ?hr ?_; (case hd => rfl); (case hg => rfl); (case hr => first | (go_simp; done) | (go_simp; rfl)); intro gb489 hg w13 hbox hb; have n0_ := Aside0.mk (below_step (by repeat (first | (with_reducible first | exact HB.out | apply below_alloc | apply pw_below_drewN | apply below_drew1) | exact HB.out)) hb); have n1_ := Aside0.mk (hbox); have n2_ := Aside0.mk ((by rw [hg]; exact (below_size (by repeat (first | (with_reducible first | exact HB.out | apply below_alloc | apply pw_below_drewN | apply below_drew1) | exact HB.out))) : w.heap.size ≤ gb489)); have n3_ := Aside0.mk ((by rw [hg]; exact (below_size (by repeat (first | (with_reducible first | exact HB.out | apply below_alloc | apply pw_below_drewN | apply below_drew1) | exact HB.out))) : w.heap.size ≤ gb489)); clear HB; have HB := n0_; have BK489 := n1_; have GW489 := n2_; have GE489 := n3_; clear n0_ n1_ n2_ n3_; clear hb hbox hg; have hcz14_0 : w13.cell? ⟨gb489, 0, none⟩ = some (.int .i64 0) := (blk_cell BK489.out 0).trans rfl; have hcz14_1 : w13.cell? ⟨gb489, 1, none⟩ = some (.bool false) := (blk_cell BK489.out 1).trans rfl; have hcz14_2 : w13.cell? ⟨gb489, 2, none⟩ = some (.int .i64 0) := (blk_cell BK489.out 2).trans rfl; have hcz14_3 : w13.cell? ⟨gb489, 3, none⟩ = some (.int .u64 0) := (blk_cell BK489.out 3).trans rfl; have hfz14_0 := blk_frozen BK489.out 0; have hfz14_1 := blk_frozen BK489.out 1; have hfz14_2 := blk_frozen BK489.out 2; have hfz14_3 := blk_frozen BK489.out 3) | ((with_reducible refine gate_callee (f := 20) rfl ?_); refine goesL_ (some 22) rfl rfl Try.func20 (by kernel_rfl) rfl #[.agg #[.int .i64 t484, .bool t485, .int .i64 t486, .int .u64 t487]] rfl (by (try simp only [List.map_toArray, List.map_cons, List.map_nil]); first | done | rfl | (simp only [List.length_drop, List.length_take]; rfl)) ?_; (with_reducible refine (round_Of.calls k t484 t485 t486 t487 t490 t491 t492 t493 t494 t495 none _ A5.out).mono ?_); rintro e w15 ⟨rfl, hb⟩; refine ⟨_, rfl, ?_⟩; have n0_ := Aside0.mk (blk_below (g := gb489) (o := .cells #[.int .i64 t484, .bool t485, .int .i64 t486, .int .u64 t487] 44 (0, 0)) (by (with_reducible repeat (first | refine blk_drewN ?_ _ | refine blk_drew ?_ | refine blk_alloc ?_ _)); refine blk_put (cs := #[.int .i64 t484, .bool t485, .int .i64 t486, .int .u64 0]) ?_ 3 _ rfl; (with_reducible repeat (first | refine blk_drewN ?_ _ | refine blk_drew ?_ | refine blk_alloc ?_ _)); refine blk_put (cs := #[.int .i64 t484, .bool t485, .int .i64 0, .int .u64 0]) ?_ 2 _ rfl; (with_reducible repeat (first | refine blk_drewN ?_ _ | refine blk_drew ?_ | refine blk_alloc ?_ _)); refine blk_put (cs := #[.int .i64 t484, .bool false, .int .i64 0, .int .u64 0]) ?_ 1 _ rfl; (with_reducible repeat (first | refine blk_drewN ?_ _ | refine blk_drew ?_ | refine blk_alloc ?_ _)); refine blk_put (cs := #[.int .i64 0, .bool false, .int .i64 0, .int .u64 0]) ?_ 0 _ rfl; (with_reducible repeat (first | refine blk_drewN ?_ _ | refine blk_drew ?_ | refine blk_alloc ?_ _)); exact BK489.out) hb); have n1_ := Aside0.mk (below_step (by repeat (first | (with_reducible first | exact HB.out | apply below_alloc | apply pw_below_drewN | apply below_drew1 | refine below_set ?_ GE489.out) | exact HB.out)) hb); clear BK489; clear HB; have BK489 := n0_; have HB := n1_; clear n0_ n1_; (try clear hb); (try clear hb2); (try clear hk); (try clear hi); (try simp only [errW_none, errW_some])) | ((with_reducible refine gate_dst (N := 8) rfl ?_); refine box_event ?hg (N := 8) ?hd (cs := #[.int .i64 0, .bool false, .int .i64 0, .int .u64 0, .int .u64 0, .bool false]) (t := 24) ?hr ?_; (case hd => rfl); (case hg => rfl); (case hr => first | (go_simp; done) | (go_simp; rfl)); intro gb497 hg w16 hbox hb; have n0_ := Aside0.mk (blk_below (g := gb489) (o := .cells #[.int .i64 t484, .bool t485, .int .i64 t486, .int .u64 t487] 44 (0, 0)) (by (with_reducible repeat (first | refine blk_drewN ?_ _ | refine blk_drew ?_ | refine blk_alloc ?_ _)); exact BK489.out) hb); have n1_ := Aside0.mk (below_step (by repeat (first | (with_reducible first | exact HB.out | apply below_alloc | apply pw_below_drewN | apply below_drew1 | refine below_set ?_ GE489.out) | exact HB.out)) hb); have n2_ := Aside0.mk (hbox); have n3_ := Aside0.mk ((by rw [hg]; exact (below_size (by repeat (first | (with_reducible first | exact HB.out | apply below_alloc | apply pw_below_drewN | apply below_drew1 | refine below_set ?_ GE489.out) | exact HB.out))) : w.heap.size ≤ gb497)); have n4_ := Aside0.mk ((by rw [hg]; exact (below_size (by repeat (first | (with_reducible first | exact HB.out | apply below_alloc | apply pw_below_drewN | apply below_drew1 | refine below_set ?_ GE489.out) | exact HB.out))) : w.heap.size ≤ gb497)); have n5_ := Aside0.mk ((by rw [hg]; exact Nat.ne_of_lt (blk_lt (g := gb489) (o := .cells #[.int .i64 t484, .bool t485, .int .i64 t486, .int .u64 t487] 44 (0, 0)) (by (with_reducible repeat (first | refine blk_drewN ?_ _ | refine blk_drew ?_ | refine blk_alloc ?_ _)); exact BK489.out)) : gb489 ≠ gb497)); have n6_ := Aside0.mk ((by rw [hg]; exact Nat.ne_of_gt (blk_lt (g := gb489) (o := .cells #[.int .i64 t484, .bool t485, .int .i64 t486, .int .u64 t487] 44 (0, 0)) (by (with_reducible repeat (first | refine blk_drewN ?_ _ | refine blk_drew ?_ | refine blk_alloc ?_ _)); exact BK489.out)) : gb497 ≠ gb489)); clear BK489; clear HB; have BK489 := n0_; have HB := n1_; have BK497 := n2_; have GW497 := n3_; have GE497 := n4_; have NB489_497 := n5_; have NB497_489 := n6_; clear n0_ n1_ n2_ n3_ n4_ n5_ n6_; clear hb hbox hg; have hnb17 := NB497_489.out; have hnc17 := NB489_497.out; have hcz18_0 : w16.cell? ⟨gb497, 0, none⟩ = some (.int .i64 0) := (blk_cell BK497.out 0).trans rfl; have hcz18_1 : w16.cell? ⟨gb497, 1, none⟩ = some (.bool false) := (blk_cell BK497.out 1).trans rfl; have hcz18_2 : w16.cell? ⟨gb497, 2, none⟩ = some (.int .i64 0) := (blk_cell BK497.out 2).trans rfl; have hcz18_3 : w16.cell? ⟨gb497, 3, none⟩ = some (.int .u64 0) := (blk_cell BK497.out 3).trans rfl; have hcz18_4 : w16.cell? ⟨gb497, 4, none⟩ = some (.int .u64 0) := (blk_cell BK497.out 4).trans rfl; have hcz18_5 : w16.cell? ⟨gb497, 5, none⟩ = some (.bool false) := (blk_cell BK497.out 5).trans rfl; have hfz18_0 := blk_frozen BK497.out 0; have hfz18_1 := blk_frozen BK497.out 1; have hfz18_2 := blk_frozen BK497.out 2; have hfz18_3 := blk_frozen BK497.out 3; have hfz18_4 := blk_frozen BK497.out 4; have hfz18_5 := blk_frozen BK497.out 5) | ((with_reducible refine gate_callee (f := 14) rfl ?_); refine goesL_ (some 28) rfl rfl Try.func14 (by kernel_rfl) rfl #[.int .i64 a0, .agg #[.int .i64 t490, .bool t491, .int .i64 t492, .int .u64 t493, .int .u64 t494, .bool t495]] rfl (by (try simp only [List.map_toArray, List.map_cons, List.map_nil]); first | done | rfl | (simp only [List.length_drop, List.length_take]; rfl)) ?_; (with_reducible refine (round_Round.calls k a0 t490 t491 t492 t493 t494 t495 t498 none _ A6.out).mono ?_); rintro e w19 ⟨rfl, hb⟩; refine ⟨_, rfl, ?_⟩; have n0_ := Aside0.mk (blk_below (g := gb489) (o := .cells #[.int .i64 t484, .bool t485, .int .i64 t486, .int .u64 t487] 44 (0, 0)) (by (with_reducible repeat (first | refine blk_drewN ?_ _ | refine blk_drew ?_ | refine blk_alloc ?_ _)); refine blk_far ?_ NB489_497.out _; (with_reducible repeat (first | refine blk_drewN ?_ _ | refine blk_drew ?_ | refine blk_alloc ?_ _)); refine blk_far ?_ NB489_497.out _; (with_reducible repeat (first | refine blk_drewN ?_ _ | refine blk_drew ?_ | refine blk_alloc ?_ _)); refine blk_far ?_ NB489_497.out _; (with_reducible repeat (first | refine blk_drewN ?_ _ | refine blk_drew ?_ | refine blk_alloc ?_ _)); refine blk_far ?_ NB489_497.out _; (with_reducible repeat (first | refine blk_drewN ?_ _ | refine blk_drew ?_ | refine blk_alloc ?_ _)); refine blk_far ?_ NB489_497.out _; (with_reducible repeat (first | refine blk_drewN ?_ _ | refine blk_drew ?_ | refine blk_alloc ?_ _)); refine blk_far ?_ NB489_497.out _; (with_reducible repeat (first | refine blk_drewN ?_ _ | refine blk_drew ?_ | refine blk_alloc ?_ _)); exact BK489.out) hb); have n1_ := Aside0.mk (blk_below (g := gb497) (o := .cells #[.int .i64 t490, .bool t491, .int .i64 t492, .int .u64 t493, .int .u64 t494, .bool t495] 24 (0, 0)) (by (with_reducible repeat (first | refine blk_drewN ?_ _ | refine blk_drew ?_ | refine blk_alloc ?_ _)); refine blk_put (cs := #[.int .i64 t490, .bool t491, .int .i64 t492, .int .u64 t493, .int .u64 t494, .bool false]) ?_ 5 _ rfl; (with_reducible repeat (first | refine blk_drewN ?_ _ | refine blk_drew ?_ | refine blk_alloc ?_ _)); refine blk_put (cs := #[.int .i64 t490, .bool t491, .int .i64 t492, .int .u64 t493, .int .u64 0, .bool false]) ?_ 4 _ rfl; (with_reducible repeat (first | refine blk_drewN ?_ _ | refine blk_drew ?_ | refine blk_alloc ?_ _)); refine blk_put (cs := #[.int .i64 t490, .bool t491, .int .i64 t492, .int .u64 0, .int .u64 0, .bool false]) ?_ 3 _ rfl; (with_reducible repeat (first | refine blk_drewN ?_ _ | refine blk_drew ?_ | refine blk_alloc ?_ _)); refine blk_put (cs := #[.int .i64 t490, .bool t491, .int .i64 0, .int .u64 0, .int .u64 0, .bool false]) ?_ 2 _ rfl; (with_reducible repeat (first | refine blk_drewN ?_ _ | refine blk_drew ?_ | refine blk_alloc ?_ _)); refine blk_put (cs := #[.int .i64 t490, .bool false, .int .i64 0, .int .u64 0, .int .u64 0, .bool false]) ?_ 1 _ rfl; (with_reducible repeat (first | refine blk_drewN ?_ _ | refine blk_drew ?_ | refine blk_alloc ?_ _)); refine blk_put (cs := #[.int .i64 0, .bool false, .int .i64 0, .int .u64 0, .int .u64 0, .bool false]) ?_ 0 _ rfl; (with_reducible repeat (first | refine blk_drewN ?_ _ | refine blk_drew ?_ | refine blk_alloc ?_ _)); exact BK497.out) hb); have n2_ := Aside0.mk (below_step (by repeat (first | (with_reducible first | exact HB.out | apply below_alloc | apply pw_below_drewN | apply below_drew1 | refine below_set ?_ GE489.out | refine below_set ?_ GE497.out) | exact HB.out)) hb); clear BK489; clear BK497; clear HB; have BK489 := n0_; have BK497 := n1_; have HB := n2_; clear n0_ n1_ n2_; (try clear hb); (try clear hb2); (try clear hk); (try clear hi); (try simp only [errW_none, errW_some])) | ((with_reducible refine gate_callee (f := 17) rfl ?_); refine goesL_ (some 32) rfl rfl Try.func17 (by kernel_rfl) rfl #[.int .i64 a0] rfl (by (try simp only [List.map_toArray, List.map_cons, List.map_nil]); first | done | rfl | (simp only [List.length_drop, List.length_take]; rfl)) ?_; (with_reducible refine (vernierref05_Is.calls a0 true _ A7.out).mono ?_); rintro e w' ⟨rfl, ⟨nd, rfl⟩⟩; refine ⟨_, rfl, ?_⟩) | (go_at_call 25; (with_reducible refine (vernierref06_Fold.calls k a0 a1 t504 _ A10.out).mono ?_); rintro e w20 ⟨rfl, hb⟩; have n0_ := Aside0.mk (blk_below (g := gb489) (o := .cells #[.int .i64 t484, .bool t485, .int .i64 t486, .int .u64 t487] 44 (0, 0)) (by (with_reducible repeat (first | refine blk_drewN ?_ _ | refine blk_drew ?_ | refine blk_alloc ?_ _)); exact BK489.out) hb); have n1_ := Aside0.mk (blk_below (g := gb497) (o := .cells #[.int .i64 t490, .bool t491, .int .i64 t492, .int .u64 t493, .int .u64 t494, .bool t495] 24 (0, 0)) (by (with_reducible repeat (first | refine blk_drewN ?_ _ | refine blk_drew ?_ | refine blk_alloc ?_ _)); exact BK497.out) hb); have n2_ := Aside0.mk (below_step (by repeat (first | (with_reducible first | exact HB.out | apply below_alloc | apply pw_below_drewN | apply below_drew1 | refine below_set ?_ GE489.out | refine below_set ?_ GE497.out) | exact HB.out)) hb); clear BK489; clear BK497; clear HB; have BK489 := n0_; have BK497 := n1_; have HB := n2_; clear n0_ n1_ n2_; (try clear hb); (try clear hb2); (try clear hk); (try clear hi)))
            go_ret
            exact ⟨by first | rfl | (simp [errW_none, errW_some] <;> rfl) | (simp [*, errW_none, errW_some] <;> rfl), by repeat (first | (with_reducible first | exact HB.out | apply below_alloc | apply pw_below_drewN | apply below_drew1 | refine below_set ?_ GE489.out | refine below_set ?_ GE497.out) | exact HB.out)⟩
          · have H1 : (some false) = some r := by rw [if_neg (show ¬ (some q503).isNone = true by simp)] at H; exact H
            clear H
            have H := H1
            clear H1
            try simp only [errW_none, errW_some]
            obtain rfl := Option.some.inj H
            go_enter Try.func8, Try.ntmps8
            go_wp2_with (first | ((with_reducible refine gate_callee (f := 10) rfl ?_); refine goesL_ (some 13) rfl rfl Try.func10 (by kernel_rfl) rfl #[] rfl (by (try simp only [List.map_toArray, List.map_cons, List.map_nil]); first | done | rfl | (simp only [List.length_drop, List.length_take]; rfl)) ?_; (with_reducible refine (vernierlaw07_up.calls k  true _ A3.out).mono ?_); rintro e w21 ⟨rfl, hb⟩; refine ⟨_, rfl, ?_⟩; have n0_ := Aside0.mk (below_step (by repeat (first | (with_reducible first | exact HB.out | apply below_alloc | apply pw_below_drewN | apply below_drew1) | exact HB.out)) hb); clear HB; have HB := n0_; clear n0_; (try clear hb); (try clear hb2); (try clear hk); (try clear hi)) | ((with_reducible refine gate_callee (f := 24) rfl ?_); refine goesL_ (some 17) rfl rfl Try.func24 (by kernel_rfl) rfl #[.int .i64 a0, .int .u64 a1] rfl (by (try simp only [List.map_toArray, List.map_cons, List.map_nil]); first | done | rfl | (simp only [List.length_drop, List.length_take]; rfl)) ?_; (with_reducible refine (codec_Decode.calls k a0 a1 t484 t485 t486 t487 none _ A4.out).mono ?_); rintro e w22 ⟨rfl, hb⟩; refine ⟨_, rfl, ?_⟩; have n0_ := Aside0.mk (below_step (by repeat (first | (with_reducible first | exact HB.out | apply below_alloc | apply pw_below_drewN | apply below_drew1) | exact HB.out)) hb); clear HB; have HB := n0_; clear n0_; (try clear hb); (try clear hb2); (try clear hk); (try clear hi); (try simp only [errW_none, errW_some])) | ((with_reducible refine gate_dst (N := 6) rfl ?_); refine box_event ?hg (N := 6) ?hd (cs := #[.int .i64 0, .bool false, .int .i64 0, .int .u64 0]) (t := 44) ?hr ?_; (case hd => rfl); (case hg => rfl); (case hr => first | (go_simp; done) | (go_simp; rfl)); intro gb489 hg w23 hbox hb; have n0_ := Aside0.mk (below_step (by repeat (first | (with_reducible first | exact HB.out | apply below_alloc | apply pw_below_drewN | apply below_drew1) | exact HB.out)) hb); have n1_ := Aside0.mk (hbox); have n2_ := Aside0.mk ((by rw [hg]; exact (below_size (by repeat (first | (with_reducible first | exact HB.out | apply below_alloc | apply pw_below_drewN | apply below_drew1) | exact HB.out))) : w.heap.size ≤ gb489)); have n3_ := Aside0.mk ((by rw [hg]; exact (below_size (by repeat (first | (with_reducible first | exact HB.out | apply below_alloc | apply pw_below_drewN | apply below_drew1) | exact HB.out))) : w.heap.size ≤ gb489)); clear HB; have HB := n0_; have BK489 := n1_; have GW489 := n2_; have GE489 := n3_; clear n0_ n1_ n2_ n3_; clear hb hbox hg; have hcz24_0 : w23.cell? ⟨gb489, 0, none⟩ = some (.int .i64 0) := (blk_cell BK489.out 0).trans rfl; have hcz24_1 : w23.cell? ⟨gb489, 1, none⟩ = some (.bool false) := (blk_cell BK489.out 1).trans rfl; have hcz24_2 : w23.cell? ⟨gb489, 2, none⟩ = some (.int .i64 0) := (blk_cell BK489.out 2).trans rfl; have hcz24_3 : w23.cell? ⟨gb489, 3, none⟩ = some (.int .u64 0) := (blk_cell BK489.out 3).trans rfl; have hfz24_0 := blk_frozen BK489.out 0; have hfz24_1 := blk_frozen BK489.out 1; have hfz24_2 := blk_frozen BK489.out 2; have hfz24_3 := blk_frozen BK489.out 3) | ((with_reducible refine gate_callee (f := 20) rfl ?_); refine goesL_ (some 22) rfl rfl Try.func20 (by kernel_rfl) rfl #[.agg #[.int .i64 t484, .bool t485, .int .i64 t486, .int .u64 t487]] rfl (by (try simp only [List.map_toArray, List.map_cons, List.map_nil]); first | done | rfl | (simp only [List.length_drop, List.length_take]; rfl)) ?_; (with_reducible refine (round_Of.calls k t484 t485 t486 t487 t490 t491 t492 t493 t494 t495 none _ A5.out).mono ?_); rintro e w25 ⟨rfl, hb⟩; refine ⟨_, rfl, ?_⟩; have n0_ := Aside0.mk (blk_below (g := gb489) (o := .cells #[.int .i64 t484, .bool t485, .int .i64 t486, .int .u64 t487] 44 (0, 0)) (by (with_reducible repeat (first | refine blk_drewN ?_ _ | refine blk_drew ?_ | refine blk_alloc ?_ _)); refine blk_put (cs := #[.int .i64 t484, .bool t485, .int .i64 t486, .int .u64 0]) ?_ 3 _ rfl; (with_reducible repeat (first | refine blk_drewN ?_ _ | refine blk_drew ?_ | refine blk_alloc ?_ _)); refine blk_put (cs := #[.int .i64 t484, .bool t485, .int .i64 0, .int .u64 0]) ?_ 2 _ rfl; (with_reducible repeat (first | refine blk_drewN ?_ _ | refine blk_drew ?_ | refine blk_alloc ?_ _)); refine blk_put (cs := #[.int .i64 t484, .bool false, .int .i64 0, .int .u64 0]) ?_ 1 _ rfl; (with_reducible repeat (first | refine blk_drewN ?_ _ | refine blk_drew ?_ | refine blk_alloc ?_ _)); refine blk_put (cs := #[.int .i64 0, .bool false, .int .i64 0, .int .u64 0]) ?_ 0 _ rfl; (with_reducible repeat (first | refine blk_drewN ?_ _ | refine blk_drew ?_ | refine blk_alloc ?_ _)); exact BK489.out) hb); have n1_ := Aside0.mk (below_step (by repeat (first | (with_reducible first | exact HB.out | apply below_alloc | apply pw_below_drewN | apply below_drew1 | refine below_set ?_ GE489.out) | exact HB.out)) hb); clear BK489; clear HB; have BK489 := n0_; have HB := n1_; clear n0_ n1_; (try clear hb); (try clear hb2); (try clear hk); (try clear hi); (try simp only [errW_none, errW_some])) | ((with_reducible refine gate_dst (N := 8) rfl ?_); refine box_event ?hg (N := 8) ?hd (cs := #[.int .i64 0, .bool false, .int .i64 0, .int .u64 0, .int .u64 0, .bool false]) (t := 24) ?hr ?_; (case hd => rfl); (case hg => rfl); (case hr => first | (go_simp; done) | (go_simp; rfl)); intro gb497 hg w26 hbox hb; have n0_ := Aside0.mk (blk_below (g := gb489) (o := .cells #[.int .i64 t484, .bool t485, .int .i64 t486, .int .u64 t487] 44 (0, 0)) (by (with_reducible repeat (first | refine blk_drewN ?_ _ | refine blk_drew ?_ | refine blk_alloc ?_ _)); exact BK489.out) hb); have n1_ := Aside0.mk (below_step (by repeat (first | (with_reducible first | exact HB.out | apply below_alloc | apply pw_below_drewN | apply below_drew1 | refine below_set ?_ GE489.out) | exact HB.out)) hb); have n2_ := Aside0.mk (hbox); have n3_ := Aside0.mk ((by rw [hg]; exact (below_size (by repeat (first | (with_reducible first | exact HB.out | apply below_alloc | apply pw_below_drewN | apply below_drew1 | refine below_set ?_ GE489.out) | exact HB.out))) : w.heap.size ≤ gb497)); have n4_ := Aside0.mk ((by rw [hg]; exact (below_size (by repeat (first | (with_reducible first | exact HB.out | apply below_alloc | apply pw_below_drewN | apply below_drew1 | refine below_set ?_ GE489.out) | exact HB.out))) : w.heap.size ≤ gb497)); have n5_ := Aside0.mk ((by rw [hg]; exact Nat.ne_of_lt (blk_lt (g := gb489) (o := .cells #[.int .i64 t484, .bool t485, .int .i64 t486, .int .u64 t487] 44 (0, 0)) (by (with_reducible repeat (first | refine blk_drewN ?_ _ | refine blk_drew ?_ | refine blk_alloc ?_ _)); exact BK489.out)) : gb489 ≠ gb497)); have n6_ := Aside0.mk ((by rw [hg]; exact Nat.ne_of_gt (blk_lt (g := gb489) (o := .cells #[.int .i64 t484, .bool t485, .int .i64 t486, .int .u64 t487] 44 (0, 0)) (by (with_reducible repeat (first | refine blk_drewN ?_ _ | refine blk_drew ?_ | refine blk_alloc ?_ _)); exact BK489.out)) : gb497 ≠ gb489)); clear BK489; clear HB; have BK489 := n0_; have HB := n1_; have BK497 := n2_; have GW497 := n3_; have GE497 := n4_; have NB489_497 := n5_; have NB497_489 := n6_; clear n0_ n1_ n2_ n3_ n4_ n5_ n6_; clear hb hbox hg; have hnb27 := NB497_489.out; have hnc27 := NB489_497.out; have hcz28_0 : w26.cell? ⟨gb497, 0, none⟩ = some (.int .i64 0) := (blk_cell BK497.out 0).trans rfl; have hcz28_1 : w26.cell? ⟨gb497, 1, none⟩ = some (.bool false) := (blk_cell BK497.out 1).trans rfl; have hcz28_2 : w26.cell? ⟨gb497, 2, none⟩ = some (.int .i64 0) := (blk_cell BK497.out 2).trans rfl; have hcz28_3 : w26.cell? ⟨gb497, 3, none⟩ = some (.int .u64 0) := (blk_cell BK497.out 3).trans rfl; have hcz28_4 : w26.cell? ⟨gb497, 4, none⟩ = some (.int .u64 0) := (blk_cell BK497.out 4).trans rfl; have hcz28_5 : w26.cell? ⟨gb497, 5, none⟩ = some (.bool false) := (blk_cell BK497.out 5).trans rfl; have hfz28_0 := blk_frozen BK497.out 0; have hfz28_1 := blk_frozen BK497.out 1; have hfz28_2 := blk_frozen BK497.out 2; have hfz28_3 := blk_frozen BK497.out 3; have hfz28_4 := blk_frozen BK497.out 4; have hfz28_5 := blk_frozen BK497.out 5) | ((with_reducible refine gate_callee (f := 14) rfl ?_); refine goesL_ (some 28) rfl rfl Try.func14 (by kernel_rfl) rfl #[.int .i64 a0, .agg #[.int .i64 t490, .bool t491, .int .i64 t492, .int .u64 t493, .int .u64 t494, .bool t495]] rfl (by (try simp only [List.map_toArray, List.map_cons, List.map_nil]); first | done | rfl | (simp only [List.length_drop, List.length_take]; rfl)) ?_; (with_reducible refine (round_Round.calls k a0 t490 t491 t492 t493 t494 t495 t498 (some q503) _ A6.out).mono ?_); rintro e w29 ⟨rfl, hb⟩; refine ⟨_, rfl, ?_⟩; have n0_ := Aside0.mk (blk_below (g := gb489) (o := .cells #[.int .i64 t484, .bool t485, .int .i64 t486, .int .u64 t487] 44 (0, 0)) (by (with_reducible repeat (first | refine blk_drewN ?_ _ | refine blk_drew ?_ | refine blk_alloc ?_ _)); refine blk_far ?_ NB489_497.out _; (with_reducible repeat (first | refine blk_drewN ?_ _ | refine blk_drew ?_ | refine blk_alloc ?_ _)); refine blk_far ?_ NB489_497.out _; (with_reducible repeat (first | refine blk_drewN ?_ _ | refine blk_drew ?_ | refine blk_alloc ?_ _)); refine blk_far ?_ NB489_497.out _; (with_reducible repeat (first | refine blk_drewN ?_ _ | refine blk_drew ?_ | refine blk_alloc ?_ _)); refine blk_far ?_ NB489_497.out _; (with_reducible repeat (first | refine blk_drewN ?_ _ | refine blk_drew ?_ | refine blk_alloc ?_ _)); refine blk_far ?_ NB489_497.out _; (with_reducible repeat (first | refine blk_drewN ?_ _ | refine blk_drew ?_ | refine blk_alloc ?_ _)); refine blk_far ?_ NB489_497.out _; (with_reducible repeat (first | refine blk_drewN ?_ _ | refine blk_drew ?_ | refine blk_alloc ?_ _)); exact BK489.out) hb); have n1_ := Aside0.mk (blk_below (g := gb497) (o := .cells #[.int .i64 t490, .bool t491, .int .i64 t492, .int .u64 t493, .int .u64 t494, .bool t495] 24 (0, 0)) (by (with_reducible repeat (first | refine blk_drewN ?_ _ | refine blk_drew ?_ | refine blk_alloc ?_ _)); refine blk_put (cs := #[.int .i64 t490, .bool t491, .int .i64 t492, .int .u64 t493, .int .u64 t494, .bool false]) ?_ 5 _ rfl; (with_reducible repeat (first | refine blk_drewN ?_ _ | refine blk_drew ?_ | refine blk_alloc ?_ _)); refine blk_put (cs := #[.int .i64 t490, .bool t491, .int .i64 t492, .int .u64 t493, .int .u64 0, .bool false]) ?_ 4 _ rfl; (with_reducible repeat (first | refine blk_drewN ?_ _ | refine blk_drew ?_ | refine blk_alloc ?_ _)); refine blk_put (cs := #[.int .i64 t490, .bool t491, .int .i64 t492, .int .u64 0, .int .u64 0, .bool false]) ?_ 3 _ rfl; (with_reducible repeat (first | refine blk_drewN ?_ _ | refine blk_drew ?_ | refine blk_alloc ?_ _)); refine blk_put (cs := #[.int .i64 t490, .bool t491, .int .i64 0, .int .u64 0, .int .u64 0, .bool false]) ?_ 2 _ rfl; (with_reducible repeat (first | refine blk_drewN ?_ _ | refine blk_drew ?_ | refine blk_alloc ?_ _)); refine blk_put (cs := #[.int .i64 t490, .bool false, .int .i64 0, .int .u64 0, .int .u64 0, .bool false]) ?_ 1 _ rfl; (with_reducible repeat (first | refine blk_drewN ?_ _ | refine blk_drew ?_ | refine blk_alloc ?_ _)); refine blk_put (cs := #[.int .i64 0, .bool false, .int .i64 0, .int .u64 0, .int .u64 0, .bool false]) ?_ 0 _ rfl; (with_reducible repeat (first | refine blk_drewN ?_ _ | refine blk_drew ?_ | refine blk_alloc ?_ _)); exact BK497.out) hb); have n2_ := Aside0.mk (below_step (by repeat (first | (with_reducible first | exact HB.out | apply below_alloc | apply pw_below_drewN | apply below_drew1 | refine below_set ?_ GE489.out | refine below_set ?_ GE497.out) | exact HB.out)) hb); clear BK489; clear BK497; clear HB; have BK489 := n0_; have BK497 := n1_; have HB := n2_; clear n0_ n1_ n2_; (try clear hb); (try clear hb2); (try clear hk); (try clear hi); (try simp only [errW_none, errW_some])) | ((with_reducible refine gate_callee (f := 17) rfl ?_); refine goesL_ (some 32) rfl rfl Try.func17 (by kernel_rfl) rfl #[.int .i64 a0] rfl (by (try simp only [List.map_toArray, List.map_cons, List.map_nil]); first | done | rfl | (simp only [List.length_drop, List.length_take]; rfl)) ?_; (with_reducible refine (vernierref05_Is.calls a0 true _ A7.out).mono ?_); rintro e w' ⟨rfl, ⟨nd, rfl⟩⟩; refine ⟨_, rfl, ?_⟩))
            go_ret
            exact ⟨by first | rfl | (simp [errW_none, errW_some] <;> rfl) | (simp [*, errW_none, errW_some] <;> rfl), by repeat (first | (with_reducible first | exact HB.out | apply below_alloc | apply pw_below_drewN | apply below_drew1 | refine below_set ?_ GE489.out | refine below_set ?_ GE497.out) | exact HB.out)⟩
        · have H1 : (some false) = some r := by rw [if_neg (show ¬ (some q502).isNone = true by simp)] at H; exact H
          clear H
          have H := H1
          clear H1
          try simp only [errW_none, errW_some]
          obtain rfl := Option.some.inj H
          go_enter Try.func8, Try.ntmps8
          go_wp2_with (first | ((with_reducible refine gate_callee (f := 10) rfl ?_); refine goesL_ (some 13) rfl rfl Try.func10 (by kernel_rfl) rfl #[] rfl (by (try simp only [List.map_toArray, List.map_cons, List.map_nil]); first | done | rfl | (simp only [List.length_drop, List.length_take]; rfl)) ?_; (with_reducible refine (vernierlaw07_up.calls k  true _ A3.out).mono ?_); rintro e w30 ⟨rfl, hb⟩; refine ⟨_, rfl, ?_⟩; have n0_ := Aside0.mk (below_step (by repeat (first | (with_reducible first | exact HB.out | apply below_alloc | apply pw_below_drewN | apply below_drew1) | exact HB.out)) hb); clear HB; have HB := n0_; clear n0_; (try clear hb); (try clear hb2); (try clear hk); (try clear hi)) | ((with_reducible refine gate_callee (f := 24) rfl ?_); refine goesL_ (some 17) rfl rfl Try.func24 (by kernel_rfl) rfl #[.int .i64 a0, .int .u64 a1] rfl (by (try simp only [List.map_toArray, List.map_cons, List.map_nil]); first | done | rfl | (simp only [List.length_drop, List.length_take]; rfl)) ?_; (with_reducible refine (codec_Decode.calls k a0 a1 t484 t485 t486 t487 none _ A4.out).mono ?_); rintro e w31 ⟨rfl, hb⟩; refine ⟨_, rfl, ?_⟩; have n0_ := Aside0.mk (below_step (by repeat (first | (with_reducible first | exact HB.out | apply below_alloc | apply pw_below_drewN | apply below_drew1) | exact HB.out)) hb); clear HB; have HB := n0_; clear n0_; (try clear hb); (try clear hb2); (try clear hk); (try clear hi); (try simp only [errW_none, errW_some])) | ((with_reducible refine gate_dst (N := 6) rfl ?_); refine box_event ?hg (N := 6) ?hd (cs := #[.int .i64 0, .bool false, .int .i64 0, .int .u64 0]) (t := 44) ?hr ?_; (case hd => rfl); (case hg => rfl); (case hr => first | (go_simp; done) | (go_simp; rfl)); intro gb489 hg w32 hbox hb; have n0_ := Aside0.mk (below_step (by repeat (first | (with_reducible first | exact HB.out | apply below_alloc | apply pw_below_drewN | apply below_drew1) | exact HB.out)) hb); have n1_ := Aside0.mk (hbox); have n2_ := Aside0.mk ((by rw [hg]; exact (below_size (by repeat (first | (with_reducible first | exact HB.out | apply below_alloc | apply pw_below_drewN | apply below_drew1) | exact HB.out))) : w.heap.size ≤ gb489)); have n3_ := Aside0.mk ((by rw [hg]; exact (below_size (by repeat (first | (with_reducible first | exact HB.out | apply below_alloc | apply pw_below_drewN | apply below_drew1) | exact HB.out))) : w.heap.size ≤ gb489)); clear HB; have HB := n0_; have BK489 := n1_; have GW489 := n2_; have GE489 := n3_; clear n0_ n1_ n2_ n3_; clear hb hbox hg; have hcz33_0 : w32.cell? ⟨gb489, 0, none⟩ = some (.int .i64 0) := (blk_cell BK489.out 0).trans rfl; have hcz33_1 : w32.cell? ⟨gb489, 1, none⟩ = some (.bool false) := (blk_cell BK489.out 1).trans rfl; have hcz33_2 : w32.cell? ⟨gb489, 2, none⟩ = some (.int .i64 0) := (blk_cell BK489.out 2).trans rfl; have hcz33_3 : w32.cell? ⟨gb489, 3, none⟩ = some (.int .u64 0) := (blk_cell BK489.out 3).trans rfl; have hfz33_0 := blk_frozen BK489.out 0; have hfz33_1 := blk_frozen BK489.out 1; have hfz33_2 := blk_frozen BK489.out 2; have hfz33_3 := blk_frozen BK489.out 3) | ((with_reducible refine gate_callee (f := 20) rfl ?_); refine goesL_ (some 22) rfl rfl Try.func20 (by kernel_rfl) rfl #[.agg #[.int .i64 t484, .bool t485, .int .i64 t486, .int .u64 t487]] rfl (by (try simp only [List.map_toArray, List.map_cons, List.map_nil]); first | done | rfl | (simp only [List.length_drop, List.length_take]; rfl)) ?_; (with_reducible refine (round_Of.calls k t484 t485 t486 t487 t490 t491 t492 t493 t494 t495 (some q502) _ A5.out).mono ?_); rintro e w34 ⟨rfl, hb⟩; refine ⟨_, rfl, ?_⟩; have n0_ := Aside0.mk (blk_below (g := gb489) (o := .cells #[.int .i64 t484, .bool t485, .int .i64 t486, .int .u64 t487] 44 (0, 0)) (by (with_reducible repeat (first | refine blk_drewN ?_ _ | refine blk_drew ?_ | refine blk_alloc ?_ _)); refine blk_put (cs := #[.int .i64 t484, .bool t485, .int .i64 t486, .int .u64 0]) ?_ 3 _ rfl; (with_reducible repeat (first | refine blk_drewN ?_ _ | refine blk_drew ?_ | refine blk_alloc ?_ _)); refine blk_put (cs := #[.int .i64 t484, .bool t485, .int .i64 0, .int .u64 0]) ?_ 2 _ rfl; (with_reducible repeat (first | refine blk_drewN ?_ _ | refine blk_drew ?_ | refine blk_alloc ?_ _)); refine blk_put (cs := #[.int .i64 t484, .bool false, .int .i64 0, .int .u64 0]) ?_ 1 _ rfl; (with_reducible repeat (first | refine blk_drewN ?_ _ | refine blk_drew ?_ | refine blk_alloc ?_ _)); refine blk_put (cs := #[.int .i64 0, .bool false, .int .i64 0, .int .u64 0]) ?_ 0 _ rfl; (with_reducible repeat (first | refine blk_drewN ?_ _ | refine blk_drew ?_ | refine blk_alloc ?_ _)); exact BK489.out) hb); have n1_ := Aside0.mk (below_step (by repeat (first | (with_reducible first | exact HB.out | apply below_alloc | apply pw_below_drewN | apply below_drew1 | refine below_set ?_ GE489.out) | exact HB.out)) hb); clear BK489; clear HB; have BK489 := n0_; have HB := n1_; clear n0_ n1_; (try clear hb); (try clear hb2); (try clear hk); (try clear hi); (try simp only [errW_none, errW_some])) | ((with_reducible refine gate_dst (N := 8) rfl ?_); refine box_event ?hg (N := 8) ?hd (cs := #[.int .i64 0, .bool false, .int .i64 0, .int .u64 0, .int .u64 0, .bool false]) (t := 24) ?hr ?_; (case hd => rfl); (case hg => rfl); (case hr => first | (go_simp; done) | (go_simp; rfl)); intro gb497 hg w35 hbox hb; have n0_ := Aside0.mk (blk_below (g := gb489) (o := .cells #[.int .i64 t484, .bool t485, .int .i64 t486, .int .u64 t487] 44 (0, 0)) (by (with_reducible repeat (first | refine blk_drewN ?_ _ | refine blk_drew ?_ | refine blk_alloc ?_ _)); exact BK489.out) hb); have n1_ := Aside0.mk (below_step (by repeat (first | (with_reducible first | exact HB.out | apply below_alloc | apply pw_below_drewN | apply below_drew1 | refine below_set ?_ GE489.out) | exact HB.out)) hb); have n2_ := Aside0.mk (hbox); have n3_ := Aside0.mk ((by rw [hg]; exact (below_size (by repeat (first | (with_reducible first | exact HB.out | apply below_alloc | apply pw_below_drewN | apply below_drew1 | refine below_set ?_ GE489.out) | exact HB.out))) : w.heap.size ≤ gb497)); have n4_ := Aside0.mk ((by rw [hg]; exact (below_size (by repeat (first | (with_reducible first | exact HB.out | apply below_alloc | apply pw_below_drewN | apply below_drew1 | refine below_set ?_ GE489.out) | exact HB.out))) : w.heap.size ≤ gb497)); have n5_ := Aside0.mk ((by rw [hg]; exact Nat.ne_of_lt (blk_lt (g := gb489) (o := .cells #[.int .i64 t484, .bool t485, .int .i64 t486, .int .u64 t487] 44 (0, 0)) (by (with_reducible repeat (first | refine blk_drewN ?_ _ | refine blk_drew ?_ | refine blk_alloc ?_ _)); exact BK489.out)) : gb489 ≠ gb497)); have n6_ := Aside0.mk ((by rw [hg]; exact Nat.ne_of_gt (blk_lt (g := gb489) (o := .cells #[.int .i64 t484, .bool t485, .int .i64 t486, .int .u64 t487] 44 (0, 0)) (by (with_reducible repeat (first | refine blk_drewN ?_ _ | refine blk_drew ?_ | refine blk_alloc ?_ _)); exact BK489.out)) : gb497 ≠ gb489)); clear BK489; clear HB; have BK489 := n0_; have HB := n1_; have BK497 := n2_; have GW497 := n3_; have GE497 := n4_; have NB489_497 := n5_; have NB497_489 := n6_; clear n0_ n1_ n2_ n3_ n4_ n5_ n6_; clear hb hbox hg; have hnb36 := NB497_489.out; have hnc36 := NB489_497.out; have hcz37_0 : w35.cell? ⟨gb497, 0, none⟩ = some (.int .i64 0) := (blk_cell BK497.out 0).trans rfl; have hcz37_1 : w35.cell? ⟨gb497, 1, none⟩ = some (.bool false) := (blk_cell BK497.out 1).trans rfl; have hcz37_2 : w35.cell? ⟨gb497, 2, none⟩ = some (.int .i64 0) := (blk_cell BK497.out 2).trans rfl; have hcz37_3 : w35.cell? ⟨gb497, 3, none⟩ = some (.int .u64 0) := (blk_cell BK497.out 3).trans rfl; have hcz37_4 : w35.cell? ⟨gb497, 4, none⟩ = some (.int .u64 0) := (blk_cell BK497.out 4).trans rfl; have hcz37_5 : w35.cell? ⟨gb497, 5, none⟩ = some (.bool false) := (blk_cell BK497.out 5).trans rfl; have hfz37_0 := blk_frozen BK497.out 0; have hfz37_1 := blk_frozen BK497.out 1; have hfz37_2 := blk_frozen BK497.out 2; have hfz37_3 := blk_frozen BK497.out 3; have hfz37_4 := blk_frozen BK497.out 4; have hfz37_5 := blk_frozen BK497.out 5) | ((with_reducible refine gate_callee (f := 14) rfl ?_); refine goesL_ (some 28) rfl rfl Try.func14 (by kernel_rfl) rfl #[.int .i64 a0, .agg #[.int .i64 t490, .bool t491, .int .i64 t492, .int .u64 t493, .int .u64 t494, .bool t495]] rfl (by (try simp only [List.map_toArray, List.map_cons, List.map_nil]); first | done | rfl | (simp only [List.length_drop, List.length_take]; rfl)) ?_; (with_reducible refine (round_Round.calls k a0 t490 t491 t492 t493 t494 t495 t498 t499 _ A6.out).mono ?_); rintro e w38 ⟨rfl, hb⟩; refine ⟨_, rfl, ?_⟩; have n0_ := Aside0.mk (blk_below (g := gb489) (o := .cells #[.int .i64 t484, .bool t485, .int .i64 t486, .int .u64 t487] 44 (0, 0)) (by (with_reducible repeat (first | refine blk_drewN ?_ _ | refine blk_drew ?_ | refine blk_alloc ?_ _)); refine blk_far ?_ NB489_497.out _; (with_reducible repeat (first | refine blk_drewN ?_ _ | refine blk_drew ?_ | refine blk_alloc ?_ _)); refine blk_far ?_ NB489_497.out _; (with_reducible repeat (first | refine blk_drewN ?_ _ | refine blk_drew ?_ | refine blk_alloc ?_ _)); refine blk_far ?_ NB489_497.out _; (with_reducible repeat (first | refine blk_drewN ?_ _ | refine blk_drew ?_ | refine blk_alloc ?_ _)); refine blk_far ?_ NB489_497.out _; (with_reducible repeat (first | refine blk_drewN ?_ _ | refine blk_drew ?_ | refine blk_alloc ?_ _)); refine blk_far ?_ NB489_497.out _; (with_reducible repeat (first | refine blk_drewN ?_ _ | refine blk_drew ?_ | refine blk_alloc ?_ _)); refine blk_far ?_ NB489_497.out _; (with_reducible repeat (first | refine blk_drewN ?_ _ | refine blk_drew ?_ | refine blk_alloc ?_ _)); exact BK489.out) hb); have n1_ := Aside0.mk (blk_below (g := gb497) (o := .cells #[.int .i64 t490, .bool t491, .int .i64 t492, .int .u64 t493, .int .u64 t494, .bool t495] 24 (0, 0)) (by (with_reducible repeat (first | refine blk_drewN ?_ _ | refine blk_drew ?_ | refine blk_alloc ?_ _)); refine blk_put (cs := #[.int .i64 t490, .bool t491, .int .i64 t492, .int .u64 t493, .int .u64 t494, .bool false]) ?_ 5 _ rfl; (with_reducible repeat (first | refine blk_drewN ?_ _ | refine blk_drew ?_ | refine blk_alloc ?_ _)); refine blk_put (cs := #[.int .i64 t490, .bool t491, .int .i64 t492, .int .u64 t493, .int .u64 0, .bool false]) ?_ 4 _ rfl; (with_reducible repeat (first | refine blk_drewN ?_ _ | refine blk_drew ?_ | refine blk_alloc ?_ _)); refine blk_put (cs := #[.int .i64 t490, .bool t491, .int .i64 t492, .int .u64 0, .int .u64 0, .bool false]) ?_ 3 _ rfl; (with_reducible repeat (first | refine blk_drewN ?_ _ | refine blk_drew ?_ | refine blk_alloc ?_ _)); refine blk_put (cs := #[.int .i64 t490, .bool t491, .int .i64 0, .int .u64 0, .int .u64 0, .bool false]) ?_ 2 _ rfl; (with_reducible repeat (first | refine blk_drewN ?_ _ | refine blk_drew ?_ | refine blk_alloc ?_ _)); refine blk_put (cs := #[.int .i64 t490, .bool false, .int .i64 0, .int .u64 0, .int .u64 0, .bool false]) ?_ 1 _ rfl; (with_reducible repeat (first | refine blk_drewN ?_ _ | refine blk_drew ?_ | refine blk_alloc ?_ _)); refine blk_put (cs := #[.int .i64 0, .bool false, .int .i64 0, .int .u64 0, .int .u64 0, .bool false]) ?_ 0 _ rfl; (with_reducible repeat (first | refine blk_drewN ?_ _ | refine blk_drew ?_ | refine blk_alloc ?_ _)); exact BK497.out) hb); have n2_ := Aside0.mk (below_step (by repeat (first | (with_reducible first | exact HB.out | apply below_alloc | apply pw_below_drewN | apply below_drew1 | refine below_set ?_ GE489.out | refine below_set ?_ GE497.out) | exact HB.out)) hb); clear BK489; clear BK497; clear HB; have BK489 := n0_; have BK497 := n1_; have HB := n2_; clear n0_ n1_ n2_; (try clear hb); (try clear hb2); (try clear hk); (try clear hi); (try simp only [errW_none, errW_some])) | ((with_reducible refine gate_callee (f := 17) rfl ?_); refine goesL_ (some 32) rfl rfl Try.func17 (by kernel_rfl) rfl #[.int .i64 a0] rfl (by (try simp only [List.map_toArray, List.map_cons, List.map_nil]); first | done | rfl | (simp only [List.length_drop, List.length_take]; rfl)) ?_; (with_reducible refine (vernierref05_Is.calls a0 true _ A7.out).mono ?_); rintro e w' ⟨rfl, ⟨nd, rfl⟩⟩; refine ⟨_, rfl, ?_⟩))
          go_ret
          exact ⟨by first | rfl | (simp [errW_none, errW_some] <;> rfl) | (simp [*, errW_none, errW_some] <;> rfl), by repeat (first | (with_reducible first | exact HB.out | apply below_alloc | apply pw_below_drewN | apply below_drew1 | refine below_set ?_ GE489.out | refine below_set ?_ GE497.out) | exact HB.out)⟩
      · have H1 : (some false) = some r := by rw [if_neg (show ¬ (some q501).isNone = true by simp)] at H; exact H
        clear H
        have H := H1
        clear H1
        try simp only [errW_none, errW_some]
        obtain rfl := Option.some.inj H
        go_enter Try.func8, Try.ntmps8
        go_wp2_with (first | ((with_reducible refine gate_callee (f := 10) rfl ?_); refine goesL_ (some 13) rfl rfl Try.func10 (by kernel_rfl) rfl #[] rfl (by (try simp only [List.map_toArray, List.map_cons, List.map_nil]); first | done | rfl | (simp only [List.length_drop, List.length_take]; rfl)) ?_; (with_reducible refine (vernierlaw07_up.calls k  true _ A3.out).mono ?_); rintro e w39 ⟨rfl, hb⟩; refine ⟨_, rfl, ?_⟩; have n0_ := Aside0.mk (below_step (by repeat (first | (with_reducible first | exact HB.out | apply below_alloc | apply pw_below_drewN | apply below_drew1) | exact HB.out)) hb); clear HB; have HB := n0_; clear n0_; (try clear hb); (try clear hb2); (try clear hk); (try clear hi)) | ((with_reducible refine gate_callee (f := 24) rfl ?_); refine goesL_ (some 17) rfl rfl Try.func24 (by kernel_rfl) rfl #[.int .i64 a0, .int .u64 a1] rfl (by (try simp only [List.map_toArray, List.map_cons, List.map_nil]); first | done | rfl | (simp only [List.length_drop, List.length_take]; rfl)) ?_; (with_reducible refine (codec_Decode.calls k a0 a1 t484 t485 t486 t487 (some q501) _ A4.out).mono ?_); rintro e w40 ⟨rfl, hb⟩; refine ⟨_, rfl, ?_⟩; have n0_ := Aside0.mk (below_step (by repeat (first | (with_reducible first | exact HB.out | apply below_alloc | apply pw_below_drewN | apply below_drew1) | exact HB.out)) hb); clear HB; have HB := n0_; clear n0_; (try clear hb); (try clear hb2); (try clear hk); (try clear hi); (try simp only [errW_none, errW_some])) | ((with_reducible refine gate_dst (N := 6) rfl ?_); refine box_event ?hg (N := 6) ?hd (cs := #[.int .i64 0, .bool false, .int .i64 0, .int .u64 0]) (t := 44) ?hr ?_; (case hd => rfl); (case hg => rfl); (case hr => first | (go_simp; done) | (go_simp; rfl)); intro gb489 hg w41 hbox hb; have n0_ := Aside0.mk (below_step (by repeat (first | (with_reducible first | exact HB.out | apply below_alloc | apply pw_below_drewN | apply below_drew1) | exact HB.out)) hb); have n1_ := Aside0.mk (hbox); have n2_ := Aside0.mk ((by rw [hg]; exact (below_size (by repeat (first | (with_reducible first | exact HB.out | apply below_alloc | apply pw_below_drewN | apply below_drew1) | exact HB.out))) : w.heap.size ≤ gb489)); have n3_ := Aside0.mk ((by rw [hg]; exact (below_size (by repeat (first | (with_reducible first | exact HB.out | apply below_alloc | apply pw_below_drewN | apply below_drew1) | exact HB.out))) : w.heap.size ≤ gb489)); clear HB; have HB := n0_; have BK489 := n1_; have GW489 := n2_; have GE489 := n3_; clear n0_ n1_ n2_ n3_; clear hb hbox hg; have hcz42_0 : w41.cell? ⟨gb489, 0, none⟩ = some (.int .i64 0) := (blk_cell BK489.out 0).trans rfl; have hcz42_1 : w41.cell? ⟨gb489, 1, none⟩ = some (.bool false) := (blk_cell BK489.out 1).trans rfl; have hcz42_2 : w41.cell? ⟨gb489, 2, none⟩ = some (.int .i64 0) := (blk_cell BK489.out 2).trans rfl; have hcz42_3 : w41.cell? ⟨gb489, 3, none⟩ = some (.int .u64 0) := (blk_cell BK489.out 3).trans rfl; have hfz42_0 := blk_frozen BK489.out 0; have hfz42_1 := blk_frozen BK489.out 1; have hfz42_2 := blk_frozen BK489.out 2; have hfz42_3 := blk_frozen BK489.out 3) | ((with_reducible refine gate_callee (f := 20) rfl ?_); refine goesL_ (some 22) rfl rfl Try.func20 (by kernel_rfl) rfl #[.agg #[.int .i64 t484, .bool t485, .int .i64 t486, .int .u64 t487]] rfl (by (try simp only [List.map_toArray, List.map_cons, List.map_nil]); first | done | rfl | (simp only [List.length_drop, List.length_take]; rfl)) ?_; (with_reducible refine (round_Of.calls k t484 t485 t486 t487 t490 t491 t492 t493 t494 t495 t496 _ A5.out).mono ?_); rintro e w43 ⟨rfl, hb⟩; refine ⟨_, rfl, ?_⟩; have n0_ := Aside0.mk (blk_below (g := gb489) (o := .cells #[.int .i64 t484, .bool t485, .int .i64 t486, .int .u64 t487] 44 (0, 0)) (by (with_reducible repeat (first | refine blk_drewN ?_ _ | refine blk_drew ?_ | refine blk_alloc ?_ _)); refine blk_put (cs := #[.int .i64 t484, .bool t485, .int .i64 t486, .int .u64 0]) ?_ 3 _ rfl; (with_reducible repeat (first | refine blk_drewN ?_ _ | refine blk_drew ?_ | refine blk_alloc ?_ _)); refine blk_put (cs := #[.int .i64 t484, .bool t485, .int .i64 0, .int .u64 0]) ?_ 2 _ rfl; (with_reducible repeat (first | refine blk_drewN ?_ _ | refine blk_drew ?_ | refine blk_alloc ?_ _)); refine blk_put (cs := #[.int .i64 t484, .bool false, .int .i64 0, .int .u64 0]) ?_ 1 _ rfl; (with_reducible repeat (first | refine blk_drewN ?_ _ | refine blk_drew ?_ | refine blk_alloc ?_ _)); refine blk_put (cs := #[.int .i64 0, .bool false, .int .i64 0, .int .u64 0]) ?_ 0 _ rfl; (with_reducible repeat (first | refine blk_drewN ?_ _ | refine blk_drew ?_ | refine blk_alloc ?_ _)); exact BK489.out) hb); have n1_ := Aside0.mk (below_step (by repeat (first | (with_reducible first | exact HB.out | apply below_alloc | apply pw_below_drewN | apply below_drew1 | refine below_set ?_ GE489.out) | exact HB.out)) hb); clear BK489; clear HB; have BK489 := n0_; have HB := n1_; clear n0_ n1_; (try clear hb); (try clear hb2); (try clear hk); (try clear hi); (try simp only [errW_none, errW_some])) | ((with_reducible refine gate_dst (N := 8) rfl ?_); refine box_event ?hg (N := 8) ?hd (cs := #[.int .i64 0, .bool false, .int .i64 0, .int .u64 0, .int .u64 0, .bool false]) (t := 24) ?hr ?_; (case hd => rfl); (case hg => rfl); (case hr => first | (go_simp; done) | (go_simp; rfl)); intro gb497 hg w44 hbox hb; have n0_ := Aside0.mk (blk_below (g := gb489) (o := .cells #[.int .i64 t484, .bool t485, .int .i64 t486, .int .u64 t487] 44 (0, 0)) (by (with_reducible repeat (first | refine blk_drewN ?_ _ | refine blk_drew ?_ | refine blk_alloc ?_ _)); exact BK489.out) hb); have n1_ := Aside0.mk (below_step (by repeat (first | (with_reducible first | exact HB.out | apply below_alloc | apply pw_below_drewN | apply below_drew1 | refine below_set ?_ GE489.out) | exact HB.out)) hb); have n2_ := Aside0.mk (hbox); have n3_ := Aside0.mk ((by rw [hg]; exact (below_size (by repeat (first | (with_reducible first | exact HB.out | apply below_alloc | apply pw_below_drewN | apply below_drew1 | refine below_set ?_ GE489.out) | exact HB.out))) : w.heap.size ≤ gb497)); have n4_ := Aside0.mk ((by rw [hg]; exact (below_size (by repeat (first | (with_reducible first | exact HB.out | apply below_alloc | apply pw_below_drewN | apply below_drew1 | refine below_set ?_ GE489.out) | exact HB.out))) : w.heap.size ≤ gb497)); have n5_ := Aside0.mk ((by rw [hg]; exact Nat.ne_of_lt (blk_lt (g := gb489) (o := .cells #[.int .i64 t484, .bool t485, .int .i64 t486, .int .u64 t487] 44 (0, 0)) (by (with_reducible repeat (first | refine blk_drewN ?_ _ | refine blk_drew ?_ | refine blk_alloc ?_ _)); exact BK489.out)) : gb489 ≠ gb497)); have n6_ := Aside0.mk ((by rw [hg]; exact Nat.ne_of_gt (blk_lt (g := gb489) (o := .cells #[.int .i64 t484, .bool t485, .int .i64 t486, .int .u64 t487] 44 (0, 0)) (by (with_reducible repeat (first | refine blk_drewN ?_ _ | refine blk_drew ?_ | refine blk_alloc ?_ _)); exact BK489.out)) : gb497 ≠ gb489)); clear BK489; clear HB; have BK489 := n0_; have HB := n1_; have BK497 := n2_; have GW497 := n3_; have GE497 := n4_; have NB489_497 := n5_; have NB497_489 := n6_; clear n0_ n1_ n2_ n3_ n4_ n5_ n6_; clear hb hbox hg; have hnb45 := NB497_489.out; have hnc45 := NB489_497.out; have hcz46_0 : w44.cell? ⟨gb497, 0, none⟩ = some (.int .i64 0) := (blk_cell BK497.out 0).trans rfl; have hcz46_1 : w44.cell? ⟨gb497, 1, none⟩ = some (.bool false) := (blk_cell BK497.out 1).trans rfl; have hcz46_2 : w44.cell? ⟨gb497, 2, none⟩ = some (.int .i64 0) := (blk_cell BK497.out 2).trans rfl; have hcz46_3 : w44.cell? ⟨gb497, 3, none⟩ = some (.int .u64 0) := (blk_cell BK497.out 3).trans rfl; have hcz46_4 : w44.cell? ⟨gb497, 4, none⟩ = some (.int .u64 0) := (blk_cell BK497.out 4).trans rfl; have hcz46_5 : w44.cell? ⟨gb497, 5, none⟩ = some (.bool false) := (blk_cell BK497.out 5).trans rfl; have hfz46_0 := blk_frozen BK497.out 0; have hfz46_1 := blk_frozen BK497.out 1; have hfz46_2 := blk_frozen BK497.out 2; have hfz46_3 := blk_frozen BK497.out 3; have hfz46_4 := blk_frozen BK497.out 4; have hfz46_5 := blk_frozen BK497.out 5) | ((with_reducible refine gate_callee (f := 14) rfl ?_); refine goesL_ (some 28) rfl rfl Try.func14 (by kernel_rfl) rfl #[.int .i64 a0, .agg #[.int .i64 t490, .bool t491, .int .i64 t492, .int .u64 t493, .int .u64 t494, .bool t495]] rfl (by (try simp only [List.map_toArray, List.map_cons, List.map_nil]); first | done | rfl | (simp only [List.length_drop, List.length_take]; rfl)) ?_; (with_reducible refine (round_Round.calls k a0 t490 t491 t492 t493 t494 t495 t498 t499 _ A6.out).mono ?_); rintro e w47 ⟨rfl, hb⟩; refine ⟨_, rfl, ?_⟩; have n0_ := Aside0.mk (blk_below (g := gb489) (o := .cells #[.int .i64 t484, .bool t485, .int .i64 t486, .int .u64 t487] 44 (0, 0)) (by (with_reducible repeat (first | refine blk_drewN ?_ _ | refine blk_drew ?_ | refine blk_alloc ?_ _)); refine blk_far ?_ NB489_497.out _; (with_reducible repeat (first | refine blk_drewN ?_ _ | refine blk_drew ?_ | refine blk_alloc ?_ _)); refine blk_far ?_ NB489_497.out _; (with_reducible repeat (first | refine blk_drewN ?_ _ | refine blk_drew ?_ | refine blk_alloc ?_ _)); refine blk_far ?_ NB489_497.out _; (with_reducible repeat (first | refine blk_drewN ?_ _ | refine blk_drew ?_ | refine blk_alloc ?_ _)); refine blk_far ?_ NB489_497.out _; (with_reducible repeat (first | refine blk_drewN ?_ _ | refine blk_drew ?_ | refine blk_alloc ?_ _)); refine blk_far ?_ NB489_497.out _; (with_reducible repeat (first | refine blk_drewN ?_ _ | refine blk_drew ?_ | refine blk_alloc ?_ _)); refine blk_far ?_ NB489_497.out _; (with_reducible repeat (first | refine blk_drewN ?_ _ | refine blk_drew ?_ | refine blk_alloc ?_ _)); exact BK489.out) hb); have n1_ := Aside0.mk (blk_below (g := gb497) (o := .cells #[.int .i64 t490, .bool t491, .int .i64 t492, .int .u64 t493, .int .u64 t494, .bool t495] 24 (0, 0)) (by (with_reducible repeat (first | refine blk_drewN ?_ _ | refine blk_drew ?_ | refine blk_alloc ?_ _)); refine blk_put (cs := #[.int .i64 t490, .bool t491, .int .i64 t492, .int .u64 t493, .int .u64 t494, .bool false]) ?_ 5 _ rfl; (with_reducible repeat (first | refine blk_drewN ?_ _ | refine blk_drew ?_ | refine blk_alloc ?_ _)); refine blk_put (cs := #[.int .i64 t490, .bool t491, .int .i64 t492, .int .u64 t493, .int .u64 0, .bool false]) ?_ 4 _ rfl; (with_reducible repeat (first | refine blk_drewN ?_ _ | refine blk_drew ?_ | refine blk_alloc ?_ _)); refine blk_put (cs := #[.int .i64 t490, .bool t491, .int .i64 t492, .int .u64 0, .int .u64 0, .bool false]) ?_ 3 _ rfl; (with_reducible repeat (first | refine blk_drewN ?_ _ | refine blk_drew ?_ | refine blk_alloc ?_ _)); refine blk_put (cs := #[.int .i64 t490, .bool t491, .int .i64 0, .int .u64 0, .int .u64 0, .bool false]) ?_ 2 _ rfl; (with_reducible repeat (first | refine blk_drewN ?_ _ | refine blk_drew ?_ | refine blk_alloc ?_ _)); refine blk_put (cs := #[.int .i64 t490, .bool false, .int .i64 0, .int .u64 0, .int .u64 0, .bool false]) ?_ 1 _ rfl; (with_reducible repeat (first | refine blk_drewN ?_ _ | refine blk_drew ?_ | refine blk_alloc ?_ _)); refine blk_put (cs := #[.int .i64 0, .bool false, .int .i64 0, .int .u64 0, .int .u64 0, .bool false]) ?_ 0 _ rfl; (with_reducible repeat (first | refine blk_drewN ?_ _ | refine blk_drew ?_ | refine blk_alloc ?_ _)); exact BK497.out) hb); have n2_ := Aside0.mk (below_step (by repeat (first | (with_reducible first | exact HB.out | apply below_alloc | apply pw_below_drewN | apply below_drew1 | refine below_set ?_ GE489.out | refine below_set ?_ GE497.out) | exact HB.out)) hb); clear BK489; clear BK497; clear HB; have BK489 := n0_; have BK497 := n1_; have HB := n2_; clear n0_ n1_ n2_; (try clear hb); (try clear hb2); (try clear hk); (try clear hi); (try simp only [errW_none, errW_some])) | ((with_reducible refine gate_callee (f := 17) rfl ?_); refine goesL_ (some 32) rfl rfl Try.func17 (by kernel_rfl) rfl #[.int .i64 a0] rfl (by (try simp only [List.map_toArray, List.map_cons, List.map_nil]); first | done | rfl | (simp only [List.length_drop, List.length_take]; rfl)) ?_; (with_reducible refine (vernierref05_Is.calls a0 true _ A7.out).mono ?_); rintro e w' ⟨rfl, ⟨nd, rfl⟩⟩; refine ⟨_, rfl, ?_⟩))
        go_ret
        exact ⟨by first | rfl | (simp [errW_none, errW_some] <;> rfl) | (simp [*, errW_none, errW_some] <;> rfl), by repeat (first | (with_reducible first | exact HB.out | apply below_alloc | apply pw_below_drewN | apply below_drew1 | refine below_set ?_ GE489.out | refine below_set ?_ GE497.out) | exact HB.out)⟩
    · replace c9 := Bool.eq_false_iff.mpr c9
      subst c9
      have H1 : (some false) = some r := by rw [if_neg (show ¬ (false = true) by decide)] at H; exact H
      clear H
      have H := H1
      clear H1
      obtain rfl := Option.some.inj H
      go_enter Try.func8, Try.ntmps8
      go_wp2_with (first | ((with_reducible refine gate_callee (f := 10) rfl ?_); refine goesL_ (some 13) rfl rfl Try.func10 (by kernel_rfl) rfl #[] rfl (by (try simp only [List.map_toArray, List.map_cons, List.map_nil]); first | done | rfl | (simp only [List.length_drop, List.length_take]; rfl)) ?_; (with_reducible refine (vernierlaw07_up.calls k  false _ A3.out).mono ?_); rintro e w48 ⟨rfl, hb⟩; refine ⟨_, rfl, ?_⟩; have n0_ := Aside0.mk (below_step (by repeat (first | (with_reducible first | exact HB.out | apply below_alloc | apply pw_below_drewN | apply below_drew1) | exact HB.out)) hb); clear HB; have HB := n0_; clear n0_; (try clear hb); (try clear hb2); (try clear hk); (try clear hi)) | ((with_reducible refine gate_callee (f := 24) rfl ?_); refine goesL_ (some 17) rfl rfl Try.func24 (by kernel_rfl) rfl #[.int .i64 a0, .int .u64 a1] rfl (by (try simp only [List.map_toArray, List.map_cons, List.map_nil]); first | done | rfl | (simp only [List.length_drop, List.length_take]; rfl)) ?_; (with_reducible refine (codec_Decode.calls k a0 a1 t484 t485 t486 t487 t488 _ A4.out).mono ?_); rintro e w49 ⟨rfl, hb⟩; refine ⟨_, rfl, ?_⟩; have n0_ := Aside0.mk (below_step (by repeat (first | (with_reducible first | exact HB.out | apply below_alloc | apply pw_below_drewN | apply below_drew1) | exact HB.out)) hb); clear HB; have HB := n0_; clear n0_; (try clear hb); (try clear hb2); (try clear hk); (try clear hi); (try simp only [errW_none, errW_some])) | ((with_reducible refine gate_dst (N := 6) rfl ?_); refine box_event ?hg (N := 6) ?hd (cs := #[.int .i64 0, .bool false, .int .i64 0, .int .u64 0]) (t := 44) ?hr ?_; (case hd => rfl); (case hg => rfl); (case hr => first | (go_simp; done) | (go_simp; rfl)); intro gb489 hg w50 hbox hb; have n0_ := Aside0.mk (below_step (by repeat (first | (with_reducible first | exact HB.out | apply below_alloc | apply pw_below_drewN | apply below_drew1) | exact HB.out)) hb); have n1_ := Aside0.mk (hbox); have n2_ := Aside0.mk ((by rw [hg]; exact (below_size (by repeat (first | (with_reducible first | exact HB.out | apply below_alloc | apply pw_below_drewN | apply below_drew1) | exact HB.out))) : w.heap.size ≤ gb489)); have n3_ := Aside0.mk ((by rw [hg]; exact (below_size (by repeat (first | (with_reducible first | exact HB.out | apply below_alloc | apply pw_below_drewN | apply below_drew1) | exact HB.out))) : w.heap.size ≤ gb489)); clear HB; have HB := n0_; have BK489 := n1_; have GW489 := n2_; have GE489 := n3_; clear n0_ n1_ n2_ n3_; clear hb hbox hg; have hcz51_0 : w50.cell? ⟨gb489, 0, none⟩ = some (.int .i64 0) := (blk_cell BK489.out 0).trans rfl; have hcz51_1 : w50.cell? ⟨gb489, 1, none⟩ = some (.bool false) := (blk_cell BK489.out 1).trans rfl; have hcz51_2 : w50.cell? ⟨gb489, 2, none⟩ = some (.int .i64 0) := (blk_cell BK489.out 2).trans rfl; have hcz51_3 : w50.cell? ⟨gb489, 3, none⟩ = some (.int .u64 0) := (blk_cell BK489.out 3).trans rfl; have hfz51_0 := blk_frozen BK489.out 0; have hfz51_1 := blk_frozen BK489.out 1; have hfz51_2 := blk_frozen BK489.out 2; have hfz51_3 := blk_frozen BK489.out 3) | ((with_reducible refine gate_callee (f := 20) rfl ?_); refine goesL_ (some 22) rfl rfl Try.func20 (by kernel_rfl) rfl #[.agg #[.int .i64 t484, .bool t485, .int .i64 t486, .int .u64 t487]] rfl (by (try simp only [List.map_toArray, List.map_cons, List.map_nil]); first | done | rfl | (simp only [List.length_drop, List.length_take]; rfl)) ?_; (with_reducible refine (round_Of.calls k t484 t485 t486 t487 t490 t491 t492 t493 t494 t495 t496 _ A5.out).mono ?_); rintro e w52 ⟨rfl, hb⟩; refine ⟨_, rfl, ?_⟩; have n0_ := Aside0.mk (blk_below (g := gb489) (o := .cells #[.int .i64 t484, .bool t485, .int .i64 t486, .int .u64 t487] 44 (0, 0)) (by (with_reducible repeat (first | refine blk_drewN ?_ _ | refine blk_drew ?_ | refine blk_alloc ?_ _)); refine blk_put (cs := #[.int .i64 t484, .bool t485, .int .i64 t486, .int .u64 0]) ?_ 3 _ rfl; (with_reducible repeat (first | refine blk_drewN ?_ _ | refine blk_drew ?_ | refine blk_alloc ?_ _)); refine blk_put (cs := #[.int .i64 t484, .bool t485, .int .i64 0, .int .u64 0]) ?_ 2 _ rfl; (with_reducible repeat (first | refine blk_drewN ?_ _ | refine blk_drew ?_ | refine blk_alloc ?_ _)); refine blk_put (cs := #[.int .i64 t484, .bool false, .int .i64 0, .int .u64 0]) ?_ 1 _ rfl; (with_reducible repeat (first | refine blk_drewN ?_ _ | refine blk_drew ?_ | refine blk_alloc ?_ _)); refine blk_put (cs := #[.int .i64 0, .bool false, .int .i64 0, .int .u64 0]) ?_ 0 _ rfl; (with_reducible repeat (first | refine blk_drewN ?_ _ | refine blk_drew ?_ | refine blk_alloc ?_ _)); exact BK489.out) hb); have n1_ := Aside0.mk (below_step (by repeat (first | (with_reducible first | exact HB.out | apply below_alloc | apply pw_below_drewN | apply below_drew1 | refine below_set ?_ GE489.out) | exact HB.out)) hb); clear BK489; clear HB; have BK489 := n0_; have HB := n1_; clear n0_ n1_; (try clear hb); (try clear hb2); (try clear hk); (try clear hi); (try simp only [errW_none, errW_some])) | ((with_reducible refine gate_dst (N := 8) rfl ?_); refine box_event ?hg (N := 8) ?hd (cs := #[.int .i64 0, .bool false, .int .i64 0, .int .u64 0, .int .u64 0, .bool false]) (t := 24) ?hr ?_; (case hd => rfl); (case hg => rfl); (case hr => first | (go_simp; done) | (go_simp; rfl)); intro gb497 hg w53 hbox hb; have n0_ := Aside0.mk (blk_below (g := gb489) (o := .cells #[.int .i64 t484, .bool t485, .int .i64 t486, .int .u64 t487] 44 (0, 0)) (by (with_reducible repeat (first | refine blk_drewN ?_ _ | refine blk_drew ?_ | refine blk_alloc ?_ _)); exact BK489.out) hb); have n1_ := Aside0.mk (below_step (by repeat (first | (with_reducible first | exact HB.out | apply below_alloc | apply pw_below_drewN | apply below_drew1 | refine below_set ?_ GE489.out) | exact HB.out)) hb); have n2_ := Aside0.mk (hbox); have n3_ := Aside0.mk ((by rw [hg]; exact (below_size (by repeat (first | (with_reducible first | exact HB.out | apply below_alloc | apply pw_below_drewN | apply below_drew1 | refine below_set ?_ GE489.out) | exact HB.out))) : w.heap.size ≤ gb497)); have n4_ := Aside0.mk ((by rw [hg]; exact (below_size (by repeat (first | (with_reducible first | exact HB.out | apply below_alloc | apply pw_below_drewN | apply below_drew1 | refine below_set ?_ GE489.out) | exact HB.out))) : w.heap.size ≤ gb497)); have n5_ := Aside0.mk ((by rw [hg]; exact Nat.ne_of_lt (blk_lt (g := gb489) (o := .cells #[.int .i64 t484, .bool t485, .int .i64 t486, .int .u64 t487] 44 (0, 0)) (by (with_reducible repeat (first | refine blk_drewN ?_ _ | refine blk_drew ?_ | refine blk_alloc ?_ _)); exact BK489.out)) : gb489 ≠ gb497)); have n6_ := Aside0.mk ((by rw [hg]; exact Nat.ne_of_gt (blk_lt (g := gb489) (o := .cells #[.int .i64 t484, .bool t485, .int .i64 t486, .int .u64 t487] 44 (0, 0)) (by (with_reducible repeat (first | refine blk_drewN ?_ _ | refine blk_drew ?_ | refine blk_alloc ?_ _)); exact BK489.out)) : gb497 ≠ gb489)); clear BK489; clear HB; have BK489 := n0_; have HB := n1_; have BK497 := n2_; have GW497 := n3_; have GE497 := n4_; have NB489_497 := n5_; have NB497_489 := n6_; clear n0_ n1_ n2_ n3_ n4_ n5_ n6_; clear hb hbox hg; have hnb54 := NB497_489.out; have hnc54 := NB489_497.out; have hcz55_0 : w53.cell? ⟨gb497, 0, none⟩ = some (.int .i64 0) := (blk_cell BK497.out 0).trans rfl; have hcz55_1 : w53.cell? ⟨gb497, 1, none⟩ = some (.bool false) := (blk_cell BK497.out 1).trans rfl; have hcz55_2 : w53.cell? ⟨gb497, 2, none⟩ = some (.int .i64 0) := (blk_cell BK497.out 2).trans rfl; have hcz55_3 : w53.cell? ⟨gb497, 3, none⟩ = some (.int .u64 0) := (blk_cell BK497.out 3).trans rfl; have hcz55_4 : w53.cell? ⟨gb497, 4, none⟩ = some (.int .u64 0) := (blk_cell BK497.out 4).trans rfl; have hcz55_5 : w53.cell? ⟨gb497, 5, none⟩ = some (.bool false) := (blk_cell BK497.out 5).trans rfl; have hfz55_0 := blk_frozen BK497.out 0; have hfz55_1 := blk_frozen BK497.out 1; have hfz55_2 := blk_frozen BK497.out 2; have hfz55_3 := blk_frozen BK497.out 3; have hfz55_4 := blk_frozen BK497.out 4; have hfz55_5 := blk_frozen BK497.out 5) | ((with_reducible refine gate_callee (f := 14) rfl ?_); refine goesL_ (some 28) rfl rfl Try.func14 (by kernel_rfl) rfl #[.int .i64 a0, .agg #[.int .i64 t490, .bool t491, .int .i64 t492, .int .u64 t493, .int .u64 t494, .bool t495]] rfl (by (try simp only [List.map_toArray, List.map_cons, List.map_nil]); first | done | rfl | (simp only [List.length_drop, List.length_take]; rfl)) ?_; (with_reducible refine (round_Round.calls k a0 t490 t491 t492 t493 t494 t495 t498 t499 _ A6.out).mono ?_); rintro e w56 ⟨rfl, hb⟩; refine ⟨_, rfl, ?_⟩; have n0_ := Aside0.mk (blk_below (g := gb489) (o := .cells #[.int .i64 t484, .bool t485, .int .i64 t486, .int .u64 t487] 44 (0, 0)) (by (with_reducible repeat (first | refine blk_drewN ?_ _ | refine blk_drew ?_ | refine blk_alloc ?_ _)); refine blk_far ?_ NB489_497.out _; (with_reducible repeat (first | refine blk_drewN ?_ _ | refine blk_drew ?_ | refine blk_alloc ?_ _)); refine blk_far ?_ NB489_497.out _; (with_reducible repeat (first | refine blk_drewN ?_ _ | refine blk_drew ?_ | refine blk_alloc ?_ _)); refine blk_far ?_ NB489_497.out _; (with_reducible repeat (first | refine blk_drewN ?_ _ | refine blk_drew ?_ | refine blk_alloc ?_ _)); refine blk_far ?_ NB489_497.out _; (with_reducible repeat (first | refine blk_drewN ?_ _ | refine blk_drew ?_ | refine blk_alloc ?_ _)); refine blk_far ?_ NB489_497.out _; (with_reducible repeat (first | refine blk_drewN ?_ _ | refine blk_drew ?_ | refine blk_alloc ?_ _)); refine blk_far ?_ NB489_497.out _; (with_reducible repeat (first | refine blk_drewN ?_ _ | refine blk_drew ?_ | refine blk_alloc ?_ _)); exact BK489.out) hb); have n1_ := Aside0.mk (blk_below (g := gb497) (o := .cells #[.int .i64 t490, .bool t491, .int .i64 t492, .int .u64 t493, .int .u64 t494, .bool t495] 24 (0, 0)) (by (with_reducible repeat (first | refine blk_drewN ?_ _ | refine blk_drew ?_ | refine blk_alloc ?_ _)); refine blk_put (cs := #[.int .i64 t490, .bool t491, .int .i64 t492, .int .u64 t493, .int .u64 t494, .bool false]) ?_ 5 _ rfl; (with_reducible repeat (first | refine blk_drewN ?_ _ | refine blk_drew ?_ | refine blk_alloc ?_ _)); refine blk_put (cs := #[.int .i64 t490, .bool t491, .int .i64 t492, .int .u64 t493, .int .u64 0, .bool false]) ?_ 4 _ rfl; (with_reducible repeat (first | refine blk_drewN ?_ _ | refine blk_drew ?_ | refine blk_alloc ?_ _)); refine blk_put (cs := #[.int .i64 t490, .bool t491, .int .i64 t492, .int .u64 0, .int .u64 0, .bool false]) ?_ 3 _ rfl; (with_reducible repeat (first | refine blk_drewN ?_ _ | refine blk_drew ?_ | refine blk_alloc ?_ _)); refine blk_put (cs := #[.int .i64 t490, .bool t491, .int .i64 0, .int .u64 0, .int .u64 0, .bool false]) ?_ 2 _ rfl; (with_reducible repeat (first | refine blk_drewN ?_ _ | refine blk_drew ?_ | refine blk_alloc ?_ _)); refine blk_put (cs := #[.int .i64 t490, .bool false, .int .i64 0, .int .u64 0, .int .u64 0, .bool false]) ?_ 1 _ rfl; (with_reducible repeat (first | refine blk_drewN ?_ _ | refine blk_drew ?_ | refine blk_alloc ?_ _)); refine blk_put (cs := #[.int .i64 0, .bool false, .int .i64 0, .int .u64 0, .int .u64 0, .bool false]) ?_ 0 _ rfl; (with_reducible repeat (first | refine blk_drewN ?_ _ | refine blk_drew ?_ | refine blk_alloc ?_ _)); exact BK497.out) hb); have n2_ := Aside0.mk (below_step (by repeat (first | (with_reducible first | exact HB.out | apply below_alloc | apply pw_below_drewN | apply below_drew1 | refine below_set ?_ GE489.out | refine below_set ?_ GE497.out) | exact HB.out)) hb); clear BK489; clear BK497; clear HB; have BK489 := n0_; have BK497 := n1_; have HB := n2_; clear n0_ n1_ n2_; (try clear hb); (try clear hb2); (try clear hk); (try clear hi); (try simp only [errW_none, errW_some])) | ((with_reducible refine gate_callee (f := 17) rfl ?_); refine goesL_ (some 32) rfl rfl Try.func17 (by kernel_rfl) rfl #[.int .i64 a0] rfl (by (try simp only [List.map_toArray, List.map_cons, List.map_nil]); first | done | rfl | (simp only [List.length_drop, List.length_take]; rfl)) ?_; (with_reducible refine (vernierref05_Is.calls a0 true _ A7.out).mono ?_); rintro e w' ⟨rfl, ⟨nd, rfl⟩⟩; refine ⟨_, rfl, ?_⟩))
      go_ret
      exact ⟨by first | rfl | (simp [errW_none, errW_some] <;> rfl) | (simp [*, errW_none, errW_some] <;> rfl), by repeat (first | (with_reducible first | exact HB.out | apply below_alloc | apply pw_below_drewN | apply below_drew1 | refine below_set ?_ GE489.out | refine below_set ?_ GE497.out) | exact HB.out)⟩
  · replace c8 := Bool.eq_false_iff.mpr c8
    subst c8
    have H1 : (if t483 = true then (if t488.isNone = true then (some false) else (if (t488.getD 0) = 2 then (if t499.isNone = true then (some false) else (if (t499.getD 0) = 2 then (some (t498 == 0)) else (some false))) else (some false))) else (some false)) = some r := by rw [if_neg (show ¬ (false = true) by decide)] at H; exact H
    clear H
    have H := H1
    clear H1
    by_cases c57 : t483 = true
    · subst c57
      have H1 : (if t488.isNone = true then (some false) else (if (t488.getD 0) = 2 then (if t499.isNone = true then (some false) else (if (t499.getD 0) = 2 then (some (t498 == 0)) else (some false))) else (some false))) = some r := by rw [if_pos rfl] at H; exact H
      clear H
      have H := H1
      clear H1
      rcases t488 with _ | q505
      · have H1 : (some false) = some r := by rw [if_pos (show (none : Option Int).isNone = true by rfl)] at H; exact H
        clear H
        have H := H1
        clear H1
        try simp only [errW_none, errW_some]
        obtain rfl := Option.some.inj H
        go_enter Try.func8, Try.ntmps8
        go_wp2_with (first | ((with_reducible refine gate_callee (f := 10) rfl ?_); refine goesL_ (some 13) rfl rfl Try.func10 (by kernel_rfl) rfl #[] rfl (by (try simp only [List.map_toArray, List.map_cons, List.map_nil]); first | done | rfl | (simp only [List.length_drop, List.length_take]; rfl)) ?_; (with_reducible refine (vernierlaw07_up.calls k  true _ A3.out).mono ?_); rintro e w58 ⟨rfl, hb⟩; refine ⟨_, rfl, ?_⟩; have n0_ := Aside0.mk (below_step (by repeat (first | (with_reducible first | exact HB.out | apply below_alloc | apply pw_below_drewN | apply below_drew1) | exact HB.out)) hb); clear HB; have HB := n0_; clear n0_; (try clear hb); (try clear hb2); (try clear hk); (try clear hi)) | ((with_reducible refine gate_callee (f := 24) rfl ?_); refine goesL_ (some 17) rfl rfl Try.func24 (by kernel_rfl) rfl #[.int .i64 a0, .int .u64 a1] rfl (by (try simp only [List.map_toArray, List.map_cons, List.map_nil]); first | done | rfl | (simp only [List.length_drop, List.length_take]; rfl)) ?_; (with_reducible refine (codec_Decode.calls k a0 a1 t484 t485 t486 t487 none _ A4.out).mono ?_); rintro e w59 ⟨rfl, hb⟩; refine ⟨_, rfl, ?_⟩; have n0_ := Aside0.mk (below_step (by repeat (first | (with_reducible first | exact HB.out | apply below_alloc | apply pw_below_drewN | apply below_drew1) | exact HB.out)) hb); clear HB; have HB := n0_; clear n0_; (try clear hb); (try clear hb2); (try clear hk); (try clear hi); (try simp only [errW_none, errW_some])) | ((with_reducible refine gate_dst (N := 6) rfl ?_); refine box_event ?hg (N := 6) ?hd (cs := #[.int .i64 0, .bool false, .int .i64 0, .int .u64 0]) (t := 44) ?hr ?_; (case hd => rfl); (case hg => rfl); (case hr => first | (go_simp; done) | (go_simp; rfl)); intro gb489 hg w60 hbox hb; have n0_ := Aside0.mk (below_step (by repeat (first | (with_reducible first | exact HB.out | apply below_alloc | apply pw_below_drewN | apply below_drew1) | exact HB.out)) hb); have n1_ := Aside0.mk (hbox); have n2_ := Aside0.mk ((by rw [hg]; exact (below_size (by repeat (first | (with_reducible first | exact HB.out | apply below_alloc | apply pw_below_drewN | apply below_drew1) | exact HB.out))) : w.heap.size ≤ gb489)); have n3_ := Aside0.mk ((by rw [hg]; exact (below_size (by repeat (first | (with_reducible first | exact HB.out | apply below_alloc | apply pw_below_drewN | apply below_drew1) | exact HB.out))) : w.heap.size ≤ gb489)); clear HB; have HB := n0_; have BK489 := n1_; have GW489 := n2_; have GE489 := n3_; clear n0_ n1_ n2_ n3_; clear hb hbox hg; have hcz61_0 : w60.cell? ⟨gb489, 0, none⟩ = some (.int .i64 0) := (blk_cell BK489.out 0).trans rfl; have hcz61_1 : w60.cell? ⟨gb489, 1, none⟩ = some (.bool false) := (blk_cell BK489.out 1).trans rfl; have hcz61_2 : w60.cell? ⟨gb489, 2, none⟩ = some (.int .i64 0) := (blk_cell BK489.out 2).trans rfl; have hcz61_3 : w60.cell? ⟨gb489, 3, none⟩ = some (.int .u64 0) := (blk_cell BK489.out 3).trans rfl; have hfz61_0 := blk_frozen BK489.out 0; have hfz61_1 := blk_frozen BK489.out 1; have hfz61_2 := blk_frozen BK489.out 2; have hfz61_3 := blk_frozen BK489.out 3) | ((with_reducible refine gate_callee (f := 20) rfl ?_); refine goesL_ (some 22) rfl rfl Try.func20 (by kernel_rfl) rfl #[.agg #[.int .i64 t484, .bool t485, .int .i64 t486, .int .u64 t487]] rfl (by (try simp only [List.map_toArray, List.map_cons, List.map_nil]); first | done | rfl | (simp only [List.length_drop, List.length_take]; rfl)) ?_; (with_reducible refine (round_Of.calls k t484 t485 t486 t487 t490 t491 t492 t493 t494 t495 t496 _ A5.out).mono ?_); rintro e w62 ⟨rfl, hb⟩; refine ⟨_, rfl, ?_⟩; have n0_ := Aside0.mk (blk_below (g := gb489) (o := .cells #[.int .i64 t484, .bool t485, .int .i64 t486, .int .u64 t487] 44 (0, 0)) (by (with_reducible repeat (first | refine blk_drewN ?_ _ | refine blk_drew ?_ | refine blk_alloc ?_ _)); refine blk_put (cs := #[.int .i64 t484, .bool t485, .int .i64 t486, .int .u64 0]) ?_ 3 _ rfl; (with_reducible repeat (first | refine blk_drewN ?_ _ | refine blk_drew ?_ | refine blk_alloc ?_ _)); refine blk_put (cs := #[.int .i64 t484, .bool t485, .int .i64 0, .int .u64 0]) ?_ 2 _ rfl; (with_reducible repeat (first | refine blk_drewN ?_ _ | refine blk_drew ?_ | refine blk_alloc ?_ _)); refine blk_put (cs := #[.int .i64 t484, .bool false, .int .i64 0, .int .u64 0]) ?_ 1 _ rfl; (with_reducible repeat (first | refine blk_drewN ?_ _ | refine blk_drew ?_ | refine blk_alloc ?_ _)); refine blk_put (cs := #[.int .i64 0, .bool false, .int .i64 0, .int .u64 0]) ?_ 0 _ rfl; (with_reducible repeat (first | refine blk_drewN ?_ _ | refine blk_drew ?_ | refine blk_alloc ?_ _)); exact BK489.out) hb); have n1_ := Aside0.mk (below_step (by repeat (first | (with_reducible first | exact HB.out | apply below_alloc | apply pw_below_drewN | apply below_drew1 | refine below_set ?_ GE489.out) | exact HB.out)) hb); clear BK489; clear HB; have BK489 := n0_; have HB := n1_; clear n0_ n1_; (try clear hb); (try clear hb2); (try clear hk); (try clear hi); (try simp only [errW_none, errW_some])) | ((with_reducible refine gate_dst (N := 8) rfl ?_); refine box_event ?hg (N := 8) ?hd (cs := #[.int .i64 0, .bool false, .int .i64 0, .int .u64 0, .int .u64 0, .bool false]) (t := 24) ?hr ?_; (case hd => rfl); (case hg => rfl); (case hr => first | (go_simp; done) | (go_simp; rfl)); intro gb497 hg w63 hbox hb; have n0_ := Aside0.mk (blk_below (g := gb489) (o := .cells #[.int .i64 t484, .bool t485, .int .i64 t486, .int .u64 t487] 44 (0, 0)) (by (with_reducible repeat (first | refine blk_drewN ?_ _ | refine blk_drew ?_ | refine blk_alloc ?_ _)); exact BK489.out) hb); have n1_ := Aside0.mk (below_step (by repeat (first | (with_reducible first | exact HB.out | apply below_alloc | apply pw_below_drewN | apply below_drew1 | refine below_set ?_ GE489.out) | exact HB.out)) hb); have n2_ := Aside0.mk (hbox); have n3_ := Aside0.mk ((by rw [hg]; exact (below_size (by repeat (first | (with_reducible first | exact HB.out | apply below_alloc | apply pw_below_drewN | apply below_drew1 | refine below_set ?_ GE489.out) | exact HB.out))) : w.heap.size ≤ gb497)); have n4_ := Aside0.mk ((by rw [hg]; exact (below_size (by repeat (first | (with_reducible first | exact HB.out | apply below_alloc | apply pw_below_drewN | apply below_drew1 | refine below_set ?_ GE489.out) | exact HB.out))) : w.heap.size ≤ gb497)); have n5_ := Aside0.mk ((by rw [hg]; exact Nat.ne_of_lt (blk_lt (g := gb489) (o := .cells #[.int .i64 t484, .bool t485, .int .i64 t486, .int .u64 t487] 44 (0, 0)) (by (with_reducible repeat (first | refine blk_drewN ?_ _ | refine blk_drew ?_ | refine blk_alloc ?_ _)); exact BK489.out)) : gb489 ≠ gb497)); have n6_ := Aside0.mk ((by rw [hg]; exact Nat.ne_of_gt (blk_lt (g := gb489) (o := .cells #[.int .i64 t484, .bool t485, .int .i64 t486, .int .u64 t487] 44 (0, 0)) (by (with_reducible repeat (first | refine blk_drewN ?_ _ | refine blk_drew ?_ | refine blk_alloc ?_ _)); exact BK489.out)) : gb497 ≠ gb489)); clear BK489; clear HB; have BK489 := n0_; have HB := n1_; have BK497 := n2_; have GW497 := n3_; have GE497 := n4_; have NB489_497 := n5_; have NB497_489 := n6_; clear n0_ n1_ n2_ n3_ n4_ n5_ n6_; clear hb hbox hg; have hnb64 := NB497_489.out; have hnc64 := NB489_497.out; have hcz65_0 : w63.cell? ⟨gb497, 0, none⟩ = some (.int .i64 0) := (blk_cell BK497.out 0).trans rfl; have hcz65_1 : w63.cell? ⟨gb497, 1, none⟩ = some (.bool false) := (blk_cell BK497.out 1).trans rfl; have hcz65_2 : w63.cell? ⟨gb497, 2, none⟩ = some (.int .i64 0) := (blk_cell BK497.out 2).trans rfl; have hcz65_3 : w63.cell? ⟨gb497, 3, none⟩ = some (.int .u64 0) := (blk_cell BK497.out 3).trans rfl; have hcz65_4 : w63.cell? ⟨gb497, 4, none⟩ = some (.int .u64 0) := (blk_cell BK497.out 4).trans rfl; have hcz65_5 : w63.cell? ⟨gb497, 5, none⟩ = some (.bool false) := (blk_cell BK497.out 5).trans rfl; have hfz65_0 := blk_frozen BK497.out 0; have hfz65_1 := blk_frozen BK497.out 1; have hfz65_2 := blk_frozen BK497.out 2; have hfz65_3 := blk_frozen BK497.out 3; have hfz65_4 := blk_frozen BK497.out 4; have hfz65_5 := blk_frozen BK497.out 5) | ((with_reducible refine gate_callee (f := 14) rfl ?_); refine goesL_ (some 28) rfl rfl Try.func14 (by kernel_rfl) rfl #[.int .i64 a0, .agg #[.int .i64 t490, .bool t491, .int .i64 t492, .int .u64 t493, .int .u64 t494, .bool t495]] rfl (by (try simp only [List.map_toArray, List.map_cons, List.map_nil]); first | done | rfl | (simp only [List.length_drop, List.length_take]; rfl)) ?_; (with_reducible refine (round_Round.calls k a0 t490 t491 t492 t493 t494 t495 t498 t499 _ A6.out).mono ?_); rintro e w66 ⟨rfl, hb⟩; refine ⟨_, rfl, ?_⟩; have n0_ := Aside0.mk (blk_below (g := gb489) (o := .cells #[.int .i64 t484, .bool t485, .int .i64 t486, .int .u64 t487] 44 (0, 0)) (by (with_reducible repeat (first | refine blk_drewN ?_ _ | refine blk_drew ?_ | refine blk_alloc ?_ _)); refine blk_far ?_ NB489_497.out _; (with_reducible repeat (first | refine blk_drewN ?_ _ | refine blk_drew ?_ | refine blk_alloc ?_ _)); refine blk_far ?_ NB489_497.out _; (with_reducible repeat (first | refine blk_drewN ?_ _ | refine blk_drew ?_ | refine blk_alloc ?_ _)); refine blk_far ?_ NB489_497.out _; (with_reducible repeat (first | refine blk_drewN ?_ _ | refine blk_drew ?_ | refine blk_alloc ?_ _)); refine blk_far ?_ NB489_497.out _; (with_reducible repeat (first | refine blk_drewN ?_ _ | refine blk_drew ?_ | refine blk_alloc ?_ _)); refine blk_far ?_ NB489_497.out _; (with_reducible repeat (first | refine blk_drewN ?_ _ | refine blk_drew ?_ | refine blk_alloc ?_ _)); refine blk_far ?_ NB489_497.out _; (with_reducible repeat (first | refine blk_drewN ?_ _ | refine blk_drew ?_ | refine blk_alloc ?_ _)); exact BK489.out) hb); have n1_ := Aside0.mk (blk_below (g := gb497) (o := .cells #[.int .i64 t490, .bool t491, .int .i64 t492, .int .u64 t493, .int .u64 t494, .bool t495] 24 (0, 0)) (by (with_reducible repeat (first | refine blk_drewN ?_ _ | refine blk_drew ?_ | refine blk_alloc ?_ _)); refine blk_put (cs := #[.int .i64 t490, .bool t491, .int .i64 t492, .int .u64 t493, .int .u64 t494, .bool false]) ?_ 5 _ rfl; (with_reducible repeat (first | refine blk_drewN ?_ _ | refine blk_drew ?_ | refine blk_alloc ?_ _)); refine blk_put (cs := #[.int .i64 t490, .bool t491, .int .i64 t492, .int .u64 t493, .int .u64 0, .bool false]) ?_ 4 _ rfl; (with_reducible repeat (first | refine blk_drewN ?_ _ | refine blk_drew ?_ | refine blk_alloc ?_ _)); refine blk_put (cs := #[.int .i64 t490, .bool t491, .int .i64 t492, .int .u64 0, .int .u64 0, .bool false]) ?_ 3 _ rfl; (with_reducible repeat (first | refine blk_drewN ?_ _ | refine blk_drew ?_ | refine blk_alloc ?_ _)); refine blk_put (cs := #[.int .i64 t490, .bool t491, .int .i64 0, .int .u64 0, .int .u64 0, .bool false]) ?_ 2 _ rfl; (with_reducible repeat (first | refine blk_drewN ?_ _ | refine blk_drew ?_ | refine blk_alloc ?_ _)); refine blk_put (cs := #[.int .i64 t490, .bool false, .int .i64 0, .int .u64 0, .int .u64 0, .bool false]) ?_ 1 _ rfl; (with_reducible repeat (first | refine blk_drewN ?_ _ | refine blk_drew ?_ | refine blk_alloc ?_ _)); refine blk_put (cs := #[.int .i64 0, .bool false, .int .i64 0, .int .u64 0, .int .u64 0, .bool false]) ?_ 0 _ rfl; (with_reducible repeat (first | refine blk_drewN ?_ _ | refine blk_drew ?_ | refine blk_alloc ?_ _)); exact BK497.out) hb); have n2_ := Aside0.mk (below_step (by repeat (first | (with_reducible first | exact HB.out | apply below_alloc | apply pw_below_drewN | apply below_drew1 | refine below_set ?_ GE489.out | refine below_set ?_ GE497.out) | exact HB.out)) hb); clear BK489; clear BK497; clear HB; have BK489 := n0_; have BK497 := n1_; have HB := n2_; clear n0_ n1_ n2_; (try clear hb); (try clear hb2); (try clear hk); (try clear hi); (try simp only [errW_none, errW_some])) | ((with_reducible refine gate_callee (f := 17) rfl ?_); refine goesL_ (some 32) rfl rfl Try.func17 (by kernel_rfl) rfl #[.int .i64 a0] rfl (by (try simp only [List.map_toArray, List.map_cons, List.map_nil]); first | done | rfl | (simp only [List.length_drop, List.length_take]; rfl)) ?_; (with_reducible refine (vernierref05_Is.calls a0 false _ A7.out).mono ?_); rintro e w' ⟨rfl, ⟨nd, rfl⟩⟩; refine ⟨_, rfl, ?_⟩))
        go_ret
        exact ⟨by first | rfl | (simp [errW_none, errW_some] <;> rfl) | (simp [*, errW_none, errW_some] <;> rfl), by repeat (first | (with_reducible first | exact HB.out | apply below_alloc | apply pw_below_drewN | apply below_drew1 | refine below_set ?_ GE489.out | refine below_set ?_ GE497.out) | exact HB.out)⟩
      · have H1 : (if q505 = 2 then (if t499.isNone = true then (some false) else (if (t499.getD 0) = 2 then (some (t498 == 0)) else (some false))) else (some false)) = some r := by rw [if_neg (show ¬ (some q505).isNone = true by simp)] at H; exact H
        clear H
        have H := H1
        clear H1
        try simp only [errW_none, errW_some]
        by_cases c67 : q505 = 2
        · rw [if_pos c67] at H
          have c67b0 : (q505 == 2) = true := beq_iff_eq.mpr c67
          have c67b1 : (q505 != 2) = false := bne_eq_false_iff_eq.mpr c67
          clear c67
          rcases t499 with _ | q506
          · have H1 : (some false) = some r := by rw [if_pos (show (none : Option Int).isNone = true by rfl)] at H; exact H
            clear H
            have H := H1
            clear H1
            try simp only [errW_none, errW_some]
            obtain rfl := Option.some.inj H
            go_enter Try.func8, Try.ntmps8
            go_wp2_with (first | ((with_reducible refine gate_callee (f := 10) rfl ?_); refine goesL_ (some 13) rfl rfl Try.func10 (by kernel_rfl) rfl #[] rfl (by (try simp only [List.map_toArray, List.map_cons, List.map_nil]); first | done | rfl | (simp only [List.length_drop, List.length_take]; rfl)) ?_; (with_reducible refine (vernierlaw07_up.calls k  true _ A3.out).mono ?_); rintro e w68 ⟨rfl, hb⟩; refine ⟨_, rfl, ?_⟩; have n0_ := Aside0.mk (below_step (by repeat (first | (with_reducible first | exact HB.out | apply below_alloc | apply pw_below_drewN | apply below_drew1) | exact HB.out)) hb); clear HB; have HB := n0_; clear n0_; (try clear hb); (try clear hb2); (try clear hk); (try clear hi)) | ((with_reducible refine gate_callee (f := 24) rfl ?_); refine goesL_ (some 17) rfl rfl Try.func24 (by kernel_rfl) rfl #[.int .i64 a0, .int .u64 a1] rfl (by (try simp only [List.map_toArray, List.map_cons, List.map_nil]); first | done | rfl | (simp only [List.length_drop, List.length_take]; rfl)) ?_; (with_reducible refine (codec_Decode.calls k a0 a1 t484 t485 t486 t487 (some q505) _ A4.out).mono ?_); rintro e w69 ⟨rfl, hb⟩; refine ⟨_, rfl, ?_⟩; have n0_ := Aside0.mk (below_step (by repeat (first | (with_reducible first | exact HB.out | apply below_alloc | apply pw_below_drewN | apply below_drew1) | exact HB.out)) hb); clear HB; have HB := n0_; clear n0_; (try clear hb); (try clear hb2); (try clear hk); (try clear hi); (try simp only [errW_none, errW_some])) | ((with_reducible refine gate_dst (N := 6) rfl ?_); refine box_event ?hg (N := 6) ?hd (cs := #[.int .i64 0, .bool false, .int .i64 0, .int .u64 0]) (t := 44) ?hr ?_; (case hd => rfl); (case hg => rfl); (case hr => first | (go_simp; done) | (go_simp; rfl)); intro gb489 hg w70 hbox hb; have n0_ := Aside0.mk (below_step (by repeat (first | (with_reducible first | exact HB.out | apply below_alloc | apply pw_below_drewN | apply below_drew1) | exact HB.out)) hb); have n1_ := Aside0.mk (hbox); have n2_ := Aside0.mk ((by rw [hg]; exact (below_size (by repeat (first | (with_reducible first | exact HB.out | apply below_alloc | apply pw_below_drewN | apply below_drew1) | exact HB.out))) : w.heap.size ≤ gb489)); have n3_ := Aside0.mk ((by rw [hg]; exact (below_size (by repeat (first | (with_reducible first | exact HB.out | apply below_alloc | apply pw_below_drewN | apply below_drew1) | exact HB.out))) : w.heap.size ≤ gb489)); clear HB; have HB := n0_; have BK489 := n1_; have GW489 := n2_; have GE489 := n3_; clear n0_ n1_ n2_ n3_; clear hb hbox hg; have hcz71_0 : w70.cell? ⟨gb489, 0, none⟩ = some (.int .i64 0) := (blk_cell BK489.out 0).trans rfl; have hcz71_1 : w70.cell? ⟨gb489, 1, none⟩ = some (.bool false) := (blk_cell BK489.out 1).trans rfl; have hcz71_2 : w70.cell? ⟨gb489, 2, none⟩ = some (.int .i64 0) := (blk_cell BK489.out 2).trans rfl; have hcz71_3 : w70.cell? ⟨gb489, 3, none⟩ = some (.int .u64 0) := (blk_cell BK489.out 3).trans rfl; have hfz71_0 := blk_frozen BK489.out 0; have hfz71_1 := blk_frozen BK489.out 1; have hfz71_2 := blk_frozen BK489.out 2; have hfz71_3 := blk_frozen BK489.out 3) | ((with_reducible refine gate_callee (f := 20) rfl ?_); refine goesL_ (some 22) rfl rfl Try.func20 (by kernel_rfl) rfl #[.agg #[.int .i64 t484, .bool t485, .int .i64 t486, .int .u64 t487]] rfl (by (try simp only [List.map_toArray, List.map_cons, List.map_nil]); first | done | rfl | (simp only [List.length_drop, List.length_take]; rfl)) ?_; (with_reducible refine (round_Of.calls k t484 t485 t486 t487 t490 t491 t492 t493 t494 t495 t496 _ A5.out).mono ?_); rintro e w72 ⟨rfl, hb⟩; refine ⟨_, rfl, ?_⟩; have n0_ := Aside0.mk (blk_below (g := gb489) (o := .cells #[.int .i64 t484, .bool t485, .int .i64 t486, .int .u64 t487] 44 (0, 0)) (by (with_reducible repeat (first | refine blk_drewN ?_ _ | refine blk_drew ?_ | refine blk_alloc ?_ _)); refine blk_put (cs := #[.int .i64 t484, .bool t485, .int .i64 t486, .int .u64 0]) ?_ 3 _ rfl; (with_reducible repeat (first | refine blk_drewN ?_ _ | refine blk_drew ?_ | refine blk_alloc ?_ _)); refine blk_put (cs := #[.int .i64 t484, .bool t485, .int .i64 0, .int .u64 0]) ?_ 2 _ rfl; (with_reducible repeat (first | refine blk_drewN ?_ _ | refine blk_drew ?_ | refine blk_alloc ?_ _)); refine blk_put (cs := #[.int .i64 t484, .bool false, .int .i64 0, .int .u64 0]) ?_ 1 _ rfl; (with_reducible repeat (first | refine blk_drewN ?_ _ | refine blk_drew ?_ | refine blk_alloc ?_ _)); refine blk_put (cs := #[.int .i64 0, .bool false, .int .i64 0, .int .u64 0]) ?_ 0 _ rfl; (with_reducible repeat (first | refine blk_drewN ?_ _ | refine blk_drew ?_ | refine blk_alloc ?_ _)); exact BK489.out) hb); have n1_ := Aside0.mk (below_step (by repeat (first | (with_reducible first | exact HB.out | apply below_alloc | apply pw_below_drewN | apply below_drew1 | refine below_set ?_ GE489.out) | exact HB.out)) hb); clear BK489; clear HB; have BK489 := n0_; have HB := n1_; clear n0_ n1_; (try clear hb); (try clear hb2); (try clear hk); (try clear hi); (try simp only [errW_none, errW_some])) | ((with_reducible refine gate_dst (N := 8) rfl ?_); refine box_event ?hg (N := 8) ?hd (cs := #[.int .i64 0, .bool false, .int .i64 0, .int .u64 0, .int .u64 0, .bool false]) (t := 24) ?hr ?_; (case hd => rfl); (case hg => rfl); (case hr => first | (go_simp; done) | (go_simp; rfl)); intro gb497 hg w73 hbox hb; have n0_ := Aside0.mk (blk_below (g := gb489) (o := .cells #[.int .i64 t484, .bool t485, .int .i64 t486, .int .u64 t487] 44 (0, 0)) (by (with_reducible repeat (first | refine blk_drewN ?_ _ | refine blk_drew ?_ | refine blk_alloc ?_ _)); exact BK489.out) hb); have n1_ := Aside0.mk (below_step (by repeat (first | (with_reducible first | exact HB.out | apply below_alloc | apply pw_below_drewN | apply below_drew1 | refine below_set ?_ GE489.out) | exact HB.out)) hb); have n2_ := Aside0.mk (hbox); have n3_ := Aside0.mk ((by rw [hg]; exact (below_size (by repeat (first | (with_reducible first | exact HB.out | apply below_alloc | apply pw_below_drewN | apply below_drew1 | refine below_set ?_ GE489.out) | exact HB.out))) : w.heap.size ≤ gb497)); have n4_ := Aside0.mk ((by rw [hg]; exact (below_size (by repeat (first | (with_reducible first | exact HB.out | apply below_alloc | apply pw_below_drewN | apply below_drew1 | refine below_set ?_ GE489.out) | exact HB.out))) : w.heap.size ≤ gb497)); have n5_ := Aside0.mk ((by rw [hg]; exact Nat.ne_of_lt (blk_lt (g := gb489) (o := .cells #[.int .i64 t484, .bool t485, .int .i64 t486, .int .u64 t487] 44 (0, 0)) (by (with_reducible repeat (first | refine blk_drewN ?_ _ | refine blk_drew ?_ | refine blk_alloc ?_ _)); exact BK489.out)) : gb489 ≠ gb497)); have n6_ := Aside0.mk ((by rw [hg]; exact Nat.ne_of_gt (blk_lt (g := gb489) (o := .cells #[.int .i64 t484, .bool t485, .int .i64 t486, .int .u64 t487] 44 (0, 0)) (by (with_reducible repeat (first | refine blk_drewN ?_ _ | refine blk_drew ?_ | refine blk_alloc ?_ _)); exact BK489.out)) : gb497 ≠ gb489)); clear BK489; clear HB; have BK489 := n0_; have HB := n1_; have BK497 := n2_; have GW497 := n3_; have GE497 := n4_; have NB489_497 := n5_; have NB497_489 := n6_; clear n0_ n1_ n2_ n3_ n4_ n5_ n6_; clear hb hbox hg; have hnb74 := NB497_489.out; have hnc74 := NB489_497.out; have hcz75_0 : w73.cell? ⟨gb497, 0, none⟩ = some (.int .i64 0) := (blk_cell BK497.out 0).trans rfl; have hcz75_1 : w73.cell? ⟨gb497, 1, none⟩ = some (.bool false) := (blk_cell BK497.out 1).trans rfl; have hcz75_2 : w73.cell? ⟨gb497, 2, none⟩ = some (.int .i64 0) := (blk_cell BK497.out 2).trans rfl; have hcz75_3 : w73.cell? ⟨gb497, 3, none⟩ = some (.int .u64 0) := (blk_cell BK497.out 3).trans rfl; have hcz75_4 : w73.cell? ⟨gb497, 4, none⟩ = some (.int .u64 0) := (blk_cell BK497.out 4).trans rfl; have hcz75_5 : w73.cell? ⟨gb497, 5, none⟩ = some (.bool false) := (blk_cell BK497.out 5).trans rfl; have hfz75_0 := blk_frozen BK497.out 0; have hfz75_1 := blk_frozen BK497.out 1; have hfz75_2 := blk_frozen BK497.out 2; have hfz75_3 := blk_frozen BK497.out 3; have hfz75_4 := blk_frozen BK497.out 4; have hfz75_5 := blk_frozen BK497.out 5) | ((with_reducible refine gate_callee (f := 14) rfl ?_); refine goesL_ (some 28) rfl rfl Try.func14 (by kernel_rfl) rfl #[.int .i64 a0, .agg #[.int .i64 t490, .bool t491, .int .i64 t492, .int .u64 t493, .int .u64 t494, .bool t495]] rfl (by (try simp only [List.map_toArray, List.map_cons, List.map_nil]); first | done | rfl | (simp only [List.length_drop, List.length_take]; rfl)) ?_; (with_reducible refine (round_Round.calls k a0 t490 t491 t492 t493 t494 t495 t498 none _ A6.out).mono ?_); rintro e w76 ⟨rfl, hb⟩; refine ⟨_, rfl, ?_⟩; have n0_ := Aside0.mk (blk_below (g := gb489) (o := .cells #[.int .i64 t484, .bool t485, .int .i64 t486, .int .u64 t487] 44 (0, 0)) (by (with_reducible repeat (first | refine blk_drewN ?_ _ | refine blk_drew ?_ | refine blk_alloc ?_ _)); refine blk_far ?_ NB489_497.out _; (with_reducible repeat (first | refine blk_drewN ?_ _ | refine blk_drew ?_ | refine blk_alloc ?_ _)); refine blk_far ?_ NB489_497.out _; (with_reducible repeat (first | refine blk_drewN ?_ _ | refine blk_drew ?_ | refine blk_alloc ?_ _)); refine blk_far ?_ NB489_497.out _; (with_reducible repeat (first | refine blk_drewN ?_ _ | refine blk_drew ?_ | refine blk_alloc ?_ _)); refine blk_far ?_ NB489_497.out _; (with_reducible repeat (first | refine blk_drewN ?_ _ | refine blk_drew ?_ | refine blk_alloc ?_ _)); refine blk_far ?_ NB489_497.out _; (with_reducible repeat (first | refine blk_drewN ?_ _ | refine blk_drew ?_ | refine blk_alloc ?_ _)); refine blk_far ?_ NB489_497.out _; (with_reducible repeat (first | refine blk_drewN ?_ _ | refine blk_drew ?_ | refine blk_alloc ?_ _)); exact BK489.out) hb); have n1_ := Aside0.mk (blk_below (g := gb497) (o := .cells #[.int .i64 t490, .bool t491, .int .i64 t492, .int .u64 t493, .int .u64 t494, .bool t495] 24 (0, 0)) (by (with_reducible repeat (first | refine blk_drewN ?_ _ | refine blk_drew ?_ | refine blk_alloc ?_ _)); refine blk_put (cs := #[.int .i64 t490, .bool t491, .int .i64 t492, .int .u64 t493, .int .u64 t494, .bool false]) ?_ 5 _ rfl; (with_reducible repeat (first | refine blk_drewN ?_ _ | refine blk_drew ?_ | refine blk_alloc ?_ _)); refine blk_put (cs := #[.int .i64 t490, .bool t491, .int .i64 t492, .int .u64 t493, .int .u64 0, .bool false]) ?_ 4 _ rfl; (with_reducible repeat (first | refine blk_drewN ?_ _ | refine blk_drew ?_ | refine blk_alloc ?_ _)); refine blk_put (cs := #[.int .i64 t490, .bool t491, .int .i64 t492, .int .u64 0, .int .u64 0, .bool false]) ?_ 3 _ rfl; (with_reducible repeat (first | refine blk_drewN ?_ _ | refine blk_drew ?_ | refine blk_alloc ?_ _)); refine blk_put (cs := #[.int .i64 t490, .bool t491, .int .i64 0, .int .u64 0, .int .u64 0, .bool false]) ?_ 2 _ rfl; (with_reducible repeat (first | refine blk_drewN ?_ _ | refine blk_drew ?_ | refine blk_alloc ?_ _)); refine blk_put (cs := #[.int .i64 t490, .bool false, .int .i64 0, .int .u64 0, .int .u64 0, .bool false]) ?_ 1 _ rfl; (with_reducible repeat (first | refine blk_drewN ?_ _ | refine blk_drew ?_ | refine blk_alloc ?_ _)); refine blk_put (cs := #[.int .i64 0, .bool false, .int .i64 0, .int .u64 0, .int .u64 0, .bool false]) ?_ 0 _ rfl; (with_reducible repeat (first | refine blk_drewN ?_ _ | refine blk_drew ?_ | refine blk_alloc ?_ _)); exact BK497.out) hb); have n2_ := Aside0.mk (below_step (by repeat (first | (with_reducible first | exact HB.out | apply below_alloc | apply pw_below_drewN | apply below_drew1 | refine below_set ?_ GE489.out | refine below_set ?_ GE497.out) | exact HB.out)) hb); clear BK489; clear BK497; clear HB; have BK489 := n0_; have BK497 := n1_; have HB := n2_; clear n0_ n1_ n2_; (try clear hb); (try clear hb2); (try clear hk); (try clear hi); (try simp only [errW_none, errW_some])) | ((with_reducible refine gate_callee (f := 17) rfl ?_); refine goesL_ (some 32) rfl rfl Try.func17 (by kernel_rfl) rfl #[.int .i64 a0] rfl (by (try simp only [List.map_toArray, List.map_cons, List.map_nil]); first | done | rfl | (simp only [List.length_drop, List.length_take]; rfl)) ?_; (with_reducible refine (vernierref05_Is.calls a0 false _ A7.out).mono ?_); rintro e w' ⟨rfl, ⟨nd, rfl⟩⟩; refine ⟨_, rfl, ?_⟩))
            go_ret
            exact ⟨by first | rfl | (simp [errW_none, errW_some] <;> rfl) | (simp [*, errW_none, errW_some] <;> rfl), by repeat (first | (with_reducible first | exact HB.out | apply below_alloc | apply pw_below_drewN | apply below_drew1 | refine below_set ?_ GE489.out | refine below_set ?_ GE497.out) | exact HB.out)⟩
          · have H1 : (if q506 = 2 then (some (t498 == 0)) else (some false)) = some r := by rw [if_neg (show ¬ (some q506).isNone = true by simp)] at H; exact H
            clear H
            have H := H1
            clear H1
            try simp only [errW_none, errW_some]
            by_cases c77 : q506 = 2
            · rw [if_pos c77] at H
              have c77b0 : (q506 == 2) = true := beq_iff_eq.mpr c77
              have c77b1 : (q506 != 2) = false := bne_eq_false_iff_eq.mpr c77
              clear c77
              obtain rfl := Option.some.inj H
              go_enter Try.func8, Try.ntmps8
              go_wp2_with (first | ((with_reducible refine gate_callee (f := 10) rfl ?_); refine goesL_ (some 13) rfl rfl Try.func10 (by kernel_rfl) rfl #[] rfl (by (try simp only [List.map_toArray, List.map_cons, List.map_nil]); first | done | rfl | (simp only [List.length_drop, List.length_take]; rfl)) ?_; (with_reducible refine (vernierlaw07_up.calls k  true _ A3.out).mono ?_); rintro e w78 ⟨rfl, hb⟩; refine ⟨_, rfl, ?_⟩; have n0_ := Aside0.mk (below_step (by repeat (first | (with_reducible first | exact HB.out | apply below_alloc | apply pw_below_drewN | apply below_drew1) | exact HB.out)) hb); clear HB; have HB := n0_; clear n0_; (try clear hb); (try clear hb2); (try clear hk); (try clear hi)) | ((with_reducible refine gate_callee (f := 24) rfl ?_); refine goesL_ (some 17) rfl rfl Try.func24 (by kernel_rfl) rfl #[.int .i64 a0, .int .u64 a1] rfl (by (try simp only [List.map_toArray, List.map_cons, List.map_nil]); first | done | rfl | (simp only [List.length_drop, List.length_take]; rfl)) ?_; (with_reducible refine (codec_Decode.calls k a0 a1 t484 t485 t486 t487 (some q505) _ A4.out).mono ?_); rintro e w79 ⟨rfl, hb⟩; refine ⟨_, rfl, ?_⟩; have n0_ := Aside0.mk (below_step (by repeat (first | (with_reducible first | exact HB.out | apply below_alloc | apply pw_below_drewN | apply below_drew1) | exact HB.out)) hb); clear HB; have HB := n0_; clear n0_; (try clear hb); (try clear hb2); (try clear hk); (try clear hi); (try simp only [errW_none, errW_some])) | ((with_reducible refine gate_dst (N := 6) rfl ?_); refine box_event ?hg (N := 6) ?hd (cs := #[.int .i64 0, .bool false, .int .i64 0, .int .u64 0]) (t := 44) ?hr ?_; (case hd => rfl); (case hg => rfl); (case hr => first | (go_simp; done) | (go_simp; rfl)); intro gb489 hg w80 hbox hb; have n0_ := Aside0.mk (below_step (by repeat (first | (with_reducible first | exact HB.out | apply below_alloc | apply pw_below_drewN | apply below_drew1) | exact HB.out)) hb); have n1_ := Aside0.mk (hbox); have n2_ := Aside0.mk ((by rw [hg]; exact (below_size (by repeat (first | (with_reducible first | exact HB.out | apply below_alloc | apply pw_below_drewN | apply below_drew1) | exact HB.out))) : w.heap.size ≤ gb489)); have n3_ := Aside0.mk ((by rw [hg]; exact (below_size (by repeat (first | (with_reducible first | exact HB.out | apply below_alloc | apply pw_below_drewN | apply below_drew1) | exact HB.out))) : w.heap.size ≤ gb489)); clear HB; have HB := n0_; have BK489 := n1_; have GW489 := n2_; have GE489 := n3_; clear n0_ n1_ n2_ n3_; clear hb hbox hg; have hcz81_0 : w80.cell? ⟨gb489, 0, none⟩ = some (.int .i64 0) := (blk_cell BK489.out 0).trans rfl; have hcz81_1 : w80.cell? ⟨gb489, 1, none⟩ = some (.bool false) := (blk_cell BK489.out 1).trans rfl; have hcz81_2 : w80.cell? ⟨gb489, 2, none⟩ = some (.int .i64 0) := (blk_cell BK489.out 2).trans rfl; have hcz81_3 : w80.cell? ⟨gb489, 3, none⟩ = some (.int .u64 0) := (blk_cell BK489.out 3).trans rfl; have hfz81_0 := blk_frozen BK489.out 0; have hfz81_1 := blk_frozen BK489.out 1; have hfz81_2 := blk_frozen BK489.out 2; have hfz81_3 := blk_frozen BK489.out 3) | ((with_reducible refine gate_callee (f := 20) rfl ?_); refine goesL_ (some 22) rfl rfl Try.func20 (by kernel_rfl) rfl #[.agg #[.int .i64 t484, .bool t485, .int .i64 t486, .int .u64 t487]] rfl (by (try simp only [List.map_toArray, List.map_cons, List.map_nil]); first | done | rfl | (simp only [List.length_drop, List.length_take]; rfl)) ?_; (with_reducible refine (round_Of.calls k t484 t485 t486 t487 t490 t491 t492 t493 t494 t495 t496 _ A5.out).mono ?_); rintro e w82 ⟨rfl, hb⟩; refine ⟨_, rfl, ?_⟩; have n0_ := Aside0.mk (blk_below (g := gb489) (o := .cells #[.int .i64 t484, .bool t485, .int .i64 t486, .int .u64 t487] 44 (0, 0)) (by (with_reducible repeat (first | refine blk_drewN ?_ _ | refine blk_drew ?_ | refine blk_alloc ?_ _)); refine blk_put (cs := #[.int .i64 t484, .bool t485, .int .i64 t486, .int .u64 0]) ?_ 3 _ rfl; (with_reducible repeat (first | refine blk_drewN ?_ _ | refine blk_drew ?_ | refine blk_alloc ?_ _)); refine blk_put (cs := #[.int .i64 t484, .bool t485, .int .i64 0, .int .u64 0]) ?_ 2 _ rfl; (with_reducible repeat (first | refine blk_drewN ?_ _ | refine blk_drew ?_ | refine blk_alloc ?_ _)); refine blk_put (cs := #[.int .i64 t484, .bool false, .int .i64 0, .int .u64 0]) ?_ 1 _ rfl; (with_reducible repeat (first | refine blk_drewN ?_ _ | refine blk_drew ?_ | refine blk_alloc ?_ _)); refine blk_put (cs := #[.int .i64 0, .bool false, .int .i64 0, .int .u64 0]) ?_ 0 _ rfl; (with_reducible repeat (first | refine blk_drewN ?_ _ | refine blk_drew ?_ | refine blk_alloc ?_ _)); exact BK489.out) hb); have n1_ := Aside0.mk (below_step (by repeat (first | (with_reducible first | exact HB.out | apply below_alloc | apply pw_below_drewN | apply below_drew1 | refine below_set ?_ GE489.out) | exact HB.out)) hb); clear BK489; clear HB; have BK489 := n0_; have HB := n1_; clear n0_ n1_; (try clear hb); (try clear hb2); (try clear hk); (try clear hi); (try simp only [errW_none, errW_some])) | ((with_reducible refine gate_dst (N := 8) rfl ?_); refine box_event ?hg (N := 8) ?hd (cs := #[.int .i64 0, .bool false, .int .i64 0, .int .u64 0, .int .u64 0, .bool false]) (t := 24) ?hr ?_; (case hd => rfl); (case hg => rfl); (case hr => first | (go_simp; done) | (go_simp; rfl)); intro gb497 hg w83 hbox hb; have n0_ := Aside0.mk (blk_below (g := gb489) (o := .cells #[.int .i64 t484, .bool t485, .int .i64 t486, .int .u64 t487] 44 (0, 0)) (by (with_reducible repeat (first | refine blk_drewN ?_ _ | refine blk_drew ?_ | refine blk_alloc ?_ _)); exact BK489.out) hb); have n1_ := Aside0.mk (below_step (by repeat (first | (with_reducible first | exact HB.out | apply below_alloc | apply pw_below_drewN | apply below_drew1 | refine below_set ?_ GE489.out) | exact HB.out)) hb); have n2_ := Aside0.mk (hbox); have n3_ := Aside0.mk ((by rw [hg]; exact (below_size (by repeat (first | (with_reducible first | exact HB.out | apply below_alloc | apply pw_below_drewN | apply below_drew1 | refine below_set ?_ GE489.out) | exact HB.out))) : w.heap.size ≤ gb497)); have n4_ := Aside0.mk ((by rw [hg]; exact (below_size (by repeat (first | (with_reducible first | exact HB.out | apply below_alloc | apply pw_below_drewN | apply below_drew1 | refine below_set ?_ GE489.out) | exact HB.out))) : w.heap.size ≤ gb497)); have n5_ := Aside0.mk ((by rw [hg]; exact Nat.ne_of_lt (blk_lt (g := gb489) (o := .cells #[.int .i64 t484, .bool t485, .int .i64 t486, .int .u64 t487] 44 (0, 0)) (by (with_reducible repeat (first | refine blk_drewN ?_ _ | refine blk_drew ?_ | refine blk_alloc ?_ _)); exact BK489.out)) : gb489 ≠ gb497)); have n6_ := Aside0.mk ((by rw [hg]; exact Nat.ne_of_gt (blk_lt (g := gb489) (o := .cells #[.int .i64 t484, .bool t485, .int .i64 t486, .int .u64 t487] 44 (0, 0)) (by (with_reducible repeat (first | refine blk_drewN ?_ _ | refine blk_drew ?_ | refine blk_alloc ?_ _)); exact BK489.out)) : gb497 ≠ gb489)); clear BK489; clear HB; have BK489 := n0_; have HB := n1_; have BK497 := n2_; have GW497 := n3_; have GE497 := n4_; have NB489_497 := n5_; have NB497_489 := n6_; clear n0_ n1_ n2_ n3_ n4_ n5_ n6_; clear hb hbox hg; have hnb84 := NB497_489.out; have hnc84 := NB489_497.out; have hcz85_0 : w83.cell? ⟨gb497, 0, none⟩ = some (.int .i64 0) := (blk_cell BK497.out 0).trans rfl; have hcz85_1 : w83.cell? ⟨gb497, 1, none⟩ = some (.bool false) := (blk_cell BK497.out 1).trans rfl; have hcz85_2 : w83.cell? ⟨gb497, 2, none⟩ = some (.int .i64 0) := (blk_cell BK497.out 2).trans rfl; have hcz85_3 : w83.cell? ⟨gb497, 3, none⟩ = some (.int .u64 0) := (blk_cell BK497.out 3).trans rfl; have hcz85_4 : w83.cell? ⟨gb497, 4, none⟩ = some (.int .u64 0) := (blk_cell BK497.out 4).trans rfl; have hcz85_5 : w83.cell? ⟨gb497, 5, none⟩ = some (.bool false) := (blk_cell BK497.out 5).trans rfl; have hfz85_0 := blk_frozen BK497.out 0; have hfz85_1 := blk_frozen BK497.out 1; have hfz85_2 := blk_frozen BK497.out 2; have hfz85_3 := blk_frozen BK497.out 3; have hfz85_4 := blk_frozen BK497.out 4; have hfz85_5 := blk_frozen BK497.out 5) | ((with_reducible refine gate_callee (f := 14) rfl ?_); refine goesL_ (some 28) rfl rfl Try.func14 (by kernel_rfl) rfl #[.int .i64 a0, .agg #[.int .i64 t490, .bool t491, .int .i64 t492, .int .u64 t493, .int .u64 t494, .bool t495]] rfl (by (try simp only [List.map_toArray, List.map_cons, List.map_nil]); first | done | rfl | (simp only [List.length_drop, List.length_take]; rfl)) ?_; (with_reducible refine (round_Round.calls k a0 t490 t491 t492 t493 t494 t495 t498 (some q506) _ A6.out).mono ?_); rintro e w86 ⟨rfl, hb⟩; refine ⟨_, rfl, ?_⟩; have n0_ := Aside0.mk (blk_below (g := gb489) (o := .cells #[.int .i64 t484, .bool t485, .int .i64 t486, .int .u64 t487] 44 (0, 0)) (by (with_reducible repeat (first | refine blk_drewN ?_ _ | refine blk_drew ?_ | refine blk_alloc ?_ _)); refine blk_far ?_ NB489_497.out _; (with_reducible repeat (first | refine blk_drewN ?_ _ | refine blk_drew ?_ | refine blk_alloc ?_ _)); refine blk_far ?_ NB489_497.out _; (with_reducible repeat (first | refine blk_drewN ?_ _ | refine blk_drew ?_ | refine blk_alloc ?_ _)); refine blk_far ?_ NB489_497.out _; (with_reducible repeat (first | refine blk_drewN ?_ _ | refine blk_drew ?_ | refine blk_alloc ?_ _)); refine blk_far ?_ NB489_497.out _; (with_reducible repeat (first | refine blk_drewN ?_ _ | refine blk_drew ?_ | refine blk_alloc ?_ _)); refine blk_far ?_ NB489_497.out _; (with_reducible repeat (first | refine blk_drewN ?_ _ | refine blk_drew ?_ | refine blk_alloc ?_ _)); refine blk_far ?_ NB489_497.out _; (with_reducible repeat (first | refine blk_drewN ?_ _ | refine blk_drew ?_ | refine blk_alloc ?_ _)); exact BK489.out) hb); have n1_ := Aside0.mk (blk_below (g := gb497) (o := .cells #[.int .i64 t490, .bool t491, .int .i64 t492, .int .u64 t493, .int .u64 t494, .bool t495] 24 (0, 0)) (by (with_reducible repeat (first | refine blk_drewN ?_ _ | refine blk_drew ?_ | refine blk_alloc ?_ _)); refine blk_put (cs := #[.int .i64 t490, .bool t491, .int .i64 t492, .int .u64 t493, .int .u64 t494, .bool false]) ?_ 5 _ rfl; (with_reducible repeat (first | refine blk_drewN ?_ _ | refine blk_drew ?_ | refine blk_alloc ?_ _)); refine blk_put (cs := #[.int .i64 t490, .bool t491, .int .i64 t492, .int .u64 t493, .int .u64 0, .bool false]) ?_ 4 _ rfl; (with_reducible repeat (first | refine blk_drewN ?_ _ | refine blk_drew ?_ | refine blk_alloc ?_ _)); refine blk_put (cs := #[.int .i64 t490, .bool t491, .int .i64 t492, .int .u64 0, .int .u64 0, .bool false]) ?_ 3 _ rfl; (with_reducible repeat (first | refine blk_drewN ?_ _ | refine blk_drew ?_ | refine blk_alloc ?_ _)); refine blk_put (cs := #[.int .i64 t490, .bool t491, .int .i64 0, .int .u64 0, .int .u64 0, .bool false]) ?_ 2 _ rfl; (with_reducible repeat (first | refine blk_drewN ?_ _ | refine blk_drew ?_ | refine blk_alloc ?_ _)); refine blk_put (cs := #[.int .i64 t490, .bool false, .int .i64 0, .int .u64 0, .int .u64 0, .bool false]) ?_ 1 _ rfl; (with_reducible repeat (first | refine blk_drewN ?_ _ | refine blk_drew ?_ | refine blk_alloc ?_ _)); refine blk_put (cs := #[.int .i64 0, .bool false, .int .i64 0, .int .u64 0, .int .u64 0, .bool false]) ?_ 0 _ rfl; (with_reducible repeat (first | refine blk_drewN ?_ _ | refine blk_drew ?_ | refine blk_alloc ?_ _)); exact BK497.out) hb); have n2_ := Aside0.mk (below_step (by repeat (first | (with_reducible first | exact HB.out | apply below_alloc | apply pw_below_drewN | apply below_drew1 | refine below_set ?_ GE489.out | refine below_set ?_ GE497.out) | exact HB.out)) hb); clear BK489; clear BK497; clear HB; have BK489 := n0_; have BK497 := n1_; have HB := n2_; clear n0_ n1_ n2_; (try clear hb); (try clear hb2); (try clear hk); (try clear hi); (try simp only [errW_none, errW_some])) | ((with_reducible refine gate_callee (f := 17) rfl ?_); refine goesL_ (some 32) rfl rfl Try.func17 (by kernel_rfl) rfl #[.int .i64 a0] rfl (by (try simp only [List.map_toArray, List.map_cons, List.map_nil]); first | done | rfl | (simp only [List.length_drop, List.length_take]; rfl)) ?_; (with_reducible refine (vernierref05_Is.calls a0 false _ A7.out).mono ?_); rintro e w' ⟨rfl, ⟨nd, rfl⟩⟩; refine ⟨_, rfl, ?_⟩))
              go_ret
              exact ⟨by first | rfl | (simp [errW_none, errW_some] <;> rfl) | (simp [*, errW_none, errW_some] <;> rfl), by repeat (first | (with_reducible first | exact HB.out | apply below_alloc | apply pw_below_drewN | apply below_drew1 | refine below_set ?_ GE489.out | refine below_set ?_ GE497.out) | exact HB.out)⟩
            · rw [if_neg c77] at H
              have c77b0 : (q506 == 2) = false := beq_eq_false_iff_ne.mpr c77
              have c77b1 : (q506 != 2) = true := bne_iff_ne.mpr c77
              obtain rfl := Option.some.inj H
              go_enter Try.func8, Try.ntmps8
              go_wp2_with (first | ((with_reducible refine gate_callee (f := 10) rfl ?_); refine goesL_ (some 13) rfl rfl Try.func10 (by kernel_rfl) rfl #[] rfl (by (try simp only [List.map_toArray, List.map_cons, List.map_nil]); first | done | rfl | (simp only [List.length_drop, List.length_take]; rfl)) ?_; (with_reducible refine (vernierlaw07_up.calls k  true _ A3.out).mono ?_); rintro e w87 ⟨rfl, hb⟩; refine ⟨_, rfl, ?_⟩; have n0_ := Aside0.mk (below_step (by repeat (first | (with_reducible first | exact HB.out | apply below_alloc | apply pw_below_drewN | apply below_drew1) | exact HB.out)) hb); clear HB; have HB := n0_; clear n0_; (try clear hb); (try clear hb2); (try clear hk); (try clear hi)) | ((with_reducible refine gate_callee (f := 24) rfl ?_); refine goesL_ (some 17) rfl rfl Try.func24 (by kernel_rfl) rfl #[.int .i64 a0, .int .u64 a1] rfl (by (try simp only [List.map_toArray, List.map_cons, List.map_nil]); first | done | rfl | (simp only [List.length_drop, List.length_take]; rfl)) ?_; (with_reducible refine (codec_Decode.calls k a0 a1 t484 t485 t486 t487 (some q505) _ A4.out).mono ?_); rintro e w88 ⟨rfl, hb⟩; refine ⟨_, rfl, ?_⟩; have n0_ := Aside0.mk (below_step (by repeat (first | (with_reducible first | exact HB.out | apply below_alloc | apply pw_below_drewN | apply below_drew1) | exact HB.out)) hb); clear HB; have HB := n0_; clear n0_; (try clear hb); (try clear hb2); (try clear hk); (try clear hi); (try simp only [errW_none, errW_some])) | ((with_reducible refine gate_dst (N := 6) rfl ?_); refine box_event ?hg (N := 6) ?hd (cs := #[.int .i64 0, .bool false, .int .i64 0, .int .u64 0]) (t := 44) ?hr ?_; (case hd => rfl); (case hg => rfl); (case hr => first | (go_simp; done) | (go_simp; rfl)); intro gb489 hg w89 hbox hb; have n0_ := Aside0.mk (below_step (by repeat (first | (with_reducible first | exact HB.out | apply below_alloc | apply pw_below_drewN | apply below_drew1) | exact HB.out)) hb); have n1_ := Aside0.mk (hbox); have n2_ := Aside0.mk ((by rw [hg]; exact (below_size (by repeat (first | (with_reducible first | exact HB.out | apply below_alloc | apply pw_below_drewN | apply below_drew1) | exact HB.out))) : w.heap.size ≤ gb489)); have n3_ := Aside0.mk ((by rw [hg]; exact (below_size (by repeat (first | (with_reducible first | exact HB.out | apply below_alloc | apply pw_below_drewN | apply below_drew1) | exact HB.out))) : w.heap.size ≤ gb489)); clear HB; have HB := n0_; have BK489 := n1_; have GW489 := n2_; have GE489 := n3_; clear n0_ n1_ n2_ n3_; clear hb hbox hg; have hcz90_0 : w89.cell? ⟨gb489, 0, none⟩ = some (.int .i64 0) := (blk_cell BK489.out 0).trans rfl; have hcz90_1 : w89.cell? ⟨gb489, 1, none⟩ = some (.bool false) := (blk_cell BK489.out 1).trans rfl; have hcz90_2 : w89.cell? ⟨gb489, 2, none⟩ = some (.int .i64 0) := (blk_cell BK489.out 2).trans rfl; have hcz90_3 : w89.cell? ⟨gb489, 3, none⟩ = some (.int .u64 0) := (blk_cell BK489.out 3).trans rfl; have hfz90_0 := blk_frozen BK489.out 0; have hfz90_1 := blk_frozen BK489.out 1; have hfz90_2 := blk_frozen BK489.out 2; have hfz90_3 := blk_frozen BK489.out 3) | ((with_reducible refine gate_callee (f := 20) rfl ?_); refine goesL_ (some 22) rfl rfl Try.func20 (by kernel_rfl) rfl #[.agg #[.int .i64 t484, .bool t485, .int .i64 t486, .int .u64 t487]] rfl (by (try simp only [List.map_toArray, List.map_cons, List.map_nil]); first | done | rfl | (simp only [List.length_drop, List.length_take]; rfl)) ?_; (with_reducible refine (round_Of.calls k t484 t485 t486 t487 t490 t491 t492 t493 t494 t495 t496 _ A5.out).mono ?_); rintro e w91 ⟨rfl, hb⟩; refine ⟨_, rfl, ?_⟩; have n0_ := Aside0.mk (blk_below (g := gb489) (o := .cells #[.int .i64 t484, .bool t485, .int .i64 t486, .int .u64 t487] 44 (0, 0)) (by (with_reducible repeat (first | refine blk_drewN ?_ _ | refine blk_drew ?_ | refine blk_alloc ?_ _)); refine blk_put (cs := #[.int .i64 t484, .bool t485, .int .i64 t486, .int .u64 0]) ?_ 3 _ rfl; (with_reducible repeat (first | refine blk_drewN ?_ _ | refine blk_drew ?_ | refine blk_alloc ?_ _)); refine blk_put (cs := #[.int .i64 t484, .bool t485, .int .i64 0, .int .u64 0]) ?_ 2 _ rfl; (with_reducible repeat (first | refine blk_drewN ?_ _ | refine blk_drew ?_ | refine blk_alloc ?_ _)); refine blk_put (cs := #[.int .i64 t484, .bool false, .int .i64 0, .int .u64 0]) ?_ 1 _ rfl; (with_reducible repeat (first | refine blk_drewN ?_ _ | refine blk_drew ?_ | refine blk_alloc ?_ _)); refine blk_put (cs := #[.int .i64 0, .bool false, .int .i64 0, .int .u64 0]) ?_ 0 _ rfl; (with_reducible repeat (first | refine blk_drewN ?_ _ | refine blk_drew ?_ | refine blk_alloc ?_ _)); exact BK489.out) hb); have n1_ := Aside0.mk (below_step (by repeat (first | (with_reducible first | exact HB.out | apply below_alloc | apply pw_below_drewN | apply below_drew1 | refine below_set ?_ GE489.out) | exact HB.out)) hb); clear BK489; clear HB; have BK489 := n0_; have HB := n1_; clear n0_ n1_; (try clear hb); (try clear hb2); (try clear hk); (try clear hi); (try simp only [errW_none, errW_some])) | ((with_reducible refine gate_dst (N := 8) rfl ?_); refine box_event ?hg (N := 8) ?hd (cs := #[.int .i64 0, .bool false, .int .i64 0, .int .u64 0, .int .u64 0, .bool false]) (t := 24) ?hr ?_; (case hd => rfl); (case hg => rfl); (case hr => first | (go_simp; done) | (go_simp; rfl)); intro gb497 hg w92 hbox hb; have n0_ := Aside0.mk (blk_below (g := gb489) (o := .cells #[.int .i64 t484, .bool t485, .int .i64 t486, .int .u64 t487] 44 (0, 0)) (by (with_reducible repeat (first | refine blk_drewN ?_ _ | refine blk_drew ?_ | refine blk_alloc ?_ _)); exact BK489.out) hb); have n1_ := Aside0.mk (below_step (by repeat (first | (with_reducible first | exact HB.out | apply below_alloc | apply pw_below_drewN | apply below_drew1 | refine below_set ?_ GE489.out) | exact HB.out)) hb); have n2_ := Aside0.mk (hbox); have n3_ := Aside0.mk ((by rw [hg]; exact (below_size (by repeat (first | (with_reducible first | exact HB.out | apply below_alloc | apply pw_below_drewN | apply below_drew1 | refine below_set ?_ GE489.out) | exact HB.out))) : w.heap.size ≤ gb497)); have n4_ := Aside0.mk ((by rw [hg]; exact (below_size (by repeat (first | (with_reducible first | exact HB.out | apply below_alloc | apply pw_below_drewN | apply below_drew1 | refine below_set ?_ GE489.out) | exact HB.out))) : w.heap.size ≤ gb497)); have n5_ := Aside0.mk ((by rw [hg]; exact Nat.ne_of_lt (blk_lt (g := gb489) (o := .cells #[.int .i64 t484, .bool t485, .int .i64 t486, .int .u64 t487] 44 (0, 0)) (by (with_reducible repeat (first | refine blk_drewN ?_ _ | refine blk_drew ?_ | refine blk_alloc ?_ _)); exact BK489.out)) : gb489 ≠ gb497)); have n6_ := Aside0.mk ((by rw [hg]; exact Nat.ne_of_gt (blk_lt (g := gb489) (o := .cells #[.int .i64 t484, .bool t485, .int .i64 t486, .int .u64 t487] 44 (0, 0)) (by (with_reducible repeat (first | refine blk_drewN ?_ _ | refine blk_drew ?_ | refine blk_alloc ?_ _)); exact BK489.out)) : gb497 ≠ gb489)); clear BK489; clear HB; have BK489 := n0_; have HB := n1_; have BK497 := n2_; have GW497 := n3_; have GE497 := n4_; have NB489_497 := n5_; have NB497_489 := n6_; clear n0_ n1_ n2_ n3_ n4_ n5_ n6_; clear hb hbox hg; have hnb93 := NB497_489.out; have hnc93 := NB489_497.out; have hcz94_0 : w92.cell? ⟨gb497, 0, none⟩ = some (.int .i64 0) := (blk_cell BK497.out 0).trans rfl; have hcz94_1 : w92.cell? ⟨gb497, 1, none⟩ = some (.bool false) := (blk_cell BK497.out 1).trans rfl; have hcz94_2 : w92.cell? ⟨gb497, 2, none⟩ = some (.int .i64 0) := (blk_cell BK497.out 2).trans rfl; have hcz94_3 : w92.cell? ⟨gb497, 3, none⟩ = some (.int .u64 0) := (blk_cell BK497.out 3).trans rfl; have hcz94_4 : w92.cell? ⟨gb497, 4, none⟩ = some (.int .u64 0) := (blk_cell BK497.out 4).trans rfl; have hcz94_5 : w92.cell? ⟨gb497, 5, none⟩ = some (.bool false) := (blk_cell BK497.out 5).trans rfl; have hfz94_0 := blk_frozen BK497.out 0; have hfz94_1 := blk_frozen BK497.out 1; have hfz94_2 := blk_frozen BK497.out 2; have hfz94_3 := blk_frozen BK497.out 3; have hfz94_4 := blk_frozen BK497.out 4; have hfz94_5 := blk_frozen BK497.out 5) | ((with_reducible refine gate_callee (f := 14) rfl ?_); refine goesL_ (some 28) rfl rfl Try.func14 (by kernel_rfl) rfl #[.int .i64 a0, .agg #[.int .i64 t490, .bool t491, .int .i64 t492, .int .u64 t493, .int .u64 t494, .bool t495]] rfl (by (try simp only [List.map_toArray, List.map_cons, List.map_nil]); first | done | rfl | (simp only [List.length_drop, List.length_take]; rfl)) ?_; (with_reducible refine (round_Round.calls k a0 t490 t491 t492 t493 t494 t495 t498 (some q506) _ A6.out).mono ?_); rintro e w95 ⟨rfl, hb⟩; refine ⟨_, rfl, ?_⟩; have n0_ := Aside0.mk (blk_below (g := gb489) (o := .cells #[.int .i64 t484, .bool t485, .int .i64 t486, .int .u64 t487] 44 (0, 0)) (by (with_reducible repeat (first | refine blk_drewN ?_ _ | refine blk_drew ?_ | refine blk_alloc ?_ _)); refine blk_far ?_ NB489_497.out _; (with_reducible repeat (first | refine blk_drewN ?_ _ | refine blk_drew ?_ | refine blk_alloc ?_ _)); refine blk_far ?_ NB489_497.out _; (with_reducible repeat (first | refine blk_drewN ?_ _ | refine blk_drew ?_ | refine blk_alloc ?_ _)); refine blk_far ?_ NB489_497.out _; (with_reducible repeat (first | refine blk_drewN ?_ _ | refine blk_drew ?_ | refine blk_alloc ?_ _)); refine blk_far ?_ NB489_497.out _; (with_reducible repeat (first | refine blk_drewN ?_ _ | refine blk_drew ?_ | refine blk_alloc ?_ _)); refine blk_far ?_ NB489_497.out _; (with_reducible repeat (first | refine blk_drewN ?_ _ | refine blk_drew ?_ | refine blk_alloc ?_ _)); refine blk_far ?_ NB489_497.out _; (with_reducible repeat (first | refine blk_drewN ?_ _ | refine blk_drew ?_ | refine blk_alloc ?_ _)); exact BK489.out) hb); have n1_ := Aside0.mk (blk_below (g := gb497) (o := .cells #[.int .i64 t490, .bool t491, .int .i64 t492, .int .u64 t493, .int .u64 t494, .bool t495] 24 (0, 0)) (by (with_reducible repeat (first | refine blk_drewN ?_ _ | refine blk_drew ?_ | refine blk_alloc ?_ _)); refine blk_put (cs := #[.int .i64 t490, .bool t491, .int .i64 t492, .int .u64 t493, .int .u64 t494, .bool false]) ?_ 5 _ rfl; (with_reducible repeat (first | refine blk_drewN ?_ _ | refine blk_drew ?_ | refine blk_alloc ?_ _)); refine blk_put (cs := #[.int .i64 t490, .bool t491, .int .i64 t492, .int .u64 t493, .int .u64 0, .bool false]) ?_ 4 _ rfl; (with_reducible repeat (first | refine blk_drewN ?_ _ | refine blk_drew ?_ | refine blk_alloc ?_ _)); refine blk_put (cs := #[.int .i64 t490, .bool t491, .int .i64 t492, .int .u64 0, .int .u64 0, .bool false]) ?_ 3 _ rfl; (with_reducible repeat (first | refine blk_drewN ?_ _ | refine blk_drew ?_ | refine blk_alloc ?_ _)); refine blk_put (cs := #[.int .i64 t490, .bool t491, .int .i64 0, .int .u64 0, .int .u64 0, .bool false]) ?_ 2 _ rfl; (with_reducible repeat (first | refine blk_drewN ?_ _ | refine blk_drew ?_ | refine blk_alloc ?_ _)); refine blk_put (cs := #[.int .i64 t490, .bool false, .int .i64 0, .int .u64 0, .int .u64 0, .bool false]) ?_ 1 _ rfl; (with_reducible repeat (first | refine blk_drewN ?_ _ | refine blk_drew ?_ | refine blk_alloc ?_ _)); refine blk_put (cs := #[.int .i64 0, .bool false, .int .i64 0, .int .u64 0, .int .u64 0, .bool false]) ?_ 0 _ rfl; (with_reducible repeat (first | refine blk_drewN ?_ _ | refine blk_drew ?_ | refine blk_alloc ?_ _)); exact BK497.out) hb); have n2_ := Aside0.mk (below_step (by repeat (first | (with_reducible first | exact HB.out | apply below_alloc | apply pw_below_drewN | apply below_drew1 | refine below_set ?_ GE489.out | refine below_set ?_ GE497.out) | exact HB.out)) hb); clear BK489; clear BK497; clear HB; have BK489 := n0_; have BK497 := n1_; have HB := n2_; clear n0_ n1_ n2_; (try clear hb); (try clear hb2); (try clear hk); (try clear hi); (try simp only [errW_none, errW_some])) | ((with_reducible refine gate_callee (f := 17) rfl ?_); refine goesL_ (some 32) rfl rfl Try.func17 (by kernel_rfl) rfl #[.int .i64 a0] rfl (by (try simp only [List.map_toArray, List.map_cons, List.map_nil]); first | done | rfl | (simp only [List.length_drop, List.length_take]; rfl)) ?_; (with_reducible refine (vernierref05_Is.calls a0 false _ A7.out).mono ?_); rintro e w' ⟨rfl, ⟨nd, rfl⟩⟩; refine ⟨_, rfl, ?_⟩))
              go_ret
              exact ⟨by first | rfl | (simp [errW_none, errW_some] <;> rfl) | (simp [*, errW_none, errW_some] <;> rfl), by repeat (first | (with_reducible first | exact HB.out | apply below_alloc | apply pw_below_drewN | apply below_drew1 | refine below_set ?_ GE489.out | refine below_set ?_ GE497.out) | exact HB.out)⟩
        · rw [if_neg c67] at H
          have c67b0 : (q505 == 2) = false := beq_eq_false_iff_ne.mpr c67
          have c67b1 : (q505 != 2) = true := bne_iff_ne.mpr c67
          obtain rfl := Option.some.inj H
          go_enter Try.func8, Try.ntmps8
          go_wp2_with (first | ((with_reducible refine gate_callee (f := 10) rfl ?_); refine goesL_ (some 13) rfl rfl Try.func10 (by kernel_rfl) rfl #[] rfl (by (try simp only [List.map_toArray, List.map_cons, List.map_nil]); first | done | rfl | (simp only [List.length_drop, List.length_take]; rfl)) ?_; (with_reducible refine (vernierlaw07_up.calls k  true _ A3.out).mono ?_); rintro e w96 ⟨rfl, hb⟩; refine ⟨_, rfl, ?_⟩; have n0_ := Aside0.mk (below_step (by repeat (first | (with_reducible first | exact HB.out | apply below_alloc | apply pw_below_drewN | apply below_drew1) | exact HB.out)) hb); clear HB; have HB := n0_; clear n0_; (try clear hb); (try clear hb2); (try clear hk); (try clear hi)) | ((with_reducible refine gate_callee (f := 24) rfl ?_); refine goesL_ (some 17) rfl rfl Try.func24 (by kernel_rfl) rfl #[.int .i64 a0, .int .u64 a1] rfl (by (try simp only [List.map_toArray, List.map_cons, List.map_nil]); first | done | rfl | (simp only [List.length_drop, List.length_take]; rfl)) ?_; (with_reducible refine (codec_Decode.calls k a0 a1 t484 t485 t486 t487 (some q505) _ A4.out).mono ?_); rintro e w97 ⟨rfl, hb⟩; refine ⟨_, rfl, ?_⟩; have n0_ := Aside0.mk (below_step (by repeat (first | (with_reducible first | exact HB.out | apply below_alloc | apply pw_below_drewN | apply below_drew1) | exact HB.out)) hb); clear HB; have HB := n0_; clear n0_; (try clear hb); (try clear hb2); (try clear hk); (try clear hi); (try simp only [errW_none, errW_some])) | ((with_reducible refine gate_dst (N := 6) rfl ?_); refine box_event ?hg (N := 6) ?hd (cs := #[.int .i64 0, .bool false, .int .i64 0, .int .u64 0]) (t := 44) ?hr ?_; (case hd => rfl); (case hg => rfl); (case hr => first | (go_simp; done) | (go_simp; rfl)); intro gb489 hg w98 hbox hb; have n0_ := Aside0.mk (below_step (by repeat (first | (with_reducible first | exact HB.out | apply below_alloc | apply pw_below_drewN | apply below_drew1) | exact HB.out)) hb); have n1_ := Aside0.mk (hbox); have n2_ := Aside0.mk ((by rw [hg]; exact (below_size (by repeat (first | (with_reducible first | exact HB.out | apply below_alloc | apply pw_below_drewN | apply below_drew1) | exact HB.out))) : w.heap.size ≤ gb489)); have n3_ := Aside0.mk ((by rw [hg]; exact (below_size (by repeat (first | (with_reducible first | exact HB.out | apply below_alloc | apply pw_below_drewN | apply below_drew1) | exact HB.out))) : w.heap.size ≤ gb489)); clear HB; have HB := n0_; have BK489 := n1_; have GW489 := n2_; have GE489 := n3_; clear n0_ n1_ n2_ n3_; clear hb hbox hg; have hcz99_0 : w98.cell? ⟨gb489, 0, none⟩ = some (.int .i64 0) := (blk_cell BK489.out 0).trans rfl; have hcz99_1 : w98.cell? ⟨gb489, 1, none⟩ = some (.bool false) := (blk_cell BK489.out 1).trans rfl; have hcz99_2 : w98.cell? ⟨gb489, 2, none⟩ = some (.int .i64 0) := (blk_cell BK489.out 2).trans rfl; have hcz99_3 : w98.cell? ⟨gb489, 3, none⟩ = some (.int .u64 0) := (blk_cell BK489.out 3).trans rfl; have hfz99_0 := blk_frozen BK489.out 0; have hfz99_1 := blk_frozen BK489.out 1; have hfz99_2 := blk_frozen BK489.out 2; have hfz99_3 := blk_frozen BK489.out 3) | ((with_reducible refine gate_callee (f := 20) rfl ?_); refine goesL_ (some 22) rfl rfl Try.func20 (by kernel_rfl) rfl #[.agg #[.int .i64 t484, .bool t485, .int .i64 t486, .int .u64 t487]] rfl (by (try simp only [List.map_toArray, List.map_cons, List.map_nil]); first | done | rfl | (simp only [List.length_drop, List.length_take]; rfl)) ?_; (with_reducible refine (round_Of.calls k t484 t485 t486 t487 t490 t491 t492 t493 t494 t495 t496 _ A5.out).mono ?_); rintro e w100 ⟨rfl, hb⟩; refine ⟨_, rfl, ?_⟩; have n0_ := Aside0.mk (blk_below (g := gb489) (o := .cells #[.int .i64 t484, .bool t485, .int .i64 t486, .int .u64 t487] 44 (0, 0)) (by (with_reducible repeat (first | refine blk_drewN ?_ _ | refine blk_drew ?_ | refine blk_alloc ?_ _)); refine blk_put (cs := #[.int .i64 t484, .bool t485, .int .i64 t486, .int .u64 0]) ?_ 3 _ rfl; (with_reducible repeat (first | refine blk_drewN ?_ _ | refine blk_drew ?_ | refine blk_alloc ?_ _)); refine blk_put (cs := #[.int .i64 t484, .bool t485, .int .i64 0, .int .u64 0]) ?_ 2 _ rfl; (with_reducible repeat (first | refine blk_drewN ?_ _ | refine blk_drew ?_ | refine blk_alloc ?_ _)); refine blk_put (cs := #[.int .i64 t484, .bool false, .int .i64 0, .int .u64 0]) ?_ 1 _ rfl; (with_reducible repeat (first | refine blk_drewN ?_ _ | refine blk_drew ?_ | refine blk_alloc ?_ _)); refine blk_put (cs := #[.int .i64 0, .bool false, .int .i64 0, .int .u64 0]) ?_ 0 _ rfl; (with_reducible repeat (first | refine blk_drewN ?_ _ | refine blk_drew ?_ | refine blk_alloc ?_ _)); exact BK489.out) hb); have n1_ := Aside0.mk (below_step (by repeat (first | (with_reducible first | exact HB.out | apply below_alloc | apply pw_below_drewN | apply below_drew1 | refine below_set ?_ GE489.out) | exact HB.out)) hb); clear BK489; clear HB; have BK489 := n0_; have HB := n1_; clear n0_ n1_; (try clear hb); (try clear hb2); (try clear hk); (try clear hi); (try simp only [errW_none, errW_some])) | ((with_reducible refine gate_dst (N := 8) rfl ?_); refine box_event ?hg (N := 8) ?hd (cs := #[.int .i64 0, .bool false, .int .i64 0, .int .u64 0, .int .u64 0, .bool false]) (t := 24) ?hr ?_; (case hd => rfl); (case hg => rfl); (case hr => first | (go_simp; done) | (go_simp; rfl)); intro gb497 hg w101 hbox hb; have n0_ := Aside0.mk (blk_below (g := gb489) (o := .cells #[.int .i64 t484, .bool t485, .int .i64 t486, .int .u64 t487] 44 (0, 0)) (by (with_reducible repeat (first | refine blk_drewN ?_ _ | refine blk_drew ?_ | refine blk_alloc ?_ _)); exact BK489.out) hb); have n1_ := Aside0.mk (below_step (by repeat (first | (with_reducible first | exact HB.out | apply below_alloc | apply pw_below_drewN | apply below_drew1 | refine below_set ?_ GE489.out) | exact HB.out)) hb); have n2_ := Aside0.mk (hbox); have n3_ := Aside0.mk ((by rw [hg]; exact (below_size (by repeat (first | (with_reducible first | exact HB.out | apply below_alloc | apply pw_below_drewN | apply below_drew1 | refine below_set ?_ GE489.out) | exact HB.out))) : w.heap.size ≤ gb497)); have n4_ := Aside0.mk ((by rw [hg]; exact (below_size (by repeat (first | (with_reducible first | exact HB.out | apply below_alloc | apply pw_below_drewN | apply below_drew1 | refine below_set ?_ GE489.out) | exact HB.out))) : w.heap.size ≤ gb497)); have n5_ := Aside0.mk ((by rw [hg]; exact Nat.ne_of_lt (blk_lt (g := gb489) (o := .cells #[.int .i64 t484, .bool t485, .int .i64 t486, .int .u64 t487] 44 (0, 0)) (by (with_reducible repeat (first | refine blk_drewN ?_ _ | refine blk_drew ?_ | refine blk_alloc ?_ _)); exact BK489.out)) : gb489 ≠ gb497)); have n6_ := Aside0.mk ((by rw [hg]; exact Nat.ne_of_gt (blk_lt (g := gb489) (o := .cells #[.int .i64 t484, .bool t485, .int .i64 t486, .int .u64 t487] 44 (0, 0)) (by (with_reducible repeat (first | refine blk_drewN ?_ _ | refine blk_drew ?_ | refine blk_alloc ?_ _)); exact BK489.out)) : gb497 ≠ gb489)); clear BK489; clear HB; have BK489 := n0_; have HB := n1_; have BK497 := n2_; have GW497 := n3_; have GE497 := n4_; have NB489_497 := n5_; have NB497_489 := n6_; clear n0_ n1_ n2_ n3_ n4_ n5_ n6_; clear hb hbox hg; have hnb102 := NB497_489.out; have hnc102 := NB489_497.out; have hcz103_0 : w101.cell? ⟨gb497, 0, none⟩ = some (.int .i64 0) := (blk_cell BK497.out 0).trans rfl; have hcz103_1 : w101.cell? ⟨gb497, 1, none⟩ = some (.bool false) := (blk_cell BK497.out 1).trans rfl; have hcz103_2 : w101.cell? ⟨gb497, 2, none⟩ = some (.int .i64 0) := (blk_cell BK497.out 2).trans rfl; have hcz103_3 : w101.cell? ⟨gb497, 3, none⟩ = some (.int .u64 0) := (blk_cell BK497.out 3).trans rfl; have hcz103_4 : w101.cell? ⟨gb497, 4, none⟩ = some (.int .u64 0) := (blk_cell BK497.out 4).trans rfl; have hcz103_5 : w101.cell? ⟨gb497, 5, none⟩ = some (.bool false) := (blk_cell BK497.out 5).trans rfl; have hfz103_0 := blk_frozen BK497.out 0; have hfz103_1 := blk_frozen BK497.out 1; have hfz103_2 := blk_frozen BK497.out 2; have hfz103_3 := blk_frozen BK497.out 3; have hfz103_4 := blk_frozen BK497.out 4; have hfz103_5 := blk_frozen BK497.out 5) | ((with_reducible refine gate_callee (f := 14) rfl ?_); refine goesL_ (some 28) rfl rfl Try.func14 (by kernel_rfl) rfl #[.int .i64 a0, .agg #[.int .i64 t490, .bool t491, .int .i64 t492, .int .u64 t493, .int .u64 t494, .bool t495]] rfl (by (try simp only [List.map_toArray, List.map_cons, List.map_nil]); first | done | rfl | (simp only [List.length_drop, List.length_take]; rfl)) ?_; (with_reducible refine (round_Round.calls k a0 t490 t491 t492 t493 t494 t495 t498 t499 _ A6.out).mono ?_); rintro e w104 ⟨rfl, hb⟩; refine ⟨_, rfl, ?_⟩; have n0_ := Aside0.mk (blk_below (g := gb489) (o := .cells #[.int .i64 t484, .bool t485, .int .i64 t486, .int .u64 t487] 44 (0, 0)) (by (with_reducible repeat (first | refine blk_drewN ?_ _ | refine blk_drew ?_ | refine blk_alloc ?_ _)); refine blk_far ?_ NB489_497.out _; (with_reducible repeat (first | refine blk_drewN ?_ _ | refine blk_drew ?_ | refine blk_alloc ?_ _)); refine blk_far ?_ NB489_497.out _; (with_reducible repeat (first | refine blk_drewN ?_ _ | refine blk_drew ?_ | refine blk_alloc ?_ _)); refine blk_far ?_ NB489_497.out _; (with_reducible repeat (first | refine blk_drewN ?_ _ | refine blk_drew ?_ | refine blk_alloc ?_ _)); refine blk_far ?_ NB489_497.out _; (with_reducible repeat (first | refine blk_drewN ?_ _ | refine blk_drew ?_ | refine blk_alloc ?_ _)); refine blk_far ?_ NB489_497.out _; (with_reducible repeat (first | refine blk_drewN ?_ _ | refine blk_drew ?_ | refine blk_alloc ?_ _)); refine blk_far ?_ NB489_497.out _; (with_reducible repeat (first | refine blk_drewN ?_ _ | refine blk_drew ?_ | refine blk_alloc ?_ _)); exact BK489.out) hb); have n1_ := Aside0.mk (blk_below (g := gb497) (o := .cells #[.int .i64 t490, .bool t491, .int .i64 t492, .int .u64 t493, .int .u64 t494, .bool t495] 24 (0, 0)) (by (with_reducible repeat (first | refine blk_drewN ?_ _ | refine blk_drew ?_ | refine blk_alloc ?_ _)); refine blk_put (cs := #[.int .i64 t490, .bool t491, .int .i64 t492, .int .u64 t493, .int .u64 t494, .bool false]) ?_ 5 _ rfl; (with_reducible repeat (first | refine blk_drewN ?_ _ | refine blk_drew ?_ | refine blk_alloc ?_ _)); refine blk_put (cs := #[.int .i64 t490, .bool t491, .int .i64 t492, .int .u64 t493, .int .u64 0, .bool false]) ?_ 4 _ rfl; (with_reducible repeat (first | refine blk_drewN ?_ _ | refine blk_drew ?_ | refine blk_alloc ?_ _)); refine blk_put (cs := #[.int .i64 t490, .bool t491, .int .i64 t492, .int .u64 0, .int .u64 0, .bool false]) ?_ 3 _ rfl; (with_reducible repeat (first | refine blk_drewN ?_ _ | refine blk_drew ?_ | refine blk_alloc ?_ _)); refine blk_put (cs := #[.int .i64 t490, .bool t491, .int .i64 0, .int .u64 0, .int .u64 0, .bool false]) ?_ 2 _ rfl; (with_reducible repeat (first | refine blk_drewN ?_ _ | refine blk_drew ?_ | refine blk_alloc ?_ _)); refine blk_put (cs := #[.int .i64 t490, .bool false, .int .i64 0, .int .u64 0, .int .u64 0, .bool false]) ?_ 1 _ rfl; (with_reducible repeat (first | refine blk_drewN ?_ _ | refine blk_drew ?_ | refine blk_alloc ?_ _)); refine blk_put (cs := #[.int .i64 0, .bool false, .int .i64 0, .int .u64 0, .int .u64 0, .bool false]) ?_ 0 _ rfl; (with_reducible repeat (first | refine blk_drewN ?_ _ | refine blk_drew ?_ | refine blk_alloc ?_ _)); exact BK497.out) hb); have n2_ := Aside0.mk (below_step (by repeat (first | (with_reducible first | exact HB.out | apply below_alloc | apply pw_below_drewN | apply below_drew1 | refine below_set ?_ GE489.out | refine below_set ?_ GE497.out) | exact HB.out)) hb); clear BK489; clear BK497; clear HB; have BK489 := n0_; have BK497 := n1_; have HB := n2_; clear n0_ n1_ n2_; (try clear hb); (try clear hb2); (try clear hk); (try clear hi); (try simp only [errW_none, errW_some])) | ((with_reducible refine gate_callee (f := 17) rfl ?_); refine goesL_ (some 32) rfl rfl Try.func17 (by kernel_rfl) rfl #[.int .i64 a0] rfl (by (try simp only [List.map_toArray, List.map_cons, List.map_nil]); first | done | rfl | (simp only [List.length_drop, List.length_take]; rfl)) ?_; (with_reducible refine (vernierref05_Is.calls a0 false _ A7.out).mono ?_); rintro e w' ⟨rfl, ⟨nd, rfl⟩⟩; refine ⟨_, rfl, ?_⟩))
          go_ret
          exact ⟨by first | rfl | (simp [errW_none, errW_some] <;> rfl) | (simp [*, errW_none, errW_some] <;> rfl), by repeat (first | (with_reducible first | exact HB.out | apply below_alloc | apply pw_below_drewN | apply below_drew1 | refine below_set ?_ GE489.out | refine below_set ?_ GE497.out) | exact HB.out)⟩
    · replace c57 := Bool.eq_false_iff.mpr c57
      subst c57
      have H1 : (some false) = some r := by rw [if_neg (show ¬ (false = true) by decide)] at H; exact H
      clear H
      have H := H1
      clear H1
      obtain rfl := Option.some.inj H
      go_enter Try.func8, Try.ntmps8
      go_wp2_with (first | ((with_reducible refine gate_callee (f := 10) rfl ?_); refine goesL_ (some 13) rfl rfl Try.func10 (by kernel_rfl) rfl #[] rfl (by (try simp only [List.map_toArray, List.map_cons, List.map_nil]); first | done | rfl | (simp only [List.length_drop, List.length_take]; rfl)) ?_; (with_reducible refine (vernierlaw07_up.calls k  false _ A3.out).mono ?_); rintro e w105 ⟨rfl, hb⟩; refine ⟨_, rfl, ?_⟩; have n0_ := Aside0.mk (below_step (by repeat (first | (with_reducible first | exact HB.out | apply below_alloc | apply pw_below_drewN | apply below_drew1) | exact HB.out)) hb); clear HB; have HB := n0_; clear n0_; (try clear hb); (try clear hb2); (try clear hk); (try clear hi)) | ((with_reducible refine gate_callee (f := 24) rfl ?_); refine goesL_ (some 17) rfl rfl Try.func24 (by kernel_rfl) rfl #[.int .i64 a0, .int .u64 a1] rfl (by (try simp only [List.map_toArray, List.map_cons, List.map_nil]); first | done | rfl | (simp only [List.length_drop, List.length_take]; rfl)) ?_; (with_reducible refine (codec_Decode.calls k a0 a1 t484 t485 t486 t487 t488 _ A4.out).mono ?_); rintro e w106 ⟨rfl, hb⟩; refine ⟨_, rfl, ?_⟩; have n0_ := Aside0.mk (below_step (by repeat (first | (with_reducible first | exact HB.out | apply below_alloc | apply pw_below_drewN | apply below_drew1) | exact HB.out)) hb); clear HB; have HB := n0_; clear n0_; (try clear hb); (try clear hb2); (try clear hk); (try clear hi); (try simp only [errW_none, errW_some])) | ((with_reducible refine gate_dst (N := 6) rfl ?_); refine box_event ?hg (N := 6) ?hd (cs := #[.int .i64 0, .bool false, .int .i64 0, .int .u64 0]) (t := 44) ?hr ?_; (case hd => rfl); (case hg => rfl); (case hr => first | (go_simp; done) | (go_simp; rfl)); intro gb489 hg w107 hbox hb; have n0_ := Aside0.mk (below_step (by repeat (first | (with_reducible first | exact HB.out | apply below_alloc | apply pw_below_drewN | apply below_drew1) | exact HB.out)) hb); have n1_ := Aside0.mk (hbox); have n2_ := Aside0.mk ((by rw [hg]; exact (below_size (by repeat (first | (with_reducible first | exact HB.out | apply below_alloc | apply pw_below_drewN | apply below_drew1) | exact HB.out))) : w.heap.size ≤ gb489)); have n3_ := Aside0.mk ((by rw [hg]; exact (below_size (by repeat (first | (with_reducible first | exact HB.out | apply below_alloc | apply pw_below_drewN | apply below_drew1) | exact HB.out))) : w.heap.size ≤ gb489)); clear HB; have HB := n0_; have BK489 := n1_; have GW489 := n2_; have GE489 := n3_; clear n0_ n1_ n2_ n3_; clear hb hbox hg; have hcz108_0 : w107.cell? ⟨gb489, 0, none⟩ = some (.int .i64 0) := (blk_cell BK489.out 0).trans rfl; have hcz108_1 : w107.cell? ⟨gb489, 1, none⟩ = some (.bool false) := (blk_cell BK489.out 1).trans rfl; have hcz108_2 : w107.cell? ⟨gb489, 2, none⟩ = some (.int .i64 0) := (blk_cell BK489.out 2).trans rfl; have hcz108_3 : w107.cell? ⟨gb489, 3, none⟩ = some (.int .u64 0) := (blk_cell BK489.out 3).trans rfl; have hfz108_0 := blk_frozen BK489.out 0; have hfz108_1 := blk_frozen BK489.out 1; have hfz108_2 := blk_frozen BK489.out 2; have hfz108_3 := blk_frozen BK489.out 3) | ((with_reducible refine gate_callee (f := 20) rfl ?_); refine goesL_ (some 22) rfl rfl Try.func20 (by kernel_rfl) rfl #[.agg #[.int .i64 t484, .bool t485, .int .i64 t486, .int .u64 t487]] rfl (by (try simp only [List.map_toArray, List.map_cons, List.map_nil]); first | done | rfl | (simp only [List.length_drop, List.length_take]; rfl)) ?_; (with_reducible refine (round_Of.calls k t484 t485 t486 t487 t490 t491 t492 t493 t494 t495 t496 _ A5.out).mono ?_); rintro e w109 ⟨rfl, hb⟩; refine ⟨_, rfl, ?_⟩; have n0_ := Aside0.mk (blk_below (g := gb489) (o := .cells #[.int .i64 t484, .bool t485, .int .i64 t486, .int .u64 t487] 44 (0, 0)) (by (with_reducible repeat (first | refine blk_drewN ?_ _ | refine blk_drew ?_ | refine blk_alloc ?_ _)); refine blk_put (cs := #[.int .i64 t484, .bool t485, .int .i64 t486, .int .u64 0]) ?_ 3 _ rfl; (with_reducible repeat (first | refine blk_drewN ?_ _ | refine blk_drew ?_ | refine blk_alloc ?_ _)); refine blk_put (cs := #[.int .i64 t484, .bool t485, .int .i64 0, .int .u64 0]) ?_ 2 _ rfl; (with_reducible repeat (first | refine blk_drewN ?_ _ | refine blk_drew ?_ | refine blk_alloc ?_ _)); refine blk_put (cs := #[.int .i64 t484, .bool false, .int .i64 0, .int .u64 0]) ?_ 1 _ rfl; (with_reducible repeat (first | refine blk_drewN ?_ _ | refine blk_drew ?_ | refine blk_alloc ?_ _)); refine blk_put (cs := #[.int .i64 0, .bool false, .int .i64 0, .int .u64 0]) ?_ 0 _ rfl; (with_reducible repeat (first | refine blk_drewN ?_ _ | refine blk_drew ?_ | refine blk_alloc ?_ _)); exact BK489.out) hb); have n1_ := Aside0.mk (below_step (by repeat (first | (with_reducible first | exact HB.out | apply below_alloc | apply pw_below_drewN | apply below_drew1 | refine below_set ?_ GE489.out) | exact HB.out)) hb); clear BK489; clear HB; have BK489 := n0_; have HB := n1_; clear n0_ n1_; (try clear hb); (try clear hb2); (try clear hk); (try clear hi); (try simp only [errW_none, errW_some])) | ((with_reducible refine gate_dst (N := 8) rfl ?_); refine box_event ?hg (N := 8) ?hd (cs := #[.int .i64 0, .bool false, .int .i64 0, .int .u64 0, .int .u64 0, .bool false]) (t := 24) ?hr ?_; (case hd => rfl); (case hg => rfl); (case hr => first | (go_simp; done) | (go_simp; rfl)); intro gb497 hg w110 hbox hb; have n0_ := Aside0.mk (blk_below (g := gb489) (o := .cells #[.int .i64 t484, .bool t485, .int .i64 t486, .int .u64 t487] 44 (0, 0)) (by (with_reducible repeat (first | refine blk_drewN ?_ _ | refine blk_drew ?_ | refine blk_alloc ?_ _)); exact BK489.out) hb); have n1_ := Aside0.mk (below_step (by repeat (first | (with_reducible first | exact HB.out | apply below_alloc | apply pw_below_drewN | apply below_drew1 | refine below_set ?_ GE489.out) | exact HB.out)) hb); have n2_ := Aside0.mk (hbox); have n3_ := Aside0.mk ((by rw [hg]; exact (below_size (by repeat (first | (with_reducible first | exact HB.out | apply below_alloc | apply pw_below_drewN | apply below_drew1 | refine below_set ?_ GE489.out) | exact HB.out))) : w.heap.size ≤ gb497)); have n4_ := Aside0.mk ((by rw [hg]; exact (below_size (by repeat (first | (with_reducible first | exact HB.out | apply below_alloc | apply pw_below_drewN | apply below_drew1 | refine below_set ?_ GE489.out) | exact HB.out))) : w.heap.size ≤ gb497)); have n5_ := Aside0.mk ((by rw [hg]; exact Nat.ne_of_lt (blk_lt (g := gb489) (o := .cells #[.int .i64 t484, .bool t485, .int .i64 t486, .int .u64 t487] 44 (0, 0)) (by (with_reducible repeat (first | refine blk_drewN ?_ _ | refine blk_drew ?_ | refine blk_alloc ?_ _)); exact BK489.out)) : gb489 ≠ gb497)); have n6_ := Aside0.mk ((by rw [hg]; exact Nat.ne_of_gt (blk_lt (g := gb489) (o := .cells #[.int .i64 t484, .bool t485, .int .i64 t486, .int .u64 t487] 44 (0, 0)) (by (with_reducible repeat (first | refine blk_drewN ?_ _ | refine blk_drew ?_ | refine blk_alloc ?_ _)); exact BK489.out)) : gb497 ≠ gb489)); clear BK489; clear HB; have BK489 := n0_; have HB := n1_; have BK497 := n2_; have GW497 := n3_; have GE497 := n4_; have NB489_497 := n5_; have NB497_489 := n6_; clear n0_ n1_ n2_ n3_ n4_ n5_ n6_; clear hb hbox hg; have hnb111 := NB497_489.out; have hnc111 := NB489_497.out; have hcz112_0 : w110.cell? ⟨gb497, 0, none⟩ = some (.int .i64 0) := (blk_cell BK497.out 0).trans rfl; have hcz112_1 : w110.cell? ⟨gb497, 1, none⟩ = some (.bool false) := (blk_cell BK497.out 1).trans rfl; have hcz112_2 : w110.cell? ⟨gb497, 2, none⟩ = some (.int .i64 0) := (blk_cell BK497.out 2).trans rfl; have hcz112_3 : w110.cell? ⟨gb497, 3, none⟩ = some (.int .u64 0) := (blk_cell BK497.out 3).trans rfl; have hcz112_4 : w110.cell? ⟨gb497, 4, none⟩ = some (.int .u64 0) := (blk_cell BK497.out 4).trans rfl; have hcz112_5 : w110.cell? ⟨gb497, 5, none⟩ = some (.bool false) := (blk_cell BK497.out 5).trans rfl; have hfz112_0 := blk_frozen BK497.out 0; have hfz112_1 := blk_frozen BK497.out 1; have hfz112_2 := blk_frozen BK497.out 2; have hfz112_3 := blk_frozen BK497.out 3; have hfz112_4 := blk_frozen BK497.out 4; have hfz112_5 := blk_frozen BK497.out 5) | ((with_reducible refine gate_callee (f := 14) rfl ?_); refine goesL_ (some 28) rfl rfl Try.func14 (by kernel_rfl) rfl #[.int .i64 a0, .agg #[.int .i64 t490, .bool t491, .int .i64 t492, .int .u64 t493, .int .u64 t494, .bool t495]] rfl (by (try simp only [List.map_toArray, List.map_cons, List.map_nil]); first | done | rfl | (simp only [List.length_drop, List.length_take]; rfl)) ?_; (with_reducible refine (round_Round.calls k a0 t490 t491 t492 t493 t494 t495 t498 t499 _ A6.out).mono ?_); rintro e w113 ⟨rfl, hb⟩; refine ⟨_, rfl, ?_⟩; have n0_ := Aside0.mk (blk_below (g := gb489) (o := .cells #[.int .i64 t484, .bool t485, .int .i64 t486, .int .u64 t487] 44 (0, 0)) (by (with_reducible repeat (first | refine blk_drewN ?_ _ | refine blk_drew ?_ | refine blk_alloc ?_ _)); refine blk_far ?_ NB489_497.out _; (with_reducible repeat (first | refine blk_drewN ?_ _ | refine blk_drew ?_ | refine blk_alloc ?_ _)); refine blk_far ?_ NB489_497.out _; (with_reducible repeat (first | refine blk_drewN ?_ _ | refine blk_drew ?_ | refine blk_alloc ?_ _)); refine blk_far ?_ NB489_497.out _; (with_reducible repeat (first | refine blk_drewN ?_ _ | refine blk_drew ?_ | refine blk_alloc ?_ _)); refine blk_far ?_ NB489_497.out _; (with_reducible repeat (first | refine blk_drewN ?_ _ | refine blk_drew ?_ | refine blk_alloc ?_ _)); refine blk_far ?_ NB489_497.out _; (with_reducible repeat (first | refine blk_drewN ?_ _ | refine blk_drew ?_ | refine blk_alloc ?_ _)); refine blk_far ?_ NB489_497.out _; (with_reducible repeat (first | refine blk_drewN ?_ _ | refine blk_drew ?_ | refine blk_alloc ?_ _)); exact BK489.out) hb); have n1_ := Aside0.mk (blk_below (g := gb497) (o := .cells #[.int .i64 t490, .bool t491, .int .i64 t492, .int .u64 t493, .int .u64 t494, .bool t495] 24 (0, 0)) (by (with_reducible repeat (first | refine blk_drewN ?_ _ | refine blk_drew ?_ | refine blk_alloc ?_ _)); refine blk_put (cs := #[.int .i64 t490, .bool t491, .int .i64 t492, .int .u64 t493, .int .u64 t494, .bool false]) ?_ 5 _ rfl; (with_reducible repeat (first | refine blk_drewN ?_ _ | refine blk_drew ?_ | refine blk_alloc ?_ _)); refine blk_put (cs := #[.int .i64 t490, .bool t491, .int .i64 t492, .int .u64 t493, .int .u64 0, .bool false]) ?_ 4 _ rfl; (with_reducible repeat (first | refine blk_drewN ?_ _ | refine blk_drew ?_ | refine blk_alloc ?_ _)); refine blk_put (cs := #[.int .i64 t490, .bool t491, .int .i64 t492, .int .u64 0, .int .u64 0, .bool false]) ?_ 3 _ rfl; (with_reducible repeat (first | refine blk_drewN ?_ _ | refine blk_drew ?_ | refine blk_alloc ?_ _)); refine blk_put (cs := #[.int .i64 t490, .bool t491, .int .i64 0, .int .u64 0, .int .u64 0, .bool false]) ?_ 2 _ rfl; (with_reducible repeat (first | refine blk_drewN ?_ _ | refine blk_drew ?_ | refine blk_alloc ?_ _)); refine blk_put (cs := #[.int .i64 t490, .bool false, .int .i64 0, .int .u64 0, .int .u64 0, .bool false]) ?_ 1 _ rfl; (with_reducible repeat (first | refine blk_drewN ?_ _ | refine blk_drew ?_ | refine blk_alloc ?_ _)); refine blk_put (cs := #[.int .i64 0, .bool false, .int .i64 0, .int .u64 0, .int .u64 0, .bool false]) ?_ 0 _ rfl; (with_reducible repeat (first | refine blk_drewN ?_ _ | refine blk_drew ?_ | refine blk_alloc ?_ _)); exact BK497.out) hb); have n2_ := Aside0.mk (below_step (by repeat (first | (with_reducible first | exact HB.out | apply below_alloc | apply pw_below_drewN | apply below_drew1 | refine below_set ?_ GE489.out | refine below_set ?_ GE497.out) | exact HB.out)) hb); clear BK489; clear BK497; clear HB; have BK489 := n0_; have BK497 := n1_; have HB := n2_; clear n0_ n1_ n2_; (try clear hb); (try clear hb2); (try clear hk); (try clear hi); (try simp only [errW_none, errW_some])) | ((with_reducible refine gate_callee (f := 17) rfl ?_); refine goesL_ (some 32) rfl rfl Try.func17 (by kernel_rfl) rfl #[.int .i64 a0] rfl (by (try simp only [List.map_toArray, List.map_cons, List.map_nil]); first | done | rfl | (simp only [List.length_drop, List.length_take]; rfl)) ?_; (with_reducible refine (vernierref05_Is.calls a0 false _ A7.out).mono ?_); rintro e w' ⟨rfl, ⟨nd, rfl⟩⟩; refine ⟨_, rfl, ?_⟩))
      go_ret
      exact ⟨by first | rfl | (simp [errW_none, errW_some] <;> rfl) | (simp [*, errW_none, errW_some] <;> rfl), by repeat (first | (with_reducible first | exact HB.out | apply below_alloc | apply pw_below_drewN | apply below_drew1 | refine below_set ?_ GE489.out | refine below_set ?_ GE497.out) | exact HB.out)⟩
def vernierlaw07_RoundBack.Pure : Prop := ∀ (a0 : Int) (a1 : Int), (Lit.int .i64 a0).wf = true → (Lit.int .u64 a1).wf = true → ∃ k, vernierlaw07_RoundBack.f k a0 a1 = some true
theorem vernierlaw07_RoundBack.walk (P : vernierlaw07_RoundBack.Pure) (a0 : Int) (a1 : Int) (w : World) (w0 : (Lit.int .i64 a0).wf = true) (w1 : (Lit.int .u64 a1).wf = true) :
    Calls Try.prog 8 #[.int .i64 a0, .int .u64 a1] w fun e w' => e = .returned (.bool true) ∧ Below w.heap.size w w' := by
  obtain ⟨k, h⟩ := P a0 a1 w0 w1
  refine (vernierlaw07_RoundBack.calls k a0 a1 true w h).mono ?_
  rintro e w' ⟨rfl, hd⟩
  exact ⟨rfl, hd⟩
-- ERRCMP
end Go.Proofs.Ytfegofnplcmacaa.PAll
namespace Go.Proofs.Ytfegofnplcmacaa.PAll
open Go.RowKit Go.Proofs.YtfegofnplcmacaaW.PrintWords Go.Proofs.YtfegofnplcmacaaW.PrintLast Go.Proofs.YtfegofnplcmacaaW.PrintMore
attribute [local go_sem] max2_int min2_int max_two min_two max_three min_three max_four min_four
set_option linter.unusedVariables false
set_option linter.unusedSimpArgs false
attribute [local go_sem high] eqA64
def twin_Norm.f (a0_0 : Int) (a0_1 : Int) : Option (Int × Int × Int) := if (a0_0 == 0 && (a0_1 == 0)) = true then (some (a0_0, a0_1, 0)) else ((twin_Len.f a0_0 a0_1).bind fun t316 => ((twin_shl.f a0_0 a0_1 (wrap64 (128 - t316))).bind fun bt317 => (some (bt317.1, bt317.2, wrap64 (128 - t316)))))
set_option maxHeartbeats 8000000 in
set_option maxRecDepth 100000 in
theorem twin_Norm.calls (a0_0 : Int) (a0_1 : Int) (r1 : Int) (r2 : Int) (r3 : Int) (w : World) (h : twin_Norm.f a0_0 a0_1 = some (r1, r2, r3)) :
    Calls Try.prog 43 #[.agg #[.int .u64 a0_0, .int .u64 a0_1]] w fun e w' => e = .returned (.tuple #[.agg #[.int .u64 r1, .int .u64 r2], .int .i64 r3]) ∧ Below w.heap.size w w' := by
  have hu64 := Try.underlying64
  have HB := Aside0.mk (Below.refl w.heap.size w)
  have H : (if (a0_0 == 0 && (a0_1 == 0)) = true then (some (a0_0, a0_1, 0)) else ((twin_Len.f a0_0 a0_1).bind fun t316 => ((twin_shl.f a0_0 a0_1 (wrap64 (128 - t316))).bind fun bt317 => (some (bt317.1, bt317.2, wrap64 (128 - t316)))))) = some (r1, r2, r3) := h
  clear h
  by_cases c2 : (a0_0 == 0 && (a0_1 == 0)) = true
  · rw [if_pos c2] at H
    have c2b0 : (a0_0 == 0 && (a0_1 == 0)) = true := c2
    (try (have c2b1 : decide (a0_0 = 0 && (a0_1 == 0)) = true := by simpa using c2))
    (try (have c2b2 : (a0_0 == 0 && (a0_1 == 0)) = true := by simpa using c2))
    clear c2
    simp only [Option.some.injEq, Prod.mk.injEq] at H
    obtain ⟨rfl, rfl, rfl⟩ := H
    go_enter Try.func43, Try.ntmps43
    go_wp2_with (first | ((with_reducible refine gate_dst (N := 1) rfl ?_); refine box_event ?hg (N := 1) ?hd (cs := #[.int .u64 a0_0, .int .u64 a0_1]) (t := 64) ?hr ?_; (case hd => rfl); (case hg => rfl); (case hr => first | (go_simp; done) | (go_simp; rfl)); intro gb314 hg w3 hbox hb; have n0_ := Aside0.mk (below_step (by repeat (first | (with_reducible first | exact HB.out | apply below_alloc | apply pw_below_drewN | apply below_drew1) | exact HB.out)) hb); have n1_ := Aside0.mk (hbox); have n2_ := Aside0.mk ((by rw [hg]; exact (below_size (by repeat (first | (with_reducible first | exact HB.out | apply below_alloc | apply pw_below_drewN | apply below_drew1) | exact HB.out))) : w.heap.size ≤ gb314)); have n3_ := Aside0.mk ((by rw [hg]; exact (below_size (by repeat (first | (with_reducible first | exact HB.out | apply below_alloc | apply pw_below_drewN | apply below_drew1) | exact HB.out))) : w.heap.size ≤ gb314)); clear HB; have HB := n0_; have BK314 := n1_; have GW314 := n2_; have GE314 := n3_; clear n0_ n1_ n2_ n3_; clear hb hbox hg) | ((with_reducible refine gate_dst (N := 2) rfl ?_); refine box_event ?hg (N := 2) ?hd (cs := #[.int .u64 0, .int .u64 0]) (t := 64) ?hr ?_; (case hd => rfl); (case hg => rfl); (case hr => first | (go_simp; done) | (go_simp; rfl)); intro gb315 hg w4 hbox hb; have n0_ := Aside0.mk (blk_below (g := gb314) (o := .cells #[.int .u64 a0_0, .int .u64 a0_1] 64 (0, 0)) (by (with_reducible repeat (first | refine blk_drewN ?_ _ | refine blk_drew ?_ | refine blk_alloc ?_ _)); exact BK314.out) hb); have n1_ := Aside0.mk (below_step (by repeat (first | (with_reducible first | exact HB.out | apply below_alloc | apply pw_below_drewN | apply below_drew1 | refine below_set ?_ GE314.out) | exact HB.out)) hb); have n2_ := Aside0.mk (hbox); have n3_ := Aside0.mk ((by rw [hg]; exact (below_size (by repeat (first | (with_reducible first | exact HB.out | apply below_alloc | apply pw_below_drewN | apply below_drew1 | refine below_set ?_ GE314.out) | exact HB.out))) : w.heap.size ≤ gb315)); have n4_ := Aside0.mk ((by rw [hg]; exact (below_size (by repeat (first | (with_reducible first | exact HB.out | apply below_alloc | apply pw_below_drewN | apply below_drew1 | refine below_set ?_ GE314.out) | exact HB.out))) : w.heap.size ≤ gb315)); have n5_ := Aside0.mk ((by rw [hg]; exact Nat.ne_of_lt (blk_lt (g := gb314) (o := .cells #[.int .u64 a0_0, .int .u64 a0_1] 64 (0, 0)) (by (with_reducible repeat (first | refine blk_drewN ?_ _ | refine blk_drew ?_ | refine blk_alloc ?_ _)); exact BK314.out)) : gb314 ≠ gb315)); have n6_ := Aside0.mk ((by rw [hg]; exact Nat.ne_of_gt (blk_lt (g := gb314) (o := .cells #[.int .u64 a0_0, .int .u64 a0_1] 64 (0, 0)) (by (with_reducible repeat (first | refine blk_drewN ?_ _ | refine blk_drew ?_ | refine blk_alloc ?_ _)); exact BK314.out)) : gb315 ≠ gb314)); clear BK314; clear HB; have BK314 := n0_; have HB := n1_; have BK315 := n2_; have GW315 := n3_; have GE315 := n4_; have NB314_315 := n5_; have NB315_314 := n6_; clear n0_ n1_ n2_ n3_ n4_ n5_ n6_; clear hb hbox hg; have hnb5 := NB314_315.out; have hnc5 := NB315_314.out; have hcz6_0 : w4.cell? ⟨gb314, 0, none⟩ = some (.int .u64 a0_0) := (blk_cell BK314.out 0).trans rfl; have hcz6_1 : w4.cell? ⟨gb314, 1, none⟩ = some (.int .u64 a0_1) := (blk_cell BK314.out 1).trans rfl; have hfz6_0 := blk_frozen BK314.out 0; have hfz6_1 := blk_frozen BK314.out 1; have hcz7_0 : w4.cell? ⟨gb315, 0, none⟩ = some (.int .u64 0) := (blk_cell BK315.out 0).trans rfl; have hcz7_1 : w4.cell? ⟨gb315, 1, none⟩ = some (.int .u64 0) := (blk_cell BK315.out 1).trans rfl; have hfz7_0 := blk_frozen BK315.out 0; have hfz7_1 := blk_frozen BK315.out 1))
    refine bodyPost_ret (results_ct rfl _ _ gb315 64 #[.int .u64 a0_0, .int .u64 a0_1] (0, 0) _ rfl (by (with_reducible repeat (first | refine blk_drewN ?_ _ | refine blk_drew ?_ | refine blk_alloc ?_ _)); refine blk_put (cs := #[.int .u64 a0_0, .int .u64 0]) ?_ 1 _ rfl; (with_reducible repeat (first | refine blk_drewN ?_ _ | refine blk_drew ?_ | refine blk_alloc ?_ _)); refine blk_put (cs := #[.int .u64 0, .int .u64 0]) ?_ 0 _ rfl; (with_reducible repeat (first | refine blk_drewN ?_ _ | refine blk_drew ?_ | refine blk_alloc ?_ _)); exact BK315.out) Try.underlying64 rfl (by kernel_rfl)) rfl ?_
    exact ⟨by first | rfl | (simp [errW_none, errW_some] <;> rfl) | (simp [*, errW_none, errW_some] <;> rfl), by repeat (first | (with_reducible first | exact HB.out | apply below_alloc | apply pw_below_drewN | apply below_drew1 | refine below_set ?_ GE314.out | refine below_set ?_ GE315.out) | exact HB.out)⟩
  · rw [if_neg c2] at H
    have c2b0 : (a0_0 == 0 && (a0_1 == 0)) = false := by simpa using c2
    (try (have c2b1 : decide (a0_0 = 0 && (a0_1 == 0)) = false := by simpa using c2))
    (try (have c2b2 : (a0_0 == 0 && (a0_1 == 0)) = false := by simpa using c2))
    (try (have c2b3 : ¬ (a0_0 = 0 && (a0_1 == 0)) := by simpa using c2))
    clear c2
    replace H := Option.bind_eq_some_iff.mp H
    obtain ⟨t316, A80, H⟩ := H
    replace H : ((twin_shl.f a0_0 a0_1 (wrap64 (128 - t316))).bind fun bt317 => (some (bt317.1, bt317.2, wrap64 (128 - t316)))) = some (r1, r2, r3) := H
    have A8 := Aside0.mk A80
    clear A80
    replace H := Option.bind_eq_some_iff.mp H
    obtain ⟨⟨t317, t318⟩, A90, H⟩ := H
    replace H : (some (t317, t318, wrap64 (128 - t316))) = some (r1, r2, r3) := H
    have A9 := Aside0.mk A90
    clear A90
    simp only [Option.some.injEq, Prod.mk.injEq] at H
    obtain ⟨rfl, rfl, rfl⟩ := H
    go_enter Try.func43, Try.ntmps43
    go_wp2_with (first | ((with_reducible refine gate_dst (N := 1) rfl ?_); refine box_event ?hg (N := 1) ?hd (cs := #[.int .u64 a0_0, .int .u64 a0_1]) (t := 64) ?hr ?_; (case hd => rfl); (case hg => rfl); (case hr => first | (go_simp; done) | (go_simp; rfl)); intro gb314 hg w10 hbox hb; have n0_ := Aside0.mk (below_step (by repeat (first | (with_reducible first | exact HB.out | apply below_alloc | apply pw_below_drewN | apply below_drew1) | exact HB.out)) hb); have n1_ := Aside0.mk (hbox); have n2_ := Aside0.mk ((by rw [hg]; exact (below_size (by repeat (first | (with_reducible first | exact HB.out | apply below_alloc | apply pw_below_drewN | apply below_drew1) | exact HB.out))) : w.heap.size ≤ gb314)); have n3_ := Aside0.mk ((by rw [hg]; exact (below_size (by repeat (first | (with_reducible first | exact HB.out | apply below_alloc | apply pw_below_drewN | apply below_drew1) | exact HB.out))) : w.heap.size ≤ gb314)); clear HB; have HB := n0_; have BK314 := n1_; have GW314 := n2_; have GE314 := n3_; clear n0_ n1_ n2_ n3_; clear hb hbox hg) | ((with_reducible refine gate_dst (N := 2) rfl ?_); refine box_event ?hg (N := 2) ?hd (cs := #[.int .u64 0, .int .u64 0]) (t := 64) ?hr ?_; (case hd => rfl); (case hg => rfl); (case hr => first | (go_simp; done) | (go_simp; rfl)); intro gb315 hg w11 hbox hb; have n0_ := Aside0.mk (blk_below (g := gb314) (o := .cells #[.int .u64 a0_0, .int .u64 a0_1] 64 (0, 0)) (by (with_reducible repeat (first | refine blk_drewN ?_ _ | refine blk_drew ?_ | refine blk_alloc ?_ _)); exact BK314.out) hb); have n1_ := Aside0.mk (below_step (by repeat (first | (with_reducible first | exact HB.out | apply below_alloc | apply pw_below_drewN | apply below_drew1 | refine below_set ?_ GE314.out) | exact HB.out)) hb); have n2_ := Aside0.mk (hbox); have n3_ := Aside0.mk ((by rw [hg]; exact (below_size (by repeat (first | (with_reducible first | exact HB.out | apply below_alloc | apply pw_below_drewN | apply below_drew1 | refine below_set ?_ GE314.out) | exact HB.out))) : w.heap.size ≤ gb315)); have n4_ := Aside0.mk ((by rw [hg]; exact (below_size (by repeat (first | (with_reducible first | exact HB.out | apply below_alloc | apply pw_below_drewN | apply below_drew1 | refine below_set ?_ GE314.out) | exact HB.out))) : w.heap.size ≤ gb315)); have n5_ := Aside0.mk ((by rw [hg]; exact Nat.ne_of_lt (blk_lt (g := gb314) (o := .cells #[.int .u64 a0_0, .int .u64 a0_1] 64 (0, 0)) (by (with_reducible repeat (first | refine blk_drewN ?_ _ | refine blk_drew ?_ | refine blk_alloc ?_ _)); exact BK314.out)) : gb314 ≠ gb315)); have n6_ := Aside0.mk ((by rw [hg]; exact Nat.ne_of_gt (blk_lt (g := gb314) (o := .cells #[.int .u64 a0_0, .int .u64 a0_1] 64 (0, 0)) (by (with_reducible repeat (first | refine blk_drewN ?_ _ | refine blk_drew ?_ | refine blk_alloc ?_ _)); exact BK314.out)) : gb315 ≠ gb314)); clear BK314; clear HB; have BK314 := n0_; have HB := n1_; have BK315 := n2_; have GW315 := n3_; have GE315 := n4_; have NB314_315 := n5_; have NB315_314 := n6_; clear n0_ n1_ n2_ n3_ n4_ n5_ n6_; clear hb hbox hg; have hnb12 := NB314_315.out; have hnc12 := NB315_314.out; have hcz13_0 : w11.cell? ⟨gb314, 0, none⟩ = some (.int .u64 a0_0) := (blk_cell BK314.out 0).trans rfl; have hcz13_1 : w11.cell? ⟨gb314, 1, none⟩ = some (.int .u64 a0_1) := (blk_cell BK314.out 1).trans rfl; have hfz13_0 := blk_frozen BK314.out 0; have hfz13_1 := blk_frozen BK314.out 1) | ((with_reducible refine gate_callee (f := 54) rfl ?_); refine goesL_ (some 10) rfl rfl Try.func54 (by kernel_rfl) rfl #[.agg #[.int .u64 a0_0, .int .u64 a0_1]] rfl (by (try simp only [List.map_toArray, List.map_cons, List.map_nil]); first | done | rfl | (simp only [List.length_drop, List.length_take]; rfl)) ?_; (with_reducible refine (twin_Len.calls a0_0 a0_1 t316 _ A8.out).mono ?_); rintro e w14 ⟨rfl, hb⟩; refine ⟨_, rfl, ?_⟩; have n0_ := Aside0.mk (blk_below (g := gb314) (o := .cells #[.int .u64 a0_0, .int .u64 a0_1] 64 (0, 0)) (by (with_reducible repeat (first | refine blk_drewN ?_ _ | refine blk_drew ?_ | refine blk_alloc ?_ _)); exact BK314.out) hb); have n1_ := Aside0.mk (blk_below (g := gb315) (o := .cells #[.int .u64 0, .int .u64 0] 64 (0, 0)) (by (with_reducible repeat (first | refine blk_drewN ?_ _ | refine blk_drew ?_ | refine blk_alloc ?_ _)); exact BK315.out) hb); have n2_ := Aside0.mk (below_step (by repeat (first | (with_reducible first | exact HB.out | apply below_alloc | apply pw_below_drewN | apply below_drew1 | refine below_set ?_ GE314.out | refine below_set ?_ GE315.out) | exact HB.out)) hb); clear BK314; clear BK315; clear HB; have BK314 := n0_; have BK315 := n1_; have HB := n2_; clear n0_ n1_ n2_; (try clear hb); (try clear hb2); (try clear hk); (try clear hi); have hcz15_0 : w14.cell? ⟨gb314, 0, none⟩ = some (.int .u64 a0_0) := (blk_cell BK314.out 0).trans rfl; have hcz15_1 : w14.cell? ⟨gb314, 1, none⟩ = some (.int .u64 a0_1) := (blk_cell BK314.out 1).trans rfl; have hfz15_0 := blk_frozen BK314.out 0; have hfz15_1 := blk_frozen BK314.out 1) | ((with_reducible refine gate_callee (f := 53) rfl ?_); refine goesL_ (some 14) rfl rfl Try.func53 (by kernel_rfl) rfl #[.agg #[.int .u64 a0_0, .int .u64 a0_1], .int .i64 (wrap64 (128 - t316))] rfl (by (try simp only [List.map_toArray, List.map_cons, List.map_nil]); first | done | rfl | (simp only [List.length_drop, List.length_take]; rfl)) ?_; (with_reducible refine (twin_shl.calls a0_0 a0_1 (wrap64 (128 - t316)) t317 t318 _ A9.out).mono ?_); rintro e w16 ⟨rfl, hb⟩; refine ⟨_, rfl, ?_⟩; have n0_ := Aside0.mk (blk_below (g := gb314) (o := .cells #[.int .u64 a0_0, .int .u64 a0_1] 64 (0, 0)) (by (with_reducible repeat (first | refine blk_drewN ?_ _ | refine blk_drew ?_ | refine blk_alloc ?_ _)); exact BK314.out) hb); have n1_ := Aside0.mk (blk_below (g := gb315) (o := .cells #[.int .u64 0, .int .u64 0] 64 (0, 0)) (by (with_reducible repeat (first | refine blk_drewN ?_ _ | refine blk_drew ?_ | refine blk_alloc ?_ _)); exact BK315.out) hb); have n2_ := Aside0.mk (below_step (by repeat (first | (with_reducible first | exact HB.out | apply below_alloc | apply pw_below_drewN | apply below_drew1 | refine below_set ?_ GE314.out | refine below_set ?_ GE315.out) | exact HB.out)) hb); clear BK314; clear BK315; clear HB; have BK314 := n0_; have BK315 := n1_; have HB := n2_; clear n0_ n1_ n2_; (try clear hb); (try clear hb2); (try clear hk); (try clear hi); have hcz17_0 : w16.cell? ⟨gb315, 0, none⟩ = some (.int .u64 0) := (blk_cell BK315.out 0).trans rfl; have hcz17_1 : w16.cell? ⟨gb315, 1, none⟩ = some (.int .u64 0) := (blk_cell BK315.out 1).trans rfl; have hfz17_0 := blk_frozen BK315.out 0; have hfz17_1 := blk_frozen BK315.out 1))
    refine bodyPost_ret (results_ct rfl _ _ gb315 64 #[.int .u64 t317, .int .u64 t318] (0, 0) _ rfl (by (with_reducible repeat (first | refine blk_drewN ?_ _ | refine blk_drew ?_ | refine blk_alloc ?_ _)); refine blk_put (cs := #[.int .u64 t317, .int .u64 0]) ?_ 1 _ rfl; (with_reducible repeat (first | refine blk_drewN ?_ _ | refine blk_drew ?_ | refine blk_alloc ?_ _)); refine blk_put (cs := #[.int .u64 0, .int .u64 0]) ?_ 0 _ rfl; (with_reducible repeat (first | refine blk_drewN ?_ _ | refine blk_drew ?_ | refine blk_alloc ?_ _)); exact BK315.out) Try.underlying64 rfl (by kernel_rfl)) rfl ?_
    exact ⟨by first | rfl | (simp [errW_none, errW_some] <;> rfl) | (simp [*, errW_none, errW_some] <;> rfl), by repeat (first | (with_reducible first | exact HB.out | apply below_alloc | apply pw_below_drewN | apply below_drew1 | refine below_set ?_ GE314.out | refine below_set ?_ GE315.out) | exact HB.out)⟩
end Go.Proofs.Ytfegofnplcmacaa.PAll
namespace Go.Proofs.Ytfegofnplcmacaa.V
open Go Go.RowKit Go.Proofs.YtfegofnplcmacaaW.PrintWords Go.Proofs.YtfegofnplcmacaaW.PrintLast Go.Proofs.YtfegofnplcmacaaW.PrintMore Go.Proofs.Ytfegofnplcmacaa.PAll
set_option linter.unusedVariables false
set_option linter.unusedSimpArgs false
theorem shl_hi (V k : Nat) (h : V < 2 ^ 128) (hk : k ≤ 64) :
    V * 2 ^ k % 2 ^ 128 / 2 ^ 64 = V / 2 ^ 64 * 2 ^ k % 2 ^ 64 + V % 2 ^ 64 / 2 ^ (64 - k) := by
  have s := pow_split hk
  have p1 := two_pos k
  have p2 := two_pos (64 - k)
  rw [show (2:Nat)^128 = 2^64 * 2^64 by decide, Nat.mod_mul_right_div_self]
  generalize hq : V / 2 ^ 64 = q
  generalize hr : V % 2 ^ 64 = r
  have hV : V = q * 2 ^ 64 + r := by subst hq hr; have := Nat.div_add_mod V (2^64); omega
  have hr' : r < 2 ^ 64 := by subst hr; exact Nat.mod_lt _ (two_pos 64)
  generalize hb : r / 2 ^ (64 - k) = b
  generalize hc : r % 2 ^ (64 - k) = c
  have hr2 : r = 2 ^ (64 - k) * b + c := by subst hb hc; exact (Nat.div_add_mod _ _).symm
  have hc' : c < 2 ^ (64 - k) := by subst hc; exact Nat.mod_lt _ p2
  have hb' : b < 2 ^ k := by subst hb; rw [Nat.div_lt_iff_lt_mul p2]; rw [s]; exact hr'
  have e : V * 2 ^ k = (q * 2 ^ k + b) * 2 ^ 64 + c * 2 ^ k := by
    rw [hV, hr2, ← s]; grind
  have hc2 : c * 2 ^ k < 2 ^ 64 := by
    rw [← s, Nat.mul_comm]; exact Nat.mul_lt_mul_of_pos_left hc' p1
  have d : V * 2 ^ k / 2 ^ 64 = q * 2 ^ k + b := by
    rw [e, Nat.add_comm, Nat.add_mul_div_right _ _ (two_pos 64), Nat.div_eq_of_lt hc2]; omega
  rw [d]
  have m1 : q * 2 ^ k % 2 ^ 64 = q % 2 ^ (64 - k) * 2 ^ k := by
    rw [← s, Nat.mul_comm (2 ^ k), Nat.mul_mod_mul_right]
  have m2 : q % 2 ^ (64 - k) * 2 ^ k + b < 2 ^ 64 := by
    have : q % 2 ^ (64 - k) + 1 ≤ 2 ^ (64 - k) := Nat.mod_lt _ p2
    have := Nat.mul_le_mul_right (2 ^ k) this
    rw [Nat.mul_comm (2 ^ (64 - k)), s, Nat.add_mul] at this
    omega
  rw [Nat.add_mod, m1, Nat.mod_eq_of_lt (Nat.lt_of_lt_of_le hb' (pow_le hk)), Nat.mod_eq_of_lt m2]
theorem twin_shl_eq (V k : Nat) (h : V < 2 ^ 128) (hk : k ≤ 128) :
    twin_shl.f (TH V) (TL V) (k : Int) = some (TH (V * 2 ^ k % 2 ^ 128), TL (V * 2 ^ k % 2 ^ 128)) := by
  unfold twin_shl.f
  have hT : V / 18446744073709551616 < 18446744073709551616 := by rw [p128] at h; omega
  have hL : V % 18446744073709551616 < 18446744073709551616 := by omega
  by_cases h64 : 64 ≤ k
  · rw [if_pos (by omega), w64 (by omega) (by omega), if_pos (by omega)]
    have e : ((k : Int) - 64) = ((k - 64 : Nat) : Int) := by omega
    rw [e]
    unfold TL TH
    rw [shl_nat _ _ (by omega)]
    have s : (2 : Nat) ^ k = 2 ^ 64 * 2 ^ (k - 64) := by rw [← Nat.pow_add]; congr 1; omega
    have g : V * 2 ^ k = V * 2 ^ (k - 64) * 18446744073709551616 := by rw [s, p64]; grind
    have g1 : V % 18446744073709551616 * 2 ^ (k - 64) % 18446744073709551616 = V * 2 ^ k % 2 ^ 128 / 18446744073709551616 := by
      rw [p128, mod128_hi, g, Nat.mul_div_cancel _ (by decide), Nat.mod_mul_mod]
    have g2 : V * 2 ^ k % 2 ^ 128 % 18446744073709551616 = 0 := by rw [g, p128]; omega
    rw [g1, g2]
    rfl
  · rw [if_neg (by omega), if_pos (by omega), w64 (by omega) (by omega), if_pos (by omega)]
    have e : (64 - (k : Int)) = ((64 - k : Nat) : Int) := by omega
    rw [e]
    unfold TL TH
    rw [shl_nat _ _ (by omega), shl_nat _ _ (by omega), shr_nat _ _ (by omega)]
    have hh := shl_hi V k h (by omega)
    have p2 := two_pos (64 - k)
    have s := pow_split (show k ≤ 64 by omega)
    rw [or_add _ _ k (Nat.mod_lt _ (by decide)) ?_ ?_ ?_]
    · congr 3
      · rw [← p64, hh]
      · rw [Nat.mod_mul_mod, p128]; omega
    · rw [← p64, ← s, Nat.mod_mul_right_mod, Nat.mul_mod_left]
    · rw [Nat.div_lt_iff_lt_mul p2, s, p64]; exact hL
    · exact Nat.lt_of_le_of_lt (Nat.div_le_self _ _) hL
theorem shr_lo (V k : Nat) (hk : k ≤ 64) : V / 2 ^ k % 2 ^ 64 = V % 2 ^ 64 / 2 ^ k + V / 2 ^ 64 * 2 ^ (64 - k) % 2 ^ 64 := by
  have s := pow_split hk
  have p1 := two_pos k
  have p2 := two_pos (64 - k)
  generalize hq : V / 2 ^ 64 = q
  generalize hr : V % 2 ^ 64 = r
  have hV : V = q * 2 ^ 64 + r := by subst hq hr; have := Nat.div_add_mod V (2^64); omega
  have hr' : r < 2 ^ 64 := by subst hr; exact Nat.mod_lt _ (two_pos 64)
  have e : V / 2 ^ k = r / 2 ^ k + q * 2 ^ (64 - k) := by
    rw [hV, ← s, show q * (2 ^ k * 2 ^ (64 - k)) + r = r + q * 2 ^ (64 - k) * 2 ^ k by grind, Nat.add_mul_div_right _ _ p1]
  have hb : r / 2 ^ k < 2 ^ (64 - k) := by rw [Nat.div_lt_iff_lt_mul p1, Nat.mul_comm, s]; exact hr'
  have m1 : q * 2 ^ (64 - k) % 2 ^ 64 = q % 2 ^ k * 2 ^ (64 - k) := by
    rw [← s, Nat.mul_mod_mul_right]
  have m2 : r / 2 ^ k + q % 2 ^ k * 2 ^ (64 - k) < 2 ^ 64 := by
    have : q % 2 ^ k + 1 ≤ 2 ^ k := Nat.mod_lt _ p1
    have := Nat.mul_le_mul_right (2 ^ (64 - k)) this
    rw [s, Nat.add_mul] at this
    omega
  rw [e, Nat.add_mod, m1, Nat.mod_eq_of_lt (Nat.lt_of_lt_of_le hb (pow_le (by omega))), Nat.mod_eq_of_lt m2]
theorem twin_shr_eq (V k : Nat) (h : V < 2 ^ 128) (hk : k ≤ 128) :
    twin_shr.f (TH V) (TL V) (k : Int) = some (TH (V / 2 ^ k), TL (V / 2 ^ k)) := by
  unfold twin_shr.f
  have hT : V / 18446744073709551616 < 18446744073709551616 := by rw [p128] at h; omega
  have hL : V % 18446744073709551616 < 18446744073709551616 := by omega
  by_cases h64 : 64 ≤ k
  · rw [if_pos (by omega), w64 (by omega) (by omega), if_pos (by omega)]
    have e : ((k : Int) - 64) = ((k - 64 : Nat) : Int) := by omega
    rw [e]
    unfold TL TH
    rw [shr_nat _ _ (by omega)]
    have s : (2 : Nat) ^ k = 2 ^ 64 * 2 ^ (k - 64) := by rw [← Nat.pow_add]; congr 1; omega
    have lt : V / 2 ^ k < 2 ^ 64 := by
      rw [s, ← Nat.div_div_eq_div_mul, p64]
      exact Nat.lt_of_le_of_lt (Nat.div_le_self _ _) hT
    rw [Nat.div_eq_of_lt (show V / 2 ^ k < 18446744073709551616 by rw [← p64]; exact lt), Nat.mod_eq_of_lt (show V / 2 ^ k < 18446744073709551616 by rw [← p64]; exact lt), s, ← Nat.div_div_eq_div_mul, p64]
    rfl
  · rw [if_neg (by omega), if_pos (by omega), w64 (by omega) (by omega), if_pos (by omega)]
    have e : (64 - (k : Int)) = ((64 - k : Nat) : Int) := by omega
    rw [e]
    unfold TL TH
    rw [shr_nat _ _ (by omega), shr_nat _ _ (by omega), shl_nat _ _ (by omega)]
    have hh := shr_lo V k (by omega)
    have p1 := two_pos k
    have s := pow_split (show k ≤ 64 by omega)
    have hs : V % 18446744073709551616 / 2 ^ k < 2 ^ (64 - k) := by rw [Nat.div_lt_iff_lt_mul p1, Nat.mul_comm, s, p64]; exact hL
    have oc : Go.bits .or .u64 ((V % 18446744073709551616 / 2 ^ k : Nat) : Int) ((V / 18446744073709551616 * 2 ^ (64 - k) % 18446744073709551616 : Nat) : Int) = ((V % 18446744073709551616 / 2 ^ k + V / 18446744073709551616 * 2 ^ (64 - k) % 18446744073709551616 : Nat) : Int) := by
      rw [or_nat _ _ (Nat.lt_of_le_of_lt (Nat.div_le_self _ _) hL) (Nat.mod_lt _ (by decide)), Nat.or_comm]
      have e2 : V / 18446744073709551616 * 2 ^ (64 - k) % 18446744073709551616 = V / 18446744073709551616 % 2 ^ k * 2 ^ (64 - k) := by
        rw [← p64, ← s, Nat.mul_mod_mul_right]
      rw [e2, or_parts hs, Nat.add_comm]
    have g1 : V / 18446744073709551616 / 2 ^ k = V / 2 ^ k / 18446744073709551616 := by rw [Nat.div_div_eq_div_mul, Nat.div_div_eq_div_mul, Nat.mul_comm]
    rw [oc, g1, ← p64, hh]
theorem twin_Len_eq (V : Nat) (h : V < 2 ^ 128) : twin_Len.f (TH V) (TL V) = some ((bl V : Nat) : Int) := by
  unfold twin_Len.f bits_Len64.f TH TL
  have hT : V / 18446744073709551616 < 18446744073709551616 := by rw [p128] at h; omega
  have hL : V % 18446744073709551616 < 18446744073709551616 := by omega
  have c1 := bl_le_of_lt h
  by_cases h0 : 0 < V / 18446744073709551616
  · rw [if_pos (by omega), if_pos ⟨by omega, by omega⟩]
    simp only [Option.bind_some]
    have e : Lib.bitLen (V / 18446744073709551616) = bl (V / 18446744073709551616) := bitLen_bl (by rw [p64]; exact hT)
    have c2 := bl_le_of_lt (show V / 18446744073709551616 < 2 ^ 64 by rw [p64]; exact hT)
    have a := bl_lt (V / 18446744073709551616)
    have b := bl_le h0
    have c := bl_pos h0
    have l : bl V = 64 + bl (V / 18446744073709551616) := by
      refine bl_unique (by omega) ?_ ?_
      · rw [show 64 + bl (V / 18446744073709551616) - 1 = 64 + (bl (V / 18446744073709551616) - 1) by omega, Nat.pow_add, p64]
        have := Nat.div_mul_le_self V 18446744073709551616
        have := Nat.mul_le_mul_left 18446744073709551616 b
        omega
      · rw [Nat.pow_add, p64]
        have e := Nat.div_add_mod V 18446744073709551616
        have := Nat.mul_le_mul_left 18446744073709551616 a
        omega
    rw [Int.toNat_natCast, e, w64 (by omega) (by omega), l]
    congr 1
  · rw [if_neg (by omega), if_pos ⟨by omega, by omega⟩]
    simp only [Option.bind_some]
    rw [Int.toNat_natCast, bitLen_bl (by rw [p64]; exact hL)]
    have : V % 18446744073709551616 = V := by omega
    rw [this]
theorem twin_Shl_eq (V k : Nat) (h : V < 2 ^ 128) (hk : k ≤ 128) :
    twin_Shl.f (TH V) (TL V) (k : Int) = some (TH (V * 2 ^ k % 2 ^ 128), TL (V * 2 ^ k % 2 ^ 128), decide (128 < bl V + k), none) := by
  unfold twin_Shl.f
  rw [if_neg (by omega)]
  have e : mn (k : Int) 128 = k := by unfold mn; rw [if_neg (by omega)]
  rw [e, twin_shl_eq V k h hk]
  simp only [Option.bind_some]
  rw [twin_Len_eq V h]
  simp only [Option.bind_some]
  have c1 := bl_le_of_lt h
  rw [w64 (by omega) (by omega)]
  congr 4
  rw [decide_eq_decide]
  omega
theorem twin_Shr_eq (V k : Nat) (h : V < 2 ^ 128) (hk : k ≤ 128) :
    twin_Shr.f (TH V) (TL V) (k : Int) = some (TH (V / 2 ^ k), TL (V / 2 ^ k), decide (V % 2 ^ k ≠ 0), none) := by
  unfold twin_Shr.f
  rw [if_neg (by omega)]
  have e : mn (k : Int) 128 = k := by unfold mn; rw [if_neg (by omega)]
  rw [e, twin_shr_eq V k h hk]
  simp only [Option.bind_some]
  have h2 : V / 2 ^ k < 2 ^ 128 := Nat.lt_of_le_of_lt (Nat.div_le_self _ _) h
  rw [twin_shl_eq _ k h2 hk]
  simp only [Option.bind_some]
  have hm : V / 2 ^ k * 2 ^ k % 2 ^ 128 = V / 2 ^ k * 2 ^ k := Nat.mod_eq_of_lt (Nat.lt_of_le_of_lt (Nat.div_mul_le_self _ _) h)
  rw [hm]
  have hd := Nat.div_add_mod V (2 ^ k)
  rw [Nat.mul_comm] at hd
  have key : (!(TH (V / 2 ^ k * 2 ^ k) == TH V) || !(TL (V / 2 ^ k * 2 ^ k) == TL V)) = decide (V % 2 ^ k ≠ 0) := by
    by_cases hz : V % 2 ^ k = 0
    · have : V / 2 ^ k * 2 ^ k = V := by omega
      rw [this]; simp [hz]
    · have : V / 2 ^ k * 2 ^ k ≠ V := by omega
      have hne : ¬ (TH (V / 2 ^ k * 2 ^ k) = TH V ∧ TL (V / 2 ^ k * 2 ^ k) = TL V) := fun ⟨h1, h2⟩ => this (T_eq h1 h2)
      rw [decide_eq_true hz]
      by_cases h1 : TH (V / 2 ^ k * 2 ^ k) = TH V
      · have h2 : TL (V / 2 ^ k * 2 ^ k) ≠ TL V := fun h2 => hne ⟨h1, h2⟩
        simp [h1, h2]
      · simp [h1]
  rw [key]
end Go.Proofs.Ytfegofnplcmacaa.V
namespace Go.Proofs.Ytfegofnplcmacaa.PAll
open Go.RowKit Go.Proofs.YtfegofnplcmacaaW.PrintWords Go.Proofs.YtfegofnplcmacaaW.PrintLast Go.Proofs.YtfegofnplcmacaaW.PrintMore
attribute [local go_sem] max2_int min2_int max_two min_two max_three min_three max_four min_four
set_option linter.unusedVariables false
set_option linter.unusedSimpArgs false
attribute [local go_sem high] eqA64
def round_Make.j0 : Nat → Bool → Int → Int → Int → Bool → Bool → Option (Int × Bool × Int × Int × Int × Bool × Option Int)
  | 0, _, _, _, _, _, _ => none
  | k + 1, x0, x1, x2, x3, x4, x19 => if x19 = true then (some (0, false, 0, 0, 0, false, some 1)) else ((twin_Norm.f x1 x2).bind fun bt320 => (if (bt320.1 == 0 && (bt320.2.1 == 0)) = true then (some (0, false, 0, 0, 0, false, none)) else ((round_held.f (wrap64 ((wrap64 ((mx (-4398046511104) (mn x3 4398046511104)) + 127)) - bt320.2.2))).bind fun t324 => (some (1, x0, t324, bt320.1, bt320.2.1, x4, none)))))
def round_Make.f (k : Nat) (a0 : Bool) (a1 : Int) (a2 : Int) (a3 : Int) (a4 : Bool) : Option (Int × Bool × Int × Int × Int × Bool × Option Int) := if a4 = true then (round_Make.j0 k a0 a1 a2 a3 a4 ((a1 / 9223372036854775808) == 0)) else (round_Make.j0 k a0 a1 a2 a3 a4 false)
theorem round_Make.mono_l : ∀ k, (∀ y0 y1 y2 y3 y4 y5, LeO (round_Make.j0 k y0 y1 y2 y3 y4 y5) (round_Make.j0 (k + 1) y0 y1 y2 y3 y4 y5))
  | 0 => fun _ _ _ _ _ _ r h => by simp [round_Make.j0] at h
  | k + 1 => by
    have ih0 := round_Make.mono_l k
    · intro y0 y1 y2 y3 y4 y5
      unfold round_Make.j0
      repeat' first
      | (with_reducible exact ih0 _ _ _ _ _ _)
      | (with_reducible exact LeO.refl _)
      | (with_reducible exact LeO.none _)
      | (with_reducible refine LeO.ite ?_ ?_)
      | (with_reducible refine LeO.bind ?_ (fun _ => ?_))
      | exact ih0 _ _ _ _ _ _
      | exact LeO.none _
      | refine LeO.ite ?_ ?_
      | refine LeO.bind ?_ (fun _ => ?_)
theorem round_Make.mono : ∀ a0 a1 a2 a3 a4 k, LeO (round_Make.f k a0 a1 a2 a3 a4) (round_Make.f (k + 1) a0 a1 a2 a3 a4) := by
  intro a0 a1 a2 a3 a4 k
  have ih0 := round_Make.mono_l k
  unfold round_Make.f
  repeat' first
      | (with_reducible exact ih0 _ _ _ _ _ _)
      | (with_reducible exact LeO.refl _)
      | (with_reducible exact LeO.none _)
      | (with_reducible refine LeO.ite ?_ ?_)
      | (with_reducible refine LeO.bind ?_ (fun _ => ?_))
      | exact ih0 _ _ _ _ _ _
      | exact LeO.none _
      | refine LeO.ite ?_ ?_
      | refine LeO.bind ?_ (fun _ => ?_)
def round_Make.T7 : Bool × List (List Nat × List Nat) := (true, [([], []), ([], []), ([1], [1]), ([], []), ([2, 3], [2, 3]), ([4], [4]), ([], []), ([6], [6]), ([], []), ([8], [8]), ([], []), ([0, 5, 7, 9, 10], [0, 5, 7, 9, 10]), ([11, 5, 0, 1, 2, 3, 4, 5, 6, 7, 8, 9, 10, 11], [11]), ([12, 0, 1, 2, 3, 4, 5, 6, 7, 8, 9, 10, 11, 12], [])])
def round_Make.B7 : List Nat := [0, 0, 2, 0, 14, 30, 0, 64, 0, 256, 0, 2047, 4095, 8191]
theorem round_Make.tab7 : rtab .any (opsOf Try.f22 7) = round_Make.T7 := by kernel_rfl
theorem round_Make.bits7 : waitsOk round_Make.T7.2 round_Make.B7 = true := by kernel_rfl
set_option maxHeartbeats 8000000 in
set_option maxRecDepth 100000 in
theorem round_Make.calls (k : Nat) (a0 : Bool) (a1 : Int) (a2 : Int) (a3 : Int) (a4 : Bool) (r1 : Int) (r2 : Bool) (r3 : Int) (r4 : Int) (r5 : Int) (r6 : Bool) (r7 : Option Int) (w : World) (h : round_Make.f k a0 a1 a2 a3 a4 = some (r1, r2, r3, r4, r5, r6, r7)) :
    Calls Try.prog 22 #[.bool a0, .int .u64 a1, .int .u64 a2, .int .i64 a3, .bool a4] w fun e w' => e = .returned (.tuple #[.agg #[.int .i64 r1, .bool r2, .int .i64 r3, .int .u64 r4, .int .u64 r5, .bool r6], errW r7]) ∧ Below w.heap.size w w' := by
  have hu24 := Try.underlying24
  have hu64 := Try.underlying64
  have hu27 := Try.underlying27
  have hu55 := Try.underlying55
  have HB := Aside0.mk (Below.refl w.heap.size w)
  have H : (if a4 = true then (round_Make.j0 k a0 a1 a2 a3 a4 ((a1 / 9223372036854775808) == 0)) else (round_Make.j0 k a0 a1 a2 a3 a4 false)) = some (r1, r2, r3, r4, r5, r6, r7) := h
  clear h
  have HC6 := Aside0.mk H
  clear H
  go_enter Try.func22, Try.ntmps22
  go_upto_region 1 with (first | ((with_reducible refine gate_dst (N := 10) rfl ?_); refine box_event ?hg (N := 10) ?hd (cs := #[.int .i64 0, .bool false, .int .i64 0, .int .u64 0, .int .u64 0, .bool false]) (t := 24) ?hr ?_; (case hd => rfl); (case hg => rfl); (case hr => first | (go_simp; done) | (go_simp; rfl)); intro gb319 hg w7 hbox hb; have n0_ := Aside0.mk (below_step (by repeat (first | (with_reducible first | exact HB.out | apply below_alloc | apply pw_below_drewN | apply below_drew1) | exact HB.out)) hb); have n1_ := Aside0.mk (hbox); have n2_ := Aside0.mk ((by rw [hg]; exact (below_size (by repeat (first | (with_reducible first | exact HB.out | apply below_alloc | apply pw_below_drewN | apply below_drew1) | exact HB.out))) : w.heap.size ≤ gb319)); have n3_ := Aside0.mk ((by rw [hg]; exact (below_size (by repeat (first | (with_reducible first | exact HB.out | apply below_alloc | apply pw_below_drewN | apply below_drew1) | exact HB.out))) : w.heap.size ≤ gb319)); clear HB; have HB := n0_; have BK319 := n1_; have GW319 := n2_; have GE319 := n3_; clear n0_ n1_ n2_ n3_; clear hb hbox hg))
  (try simp only [Act.put, List.setIfInBounds_toArray, List.set_cons_zero, List.set_cons_succ])
  go_cut [19] (fun v19 wc => ∃ (kq : Nat) (x19_5 : Bool), v19 = .bool x19_5 ∧ Aside0 (round_Make.j0 kq a0 a1 a2 a3 a4 x19_5 = some (r1, r2, r3, r4, r5, r6, r7)) ∧ Aside0 (kq ≤ k) ∧ Aside0 (wc.heap[gb319]? = some (.cells #[.int .i64 0, .bool false, .int .i64 0, .int .u64 0, .int .u64 0, .bool false] 24 (0, 0))) ∧ Aside0 (Below w.heap.size w wc))
  case first =>
    have H := HC6.out
    clear HC6
    by_cases c8 : a4 = true
    · subst c8
      have H1 : (round_Make.j0 k a0 a1 a2 a3 true ((a1 / 9223372036854775808) == 0)) = some (r1, r2, r3, r4, r5, r6, r7) := by rw [if_pos rfl] at H; exact H
      clear H
      have H := H1
      clear H1
      have H' := Aside0.mk H
      clear H
      go_wp2
      go_meet
      case rel => exact ⟨_, (((a1 / 9223372036854775808) == 0)), (by first | rfl | (simp; done) | (simp [*]; done)), H', ⟨by first | omega | exact Nat.le_refl _⟩, ⟨by (with_reducible repeat (first | refine blk_drewN ?_ _ | refine blk_drew ?_ | refine blk_alloc ?_ _)); exact BK319.out⟩, ⟨by repeat (first | (with_reducible first | exact HB.out | apply below_alloc | apply pw_below_drewN | apply below_drew1 | refine below_set ?_ GE319.out) | exact HB.out)⟩⟩
    · replace c8 := Bool.eq_false_iff.mpr c8
      subst c8
      have H1 : (round_Make.j0 k a0 a1 a2 a3 false false) = some (r1, r2, r3, r4, r5, r6, r7) := by rw [if_neg (show ¬ (false = true) by decide)] at H; exact H
      clear H
      have H := H1
      clear H1
      have H' := Aside0.mk H
      clear H
      go_wp2
      go_meet
      case rel => exact ⟨_, (false), (by first | rfl | (simp; done) | (simp [*]; done)), H', ⟨by first | omega | exact Nat.le_refl _⟩, ⟨by (with_reducible repeat (first | refine blk_drewN ?_ _ | refine blk_drew ?_ | refine blk_alloc ?_ _)); exact BK319.out⟩, ⟨by repeat (first | (with_reducible first | exact HB.out | apply below_alloc | apply pw_below_drewN | apply below_drew1 | refine below_set ?_ GE319.out) | exact HB.out)⟩⟩
  case rest =>
    clear HC6
    try clear c2
    try clear p2
    try clear c8
    obtain ⟨kq, x19_5, rfl, HA, HJ5, BK319, HB⟩ := hcut
    cases kq with
    | zero => exact absurd HA.out (by simp [round_Make.j0])
    | succ kj5 =>
      have H := HA.out
      clear HA
      simp only [round_Make.j0] at H
      by_cases c9 : x19_5 = true
      · subst c9
        have H1 : (some (0, false, 0, 0, 0, false, some 1)) = some (r1, r2, r3, r4, r5, r6, r7) := by rw [if_pos rfl] at H; exact H
        clear H
        have H := H1
        clear H1
        simp only [Option.some.injEq, Prod.mk.injEq] at H
        obtain ⟨rfl, rfl, rfl, rfl, rfl, rfl, rfl⟩ := H
        have hcz10_0 : wc.cell? ⟨gb319, 0, none⟩ = some (.int .i64 0) := (blk_cell BK319.out 0).trans rfl
        have hcz10_1 : wc.cell? ⟨gb319, 1, none⟩ = some (.bool false) := (blk_cell BK319.out 1).trans rfl
        have hcz10_2 : wc.cell? ⟨gb319, 2, none⟩ = some (.int .i64 0) := (blk_cell BK319.out 2).trans rfl
        have hcz10_3 : wc.cell? ⟨gb319, 3, none⟩ = some (.int .u64 0) := (blk_cell BK319.out 3).trans rfl
        have hcz10_4 : wc.cell? ⟨gb319, 4, none⟩ = some (.int .u64 0) := (blk_cell BK319.out 4).trans rfl
        have hcz10_5 : wc.cell? ⟨gb319, 5, none⟩ = some (.bool false) := (blk_cell BK319.out 5).trans rfl
        have hfz10_0 := blk_frozen BK319.out 0
        have hfz10_1 := blk_frozen BK319.out 1
        have hfz10_2 := blk_frozen BK319.out 2
        have hfz10_3 := blk_frozen BK319.out 3
        have hfz10_4 := blk_frozen BK319.out 4
        have hfz10_5 := blk_frozen BK319.out 5
        go_wp2
        refine bodyPost_ret (results_ct rfl _ _ gb319 24 #[.int .i64 0, .bool false, .int .i64 0, .int .u64 0, .int .u64 0, .bool false] (0, 0) _ rfl (by (with_reducible repeat (first | refine blk_drewN ?_ _ | refine blk_drew ?_ | refine blk_alloc ?_ _)); refine blk_put (cs := #[.int .i64 0, .bool false, .int .i64 0, .int .u64 0, .int .u64 0, .bool false]) ?_ 5 _ rfl; (with_reducible repeat (first | refine blk_drewN ?_ _ | refine blk_drew ?_ | refine blk_alloc ?_ _)); refine blk_put (cs := #[.int .i64 0, .bool false, .int .i64 0, .int .u64 0, .int .u64 0, .bool false]) ?_ 4 _ rfl; (with_reducible repeat (first | refine blk_drewN ?_ _ | refine blk_drew ?_ | refine blk_alloc ?_ _)); refine blk_put (cs := #[.int .i64 0, .bool false, .int .i64 0, .int .u64 0, .int .u64 0, .bool false]) ?_ 3 _ rfl; (with_reducible repeat (first | refine blk_drewN ?_ _ | refine blk_drew ?_ | refine blk_alloc ?_ _)); refine blk_put (cs := #[.int .i64 0, .bool false, .int .i64 0, .int .u64 0, .int .u64 0, .bool false]) ?_ 2 _ rfl; (with_reducible repeat (first | refine blk_drewN ?_ _ | refine blk_drew ?_ | refine blk_alloc ?_ _)); refine blk_put (cs := #[.int .i64 0, .bool false, .int .i64 0, .int .u64 0, .int .u64 0, .bool false]) ?_ 1 _ rfl; (with_reducible repeat (first | refine blk_drewN ?_ _ | refine blk_drew ?_ | refine blk_alloc ?_ _)); refine blk_put (cs := #[.int .i64 0, .bool false, .int .i64 0, .int .u64 0, .int .u64 0, .bool false]) ?_ 0 _ rfl; (with_reducible repeat (first | refine blk_drewN ?_ _ | refine blk_drew ?_ | refine blk_alloc ?_ _)); exact BK319.out) Try.underlying24 rfl (by kernel_rfl)) rfl ?_
        exact ⟨by first | rfl | (simp [errW_none, errW_some] <;> rfl) | (simp [*, errW_none, errW_some] <;> rfl), by repeat (first | (with_reducible first | exact HB.out | apply below_alloc | apply pw_below_drewN | apply below_drew1 | refine below_set ?_ GE319.out) | exact HB.out)⟩
      · replace c9 := Bool.eq_false_iff.mpr c9
        subst c9
        have H1 : ((twin_Norm.f a1 a2).bind fun bt320 => (if (bt320.1 == 0 && (bt320.2.1 == 0)) = true then (some (0, false, 0, 0, 0, false, none)) else ((round_held.f (wrap64 ((wrap64 ((mx (-4398046511104) (mn a3 4398046511104)) + 127)) - bt320.2.2))).bind fun t324 => (some (1, a0, t324, bt320.1, bt320.2.1, a4, none))))) = some (r1, r2, r3, r4, r5, r6, r7) := by rw [if_neg (show ¬ (false = true) by decide)] at H; exact H
        clear H
        have H := H1
        clear H1
        replace H := Option.bind_eq_some_iff.mp H
        obtain ⟨⟨t320, t321, t322⟩, A110, H⟩ := H
        replace H : (if (t320 == 0 && (t321 == 0)) = true then (some (0, false, 0, 0, 0, false, none)) else ((round_held.f (wrap64 ((wrap64 ((mx (-4398046511104) (mn a3 4398046511104)) + 127)) - t322))).bind fun t324 => (some (1, a0, t324, t320, t321, a4, none)))) = some (r1, r2, r3, r4, r5, r6, r7) := H
        have A11 := Aside0.mk A110
        clear A110
        by_cases c12 : (t320 == 0 && (t321 == 0)) = true
        · rw [if_pos c12] at H
          have c12b0 : (t320 == 0 && (t321 == 0)) = true := c12
          (try (have c12b1 : decide (t320 = 0 && (t321 == 0)) = true := by simpa using c12))
          (try (have c12b2 : (t320 == 0 && (t321 == 0)) = true := by simpa using c12))
          clear c12
          simp only [Option.some.injEq, Prod.mk.injEq] at H
          obtain ⟨rfl, rfl, rfl, rfl, rfl, rfl, rfl⟩ := H
          go_wp2_with (first | ((with_reducible refine gate_callee (f := 43) rfl ?_); refine goesL_ (some 26) rfl rfl Try.func43 (by kernel_rfl) rfl #[.agg #[.int .u64 a1, .int .u64 a2]] rfl (by (try simp only [List.map_toArray, List.map_cons, List.map_nil]); first | done | rfl | (simp only [List.length_drop, List.length_take]; rfl)) ?_; (with_reducible refine (twin_Norm.calls a1 a2 t320 t321 t322 _ A11.out).mono ?_); rintro e w13 ⟨rfl, hb⟩; refine ⟨_, rfl, ?_⟩; have n0_ := Aside0.mk (blk_below (g := gb319) (o := .cells #[.int .i64 0, .bool false, .int .i64 0, .int .u64 0, .int .u64 0, .bool false] 24 (0, 0)) (by (with_reducible repeat (first | refine blk_drewN ?_ _ | refine blk_drew ?_ | refine blk_alloc ?_ _)); exact BK319.out) hb); have n1_ := Aside0.mk (below_step (by repeat (first | (with_reducible first | exact HB.out | apply below_alloc | apply pw_below_drewN | apply below_drew1 | refine below_set ?_ GE319.out) | exact HB.out)) hb); clear BK319; clear HB; have BK319 := n0_; have HB := n1_; clear n0_ n1_; (try clear hb); (try clear hb2); (try clear hk); (try clear hi)) | ((with_reducible refine gate_dst (N := 12) rfl ?_); refine box_event ?hg (N := 12) ?hd (cs := #[.int .u64 0, .int .u64 0]) (t := 64) ?hr ?_; (case hd => rfl); (case hg => rfl); (case hr => first | (go_simp; done) | (go_simp; rfl)); intro gb323 hg w14 hbox hb; have n0_ := Aside0.mk (blk_below (g := gb319) (o := .cells #[.int .i64 0, .bool false, .int .i64 0, .int .u64 0, .int .u64 0, .bool false] 24 (0, 0)) (by (with_reducible repeat (first | refine blk_drewN ?_ _ | refine blk_drew ?_ | refine blk_alloc ?_ _)); exact BK319.out) hb); have n1_ := Aside0.mk (below_step (by repeat (first | (with_reducible first | exact HB.out | apply below_alloc | apply pw_below_drewN | apply below_drew1 | refine below_set ?_ GE319.out) | exact HB.out)) hb); have n2_ := Aside0.mk (hbox); have n3_ := Aside0.mk ((by rw [hg]; exact (below_size (by repeat (first | (with_reducible first | exact HB.out | apply below_alloc | apply pw_below_drewN | apply below_drew1 | refine below_set ?_ GE319.out) | exact HB.out))) : w.heap.size ≤ gb323)); have n4_ := Aside0.mk ((by rw [hg]; exact (below_size (by repeat (first | (with_reducible first | exact HB.out | apply below_alloc | apply pw_below_drewN | apply below_drew1 | refine below_set ?_ GE319.out) | exact HB.out))) : w.heap.size ≤ gb323)); have n5_ := Aside0.mk ((by rw [hg]; exact Nat.ne_of_lt (blk_lt (g := gb319) (o := .cells #[.int .i64 0, .bool false, .int .i64 0, .int .u64 0, .int .u64 0, .bool false] 24 (0, 0)) (by (with_reducible repeat (first | refine blk_drewN ?_ _ | refine blk_drew ?_ | refine blk_alloc ?_ _)); exact BK319.out)) : gb319 ≠ gb323)); have n6_ := Aside0.mk ((by rw [hg]; exact Nat.ne_of_gt (blk_lt (g := gb319) (o := .cells #[.int .i64 0, .bool false, .int .i64 0, .int .u64 0, .int .u64 0, .bool false] 24 (0, 0)) (by (with_reducible repeat (first | refine blk_drewN ?_ _ | refine blk_drew ?_ | refine blk_alloc ?_ _)); exact BK319.out)) : gb323 ≠ gb319)); clear BK319; clear HB; have BK319 := n0_; have HB := n1_; have BK323 := n2_; have GW323 := n3_; have GE323 := n4_; have NB319_323 := n5_; have NB323_319 := n6_; clear n0_ n1_ n2_ n3_ n4_ n5_ n6_; clear hb hbox hg; have hnb15 := NB323_319.out; have hnc15 := NB319_323.out; have hcz16_0 : w14.cell? ⟨gb323, 0, none⟩ = some (.int .u64 0) := (blk_cell BK323.out 0).trans rfl; have hcz16_1 : w14.cell? ⟨gb323, 1, none⟩ = some (.int .u64 0) := (blk_cell BK323.out 1).trans rfl; have hfz16_0 := blk_frozen BK323.out 0; have hfz16_1 := blk_frozen BK323.out 1; have hcz17_0 : w14.cell? ⟨gb319, 0, none⟩ = some (.int .i64 0) := (blk_cell BK319.out 0).trans rfl; have hcz17_1 : w14.cell? ⟨gb319, 1, none⟩ = some (.bool false) := (blk_cell BK319.out 1).trans rfl; have hcz17_2 : w14.cell? ⟨gb319, 2, none⟩ = some (.int .i64 0) := (blk_cell BK319.out 2).trans rfl; have hcz17_3 : w14.cell? ⟨gb319, 3, none⟩ = some (.int .u64 0) := (blk_cell BK319.out 3).trans rfl; have hcz17_4 : w14.cell? ⟨gb319, 4, none⟩ = some (.int .u64 0) := (blk_cell BK319.out 4).trans rfl; have hcz17_5 : w14.cell? ⟨gb319, 5, none⟩ = some (.bool false) := (blk_cell BK319.out 5).trans rfl; have hfz17_0 := blk_frozen BK319.out 0; have hfz17_1 := blk_frozen BK319.out 1; have hfz17_2 := blk_frozen BK319.out 2; have hfz17_3 := blk_frozen BK319.out 3; have hfz17_4 := blk_frozen BK319.out 4; have hfz17_5 := blk_frozen BK319.out 5))
          refine bodyPost_ret (results_ct rfl _ _ gb319 24 #[.int .i64 0, .bool false, .int .i64 0, .int .u64 0, .int .u64 0, .bool false] (0, 0) _ rfl (by (with_reducible repeat (first | refine blk_drewN ?_ _ | refine blk_drew ?_ | refine blk_alloc ?_ _)); refine blk_put (cs := #[.int .i64 0, .bool false, .int .i64 0, .int .u64 0, .int .u64 0, .bool false]) ?_ 5 _ rfl; (with_reducible repeat (first | refine blk_drewN ?_ _ | refine blk_drew ?_ | refine blk_alloc ?_ _)); refine blk_put (cs := #[.int .i64 0, .bool false, .int .i64 0, .int .u64 0, .int .u64 0, .bool false]) ?_ 4 _ rfl; (with_reducible repeat (first | refine blk_drewN ?_ _ | refine blk_drew ?_ | refine blk_alloc ?_ _)); refine blk_put (cs := #[.int .i64 0, .bool false, .int .i64 0, .int .u64 0, .int .u64 0, .bool false]) ?_ 3 _ rfl; (with_reducible repeat (first | refine blk_drewN ?_ _ | refine blk_drew ?_ | refine blk_alloc ?_ _)); refine blk_put (cs := #[.int .i64 0, .bool false, .int .i64 0, .int .u64 0, .int .u64 0, .bool false]) ?_ 2 _ rfl; (with_reducible repeat (first | refine blk_drewN ?_ _ | refine blk_drew ?_ | refine blk_alloc ?_ _)); refine blk_put (cs := #[.int .i64 0, .bool false, .int .i64 0, .int .u64 0, .int .u64 0, .bool false]) ?_ 1 _ rfl; (with_reducible repeat (first | refine blk_drewN ?_ _ | refine blk_drew ?_ | refine blk_alloc ?_ _)); refine blk_put (cs := #[.int .i64 0, .bool false, .int .i64 0, .int .u64 0, .int .u64 0, .bool false]) ?_ 0 _ rfl; (with_reducible repeat (first | refine blk_drewN ?_ _ | refine blk_drew ?_ | refine blk_alloc ?_ _)); refine blk_far ?_ NB319_323.out _; (with_reducible repeat (first | refine blk_drewN ?_ _ | refine blk_drew ?_ | refine blk_alloc ?_ _)); refine blk_far ?_ NB319_323.out _; (with_reducible repeat (first | refine blk_drewN ?_ _ | refine blk_drew ?_ | refine blk_alloc ?_ _)); exact BK319.out) Try.underlying24 rfl (by kernel_rfl)) rfl ?_
          exact ⟨by first | rfl | (simp [errW_none, errW_some] <;> rfl) | (simp [*, errW_none, errW_some] <;> rfl), by repeat (first | (with_reducible first | exact HB.out | apply below_alloc | apply pw_below_drewN | apply below_drew1 | refine below_set ?_ GE319.out | refine below_set ?_ GE323.out) | exact HB.out)⟩
        · rw [if_neg c12] at H
          have c12b0 : (t320 == 0 && (t321 == 0)) = false := by simpa using c12
          (try (have c12b1 : decide (t320 = 0 && (t321 == 0)) = false := by simpa using c12))
          (try (have c12b2 : (t320 == 0 && (t321 == 0)) = false := by simpa using c12))
          (try (have c12b3 : ¬ (t320 = 0 && (t321 == 0)) := by simpa using c12))
          clear c12
          obtain ⟨ji18, hji18⟩ : ∃ j_ : Int, (mn a3 4398046511104) = j_ := ⟨_, rfl⟩
          replace H : ((round_held.f (wrap64 ((wrap64 ((mx (-4398046511104) (ji18)) + 127)) - t322))).bind fun t324 => (some (1, a0, t324, t320, t321, a4, none))) = some (r1, r2, r3, r4, r5, r6, r7) := by first | (rw [hji18] at H; exact H) | (simp only [hji18] at H ⊢; exact H)
          (try rw [hji18] at A11)
          (try (have hji18h : ji18 ≤ 4398046511104 := by (rw [← hji18]; unfold mn; (repeat' split) <;> omega)))
          (try (have hji18g : ji18 ≤ 64 := by omega))
          have hji18_ : (if 4398046511104 < a3 then 4398046511104 else a3) = ji18 := hji18
          obtain ⟨ji19, hji19⟩ : ∃ j_ : Int, (mx (-4398046511104) (ji18)) = j_ := ⟨_, rfl⟩
          replace H : ((round_held.f (wrap64 ((wrap64 ((ji19) + 127)) - t322))).bind fun t324 => (some (1, a0, t324, t320, t321, a4, none))) = some (r1, r2, r3, r4, r5, r6, r7) := by first | (rw [hji19] at H; exact H) | (simp only [hji19] at H ⊢; exact H)
          (try rw [hji19] at A11)
          (try (have hji19h : ji19 ≤ 4398046511104 := by (rw [← hji19]; unfold mx; (repeat' split) <;> omega)))
          (try (have hji19g : ji19 ≤ 64 := by omega))
          (try (have hji19l : (-4398046511104) ≤ ji19 := by (rw [← hji19]; unfold mx; (repeat' split) <;> omega)))
          have hji19_ : (if (-4398046511104) < (ji18) then (ji18) else (-4398046511104)) = ji19 := hji19
          replace H := Option.bind_eq_some_iff.mp H
          obtain ⟨t324, A200, H⟩ := H
          replace H : (some (1, a0, t324, t320, t321, a4, none)) = some (r1, r2, r3, r4, r5, r6, r7) := H
          have A20 := Aside0.mk A200
          clear A200
          simp only [Option.some.injEq, Prod.mk.injEq] at H
          obtain ⟨rfl, rfl, rfl, rfl, rfl, rfl, rfl⟩ := H
          try go_wp2_with (first | ((with_reducible refine gate_callee (f := 43) rfl ?_); refine goesL_ (some 26) rfl rfl Try.func43 (by kernel_rfl) rfl #[.agg #[.int .u64 a1, .int .u64 a2]] rfl (by (try simp only [List.map_toArray, List.map_cons, List.map_nil]); first | done | rfl | (simp only [List.length_drop, List.length_take]; rfl)) ?_; (with_reducible refine (twin_Norm.calls a1 a2 t320 t321 t322 _ A11.out).mono ?_); rintro e w21 ⟨rfl, hb⟩; refine ⟨_, rfl, ?_⟩; have n0_ := Aside0.mk (blk_below (g := gb319) (o := .cells #[.int .i64 0, .bool false, .int .i64 0, .int .u64 0, .int .u64 0, .bool false] 24 (0, 0)) (by (with_reducible repeat (first | refine blk_drewN ?_ _ | refine blk_drew ?_ | refine blk_alloc ?_ _)); exact BK319.out) hb); have n1_ := Aside0.mk (below_step (by repeat (first | (with_reducible first | exact HB.out | apply below_alloc | apply pw_below_drewN | apply below_drew1 | refine below_set ?_ GE319.out) | exact HB.out)) hb); clear BK319; clear HB; have BK319 := n0_; have HB := n1_; clear n0_ n1_; (try clear hb); (try clear hb2); (try clear hk); (try clear hi)) | ((with_reducible refine gate_dst (N := 12) rfl ?_); refine box_event ?hg (N := 12) ?hd (cs := #[.int .u64 0, .int .u64 0]) (t := 64) ?hr ?_; (case hd => rfl); (case hg => rfl); (case hr => first | (go_simp; done) | (go_simp; rfl)); intro gb323 hg w22 hbox hb; have n0_ := Aside0.mk (blk_below (g := gb319) (o := .cells #[.int .i64 0, .bool false, .int .i64 0, .int .u64 0, .int .u64 0, .bool false] 24 (0, 0)) (by (with_reducible repeat (first | refine blk_drewN ?_ _ | refine blk_drew ?_ | refine blk_alloc ?_ _)); exact BK319.out) hb); have n1_ := Aside0.mk (below_step (by repeat (first | (with_reducible first | exact HB.out | apply below_alloc | apply pw_below_drewN | apply below_drew1 | refine below_set ?_ GE319.out) | exact HB.out)) hb); have n2_ := Aside0.mk (hbox); have n3_ := Aside0.mk ((by rw [hg]; exact (below_size (by repeat (first | (with_reducible first | exact HB.out | apply below_alloc | apply pw_below_drewN | apply below_drew1 | refine below_set ?_ GE319.out) | exact HB.out))) : w.heap.size ≤ gb323)); have n4_ := Aside0.mk ((by rw [hg]; exact (below_size (by repeat (first | (with_reducible first | exact HB.out | apply below_alloc | apply pw_below_drewN | apply below_drew1 | refine below_set ?_ GE319.out) | exact HB.out))) : w.heap.size ≤ gb323)); have n5_ := Aside0.mk ((by rw [hg]; exact Nat.ne_of_lt (blk_lt (g := gb319) (o := .cells #[.int .i64 0, .bool false, .int .i64 0, .int .u64 0, .int .u64 0, .bool false] 24 (0, 0)) (by (with_reducible repeat (first | refine blk_drewN ?_ _ | refine blk_drew ?_ | refine blk_alloc ?_ _)); exact BK319.out)) : gb319 ≠ gb323)); have n6_ := Aside0.mk ((by rw [hg]; exact Nat.ne_of_gt (blk_lt (g := gb319) (o := .cells #[.int .i64 0, .bool false, .int .i64 0, .int .u64 0, .int .u64 0, .bool false] 24 (0, 0)) (by (with_reducible repeat (first | refine blk_drewN ?_ _ | refine blk_drew ?_ | refine blk_alloc ?_ _)); exact BK319.out)) : gb323 ≠ gb319)); clear BK319; clear HB; have BK319 := n0_; have HB := n1_; have BK323 := n2_; have GW323 := n3_; have GE323 := n4_; have NB319_323 := n5_; have NB323_319 := n6_; clear n0_ n1_ n2_ n3_ n4_ n5_ n6_; clear hb hbox hg; have hnb23 := NB323_319.out; have hnc23 := NB319_323.out; have hcz24_0 : w22.cell? ⟨gb323, 0, none⟩ = some (.int .u64 0) := (blk_cell BK323.out 0).trans rfl; have hcz24_1 : w22.cell? ⟨gb323, 1, none⟩ = some (.int .u64 0) := (blk_cell BK323.out 1).trans rfl; have hfz24_0 := blk_frozen BK323.out 0; have hfz24_1 := blk_frozen BK323.out 1))
          have n0_ : Aside0 (((w22.setCell ⟨gb323, 0, none⟩ (.int .u64 t320)).setCell ⟨gb323, 1, none⟩ (.int .u64 t321)).heap[gb319]? = some (.cells #[.int .i64 0, .bool false, .int .i64 0, .int .u64 0, .int .u64 0, .bool false] 24 (0, 0))) := ⟨by (with_reducible repeat (first | refine blk_drewN ?_ _ | refine blk_drew ?_ | refine blk_alloc ?_ _)); refine blk_far ?_ NB319_323.out _; (with_reducible repeat (first | refine blk_drewN ?_ _ | refine blk_drew ?_ | refine blk_alloc ?_ _)); refine blk_far ?_ NB319_323.out _; (with_reducible repeat (first | refine blk_drewN ?_ _ | refine blk_drew ?_ | refine blk_alloc ?_ _)); exact BK319.out⟩
          have n1_ : Aside0 (((w22.setCell ⟨gb323, 0, none⟩ (.int .u64 t320)).setCell ⟨gb323, 1, none⟩ (.int .u64 t321)).heap[gb323]? = some (.cells #[.int .u64 t320, .int .u64 t321] 64 (0, 0))) := ⟨by (with_reducible repeat (first | refine blk_drewN ?_ _ | refine blk_drew ?_ | refine blk_alloc ?_ _)); refine blk_put (cs := #[.int .u64 t320, .int .u64 0]) ?_ 1 _ rfl; (with_reducible repeat (first | refine blk_drewN ?_ _ | refine blk_drew ?_ | refine blk_alloc ?_ _)); refine blk_put (cs := #[.int .u64 0, .int .u64 0]) ?_ 0 _ rfl; (with_reducible repeat (first | refine blk_drewN ?_ _ | refine blk_drew ?_ | refine blk_alloc ?_ _)); exact BK323.out⟩
          have n2_ : Aside0 (Below w.heap.size w ((w22.setCell ⟨gb323, 0, none⟩ (.int .u64 t320)).setCell ⟨gb323, 1, none⟩ (.int .u64 t321))) := ⟨by repeat (first | (with_reducible first | exact HB.out | apply below_alloc | apply pw_below_drewN | apply below_drew1 | refine below_set ?_ GE319.out | refine below_set ?_ GE323.out) | exact HB.out)⟩
          (try clear BK319)
          (try clear BK323)
          (try clear HB)
          generalize ((w22.setCell ⟨gb323, 0, none⟩ (.int .u64 t320)).setCell ⟨gb323, 1, none⟩ (.int .u64 t321)) = w25 at n0_ n1_ n2_ ⊢
          have BK319 := n0_
          have BK323 := n1_
          have HB := n2_
          clear n0_ n1_ n2_
          have n0_ := Aside0.mk (blk_drew BK319.out)
          have n1_ := Aside0.mk (blk_drew BK323.out)
          have n2_ := Aside0.mk (below_drew1 HB.out)
          clear BK319
          clear BK323
          clear HB
          have BK319 := n0_
          have BK323 := n1_
          have HB := n2_
          clear n0_ n1_ n2_
          refine start_ (n := 14) (S := fun w' => w'.cell? ⟨gb323, 0, none⟩ = some (.int .u64 t320) ∧ w'.cell? ⟨gb323, 1, none⟩ = some (.int .u64 t321)) (ds := []) #[false, false, false, false, false, false, false, false, false, false, false, false, false, false] (by kernel_rfl) rfl rfl ⟨(blk_cell BK323.out 0).trans rfl, (blk_cell BK323.out 1).trans rfl⟩ (fun hHeld => ?_); refine with_tabW round_Make.tab7 round_Make.bits7 (fun HT_ HW_ => ?_)
          generalize w25.drew = w26 at BK319 BK323 HB hHeld ⊢
          refine pure_ (i := 0) (N := some 36) (v := ?_) (a' := ?_) #[true, false, false, false, false, false, false, false, false, false, false, false, false, false] rfl rfl (any_of HT_.out (by kernel_rfl)) (fun _ _ _ h => h) (Or.inl ⟨by rfl, ?_⟩) ?_ ?_
          rotate_left
          · intro w'
            go_simp
            with_reducible rfl
          rotate_left
          · simp only [Act.put, List.setIfInBounds_toArray, List.set_cons_zero, List.set_cons_succ, i64_w, i32_w]
            rfl
          refine pure_ (i := 1) (N := some 37) (v := ?_) (a' := ?_) #[true, true, false, false, false, false, false, false, false, false, false, false, false, false] rfl rfl (any_of HT_.out (by kernel_rfl)) (fun _ _ _ h => h) (Or.inl ⟨by rfl, ?_⟩) ?_ ?_
          rotate_left
          · intro w'
            go_simp
            with_reducible rfl
          rotate_left
          · simp only [Act.put, List.setIfInBounds_toArray, List.set_cons_zero, List.set_cons_succ, i64_w, i32_w]
            rfl
          refine pure_ (i := 2) (N := some 38) (v := ?_) (a' := ?_) #[true, true, true, false, false, false, false, false, false, false, false, false, false, false] rfl rfl (any_of HT_.out (by kernel_rfl)) (fun _ _ _ h => h) (Or.inl ⟨by rfl, ?_⟩) ?_ ?_
          rotate_left
          · intro w'
            go_simp
            with_reducible rfl
          rotate_left
          · simp only [Act.put, List.setIfInBounds_toArray, List.set_cons_zero, List.set_cons_succ, i64_w, i32_w]
            rfl
          refine pure_ (i := 3) (N := some 39) (v := ?_) (a' := ?_) #[true, true, true, true, false, false, false, false, false, false, false, false, false, false] rfl rfl (any_of HT_.out (by kernel_rfl)) (fun _ _ _ h => h) (Or.inl ⟨by rfl, ?_⟩) ?_ ?_
          rotate_left
          · intro w'
            go_simp
            with_reducible rfl
          rotate_left
          · simp only [Act.put, List.setIfInBounds_toArray, List.set_cons_zero, List.set_cons_succ, i64_w, i32_w]
            rfl
          refine pure_ (i := 4) (N := some 40) (v := ?_) (a' := ?_) #[true, true, true, true, true, false, false, false, false, false, false, false, false, false] rfl rfl (any_of HT_.out (by kernel_rfl)) (fun _ _ _ h => h) (Or.inl ⟨by rfl, ?_⟩) ?_ ?_
          rotate_left
          · intro w'
            go_simp
            with_reducible rfl
          rotate_left
          · simp only [Act.put, List.setIfInBounds_toArray, List.set_cons_zero, List.set_cons_succ, i64_w, i32_w]
            rfl
          refine pure_ (i := 6) (N := some 42) (v := ?_) (a' := ?_) #[true, true, true, true, true, false, true, false, false, false, false, false, false, false] rfl rfl (any_of HT_.out (by kernel_rfl)) (fun _ _ _ h => h) (Or.inl ⟨by rfl, ?_⟩) ?_ ?_
          rotate_left
          · intro w'
            go_simp
            with_reducible rfl
          rotate_left
          · simp only [Act.put, List.setIfInBounds_toArray, List.set_cons_zero, List.set_cons_succ, i64_w, i32_w]
            rfl
          refine pure_ (i := 8) (N := some 44) (v := ?_) (a' := ?_) #[true, true, true, true, true, false, true, false, true, false, false, false, false, false] rfl rfl (any_of HT_.out (by kernel_rfl)) (fun _ _ _ h => h) (Or.inl ⟨by rfl, ?_⟩) ?_ ?_
          rotate_left
          · intro w'
            go_simp
            with_reducible rfl
          rotate_left
          · simp only [Act.put, List.setIfInBounds_toArray, List.set_cons_zero, List.set_cons_succ, i64_w, i32_w]
            rfl
          refine pure_ (i := 10) (N := some 46) (v := ?_) (a' := ?_) #[true, true, true, true, true, false, true, false, true, false, true, false, false, false] rfl rfl (any_of HT_.out (by kernel_rfl)) (fun _ _ _ h => h) (Or.inl ⟨by rfl, ?_⟩) ?_ ?_
          rotate_left
          · intro w'
            go_simp
            with_reducible rfl
          rotate_left
          · simp only [Act.put, List.setIfInBounds_toArray, List.set_cons_zero, List.set_cons_succ, i64_w, i32_w]
            rfl
          refine take_ (i := 7) (N := some 43) (v := ?_) (a' := ?_) #[true, true, true, true, true, false, true, true, true, false, true, false, false, false] rfl rfl (take_ofW HT_.out HW_.out (by kernel_rfl)) (fun _ _ _ h => h) (Or.inl ⟨by rfl, ?_⟩) hHeld ?_ ?_
          rotate_left
          · rintro w' ⟨s0, s1⟩
            go_simp
            with_reducible rfl
          rotate_left
          · simp only [Act.put, List.setIfInBounds_toArray, List.set_cons_zero, List.set_cons_succ, i64_w, i32_w]
            rfl
          refine take_ (i := 9) (N := some 45) (v := ?_) (a' := ?_) #[true, true, true, true, true, false, true, true, true, true, true, false, false, false] rfl rfl (take_ofW HT_.out HW_.out (by kernel_rfl)) (fun _ _ _ h => h) (Or.inl ⟨by rfl, ?_⟩) hHeld ?_ ?_
          rotate_left
          · rintro w' ⟨s0, s1⟩
            go_simp
            with_reducible rfl
          rotate_left
          · simp only [Act.put, List.setIfInBounds_toArray, List.set_cons_zero, List.set_cons_succ, i64_w, i32_w]
            rfl
          refine one_ (i := 5) (N := some 41) #[true, true, true, true, true, true, true, true, true, true, true, false, false, false] rfl rfl (one_of HT_.out (by kernel_rfl)) (by decide) (fun K hK => ?_)
          refine goes_ Try.func44 (by kernel_rfl) rfl #[.int .i64 (wrap64 ((wrap64 ((ji19) + 127)) - t322))] (by rfl) rfl rfl (by (try simp only [List.map_toArray, List.map_cons, List.map_nil]); first | done | (simp only [hji19]; rfl) | rfl | (simp only [List.length_drop, List.length_take]; rfl)) ?_
          with_reducible refine (round_held.calls (wrap64 ((wrap64 ((ji19) + 127)) - t322)) t324 _ A20.out).mono ?_
          rintro e w27 ⟨rfl, hb⟩
          refine ⟨_, rfl, ?_⟩
          have n0_ := Aside0.mk (blk_below (g := gb319) (o := .cells #[.int .i64 0, .bool false, .int .i64 0, .int .u64 0, .int .u64 0, .bool false] 24 (0, 0)) (by (with_reducible repeat (first | refine blk_drewN ?_ _ | refine blk_drew ?_ | refine blk_alloc ?_ _)); exact BK319.out) hb)
          have n1_ := Aside0.mk (blk_below (g := gb323) (o := .cells #[.int .u64 t320, .int .u64 t321] 64 (0, 0)) (by (with_reducible repeat (first | refine blk_drewN ?_ _ | refine blk_drew ?_ | refine blk_alloc ?_ _)); exact BK323.out) hb)
          have n2_ := Aside0.mk (below_step (by repeat (first | (with_reducible first | exact HB.out | apply below_alloc | apply pw_below_drewN | apply below_drew1 | refine below_set ?_ GE319.out | refine below_set ?_ GE323.out) | exact HB.out)) hb)
          clear BK319
          clear BK323
          clear HB
          have BK319 := n0_
          have BK323 := n1_
          have HB := n2_
          clear n0_ n1_ n2_
          (try clear hb)
          (try clear hb2)
          (try clear hk)
          (try clear hi)
          refine hK.out _ _ ⟨(blk_cell BK323.out 0).trans rfl, (blk_cell BK323.out 1).trans rfl⟩ (fun hHeld => ?_)
          clear hK K
          refine norm_ (a' := ?_) ?_ ?_
          rotate_left
          · show Act.put _ (some 41) _ = _
            simp only [Act.put, List.setIfInBounds_toArray, List.set_cons_zero, List.set_cons_succ, i64_w, i32_w]
            rfl
          refine pure_ (i := 11) (N := some 47) (v := ?_) (a' := ?_) #[true, true, true, true, true, true, true, true, true, true, true, true, false, false] rfl rfl (any_of HT_.out (by kernel_rfl)) (fun _ _ _ h => h) (Or.inl ⟨by rfl, ?_⟩) ?_ ?_
          rotate_left
          · intro w'
            go_simp
            with_reducible rfl
          rotate_left
          · simp only [Act.put, List.setIfInBounds_toArray, List.set_cons_zero, List.set_cons_succ, i64_w, i32_w]
            rfl
          refine one_ (i := 12) (N := none) #[true, true, true, true, true, true, true, true, true, true, true, true, true, false] rfl rfl (one_of HT_.out (by kernel_rfl)) (by decide) (fun K hK => ?_)
          have hs28 : w27.cell? ⟨gb319, 0, none⟩ = some (.int .i64 0) := (blk_cell BK319.out 0).trans rfl
          have hfs28 := blk_frozen BK319.out 0
          have hns28_1 := NB323_319.out
          have hms28_1 := NB319_323.out
          have hs29 : w27.cell? ⟨gb319, 1, none⟩ = some (.bool false) := (blk_cell BK319.out 1).trans rfl
          have hfs29 := blk_frozen BK319.out 1
          have hns29_1 := NB323_319.out
          have hms29_1 := NB319_323.out
          have hs30 : w27.cell? ⟨gb319, 2, none⟩ = some (.int .i64 0) := (blk_cell BK319.out 2).trans rfl
          have hfs30 := blk_frozen BK319.out 2
          have hns30_1 := NB323_319.out
          have hms30_1 := NB319_323.out
          have hs31 : w27.cell? ⟨gb319, 3, none⟩ = some (.int .u64 0) := (blk_cell BK319.out 3).trans rfl
          have hfs31 := blk_frozen BK319.out 3
          have hns31_1 := NB323_319.out
          have hms31_1 := NB319_323.out
          have hs32 : w27.cell? ⟨gb319, 4, none⟩ = some (.int .u64 0) := (blk_cell BK319.out 4).trans rfl
          have hfs32 := blk_frozen BK319.out 4
          have hns32_1 := NB323_319.out
          have hms32_1 := NB319_323.out
          have hs33 : w27.cell? ⟨gb319, 5, none⟩ = some (.bool false) := (blk_cell BK319.out 5).trans rfl
          have hfs33 := blk_frozen BK319.out 5
          have hns33_1 := NB323_319.out
          have hms33_1 := NB319_323.out
          refine skip_ (w1 := ?_) (by rfl) rfl ?_ ?_
          rotate_left
          · go_simp
            rfl
          refine hK.out _ _ ⟨((cell_far (p := ⟨gb319, _, none⟩) NB323_319.out _).trans (((cell_far (p := ⟨gb319, _, none⟩) NB323_319.out _).trans (((cell_far (p := ⟨gb319, _, none⟩) NB323_319.out _).trans (((cell_far (p := ⟨gb319, _, none⟩) NB323_319.out _).trans (((cell_far (p := ⟨gb319, _, none⟩) NB323_319.out _).trans (((cell_far (p := ⟨gb319, _, none⟩) NB323_319.out _).trans (hHeld.1)))))))))))), ((cell_far (p := ⟨gb319, _, none⟩) NB323_319.out _).trans (((cell_far (p := ⟨gb319, _, none⟩) NB323_319.out _).trans (((cell_far (p := ⟨gb319, _, none⟩) NB323_319.out _).trans (((cell_far (p := ⟨gb319, _, none⟩) NB323_319.out _).trans (((cell_far (p := ⟨gb319, _, none⟩) NB323_319.out _).trans (((cell_far (p := ⟨gb319, _, none⟩) NB323_319.out _).trans (hHeld.2))))))))))))⟩ (fun hHeld => ?_)
          clear hK K
          refine pure_ (i := 13) (N := some 11) (v := ?_) (a' := ?_) #[true, true, true, true, true, true, true, true, true, true, true, true, true, true] rfl rfl (any_of HT_.out (by kernel_rfl)) (fun _ _ _ h => h) (Or.inl ⟨by rfl, ?_⟩) ?_ ?_
          rotate_left
          · intro w'
            go_simp
            with_reducible rfl
          rotate_left
          · simp only [Act.put, List.setIfInBounds_toArray, List.set_cons_zero, List.set_cons_succ, i64_w, i32_w]
            rfl
          refine done_ (done_of HT_.out (by kernel_rfl)) ?_
          try go_wp2
          refine bodyPost_ret (results_ct rfl _ _ gb319 24 #[.int .i64 1, .bool a0, .int .i64 t324, .int .u64 t320, .int .u64 t321, .bool a4] (0, 0) _ rfl (by (with_reducible repeat (first | refine blk_drewN ?_ _ | refine blk_drew ?_ | refine blk_alloc ?_ _)); refine blk_put (cs := #[.int .i64 1, .bool a0, .int .i64 t324, .int .u64 t320, .int .u64 t321, .bool false]) ?_ 5 _ rfl; (with_reducible repeat (first | refine blk_drewN ?_ _ | refine blk_drew ?_ | refine blk_alloc ?_ _)); refine blk_put (cs := #[.int .i64 1, .bool a0, .int .i64 t324, .int .u64 t320, .int .u64 0, .bool false]) ?_ 4 _ rfl; (with_reducible repeat (first | refine blk_drewN ?_ _ | refine blk_drew ?_ | refine blk_alloc ?_ _)); refine blk_put (cs := #[.int .i64 1, .bool a0, .int .i64 t324, .int .u64 0, .int .u64 0, .bool false]) ?_ 3 _ rfl; (with_reducible repeat (first | refine blk_drewN ?_ _ | refine blk_drew ?_ | refine blk_alloc ?_ _)); refine blk_put (cs := #[.int .i64 1, .bool a0, .int .i64 0, .int .u64 0, .int .u64 0, .bool false]) ?_ 2 _ rfl; (with_reducible repeat (first | refine blk_drewN ?_ _ | refine blk_drew ?_ | refine blk_alloc ?_ _)); refine blk_put (cs := #[.int .i64 1, .bool false, .int .i64 0, .int .u64 0, .int .u64 0, .bool false]) ?_ 1 _ rfl; (with_reducible repeat (first | refine blk_drewN ?_ _ | refine blk_drew ?_ | refine blk_alloc ?_ _)); refine blk_put (cs := #[.int .i64 0, .bool false, .int .i64 0, .int .u64 0, .int .u64 0, .bool false]) ?_ 0 _ rfl; (with_reducible repeat (first | refine blk_drewN ?_ _ | refine blk_drew ?_ | refine blk_alloc ?_ _)); exact BK319.out) Try.underlying24 rfl (by kernel_rfl)) rfl ?_
          exact ⟨by first | rfl | (simp [errW_none, errW_some] <;> rfl) | (simp only [← hji18, ← hji19]; first | rfl | (simp [errW_none, errW_some] <;> rfl)) | (simp [*, errW_none, errW_some] <;> rfl), by repeat (first | (with_reducible first | exact HB.out | apply below_alloc | apply pw_below_drewN | apply below_drew1 | refine below_set ?_ GE319.out | refine below_set ?_ GE323.out) | exact HB.out)⟩
end Go.Proofs.Ytfegofnplcmacaa.PAll
namespace Go.Proofs.Ytfegofnplcmacaa.V
open Go Go.RowKit Go.Proofs.YtfegofnplcmacaaW.PrintWords Go.Proofs.YtfegofnplcmacaaW.PrintLast Go.Proofs.YtfegofnplcmacaaW.PrintMore Go.Proofs.Ytfegofnplcmacaa.PAll
set_option linter.unusedVariables false
set_option linter.unusedSimpArgs false
def isW (n : Int) : Bool := n == 8 || n == 16 || n == 32 || n == 64
theorem isW_cases {n : Int} (h : isW n = true) : n = 8 ∨ n = 16 ∨ n = 32 ∨ n = 64 := by
  unfold isW at h; simp at h; omega
theorem isW_nat {n : Int} (h : isW n = true) : ∃ m : Nat, n = m ∧ (m = 8 ∨ m = 16 ∨ m = 32 ∨ m = 64) := by
  rcases isW_cases h with h | h | h | h
  · exact ⟨8, h, .inl rfl⟩
  · exact ⟨16, h, .inr (.inl rfl)⟩
  · exact ⟨32, h, .inr (.inr (.inl rfl))⟩
  · exact ⟨64, h, .inr (.inr (.inr rfl))⟩
theorem shape_is_eq (n : Int) : shape_is.f n = some (isW n) := by
  unfold shape_is.f isW
  by_cases h1 : n = 8
  · simp [h1]
  · by_cases h2 : n = 16
    · simp [h2]
    · by_cases h3 : n = 32
      · simp [h3]
      · by_cases h4 : n = 64
        · simp [h4]
        · simp [h1, h2, h3, h4]
theorem shape_Of_no {n : Int} (h : isW n = false) : shape_Of.f n = some (0, 0, 0, 0, 0, some 2) := by
  unfold shape_Of.f
  rw [shape_is_eq, h]; rfl
theorem shape_Of_eq {n : Nat} (h : isW n = true) : shape_Of.f n = some ((n : Int), ((2 ^ (n - 1) - 1 : Nat) : Int), 1, ((2 ^ (n - 1) : Nat) : Int), 4 * (n : Int) - 8, none) := by
  unfold shape_Of.f
  rw [shape_is_eq, h]
  have h' : n = 8 ∨ n = 16 ∨ n = 32 ∨ n = 64 := by have := isW_cases h; omega
  rcases h' with rfl | rfl | rfl | rfl <;> decide +kernel
def soundE (kd : Int) (ng : Bool) (sc hi lo : Int) (rs : Bool) : Bool :=
  if kd = 0 ∨ kd = 2 then (!ng && (sc == 0 && (hi == 0 && (lo == 0 && !rs))))
  else decide (kd = 1 ∧ 9223372036854775808 ≤ hi ∧ -1099511627776 ≤ sc ∧ sc ≤ 1099511627776)
def heldI (s : Int) : Int := if s < -1099511627776 then -1099511627776 else if 1099511627776 < s then 1099511627776 else s
theorem round_held_eq (s : Int) : round_held.f s = some (heldI s) := by
  unfold round_held.f heldI mx mn
  congr 1
  repeat' split
  all_goals omega
theorem round_sound_eq (kd : Int) (ng : Bool) (sc hi lo : Int) (rs : Bool) (h : hi < 18446744073709551616) (h0 : 0 ≤ hi) :
    Ev (fun k => round_sound.f k kd ng sc hi lo rs) (soundE kd ng sc hi lo rs) := by
  unfold round_sound.f soundE
  by_cases h0 : kd = 0
  · simp only [if_pos h0, if_pos (Or.inl h0 : kd = 0 ∨ kd = 2)]
    refine Ev.step (f := fun _ => _) (fun k => by simp only [round_sound.j0]; rw [if_pos (by simp [h0])]) (Ev.now _)
  · simp only [if_neg h0]
    by_cases h2 : kd = 2
    · simp only [if_pos (Or.inr h2 : kd = 0 ∨ kd = 2)]
      refine Ev.step (f := fun _ => _) (fun k => by simp only [round_sound.j0]; rw [if_pos (by simp [h2])]) (Ev.now _)
    · simp only [if_neg (show ¬ (kd = 0 ∨ kd = 2) by omega)]
      refine Ev.step (f := fun _ => _) (fun k => by simp only [round_sound.j0]; rw [if_neg (by simp [h2])]) ?_
      simp only [round_held_eq, Option.bind_some]
      refine Ev.congr (f := fun _ => some _) (fun _ => ?_) (Ev.now _)
      by_cases h1 : kd = 1
      · rw [if_pos h1]
        by_cases h3 : hi / 9223372036854775808 = 1
        · rw [if_pos h3]
          congr 1
          rw [Bool.eq_iff_iff]
          simp only [beq_iff_eq, decide_eq_true_eq, heldI]
          split
          · omega
          · split <;> omega
        · rw [if_neg h3]
          congr 1
          symm
          rw [decide_eq_false_iff_not]
          omega
      · rw [if_neg h1]
        congr 1
        symm
        rw [decide_eq_false_iff_not]
        omega
theorem round_under_eq (X a b m : Nat) (R : Bool) (hX : X < 2 ^ (128 + a)) (hb : b < 2 ^ m) (hm : m ≤ 64) :
    round_under.f (TH (X / 2 ^ a)) (TL (X / 2 ^ a)) (b : Int) (m : Int) (R || decide (X % 2 ^ a ≠ 0)) =
      some (TH ((b * 2 ^ (128 + a) + X) / 2 ^ (a + m)), TL ((b * 2 ^ (128 + a) + X) / 2 ^ (a + m)), R || decide ((b * 2 ^ (128 + a) + X) % 2 ^ (a + m) ≠ 0)) := by
  unfold round_under.f
  have pa := two_pos a
  have pm := two_pos m
  have hw : X / 2 ^ a < 2 ^ 128 := by rw [Nat.div_lt_iff_lt_mul pa, ← Nat.pow_add]; exact hX
  rw [twin_Shr_eq _ m hw (by omega)]
  simp only [Option.bind_some]
  rw [w64 (by omega) (by omega), if_pos (by omega)]
  have e64 : (64 - (m : Int)) = ((64 - m : Nat) : Int) := by omega
  rw [e64, shl_nat _ _ (by omega)]
  -- the new string's upper bits
  have s := pow_split hm
  have hbl : b * 2 ^ (64 - m) < 2 ^ 64 := by rw [← s]; exact Nat.mul_lt_mul_of_pos_right hb (two_pos _)
  rw [Nat.mod_eq_of_lt (show b * 2 ^ (64 - m) < 18446744073709551616 by rw [← p64]; exact hbl)]
  generalize hw2 : X / 2 ^ a = w at hw
  have e1 : (b * 2 ^ (128 + a) + X) / 2 ^ (a + m) = b * 2 ^ (128 - m) + w / 2 ^ m := by
    have s1 : b * 2 ^ (128 + a) = b * 2 ^ (128 - m) * 2 ^ (a + m) := by
      rw [Nat.mul_assoc, ← Nat.pow_add]; congr 2; omega
    rw [s1, Nat.add_comm, Nat.add_mul_div_right _ _ (two_pos _), Nat.pow_add, ← Nat.div_div_eq_div_mul, hw2, Nat.add_comm]
  have hwm : w / 2 ^ m < 2 ^ (128 - m) := by
    rw [Nat.div_lt_iff_lt_mul pm, Nat.mul_comm, pow_split (by omega)]; exact hw
  have e2 : b * 2 ^ (128 - m) = b * 2 ^ (64 - m) * 18446744073709551616 := by
    rw [← p64, Nat.mul_assoc, ← Nat.pow_add]; congr 2; omega
  have hq : w / 2 ^ m / 18446744073709551616 < 2 ^ (64 - m) := by
    rw [← p64, Nat.div_lt_iff_lt_mul (two_pos 64), ← Nat.pow_add]
    exact Nat.lt_of_lt_of_eq hwm (by congr 1; omega)
  have hor : Go.bits .or .u64 (TH (w / 2 ^ m)) ((b * 2 ^ (64 - m) : Nat) : Int) = TH (b * 2 ^ (128 - m) + w / 2 ^ m) := by
    unfold TH
    have hlt : w / 2 ^ m / 18446744073709551616 < 18446744073709551616 := Nat.lt_of_lt_of_le hq (by rw [← p64]; exact pow_le (by omega))
    rw [or_nat _ _ hlt (by rw [← p64]; exact hbl), Nat.or_comm, or_parts hq, e2]
    congr 1
    omega
  have hlo : TL (w / 2 ^ m) = TL (b * 2 ^ (128 - m) + w / 2 ^ m) := by unfold TL; rw [e2]; congr 1; omega
  have e3 : decide ((b * 2 ^ (128 + a) + X) % 2 ^ (a + m) ≠ 0) = (decide (X % 2 ^ a ≠ 0) || decide (w % 2 ^ m ≠ 0)) := by
    have s1 : b * 2 ^ (128 + a) = b * 2 ^ (128 - m) * 2 ^ (a + m) := by
      rw [Nat.mul_assoc, ← Nat.pow_add]; congr 2; omega
    have s2 : (b * 2 ^ (128 + a) + X) % 2 ^ (a + m) = X % 2 ^ (a + m) := by rw [s1, Nat.mul_add_mod_self_right]
    have s3 : X % 2 ^ (a + m) = 2 ^ a * (w % 2 ^ m) + X % 2 ^ a := by
      rw [Nat.pow_add, Nat.mod_mul, hw2, Nat.add_comm]
    rw [s2, s3, Bool.eq_iff_iff]
    simp only [Bool.or_eq_true, decide_eq_true_eq]
    have hz : 2 ^ a * (w % 2 ^ m) = 0 ↔ w % 2 ^ m = 0 := by
      rw [Nat.mul_eq_zero]; constructor
      · rintro (h | h)
        · omega
        · exact h
      · exact .inr
    omega
  rw [hor, hlo, e1, e3]
  cases R <;> by_cases hd : X % 2 ^ a = 0 <;> simp [hd]
theorem round_left_eq (b : Nat) (R : Bool) (hb : b < 18446744073709551616) : Ev (fun k => round_left.f k (b : Int) R) (lft b 64 R) := by
  unfold round_left.f lft
  rw [p64]
  by_cases h1 : (b : Int) > 9223372036854775808
  · simp only [if_pos h1, if_pos (show 18446744073709551616 < 2 * b by omega)]
    exact Ev.step (f := fun _ => some 3) (fun k => by simp only [round_left.j0]; rw [if_pos (by simpa using h1)]) (Ev.now _)
  · simp only [if_neg h1, if_neg (show ¬ 18446744073709551616 < 2 * b by omega)]
    by_cases h2 : (b : Int) = 9223372036854775808
    · simp only [if_pos h2, if_pos (show 2 * b = 18446744073709551616 by omega)]
      refine evs ?_
      simp only [round_left.j0]
      refine evn ?_
      cases R
      · simp [h2]
      · simp
    · simp only [if_neg h2, if_neg (show ¬ 2 * b = 18446744073709551616 by omega)]
      refine evs ?_
      simp only [round_left.j0]
      refine evn ?_
      by_cases h3 : 0 < b
      · rw [if_neg (by simp), if_neg h2, if_pos (by omega), if_pos h3]
      · rw [if_neg (by simp), if_neg h2, if_neg (by omega), if_neg h3]
        cases R <;> simp
theorem round_Cut_j3 (n X a : Nat) (R : Bool) (h8 : 8 ≤ n) (h64 : n ≤ 64) (hX : X < 2 ^ (128 + a)) :
    Ev (fun k => round_Cut.j3 k (n : Int) (R || decide (X % 2 ^ a ≠ 0)) (TH (X / 2 ^ a)) (TL (X / 2 ^ a)))
      (((X / 2 ^ (129 - n + a) : Nat) : Int), lft (X % 2 ^ (129 - n + a)) (129 - n + a) R, none) := by
  have pa := two_pos a
  have hw : X / 2 ^ a < 2 ^ 128 := by rw [Nat.div_lt_iff_lt_mul pa, ← Nat.pow_add]; exact hX
  generalize hw2 : X / 2 ^ a = w at hw
  refine evs ?_
  simp only [round_Cut.j3]
  have e1 : wrap64 (65 - (n : Int)) = ((65 - n : Nat) : Int) := by rw [w64 (by omega) (by omega)]; omega
  have e2 : wrap64 ((n : Int) - 1) = ((n - 1 : Nat) : Int) := by rw [w64 (by omega) (by omega)]; omega
  simp only [e1, e2, if_pos (show (0 : Int) ≤ ((65 - n : Nat) : Int) by omega)]
  simp only [twin_Shl_eq w (n - 1) hw (by omega), Option.bind_some]
  -- what is behind
  have hsplit : w * 2 ^ (n - 1) % 2 ^ 128 = w % 2 ^ (129 - n) * 2 ^ (n - 1) := by
    have e : (2 : Nat) ^ 128 = 2 ^ (129 - n) * 2 ^ (n - 1) := by rw [← Nat.pow_add]; congr 1; omega
    rw [e, Nat.mul_mod_mul_right]
  generalize hb : w * 2 ^ (n - 1) % 2 ^ 128 = bh at hsplit
  have hbh : bh < 340282366920938463463374607431768211456 := by rw [← hb, ← p128]; exact Nat.mod_lt _ (two_pos 128)
  have hP : shr .u64 (TH w) ((65 - n : Nat) : Int) = ((X / 2 ^ (129 - n + a) : Nat) : Int) := by
    unfold TH
    rw [shr_nat _ _ (by omega), ← p64, div_div_pow, ← hw2, div_div_pow]
    congr 3; omega
  have hL : ∀ R' : Bool, R' = (R || decide (X % 2 ^ a ≠ 0)) → lft (bh / 18446744073709551616) 64 (R' || decide (bh % 18446744073709551616 ≠ 0)) = lft (X % 2 ^ (129 - n + a)) (129 - n + a) R := by
    intro R' hR
    have a1 := lft_split (bh / 18446744073709551616) (bh % 18446744073709551616) 64 64 R' (by rw [p64]; omega) (by omega)
    rw [p64, show bh / 18446744073709551616 * 18446744073709551616 + bh % 18446744073709551616 = bh by omega] at a1
    rw [← a1, hsplit, show 64 + 64 = (129 - n) + (n - 1) by omega, lft_scale _ _ _ _ (by omega), hR]
    have a2 := lft_split (w % 2 ^ (129 - n)) (X % 2 ^ a) a (129 - n) R (Nat.mod_lt _ pa) (by omega)
    rw [← a2]
    congr 1
    rw [Nat.add_comm (129 - n) a, Nat.pow_add, Nat.mod_mul, hw2, Nat.mul_comm, Nat.add_comm]
  by_cases h0 : TL bh = 0
  · simp only [if_pos h0]
    have hz : bh % 18446744073709551616 = 0 := by unfold TL at h0; omega
    have hl := hL _ rfl
    rw [hz] at hl
    simp only [ne_eq, not_true_eq_false, decide_false, Bool.or_false] at hl
    refine Ev.bind (a := lft (bh / 18446744073709551616) 64 (R || decide (X % 2 ^ a ≠ 0))) ?_ ?_
    · exact round_left_eq (bh / 18446744073709551616) _ (by omega)
    · rw [hP]
      simp only [ne_eq] at hl ⊢
      rw [hl]
      exact Ev.now _
  · simp only [if_neg h0]
    have hz : bh % 18446744073709551616 ≠ 0 := by unfold TL at h0; omega
    have hl := hL _ rfl
    rw [decide_eq_true hz, Bool.or_true] at hl
    refine Ev.bind (a := lft (bh / 18446744073709551616) 64 true) ?_ ?_
    · exact round_left_eq (bh / 18446744073709551616) _ (by omega)
    · rw [hP, hl]
      exact Ev.now _
theorem round_Cut_l0 (n : Nat) (R : Bool) (b : Nat) (h8 : 8 ≤ n) (h64 : n ≤ 64) (hb : b ≤ 64) : ∀ (d i X a : Nat), i + d = b → X < 2 ^ (128 + a) →
    Ev (fun k => round_Cut.l0 k (n : Int) (R || decide (X % 2 ^ a ≠ 0)) (b : Int) (i : Int) (TH (X / 2 ^ a)) (TL (X / 2 ^ a)))
      ((((((2 ^ d - 1) * 2 ^ (128 + a) + X) / 2 ^ (129 - n + (a + d)) : Nat)) : Int), lft (((2 ^ d - 1) * 2 ^ (128 + a) + X) % 2 ^ (129 - n + (a + d))) (129 - n + (a + d)) R, none)
  | 0, i, X, a, hi, hX => by
    refine evs ?_
    simp only [round_Cut.l0]
    simp only [if_neg (show ¬ (i : Int) < (b : Int) by omega)]
    have := round_Cut_j3 n X a R h8 h64 hX
    simpa using this
  | d + 1, i, X, a, hi, hX => by
    refine evs ?_
    simp only [round_Cut.l0]
    simp only [if_pos (show (i : Int) < (b : Int) by omega)]
    have u := round_under_eq X a 1 1 R hX (by decide) (by decide)
    simp only [Nat.one_mul] at u
    have u' : round_under.f (TH (X / 2 ^ a)) (TL (X / 2 ^ a)) 1 1 (R || decide (X % 2 ^ a ≠ 0)) = _ := u
    simp only [u', Option.bind_some]
    have e : wrap64 ((i : Int) + 1) = ((i + 1 : Nat) : Int) := by rw [w64 (by omega) (by omega)]; omega
    rw [e]
    have hX' : 2 ^ (128 + a) + X < 2 ^ (128 + (a + 1)) := by
      rw [show 128 + (a + 1) = 128 + a + 1 by omega, Nat.pow_succ]; omega
    have ih := round_Cut_l0 n R b h8 h64 hb d (i + 1) (2 ^ (128 + a) + X) (a + 1) (by omega) hX'
    have e2 : (2 ^ d - 1) * 2 ^ (128 + (a + 1)) + (2 ^ (128 + a) + X) = (2 ^ (d + 1) - 1) * 2 ^ (128 + a) + X := by
      have p := two_pos d
      obtain ⟨q, hq⟩ : ∃ q, 2 ^ d = q + 1 := ⟨2 ^ d - 1, by omega⟩
      rw [show 128 + (a + 1) = 128 + a + 1 by omega, Nat.pow_succ 2 (128 + a), Nat.pow_succ 2 d, hq]
      generalize 2 ^ (128 + a) = Z
      rw [show (q + 1) * 2 - 1 = 2 * q + 1 by omega, show q + 1 - 1 = q by omega]
      grind
    rw [e2, show a + 1 + d = a + (d + 1) by omega] at ih
    exact ih
theorem round_Cut_l1 (n : Nat) (R : Bool) (b : Nat) (h8 : 8 ≤ n) (h64 : n ≤ 64) (hb : b ≤ 64) : ∀ (d i X a : Nat), i + d = b → X < 2 ^ (128 + a) →
    Ev (fun k => round_Cut.l1 k (n : Int) (R || decide (X % 2 ^ a ≠ 0)) (b : Int) (i : Int) (TH (X / 2 ^ a)) (TL (X / 2 ^ a)))
      (((X / 2 ^ (129 - n + (a + d)) : Nat) : Int), lft (X % 2 ^ (129 - n + (a + d))) (129 - n + (a + d)) R, none)
  | 0, i, X, a, hi, hX => by
    refine evs ?_
    simp only [round_Cut.l1]
    simp only [if_neg (show ¬ (i : Int) < (b : Int) by omega)]
    exact round_Cut_j3 n X a R h8 h64 hX
  | d + 1, i, X, a, hi, hX => by
    refine evs ?_
    simp only [round_Cut.l1]
    simp only [if_pos (show (i : Int) < (b : Int) by omega)]
    have u := round_under_eq X a 0 1 R hX (by decide) (by decide)
    simp only [Nat.zero_mul, Nat.zero_add] at u
    have u' : round_under.f (TH (X / 2 ^ a)) (TL (X / 2 ^ a)) 0 1 (R || decide (X % 2 ^ a ≠ 0)) = _ := u
    simp only [u', Option.bind_some]
    have e : wrap64 ((i : Int) + 1) = ((i + 1 : Nat) : Int) := by rw [w64 (by omega) (by omega)]; omega
    rw [e]
    have hX' : X < 2 ^ (128 + (a + 1)) := Nat.lt_of_lt_of_le hX (pow_le (by omega))
    have ih := round_Cut_l1 n R b h8 h64 hb d (i + 1) X (a + 1) (by omega) hX'
    rw [show a + 1 + d = a + (d + 1) by omega] at ih
    exact ih
theorem round_Cut_j0_eq (n f : Nat) (kd : Int) (ng : Bool) (s : Int) (R : Bool) (hn : isW n = true) (h0 : -(4 * (n : Int) - 8) ≤ s) (h1 : s < 4 * (n : Int) - 8) (hf : f < 2 ^ 127) :
    Ev (fun k => round_Cut.j0 k (n : Int) kd ng s (TH (2 ^ 127 + f)) (TL (2 ^ 127 + f)) R) (((cutP n (sig s f) : Nat) : Int), cutL n (sig s f) R, none) := by
  have hn' : n = 8 ∨ n = 16 ∨ n = 32 ∨ n = 64 := by have := isW_cases hn; omega
  have h8 : 8 ≤ n := by omega
  have h64 : n ≤ 64 := by omega
  have hV : 2 ^ 127 + f < 2 ^ 128 := by rw [show (2 : Nat) ^ 128 = 2 * 2 ^ 127 by decide]; omega
  refine evs ?_
  simp only [round_Cut.j0]
  have s1 := twin_Shl_eq (2 ^ 127 + f) 1 hV (by decide)
  have m1 : (2 ^ 127 + f) * 2 ^ 1 % 2 ^ 128 = 2 * f := by rw [p127, p128] at *; omega
  rw [m1] at s1
  have s1' : twin_Shl.f (TH (2 ^ 127 + f)) (TL (2 ^ 127 + f)) 1 = _ := s1
  simp only [s1', Option.bind_some]
  have e4 : IntKind.u64.wrap (Go.bits .and .i64 s 3) = (((s % 4).toNat : Nat) : Int) := by rw [and_i64_3, u64_of (by omega) (by omega)]; omega
  rw [e4]
  generalize he : (s % 4).toNat = e
  have he4 : e < 2 ^ 2 := by have : (2 : Nat) ^ 2 = 4 := by decide
                             omega
  have hX0 : 2 * f < 2 ^ (128 + 0) := by rw [show (2 : Nat) ^ (128 + 0) = 2 * 2 ^ 127 by decide]; omega
  have u1 := round_under_eq (2 * f) 0 e 2 R hX0 he4 (by decide)
  simp only [Nat.pow_zero, Nat.div_one, Nat.mod_one, ne_eq, not_true_eq_false, decide_false, Bool.or_false, Nat.zero_add, Nat.add_zero] at u1
  have u1' : round_under.f (TH (2 * f)) (TL (2 * f)) (e : Int) 2 R = _ := u1
  simp only [u1', Option.bind_some]
  have hX1 : e * 2 ^ 128 + 2 * f < 2 ^ (128 + 2) := by
    have : (e + 1) * 2 ^ 128 ≤ 2 ^ 2 * 2 ^ 128 := Nat.mul_le_mul_right _ he4
    rw [Nat.add_mul] at this
    rw [show (2 : Nat) ^ (128 + 2) = 2 ^ 2 * 2 ^ 128 by decide]
    simp only [Nat.add_zero] at hX0
    omega
  by_cases hk : s / 4 ≥ 0
  · simp only [if_pos hk]
    have u2 := round_under_eq (e * 2 ^ 128 + 2 * f) 2 0 1 R hX1 (by decide) (by decide)
    simp only [Nat.zero_mul, Nat.zero_add] at u2
    have u2' : round_under.f (TH ((e * 2 ^ 128 + 2 * f) / 2 ^ 2)) (TL ((e * 2 ^ 128 + 2 * f) / 2 ^ 2)) 0 1 (R || decide (¬(e * 2 ^ 128 + 2 * f) % 2 ^ 2 = 0)) = _ := u2
    simp only [u2', Option.bind_some]
    generalize hq : (s / 4).toNat = q
    have hq61 : q ≤ 61 := by omega
    have ew : wrap64 (s / 4 + 1) = ((q + 1 : Nat) : Int) := by rw [w64 (by omega) (by omega)]; omega
    rw [ew]
    have l := round_Cut_l0 n R (q + 1) h8 h64 (by omega) (q + 1) 0 (e * 2 ^ 128 + 2 * f) 3 (by omega) (Nat.lt_of_lt_of_le hX1 (pow_le (by decide)))
    have c := cut_of n ((2 ^ (q + 1) - 1) * 2 ^ (128 + 3) + (e * 2 ^ 128 + 2 * f)) (129 - n + (3 + (q + 1))) (68 - q) R h64 (by omega) (by omega)
    have es : sig s f = ((2 ^ (q + 1) - 1) * 2 ^ (128 + 3) + (e * 2 ^ 128 + 2 * f)) * 2 ^ (68 - q) := by
      unfold sig
      rw [if_pos hk, hq, he, show 69 - q = 1 + (68 - q) by omega, Nat.pow_add 2 1, ← Nat.mul_assoc]
      congr 1
      rw [show (2 : Nat) ^ (128 + 3) = 2 ^ 130 * 2 by decide, show (2 : Nat) ^ 128 = 2 ^ 127 * 2 by decide]
      generalize 2 ^ (q + 1) - 1 = z
      grind
    rw [es, c.1, c.2]
    exact l
  · simp only [if_neg hk]
    have u2 := round_under_eq (e * 2 ^ 128 + 2 * f) 2 1 1 R hX1 (by decide) (by decide)
    simp only [Nat.one_mul] at u2
    have u2' : round_under.f (TH ((e * 2 ^ 128 + 2 * f) / 2 ^ 2)) (TL ((e * 2 ^ 128 + 2 * f) / 2 ^ 2)) 1 1 (R || decide (¬(e * 2 ^ 128 + 2 * f) % 2 ^ 2 = 0)) = _ := u2
    simp only [u2', Option.bind_some]
    generalize hq : (-(s / 4)).toNat = q
    have hq62 : q ≤ 62 := by omega
    have ew : wrap64 (-(s / 4)) = ((q : Nat) : Int) := by rw [w64 (by omega) (by omega)]; omega
    rw [ew]
    have hX2 : 2 ^ (128 + 2) + (e * 2 ^ 128 + 2 * f) < 2 ^ (128 + 3) := by
      rw [show (2 : Nat) ^ (128 + 3) = 2 ^ (128 + 2) + 2 ^ (128 + 2) by decide]; omega
    have l := round_Cut_l1 n R q h8 h64 (by omega) q 0 (2 ^ (128 + 2) + (e * 2 ^ 128 + 2 * f)) 3 (by omega) hX2
    have c := cut_of n (2 ^ (128 + 2) + (e * 2 ^ 128 + 2 * f)) (129 - n + (3 + q)) (69 - q) R h64 (by omega) (by omega)
    have es : sig s f = (2 ^ (128 + 2) + (e * 2 ^ 128 + 2 * f)) * 2 ^ (69 - q) := by
      unfold sig
      rw [if_neg (by omega), hq, he, show 70 - q = 1 + (69 - q) by omega, Nat.pow_add 2 1, ← Nat.mul_assoc]
      congr 1
      rw [show (2 : Nat) ^ (128 + 2) = 2 ^ 129 * 2 by decide, show (2 : Nat) ^ 128 = 2 ^ 127 * 2 by decide]
      grind
    rw [es, c.1, c.2]
    exact l
theorem sound_kinds {kd sc hi lo : Int} {ng rs : Bool} (h : soundE kd ng sc hi lo rs = true) : kd = 0 ∨ kd = 2 ∨ kd = 1 := by
  unfold soundE at h
  split at h
  · omega
  · have := of_decide_eq_true h; omega
theorem sound_real {sc hi lo : Int} {ng rs : Bool} (h : soundE 1 ng sc hi lo rs = true) : 9223372036854775808 ≤ hi ∧ -1099511627776 ≤ sc ∧ sc ≤ 1099511627776 := by
  unfold soundE at h
  rw [if_neg (by decide)] at h
  have := of_decide_eq_true h; omega
theorem round_Cut_no {n kd sc hi lo : Int} {ng rs : Bool} (hn : isW n = false) : Ev (fun k => round_Cut.f k n kd ng sc hi lo rs) (0, 0, some 2) := by
  unfold round_Cut.f
  simp only [shape_Of_no hn, Option.bind_some]
  exact Ev.now _
theorem round_Cut_eq {n hi lo : Nat} {kd sc : Int} {ng rs : Bool} (hn : isW n = true) (hh : hi < 18446744073709551616) (hl : lo < 18446744073709551616) (h : soundE kd ng sc hi lo rs = true) :
    Ev (fun k => round_Cut.f k n kd ng sc hi lo rs) ((cutE n kd sc (hi * 18446744073709551616 + lo) rs).1, (cutE n kd sc (hi * 18446744073709551616 + lo) rs).2, none) := by
  unfold round_Cut.f
  have hn' : n = 8 ∨ n = 16 ∨ n = 32 ∨ n = 64 := by have := isW_cases hn; omega
  simp only [shape_Of_eq hn, Option.bind_some, Option.isNone_none, if_true]
  refine Ev.bind (round_sound_eq _ _ _ _ _ _ (by omega) (by omega)) ?_
  simp only [h, if_true]
  unfold cutE
  by_cases k0 : kd = 0
  · simp only [if_pos k0]; exact Ev.now _
  · simp only [if_neg k0]
    by_cases k2 : kd = 2
    · simp only [if_pos k2]; exact Ev.now _
    · simp only [if_neg k2]
      have k1 : kd = 1 := by have := sound_kinds h; omega
      subst k1
      obtain ⟨b0, b1, b2⟩ := sound_real h
      have ew : wrap64 (-(4 * (n : Int) - 8)) = -(4 * (n : Int) - 8) := w64 (by omega) (by omega)
      by_cases c1 : sc ≥ 4 * (n : Int) - 8
      · simp only [if_pos c1, if_pos (show 4 * (n : Int) - 8 ≤ sc by omega)]; exact Ev.now _
      · simp only [if_neg c1, if_neg (show ¬ 4 * (n : Int) - 8 ≤ sc by omega), ew]
        by_cases c2 : sc < -(4 * (n : Int) - 8)
        · simp only [if_pos c2, if_pos (Or.inl c2 : sc < -(4 * (n : Int) - 8) ∨ (sc = -(4 * (n : Int) - 8) ∧ hi * 18446744073709551616 + lo = 2 ^ 127 ∧ rs = false))]; exact Ev.now _
        · simp only [if_neg c2]
          have key : ¬ (sc = -(4 * (n : Int) - 8) ∧ hi * 18446744073709551616 + lo = 2 ^ 127 ∧ rs = false) →
              Ev (fun k => round_Cut.j0 k (n : Int) 1 ng sc (hi : Int) (lo : Int) rs)
                ((if sc < -(4 * (n : Int) - 8) ∨ (sc = -(4 * (n : Int) - 8) ∧ hi * 18446744073709551616 + lo = 2 ^ 127 ∧ rs = false) then ((1 : Int), (0 : Int)) else ((cutP n (sig sc (hi * 18446744073709551616 + lo - 2 ^ 127)) : Int), cutL n (sig sc (hi * 18446744073709551616 + lo - 2 ^ 127)) rs)).1,
                 (if sc < -(4 * (n : Int) - 8) ∨ (sc = -(4 * (n : Int) - 8) ∧ hi * 18446744073709551616 + lo = 2 ^ 127 ∧ rs = false) then ((1 : Int), (0 : Int)) else ((cutP n (sig sc (hi * 18446744073709551616 + lo - 2 ^ 127)) : Int), cutL n (sig sc (hi * 18446744073709551616 + lo - 2 ^ 127)) rs)).2, none) := by
            intro hno
            rw [if_neg (fun hh => hh.elim c2 hno)]
            have hf : 2 ^ 127 + (hi * 18446744073709551616 + lo - 2 ^ 127) = hi * 18446744073709551616 + lo := by rw [p127]; omega
            have j := round_Cut_j0_eq n (hi * 18446744073709551616 + lo - 2 ^ 127) 1 ng sc rs hn (by omega) (by omega) (by rw [p127]; omega)
            rw [hf, TH_of hl, TL_of hl] at j
            exact j
          by_cases c3 : sc = -(4 * (n : Int) - 8)
          · simp only [if_pos c3]
            by_cases c4 : (hi : Int) = 9223372036854775808
            · simp only [if_pos c4]
              by_cases c5 : (lo : Int) = 0
              · simp only [if_pos c5]
                cases rs
                · simp only [Bool.false_eq_true, if_false]
                  rw [if_pos (Or.inr ⟨c3, by rw [p127]; omega, trivial⟩)]
                  exact Ev.now _
                · simp only [if_true]
                  exact key (by simp)
              · simp only [if_neg c5]
                exact key (by rw [p127]; omega)
            · simp only [if_neg c4]
              exact key (by rw [p127]; omega)
          · simp only [if_neg c3]
            exact key (by omega)
theorem pow64 {n : Nat} (h : isW n = true) : n ≤ 64 ∧ 8 ≤ n := by have := isW_cases h; omega
theorem lead_ones_eq {n : Nat} (h : n ≤ 64) : lead_ones.f (n : Int) = some ((2 ^ n - 1 : Nat) : Int) := by
  unfold lead_ones.f
  by_cases h1 : n = 64
  · subst h1; rfl
  · rw [if_neg (by omega), if_pos (by omega)]
    have e := shl_nat 1 n h
    have e' : shl .u64 1 (n : Int) = _ := e
    have hp : 2 ^ n < 2 ^ 64 := pow_lt (by omega)
    have hp0 := two_pos n
    rw [p64] at hp
    rw [e', Nat.one_mul, Nat.mod_eq_of_lt hp, u64_of (by omega) (by omega)]
    congr 1
    omega
theorem shape_Fold_eq {n x : Nat} (h : isW n = true) (hx : x < 18446744073709551616) : shape_Fold.f (n : Int) (x : Int) = some (((x % 2 ^ n : Nat) : Int), none) := by
  have hb := pow64 h
  unfold shape_Fold.f lead_Mask.f
  simp only [shape_is_eq, h, if_true, Option.bind_some, if_neg (show ¬ (n : Int) < 0 by omega), if_neg (show ¬ (n : Int) > 64 by omega), lead_ones_eq hb.1]
  rw [and_mask x n hx hb.1]
theorem shape_Fold_no {n x : Int} (h : isW n = false) : shape_Fold.f n x = some (0, some 2) := by
  unfold shape_Fold.f
  simp [shape_is_eq, h]
theorem neg_wrap {p : Nat} (h : p < 18446744073709551616) : IntKind.u64.wrap (-(p : Int)) = (((18446744073709551616 - p) % 18446744073709551616 : Nat) : Int) := by
  rw [u64_wrap]; omega
theorem and_one {p : Nat} (h : p < 18446744073709551616) : Go.bits .and .u64 (p : Int) 1 = ((p % 2 : Nat) : Int) := by
  have := and_mask p 1 h (by decide)
  simpa using this
theorem round_Round_no {n kd sc hi lo : Int} {ng rs : Bool} (hn : isW n = false) : Ev (fun k => round_Round.f k n kd ng sc hi lo rs) (0, some 2) := by
  unfold round_Round.f
  exact Ev.bind (round_Cut_no hn) (Ev.now _)
theorem round_Round_eq {n hi lo : Nat} {kd sc : Int} {ng rs : Bool} (hn : isW n = true) (hh : hi < 18446744073709551616) (hl : lo < 18446744073709551616) (h : soundE kd ng sc hi lo rs = true) :
    Ev (fun k => round_Round.f k n kd ng sc hi lo rs) (((rnd n kd ng sc (hi * 18446744073709551616 + lo) rs : Nat) : Int), none) := by
  obtain ⟨b64, b8⟩ := pow64 hn
  unfold round_Round.f
  refine Ev.bind (round_Cut_eq hn hh hl h) ?_
  have hV : hi * 18446744073709551616 + lo < 2 ^ 128 := by rw [p128]; omega
  have hb := cutE_bounds (kd := kd) (sc := sc) (R := rs) b64 b8 hV
  unfold rnd
  generalize cutE n kd sc (hi * 18446744073709551616 + lo) rs = c at hb
  obtain ⟨c1, c2⟩ := c
  simp only at hb
  obtain ⟨p, rfl⟩ := Int.eq_ofNat_of_zero_le hb.1
  have hp1 : p ≤ 2 ^ (n - 1) := by omega
  have hp2 : 2 ^ (n - 1) < 2 ^ 64 := pow_lt (by omega)
  have hp3 : 2 ^ (n - 1) + 1 < 2 ^ n := by
    have : 2 ^ n = 2 * 2 ^ (n - 1) := by rw [show n = n - 1 + 1 by omega, Nat.pow_succ]; simp; omega
    have : 2 ^ 1 ≤ 2 ^ (n - 1) := pow_le (by omega)
    omega
  have hp4 : (2 : Nat) ^ n ≤ 2 ^ 64 := pow_le b64
  rw [p64] at hp2 hp4
  have fo : ∀ x : Nat, x < 2 ^ n → shape_Fold.f (n : Int) (x : Int) = some ((x : Int), none) := fun x hx => by
    rw [shape_Fold_eq hn (by omega), Nat.mod_eq_of_lt hx]
  have fn : ∀ x : Nat, x < 2 ^ n → shape_Fold.f (n : Int) (IntKind.u64.wrap (-(x : Int))) = some (((negN n x : Nat) : Int), none) := fun x hx => by
    rw [neg_wrap (by omega), shape_Fold_eq hn (Nat.mod_lt _ (by decide))]; rfl
  have e1 : IntKind.u64.wrap ((p : Int) + 1) = ((p + 1 : Nat) : Int) := by rw [u64_of (by omega) (by omega)]; omega
  refine evn ?_
  simp only [Option.isNone_none, if_true, e1, fo p (by omega), fo (p + 1) (by omega), fn p (by omega), fn (p + 1) (by omega), Option.bind_some, and_one (show p < 18446744073709551616 by omega), Int.toNat_natCast]
  by_cases k2 : c2 = 2
  · subst k2
    by_cases hp : p % 2 = 0
    · simp only [if_true, if_pos (show ((p % 2 : Nat) : Int) = 0 by omega)]
      cases ng <;> simp [hp]
    · have hp' : p % 2 = 1 := by omega
      simp only [if_true, if_neg (show ¬ ((p % 2 : Nat) : Int) = 0 by omega)]
      cases ng <;> simp [hp']
  · by_cases k3 : c2 = 3
    · subst k3
      cases ng <;> simp
    · simp only [if_neg k2, if_neg k3]
      cases ng <;> simp [k2, k3]
def soundN (kd : Int) (ng : Bool) (sc fr : Int) : Bool :=
  if kd = 0 ∨ kd = 2 then (!ng && (sc == 0 && fr == 0))
  else decide (kd = 1 ∧ 9223372036854775808 ≤ fr ∧ -1073741824 ≤ sc ∧ sc ≤ 1073741824)
theorem soundN_E {kd sc fr : Int} {ng : Bool} (h : soundN kd ng sc fr = true) : soundE kd ng sc fr 0 false = true := by
  unfold soundN at h
  unfold soundE
  split
  · rename_i hk
    rw [if_pos hk] at h
    simpa using h
  · rename_i hk
    rw [if_neg hk] at h
    have := of_decide_eq_true h
    exact decide_eq_true (by omega)
theorem round_Of_eq (kd : Int) (ng : Bool) (sc fr : Int) (h : fr < 18446744073709551616) (h0 : 0 ≤ fr) :
    Ev (fun k => round_Of.f k kd ng sc fr) (if soundN kd ng sc fr then (kd, ng, sc, fr, 0, false, none) else (0, false, 0, 0, 0, false, some 1)) := by
  unfold round_Of.f
  refine Ev.bind (round_sound_eq _ _ _ _ _ _ h h0) ?_
  refine evn ?_
  unfold soundE soundN
  by_cases hk : kd = 0 ∨ kd = 2
  · simp only [if_pos hk]
    cases ng
    · by_cases h1 : sc = 0
      · by_cases h2 : fr = 0
        · simp [h1, h2]
        · simp [h1, h2]
      · simp [h1]
    · simp
  · simp only [if_neg hk]
    by_cases h1 : kd = 1 ∧ 9223372036854775808 ≤ fr ∧ -1073741824 ≤ sc ∧ sc ≤ 1073741824
    · have h2 : kd = 1 ∧ 9223372036854775808 ≤ fr ∧ -1099511627776 ≤ sc ∧ sc ≤ 1099511627776 := by omega
      rw [decide_eq_true h1, decide_eq_true h2]
      simp only [if_true]
      rw [if_neg (by omega), if_neg (by omega)]
    · rw [decide_eq_false h1]
      simp only [Bool.false_eq_true, if_false]
      by_cases h2 : kd = 1 ∧ 9223372036854775808 ≤ fr ∧ -1099511627776 ≤ sc ∧ sc ≤ 1099511627776
      · rw [decide_eq_true h2]
        simp only [if_true]
        by_cases h3 : sc < -1073741824
        · rw [if_pos h3]
        · rw [if_neg h3, if_pos (by omega)]
      · rw [decide_eq_false h2]
        simp
end Go.Proofs.Ytfegofnplcmacaa.V
namespace Go.Proofs.Ytfegofnplcmacaa.PAll
open Go.RowKit Go.Proofs.YtfegofnplcmacaaW.PrintWords Go.Proofs.YtfegofnplcmacaaW.PrintLast Go.Proofs.YtfegofnplcmacaaW.PrintMore
attribute [local go_sem] max2_int min2_int max_two min_two max_three min_three max_four min_four
set_option linter.unusedVariables false
set_option linter.unusedSimpArgs false
def vernierref07_some.l0 : Nat → ByteArray → Int → Option (Bool)
  | 0, _, _ => none
  | k + 1, x0, x3 => if x3 < (x0.size : Int) then (if 0 ≤ x3 then (if (bt x0 x3) = 49 then (some true) else (vernierref07_some.l0 k x0 (wrap64 (x3 + 1)))) else (none)) else (some false)
def vernierref07_some.f (k : Nat) (a0 : ByteArray) : Option (Bool) := vernierref07_some.l0 k a0 0
theorem vernierref07_some.mono_l : ∀ k, (∀ y0 y1, LeO (vernierref07_some.l0 k y0 y1) (vernierref07_some.l0 (k + 1) y0 y1))
  | 0 => fun _ _ r h => by simp [vernierref07_some.l0] at h
  | k + 1 => by
    have ih0 := vernierref07_some.mono_l k
    · intro y0 y1
      unfold vernierref07_some.l0
      repeat' first
      | (with_reducible exact ih0 _ _)
      | (with_reducible exact LeO.refl _)
      | (with_reducible exact LeO.none _)
      | (with_reducible refine LeO.ite ?_ ?_)
      | (with_reducible refine LeO.bind ?_ (fun _ => ?_))
      | exact ih0 _ _
      | exact LeO.none _
      | refine LeO.ite ?_ ?_
      | refine LeO.bind ?_ (fun _ => ?_)
theorem vernierref07_some.mono : ∀ a0 k, LeO (vernierref07_some.f k a0) (vernierref07_some.f (k + 1) a0) := by
  intro a0 k
  have ih0 := vernierref07_some.mono_l k
  unfold vernierref07_some.f
  repeat' first
      | (with_reducible exact ih0 _ _)
      | (with_reducible exact LeO.refl _)
      | (with_reducible exact LeO.none _)
      | (with_reducible refine LeO.ite ?_ ?_)
      | (with_reducible refine LeO.bind ?_ (fun _ => ?_))
      | exact ih0 _ _
      | exact LeO.none _
      | refine LeO.ite ?_ ?_
      | refine LeO.bind ?_ (fun _ => ?_)
set_option maxHeartbeats 8000000 in
set_option maxRecDepth 100000 in
theorem vernierref07_some.calls (k : Nat) (a0 : ByteArray) (r : Bool) (w : World) (h : vernierref07_some.f k a0 = some r) :
    Calls Try.prog 33 #[.string a0] w fun e w' => e = .returned (.bool r) ∧ Drawn0 w w' := by
  have H : (vernierref07_some.l0 k a0 0) = some r := h
  clear h
  have H' := Aside0.mk H
  clear H
  go_enter Try.func33, Try.ntmps33
  go_wp2
  go_loopg [3] k (fun kq v3 w' => ∃ (x3_1 : Int), v3 = .int .i64 x3_1 ∧ Aside0 (vernierref07_some.l0 kq a0 x3_1 = some r) ∧ Aside0 (kq ≤ k) ∧ Drawn0 w w')
  case atStart => exact ⟨(0), (by first | rfl | (simp; done) | (simp [*]; done)), H', ⟨Nat.le_refl _⟩, by repeat (first | exact Drawn0.refl _ | apply Drawn0.step)⟩
  case round =>
    clear H'
    obtain ⟨x3_1, rfl, HA, HK1, ⟨m1, rfl⟩⟩ := hrel
    cases gk with
    | zero => exact absurd HA.out (by simp [vernierref07_some.l0])
    | succ k1 =>
      have H := HA.out
      clear HA
      simp only [vernierref07_some.l0] at H
      by_cases c2 : x3_1 < (a0.size : Int)
      · rw [if_pos c2] at H
        have c2b0 : decide (x3_1 < (a0.size : Int)) = true := decide_eq_true c2
        clear c2
        by_cases c3 : 0 ≤ x3_1
        · rw [if_pos c3] at H
          have c3b0 : decide (0 ≤ x3_1) = true := decide_eq_true c3
          clear c3
          by_cases c5 : (bt a0 x3_1) = 49
          · rw [if_pos c5] at H
            have c5b0 : ((bt a0 x3_1) == 49) = true := beq_iff_eq.mpr c5
            have c5b1 : ((bt a0 x3_1) != 49) = false := bne_eq_false_iff_eq.mpr c5
            clear c5
            obtain rfl := Option.some.inj H
            have p4 : 0 ≤ (x3_1 : Int) := of_decide_eq_true (by first | (with_reducible assumption) | assumption)
            have q4 : x3_1 < (a0.size : Int) := of_decide_eq_true (by first | (with_reducible assumption) | assumption)
            have hx4 := bt_at a0 x3_1
            replace p4 := eq_true p4
            replace q4 := eq_true q4
            go_wp2
            go_ret
            exact ⟨by first | rfl | (simp; done) | (simp [*]; done), by repeat (first | exact Drawn0.refl _ | apply Drawn0.step)⟩
          · rw [if_neg c5] at H
            have c5b0 : ((bt a0 x3_1) == 49) = false := beq_eq_false_iff_ne.mpr c5
            have c5b1 : ((bt a0 x3_1) != 49) = true := bne_iff_ne.mpr c5
            have H' := Aside0.mk H
            clear H
            have p4 : 0 ≤ (x3_1 : Int) := of_decide_eq_true (by first | (with_reducible assumption) | assumption)
            have q4 : x3_1 < (a0.size : Int) := of_decide_eq_true (by first | (with_reducible assumption) | assumption)
            have hx4 := bt_at a0 x3_1
            replace p4 := eq_true p4
            replace q4 := eq_true q4
            go_wp2
            go_roundg k1
            case measure => have := HK1.out; omega
            case rel => exact ⟨(wrap64 (x3_1 + 1)), (by first | rfl | (simp; done) | (simp [*]; done)), H', ⟨by have := HK1.out; omega⟩, by repeat (first | exact Drawn0.refl _ | apply Drawn0.step)⟩
        · rw [if_neg c3] at H
          exact absurd H (by simp)
      · rw [if_neg c2] at H
        have c2b0 : decide (x3_1 < (a0.size : Int)) = false := decide_eq_false c2
        clear c2
        obtain rfl := Option.some.inj H
        go_wp2
        go_ret
        exact ⟨by first | rfl | (simp; done) | (simp [*]; done), by repeat (first | exact Drawn0.refl _ | apply Drawn0.step)⟩
end Go.Proofs.Ytfegofnplcmacaa.PAll
namespace Go.Proofs.Ytfegofnplcmacaa.V
open Go Go.RowKit Go.Proofs.YtfegofnplcmacaaW.PrintWords Go.Proofs.YtfegofnplcmacaaW.PrintLast Go.Proofs.YtfegofnplcmacaaW.PrintMore Go.Proofs.Ytfegofnplcmacaa.PAll
set_option linter.unusedVariables false
set_option linter.unusedSimpArgs false
def numL (l : List UInt8) : Nat := l.foldl (fun x b => 2 * x + (b.toNat - 48)) 0
def okL (l : List UInt8) : Prop := ∀ b ∈ l, b.toNat = 48 ∨ b.toNat = 49
theorem numL_acc (l : List UInt8) : ∀ x, l.foldl (fun x b => 2 * x + (b.toNat - 48)) x = x * 2 ^ l.length + numL l := by
  induction l with
  | nil => intro x; simp [numL]
  | cons b l ih =>
    intro x
    simp only [List.foldl_cons, List.length_cons, numL]
    rw [ih, ih (2 * 0 + (b.toNat - 48)), Nat.pow_succ]
    generalize 2 ^ l.length = z
    generalize numL l = y
    generalize b.toNat - 48 = w
    grind
theorem numL_append (a b : List UInt8) : numL (a ++ b) = numL a * 2 ^ b.length + numL b := by
  unfold numL
  rw [List.foldl_append, numL_acc]
  rfl
theorem numL_lt {l : List UInt8} (h : okL l) : numL l < 2 ^ l.length := by
  induction l with
  | nil => simp [numL]
  | cons b l ih =>
    have ih := ih (fun x hx => h x (List.mem_cons_of_mem _ hx))
    have hb := h b List.mem_cons_self
    rw [show b :: l = [b] ++ l from rfl, numL_append]
    have e : numL [b] = b.toNat - 48 := by simp [numL]
    rw [e, List.length_append, Nat.pow_add]
    simp only [List.length_singleton, Nat.pow_one]
    rcases hb with hb | hb <;> rw [hb] <;> omega
theorem okL_append {a b : List UInt8} (ha : okL a) (hb : okL b) : okL (a ++ b) := fun x hx => (List.mem_append.mp hx).elim (ha x) (hb x)
theorem okL_drop {a : List UInt8} (m : Nat) (h : okL a) : okL (a.drop m) := fun x hx => h x (List.mem_of_mem_drop hx)
structure BT (s : ByteArray) (L X : Nat) : Prop where
  ok : okL s.data.toList
  size : s.size = L
  num : numL s.data.toList = X
theorem lenB (s : ByteArray) : s.data.toList.length = s.size := Array.length_toList
theorem BT.len {s : ByteArray} {L X : Nat} (h : BT s L X) : s.data.toList.length = L := by rw [← h.size]; exact lenB s
theorem BT.lt {s : ByteArray} {L X : Nat} (h : BT s L X) : X < 2 ^ L := by have := numL_lt h.ok; rw [h.len, h.num] at this; exact this
theorem BT.append {s t : ByteArray} {L M X Y : Nat} (h : BT s L X) (k : BT t M Y) : BT (s ++ t) (L + M) (X * 2 ^ M + Y) := by
  refine ⟨?_, ?_, ?_⟩
  · rw [ByteArray.data_append, Array.toList_append]; exact okL_append h.ok k.ok
  · rw [ByteArray.size_append, h.size, k.size]
  · rw [ByteArray.data_append, Array.toList_append, numL_append, h.num, k.num, k.len]
theorem bt_of {s : ByteArray} {i : Nat} (h : i < s.size) : bt s (i : Int) = ((s.data.toList[i]'(by rw [lenB]; exact h)).toNat : Int) := by
  unfold bt
  rw [dif_pos (by simpa using h)]
  simp [ByteArray.getElem_eq_getElem_data]
theorem BT.bit {s : ByteArray} {L X i : Nat} (h : BT s L X) (hi : i < L) : bt s (i : Int) = 48 + ((X / 2 ^ (L - 1 - i) % 2 : Nat) : Int) := by
  have hs : i < s.size := by rw [h.size]; exact hi
  rw [bt_of hs]
  have hl := h.len
  have hi' : i < s.data.toList.length := by omega
  have hx := h.ok _ (List.getElem_mem hi')
  have e1 : X = numL (s.data.toList.take (i + 1)) * 2 ^ (L - 1 - i) + numL (s.data.toList.drop (i + 1)) := by
    have := numL_append (s.data.toList.take (i + 1)) (s.data.toList.drop (i + 1))
    rw [List.take_append_drop, h.num, List.length_drop, hl, show L - (i + 1) = L - 1 - i by omega] at this
    exact this
  have hlt : numL (s.data.toList.drop (i + 1)) < 2 ^ (L - 1 - i) := by
    have := numL_lt (okL_drop (i + 1) h.ok)
    rw [List.length_drop, hl, show L - (i + 1) = L - 1 - i by omega] at this
    exact this
  have e2 : X / 2 ^ (L - 1 - i) = numL (s.data.toList.take (i + 1)) := by
    rw [e1, Nat.add_comm, Nat.add_mul_div_right _ _ (two_pos _), Nat.div_eq_of_lt hlt, Nat.zero_add]
  have e3 : numL (s.data.toList.take (i + 1)) = 2 * numL (s.data.toList.take i) + ((s.data.toList[i]'hi').toNat - 48) := by
    rw [List.take_succ_eq_append_getElem hi', numL_append]
    simp [numL]; omega
  rw [e2, e3]
  rcases hx with hx | hx <;> rw [hx] <;> omega
theorem BT.nil : BT ByteArray.empty 0 0 := ⟨by intro b hb; simp at hb, rfl, rfl⟩
structure BN (l : List Int) (L X : Nat) : Prop where
  len : l.length = L
  bt : BT (strOfNums l) L X
theorem BN.nil : BN [] 0 0 := ⟨rfl, ⟨by intro b hb; simp [strOfNums_data] at hb, rfl, rfl⟩⟩
theorem BN.snoc {l : List Int} {L X : Nat} (h : BN l L X) (b : Nat) (hb : b < 2) : BN (l ++ [48 + (b : Int)]) (L + 1) (2 * X + b) := by
  have e : (strOfNums (l ++ [48 + (b : Int)])).data.toList = (strOfNums l).data.toList ++ [UInt8.ofNat (48 + b)] := by
    rw [strOfNums_data, strOfNums_data, List.map_append]
    have : (48 + (b : Int)).toNat = 48 + b := by omega
    simp [this]
  have hv : (UInt8.ofNat (48 + b)).toNat = 48 + b := by
    rw [UInt8.toNat_ofNat']; omega
  refine ⟨by simp [h.len], ⟨?_, ?_, ?_⟩⟩
  · rw [e]
    refine okL_append h.bt.ok ?_
    intro x hx
    simp only [List.mem_singleton] at hx
    subst hx; rw [hv]; omega
  · rw [strOfNums_size]; simp [h.len]
  · rw [e, numL_append, h.bt.num]
    have : numL [UInt8.ofNat (48 + b)] = b := by unfold numL; simp only [List.foldl_cons, List.foldl_nil]; rw [hv]; omega
    rw [this]; simp; omega
theorem tmod2 (n : Nat) : Int.tmod (n : Int) 2 = ((n % 2 : Nat) : Int) := by
  rw [Int.tmod_eq_emod_of_nonneg (by omega)]; omega
theorem byte_bit (n : Nat) : (48 + Int.tmod (n : Int) 2) % 256 = 48 + ((n % 2 : Nat) : Int) := by rw [tmod2]; omega
theorem Text_l0 (x : Nat) (hx : x < 18446744073709551616) : ∀ (d : Nat) (l : List Int) (L : Nat), d ≤ 64 → L ≤ 64 → L + d ≤ 64 → BN l L (x % 2 ^ (L + d) / 2 ^ d) →
    ∃ s, Ev (fun k => vernierref01_Text.l0 k (x : Int) l ((d : Int) - 1)) s ∧ BT s (L + d) (x % 2 ^ (L + d))
  | 0, l, L, _, _, _, h => by
    refine ⟨strOfNums l, ?_, by simpa using h.bt⟩
    refine evs ?_
    simp only [vernierref01_Text.l0]
    simp only [if_neg (show ¬ ((0 : Nat) : Int) - 1 ≥ 0 by omega)]
    exact Ev.now _
  | d + 1, l, L, hd, hL, hs, h => by
    have hb := BN.snoc h (x / 2 ^ d % 2) (Nat.mod_lt _ (by decide))
    have e : 2 * (x % 2 ^ (L + (d + 1)) / 2 ^ (d + 1)) + x / 2 ^ d % 2 = x % 2 ^ (L + 1 + d) / 2 ^ d := by
      rw [show L + (d + 1) = L + 1 + d by omega, Nat.pow_succ 2 d, ← Nat.div_div_eq_div_mul]
      have e1 : x % 2 ^ (L + 1 + d) / 2 ^ d % 2 = x / 2 ^ d % 2 := by
        rw [show L + 1 + d = d + (L + 1) by omega, Nat.pow_add, Nat.mod_mul_right_div_self, Nat.pow_succ, Nat.mod_mul_left_mod]
      omega
    rw [e] at hb
    obtain ⟨s, h1, h2⟩ := Text_l0 x hx d _ (L + 1) (by omega) (by omega) (by omega) hb
    refine ⟨s, ?_, by rw [show L + (d + 1) = L + 1 + d by omega]; exact h2⟩
    refine evs ?_
    simp only [vernierref01_Text.l0]
    have ei : ((d + 1 : Nat) : Int) - 1 = (d : Int) := by omega
    rw [ei]
    have ew : wrap64 ((d : Int) - 1) = (d : Int) - 1 := w64 (by omega) (by omega)
    have hlen := h.len
    have esh := shr_nat x d (by omega)
    have eb := byte_bit (x / 2 ^ d)
    simp only [if_pos (show (d : Int) ≥ 0 by omega), if_pos (show (0 : Int) ≤ (d : Int) by omega), if_pos (show l.length < 140737488355328 by omega), ew, esh, eb]
    exact h1
theorem Text_eq (x n : Nat) (hx : x < 18446744073709551616) (hn : n ≤ 64) :
    ∃ s, Ev (fun k => vernierref01_Text.f k (x : Int) (n : Int)) s ∧ BT s n (x % 2 ^ n) := by
  have h0 : BN [] 0 (x % 2 ^ (0 + n) / 2 ^ n) := by
    rw [Nat.zero_add, Nat.div_eq_of_lt (Nat.mod_lt _ (two_pos n))]; exact BN.nil
  obtain ⟨s, h1, h2⟩ := Text_l0 x hx n [] 0 hn (by omega) (by omega) h0
  refine ⟨s, ?_, by rw [Nat.zero_add] at h2; exact h2⟩
  unfold vernierref01_Text.f
  rw [w64 (by omega) (by omega)]
  exact h1
theorem Number_l0 {s : ByteArray} {L X : Nat} (h : BT s L X) (hL : L ≤ 64) : ∀ (d i : Nat), i + d = L →
    Ev (fun k => vernierref01_Number.l0 k s ((X / 2 ^ d : Nat) : Int) (i : Int)) (X : Int)
  | 0, i, hi => by
    refine evs ?_
    simp only [vernierref01_Number.l0]
    simp only [if_neg (show ¬ (i : Int) < (s.size : Int) by rw [h.size]; omega)]
    simpa using Ev.now (X : Int)
  | d + 1, i, hi => by
    refine evs ?_
    simp only [vernierref01_Number.l0]
    have hb := h.bit (i := i) (by omega)
    have hlt := h.lt
    simp only [if_pos (show (i : Int) < (s.size : Int) by rw [h.size]; omega), if_pos (show (0 : Int) ≤ (i : Int) by omega), hb]
    have ed : L - 1 - i = d := by omega
    rw [ed]
    have ew : wrap64 ((i : Int) + 1) = ((i + 1 : Nat) : Int) := by rw [w64 (by omega) (by omega)]; omega
    have hq : X / 2 ^ d < 2 ^ 64 := Nat.lt_of_le_of_lt (Nat.div_le_self _ _) (Nat.lt_of_lt_of_le hlt (pow_le hL))
    rw [p64] at hq
    have e2 : X / 2 ^ (d + 1) = X / 2 ^ d / 2 := by rw [Nat.pow_succ, Nat.div_div_eq_div_mul]
    have e1 : IntKind.u64.wrap (IntKind.u64.wrap (2 * ((X / 2 ^ (d + 1) : Nat) : Int)) + (48 + ((X / 2 ^ d % 2 : Nat) : Int) - 48) % 256) = ((X / 2 ^ d : Nat) : Int) := by
      rw [e2]
      generalize X / 2 ^ d = q at hq
      rw [u64_of (n := 2 * ((q / 2 : Nat) : Int)) (by omega) (by omega), u64_of (by omega) (by omega)]; omega
    rw [ew, e1]
    exact Number_l0 h hL d (i + 1) (by omega)
theorem Number_eq {s : ByteArray} {L X : Nat} (h : BT s L X) (hL : L ≤ 64) : Ev (fun k => vernierref01_Number.f k s) (X : Int) := by
  have := Number_l0 h hL L 0 (by omega)
  rw [Nat.div_eq_of_lt h.lt] at this
  unfold vernierref01_Number.f
  exact this
end Go.Proofs.Ytfegofnplcmacaa.V
namespace Go.Proofs.Ytfegofnplcmacaa.PAll
open Go.RowKit Go.Proofs.YtfegofnplcmacaaW.PrintWords Go.Proofs.YtfegofnplcmacaaW.PrintLast Go.Proofs.YtfegofnplcmacaaW.PrintMore
attribute [local go_sem] max2_int min2_int max_two min_two max_three min_three max_four min_four
set_option linter.unusedVariables false
set_option linter.unusedSimpArgs false
attribute [local go_sem high] eqA24
def vernierref07_Sound.f (a0_0 : Int) (a0_1 : Bool) (a0_2 : Int) (a0_3 : Int) (a0_4 : Int) (a0_5 : Bool) : Option (Bool) := if a0_0 = 0 then (some (!a0_1 && (a0_2 == 0 && (a0_3 == 0 && (a0_4 == 0 && (!a0_5)))))) else (if a0_0 = 2 then (some (!a0_1 && (a0_2 == 0 && (a0_3 == 0 && (a0_4 == 0 && (!a0_5)))))) else (if a0_0 = 1 then (if a0_3 ≥ 9223372036854775808 then (if a0_2 ≥ (-1099511627776) then (some (decide (a0_2 ≤ 1099511627776))) else (some false)) else (some false)) else (some false)))
set_option maxHeartbeats 8000000 in
set_option maxRecDepth 100000 in
theorem vernierref07_Sound.calls (a0_0 : Int) (a0_1 : Bool) (a0_2 : Int) (a0_3 : Int) (a0_4 : Int) (a0_5 : Bool) (r : Bool) (w : World) (h : vernierref07_Sound.f a0_0 a0_1 a0_2 a0_3 a0_4 a0_5 = some r) :
    Calls Try.prog 16 #[.agg #[.int .i64 a0_0, .bool a0_1, .int .i64 a0_2, .int .u64 a0_3, .int .u64 a0_4, .bool a0_5]] w fun e w' => e = .returned (.bool r) ∧ Below w.heap.size w w' := by
  have hu24 := Try.underlying24
  have HB := Aside0.mk (Below.refl w.heap.size w)
  have H : (if a0_0 = 0 then (some (!a0_1 && (a0_2 == 0 && (a0_3 == 0 && (a0_4 == 0 && (!a0_5)))))) else (if a0_0 = 2 then (some (!a0_1 && (a0_2 == 0 && (a0_3 == 0 && (a0_4 == 0 && (!a0_5)))))) else (if a0_0 = 1 then (if a0_3 ≥ 9223372036854775808 then (if a0_2 ≥ (-1099511627776) then (some (decide (a0_2 ≤ 1099511627776))) else (some false)) else (some false)) else (some false)))) = some r := h
  clear h
  by_cases c2 : a0_0 = 0
  · rw [if_pos c2] at H
    have c2b0 : (a0_0 == 0) = true := beq_iff_eq.mpr c2
    have c2b1 : (a0_0 != 0) = false := bne_eq_false_iff_eq.mpr c2
    clear c2
    obtain rfl := Option.some.inj H
    go_enter Try.func16, Try.ntmps16
    go_wp2_with (first | ((with_reducible refine gate_dst (N := 1) rfl ?_); refine box_event ?hg (N := 1) ?hd (cs := #[.int .i64 a0_0, .bool a0_1, .int .i64 a0_2, .int .u64 a0_3, .int .u64 a0_4, .bool a0_5]) (t := 24) ?hr ?_; (case hd => rfl); (case hg => rfl); (case hr => first | (go_simp; done) | (go_simp; rfl)); intro gb199 hg w3 hbox hb; have n0_ := Aside0.mk (below_step (by repeat (first | (with_reducible first | exact HB.out | apply below_alloc | apply pw_below_drewN | apply below_drew1) | exact HB.out)) hb); have n1_ := Aside0.mk (hbox); have n2_ := Aside0.mk ((by rw [hg]; exact (below_size (by repeat (first | (with_reducible first | exact HB.out | apply below_alloc | apply pw_below_drewN | apply below_drew1) | exact HB.out))) : w.heap.size ≤ gb199)); have n3_ := Aside0.mk ((by rw [hg]; exact (below_size (by repeat (first | (with_reducible first | exact HB.out | apply below_alloc | apply pw_below_drewN | apply below_drew1) | exact HB.out))) : w.heap.size ≤ gb199)); clear HB; have HB := n0_; have BK199 := n1_; have GW199 := n2_; have GE199 := n3_; clear n0_ n1_ n2_ n3_; clear hb hbox hg; have hcz4_0 : w3.cell? ⟨gb199, 0, none⟩ = some (.int .i64 a0_0) := (blk_cell BK199.out 0).trans rfl; have hcz4_1 : w3.cell? ⟨gb199, 1, none⟩ = some (.bool a0_1) := (blk_cell BK199.out 1).trans rfl; have hcz4_2 : w3.cell? ⟨gb199, 2, none⟩ = some (.int .i64 a0_2) := (blk_cell BK199.out 2).trans rfl; have hcz4_3 : w3.cell? ⟨gb199, 3, none⟩ = some (.int .u64 a0_3) := (blk_cell BK199.out 3).trans rfl; have hcz4_4 : w3.cell? ⟨gb199, 4, none⟩ = some (.int .u64 a0_4) := (blk_cell BK199.out 4).trans rfl; have hcz4_5 : w3.cell? ⟨gb199, 5, none⟩ = some (.bool a0_5) := (blk_cell BK199.out 5).trans rfl; have hfz4_0 := blk_frozen BK199.out 0; have hfz4_1 := blk_frozen BK199.out 1; have hfz4_2 := blk_frozen BK199.out 2; have hfz4_3 := blk_frozen BK199.out 3; have hfz4_4 := blk_frozen BK199.out 4; have hfz4_5 := blk_frozen BK199.out 5))
    go_ret
    exact ⟨by first | rfl | (simp [errW_none, errW_some] <;> rfl) | (simp [*, errW_none, errW_some] <;> rfl), by repeat (first | (with_reducible first | exact HB.out | apply below_alloc | apply pw_below_drewN | apply below_drew1 | refine below_set ?_ GE199.out) | exact HB.out)⟩
  · rw [if_neg c2] at H
    have c2b0 : (a0_0 == 0) = false := beq_eq_false_iff_ne.mpr c2
    have c2b1 : (a0_0 != 0) = true := bne_iff_ne.mpr c2
    by_cases c5 : a0_0 = 2
    · rw [if_pos c5] at H
      have c5b0 : (a0_0 == 2) = true := beq_iff_eq.mpr c5
      have c5b1 : (a0_0 != 2) = false := bne_eq_false_iff_eq.mpr c5
      clear c5
      obtain rfl := Option.some.inj H
      go_enter Try.func16, Try.ntmps16
      go_wp2_with (first | ((with_reducible refine gate_dst (N := 1) rfl ?_); refine box_event ?hg (N := 1) ?hd (cs := #[.int .i64 a0_0, .bool a0_1, .int .i64 a0_2, .int .u64 a0_3, .int .u64 a0_4, .bool a0_5]) (t := 24) ?hr ?_; (case hd => rfl); (case hg => rfl); (case hr => first | (go_simp; done) | (go_simp; rfl)); intro gb199 hg w6 hbox hb; have n0_ := Aside0.mk (below_step (by repeat (first | (with_reducible first | exact HB.out | apply below_alloc | apply pw_below_drewN | apply below_drew1) | exact HB.out)) hb); have n1_ := Aside0.mk (hbox); have n2_ := Aside0.mk ((by rw [hg]; exact (below_size (by repeat (first | (with_reducible first | exact HB.out | apply below_alloc | apply pw_below_drewN | apply below_drew1) | exact HB.out))) : w.heap.size ≤ gb199)); have n3_ := Aside0.mk ((by rw [hg]; exact (below_size (by repeat (first | (with_reducible first | exact HB.out | apply below_alloc | apply pw_below_drewN | apply below_drew1) | exact HB.out))) : w.heap.size ≤ gb199)); clear HB; have HB := n0_; have BK199 := n1_; have GW199 := n2_; have GE199 := n3_; clear n0_ n1_ n2_ n3_; clear hb hbox hg; have hcz7_0 : w6.cell? ⟨gb199, 0, none⟩ = some (.int .i64 a0_0) := (blk_cell BK199.out 0).trans rfl; have hcz7_1 : w6.cell? ⟨gb199, 1, none⟩ = some (.bool a0_1) := (blk_cell BK199.out 1).trans rfl; have hcz7_2 : w6.cell? ⟨gb199, 2, none⟩ = some (.int .i64 a0_2) := (blk_cell BK199.out 2).trans rfl; have hcz7_3 : w6.cell? ⟨gb199, 3, none⟩ = some (.int .u64 a0_3) := (blk_cell BK199.out 3).trans rfl; have hcz7_4 : w6.cell? ⟨gb199, 4, none⟩ = some (.int .u64 a0_4) := (blk_cell BK199.out 4).trans rfl; have hcz7_5 : w6.cell? ⟨gb199, 5, none⟩ = some (.bool a0_5) := (blk_cell BK199.out 5).trans rfl; have hfz7_0 := blk_frozen BK199.out 0; have hfz7_1 := blk_frozen BK199.out 1; have hfz7_2 := blk_frozen BK199.out 2; have hfz7_3 := blk_frozen BK199.out 3; have hfz7_4 := blk_frozen BK199.out 4; have hfz7_5 := blk_frozen BK199.out 5))
      go_ret
      exact ⟨by first | rfl | (simp [errW_none, errW_some] <;> rfl) | (simp [*, errW_none, errW_some] <;> rfl), by repeat (first | (with_reducible first | exact HB.out | apply below_alloc | apply pw_below_drewN | apply below_drew1 | refine below_set ?_ GE199.out) | exact HB.out)⟩
    · rw [if_neg c5] at H
      have c5b0 : (a0_0 == 2) = false := beq_eq_false_iff_ne.mpr c5
      have c5b1 : (a0_0 != 2) = true := bne_iff_ne.mpr c5
      by_cases c8 : a0_0 = 1
      · rw [if_pos c8] at H
        have c8b0 : (a0_0 == 1) = true := beq_iff_eq.mpr c8
        have c8b1 : (a0_0 != 1) = false := bne_eq_false_iff_eq.mpr c8
        clear c8
        by_cases c9 : a0_3 ≥ 9223372036854775808
        · rw [if_pos c9] at H
          have c9b0 : decide (9223372036854775808 ≤ a0_3) = true := decide_eq_true c9
          clear c9
          by_cases c10 : a0_2 ≥ (-1099511627776)
          · rw [if_pos c10] at H
            have c10b0 : decide ((-1099511627776) ≤ a0_2) = true := decide_eq_true c10
            clear c10
            obtain rfl := Option.some.inj H
            go_enter Try.func16, Try.ntmps16
            go_wp2_with (first | ((with_reducible refine gate_dst (N := 1) rfl ?_); refine box_event ?hg (N := 1) ?hd (cs := #[.int .i64 a0_0, .bool a0_1, .int .i64 a0_2, .int .u64 a0_3, .int .u64 a0_4, .bool a0_5]) (t := 24) ?hr ?_; (case hd => rfl); (case hg => rfl); (case hr => first | (go_simp; done) | (go_simp; rfl)); intro gb199 hg w11 hbox hb; have n0_ := Aside0.mk (below_step (by repeat (first | (with_reducible first | exact HB.out | apply below_alloc | apply pw_below_drewN | apply below_drew1) | exact HB.out)) hb); have n1_ := Aside0.mk (hbox); have n2_ := Aside0.mk ((by rw [hg]; exact (below_size (by repeat (first | (with_reducible first | exact HB.out | apply below_alloc | apply pw_below_drewN | apply below_drew1) | exact HB.out))) : w.heap.size ≤ gb199)); have n3_ := Aside0.mk ((by rw [hg]; exact (below_size (by repeat (first | (with_reducible first | exact HB.out | apply below_alloc | apply pw_below_drewN | apply below_drew1) | exact HB.out))) : w.heap.size ≤ gb199)); clear HB; have HB := n0_; have BK199 := n1_; have GW199 := n2_; have GE199 := n3_; clear n0_ n1_ n2_ n3_; clear hb hbox hg; have hcz12_0 : w11.cell? ⟨gb199, 0, none⟩ = some (.int .i64 a0_0) := (blk_cell BK199.out 0).trans rfl; have hcz12_1 : w11.cell? ⟨gb199, 1, none⟩ = some (.bool a0_1) := (blk_cell BK199.out 1).trans rfl; have hcz12_2 : w11.cell? ⟨gb199, 2, none⟩ = some (.int .i64 a0_2) := (blk_cell BK199.out 2).trans rfl; have hcz12_3 : w11.cell? ⟨gb199, 3, none⟩ = some (.int .u64 a0_3) := (blk_cell BK199.out 3).trans rfl; have hcz12_4 : w11.cell? ⟨gb199, 4, none⟩ = some (.int .u64 a0_4) := (blk_cell BK199.out 4).trans rfl; have hcz12_5 : w11.cell? ⟨gb199, 5, none⟩ = some (.bool a0_5) := (blk_cell BK199.out 5).trans rfl; have hfz12_0 := blk_frozen BK199.out 0; have hfz12_1 := blk_frozen BK199.out 1; have hfz12_2 := blk_frozen BK199.out 2; have hfz12_3 := blk_frozen BK199.out 3; have hfz12_4 := blk_frozen BK199.out 4; have hfz12_5 := blk_frozen BK199.out 5))
            go_ret
            exact ⟨by first | rfl | (simp [errW_none, errW_some] <;> rfl) | (simp [*, errW_none, errW_some] <;> rfl), by repeat (first | (with_reducible first | exact HB.out | apply below_alloc | apply pw_below_drewN | apply below_drew1 | refine below_set ?_ GE199.out) | exact HB.out)⟩
          · rw [if_neg c10] at H
            have c10b0 : decide ((-1099511627776) ≤ a0_2) = false := decide_eq_false c10
            clear c10
            obtain rfl := Option.some.inj H
            go_enter Try.func16, Try.ntmps16
            go_wp2_with (first | ((with_reducible refine gate_dst (N := 1) rfl ?_); refine box_event ?hg (N := 1) ?hd (cs := #[.int .i64 a0_0, .bool a0_1, .int .i64 a0_2, .int .u64 a0_3, .int .u64 a0_4, .bool a0_5]) (t := 24) ?hr ?_; (case hd => rfl); (case hg => rfl); (case hr => first | (go_simp; done) | (go_simp; rfl)); intro gb199 hg w13 hbox hb; have n0_ := Aside0.mk (below_step (by repeat (first | (with_reducible first | exact HB.out | apply below_alloc | apply pw_below_drewN | apply below_drew1) | exact HB.out)) hb); have n1_ := Aside0.mk (hbox); have n2_ := Aside0.mk ((by rw [hg]; exact (below_size (by repeat (first | (with_reducible first | exact HB.out | apply below_alloc | apply pw_below_drewN | apply below_drew1) | exact HB.out))) : w.heap.size ≤ gb199)); have n3_ := Aside0.mk ((by rw [hg]; exact (below_size (by repeat (first | (with_reducible first | exact HB.out | apply below_alloc | apply pw_below_drewN | apply below_drew1) | exact HB.out))) : w.heap.size ≤ gb199)); clear HB; have HB := n0_; have BK199 := n1_; have GW199 := n2_; have GE199 := n3_; clear n0_ n1_ n2_ n3_; clear hb hbox hg; have hcz14_0 : w13.cell? ⟨gb199, 0, none⟩ = some (.int .i64 a0_0) := (blk_cell BK199.out 0).trans rfl; have hcz14_1 : w13.cell? ⟨gb199, 1, none⟩ = some (.bool a0_1) := (blk_cell BK199.out 1).trans rfl; have hcz14_2 : w13.cell? ⟨gb199, 2, none⟩ = some (.int .i64 a0_2) := (blk_cell BK199.out 2).trans rfl; have hcz14_3 : w13.cell? ⟨gb199, 3, none⟩ = some (.int .u64 a0_3) := (blk_cell BK199.out 3).trans rfl; have hcz14_4 : w13.cell? ⟨gb199, 4, none⟩ = some (.int .u64 a0_4) := (blk_cell BK199.out 4).trans rfl; have hcz14_5 : w13.cell? ⟨gb199, 5, none⟩ = some (.bool a0_5) := (blk_cell BK199.out 5).trans rfl; have hfz14_0 := blk_frozen BK199.out 0; have hfz14_1 := blk_frozen BK199.out 1; have hfz14_2 := blk_frozen BK199.out 2; have hfz14_3 := blk_frozen BK199.out 3; have hfz14_4 := blk_frozen BK199.out 4; have hfz14_5 := blk_frozen BK199.out 5))
            go_ret
            exact ⟨by first | rfl | (simp [errW_none, errW_some] <;> rfl) | (simp [*, errW_none, errW_some] <;> rfl), by repeat (first | (with_reducible first | exact HB.out | apply below_alloc | apply pw_below_drewN | apply below_drew1 | refine below_set ?_ GE199.out) | exact HB.out)⟩
        · rw [if_neg c9] at H
          have c9b0 : decide (9223372036854775808 ≤ a0_3) = false := decide_eq_false c9
          clear c9
          obtain rfl := Option.some.inj H
          go_enter Try.func16, Try.ntmps16
          go_wp2_with (first | ((with_reducible refine gate_dst (N := 1) rfl ?_); refine box_event ?hg (N := 1) ?hd (cs := #[.int .i64 a0_0, .bool a0_1, .int .i64 a0_2, .int .u64 a0_3, .int .u64 a0_4, .bool a0_5]) (t := 24) ?hr ?_; (case hd => rfl); (case hg => rfl); (case hr => first | (go_simp; done) | (go_simp; rfl)); intro gb199 hg w15 hbox hb; have n0_ := Aside0.mk (below_step (by repeat (first | (with_reducible first | exact HB.out | apply below_alloc | apply pw_below_drewN | apply below_drew1) | exact HB.out)) hb); have n1_ := Aside0.mk (hbox); have n2_ := Aside0.mk ((by rw [hg]; exact (below_size (by repeat (first | (with_reducible first | exact HB.out | apply below_alloc | apply pw_below_drewN | apply below_drew1) | exact HB.out))) : w.heap.size ≤ gb199)); have n3_ := Aside0.mk ((by rw [hg]; exact (below_size (by repeat (first | (with_reducible first | exact HB.out | apply below_alloc | apply pw_below_drewN | apply below_drew1) | exact HB.out))) : w.heap.size ≤ gb199)); clear HB; have HB := n0_; have BK199 := n1_; have GW199 := n2_; have GE199 := n3_; clear n0_ n1_ n2_ n3_; clear hb hbox hg; have hcz16_0 : w15.cell? ⟨gb199, 0, none⟩ = some (.int .i64 a0_0) := (blk_cell BK199.out 0).trans rfl; have hcz16_1 : w15.cell? ⟨gb199, 1, none⟩ = some (.bool a0_1) := (blk_cell BK199.out 1).trans rfl; have hcz16_2 : w15.cell? ⟨gb199, 2, none⟩ = some (.int .i64 a0_2) := (blk_cell BK199.out 2).trans rfl; have hcz16_3 : w15.cell? ⟨gb199, 3, none⟩ = some (.int .u64 a0_3) := (blk_cell BK199.out 3).trans rfl; have hcz16_4 : w15.cell? ⟨gb199, 4, none⟩ = some (.int .u64 a0_4) := (blk_cell BK199.out 4).trans rfl; have hcz16_5 : w15.cell? ⟨gb199, 5, none⟩ = some (.bool a0_5) := (blk_cell BK199.out 5).trans rfl; have hfz16_0 := blk_frozen BK199.out 0; have hfz16_1 := blk_frozen BK199.out 1; have hfz16_2 := blk_frozen BK199.out 2; have hfz16_3 := blk_frozen BK199.out 3; have hfz16_4 := blk_frozen BK199.out 4; have hfz16_5 := blk_frozen BK199.out 5))
          go_ret
          exact ⟨by first | rfl | (simp [errW_none, errW_some] <;> rfl) | (simp [*, errW_none, errW_some] <;> rfl), by repeat (first | (with_reducible first | exact HB.out | apply below_alloc | apply pw_below_drewN | apply below_drew1 | refine below_set ?_ GE199.out) | exact HB.out)⟩
      · rw [if_neg c8] at H
        have c8b0 : (a0_0 == 1) = false := beq_eq_false_iff_ne.mpr c8
        have c8b1 : (a0_0 != 1) = true := bne_iff_ne.mpr c8
        obtain rfl := Option.some.inj H
        go_enter Try.func16, Try.ntmps16
        go_wp2_with (first | ((with_reducible refine gate_dst (N := 1) rfl ?_); refine box_event ?hg (N := 1) ?hd (cs := #[.int .i64 a0_0, .bool a0_1, .int .i64 a0_2, .int .u64 a0_3, .int .u64 a0_4, .bool a0_5]) (t := 24) ?hr ?_; (case hd => rfl); (case hg => rfl); (case hr => first | (go_simp; done) | (go_simp; rfl)); intro gb199 hg w17 hbox hb; have n0_ := Aside0.mk (below_step (by repeat (first | (with_reducible first | exact HB.out | apply below_alloc | apply pw_below_drewN | apply below_drew1) | exact HB.out)) hb); have n1_ := Aside0.mk (hbox); have n2_ := Aside0.mk ((by rw [hg]; exact (below_size (by repeat (first | (with_reducible first | exact HB.out | apply below_alloc | apply pw_below_drewN | apply below_drew1) | exact HB.out))) : w.heap.size ≤ gb199)); have n3_ := Aside0.mk ((by rw [hg]; exact (below_size (by repeat (first | (with_reducible first | exact HB.out | apply below_alloc | apply pw_below_drewN | apply below_drew1) | exact HB.out))) : w.heap.size ≤ gb199)); clear HB; have HB := n0_; have BK199 := n1_; have GW199 := n2_; have GE199 := n3_; clear n0_ n1_ n2_ n3_; clear hb hbox hg; have hcz18_0 : w17.cell? ⟨gb199, 0, none⟩ = some (.int .i64 a0_0) := (blk_cell BK199.out 0).trans rfl; have hcz18_1 : w17.cell? ⟨gb199, 1, none⟩ = some (.bool a0_1) := (blk_cell BK199.out 1).trans rfl; have hcz18_2 : w17.cell? ⟨gb199, 2, none⟩ = some (.int .i64 a0_2) := (blk_cell BK199.out 2).trans rfl; have hcz18_3 : w17.cell? ⟨gb199, 3, none⟩ = some (.int .u64 a0_3) := (blk_cell BK199.out 3).trans rfl; have hcz18_4 : w17.cell? ⟨gb199, 4, none⟩ = some (.int .u64 a0_4) := (blk_cell BK199.out 4).trans rfl; have hcz18_5 : w17.cell? ⟨gb199, 5, none⟩ = some (.bool a0_5) := (blk_cell BK199.out 5).trans rfl; have hfz18_0 := blk_frozen BK199.out 0; have hfz18_1 := blk_frozen BK199.out 1; have hfz18_2 := blk_frozen BK199.out 2; have hfz18_3 := blk_frozen BK199.out 3; have hfz18_4 := blk_frozen BK199.out 4; have hfz18_5 := blk_frozen BK199.out 5))
        go_ret
        exact ⟨by first | rfl | (simp [errW_none, errW_some] <;> rfl) | (simp [*, errW_none, errW_some] <;> rfl), by repeat (first | (with_reducible first | exact HB.out | apply below_alloc | apply pw_below_drewN | apply below_drew1 | refine below_set ?_ GE199.out) | exact HB.out)⟩
end Go.Proofs.Ytfegofnplcmacaa.PAll
namespace Go.Proofs.Ytfegofnplcmacaa.PAll
open Go.RowKit Go.Proofs.YtfegofnplcmacaaW.PrintWords Go.Proofs.YtfegofnplcmacaaW.PrintLast Go.Proofs.YtfegofnplcmacaaW.PrintMore
attribute [local go_sem] max2_int min2_int max_two min_two max_three min_three max_four min_four
set_option linter.unusedVariables false
set_option linter.unusedSimpArgs false
def vernierref05_Power.l0 : Nat → Int → Int → Int → Option (Int)
  | 0, _, _, _ => none
  | k + 1, x0, x3, x4 => if x4 < x0 then (vernierref05_Power.l0 k x0 (IntKind.u64.wrap (2 * x3)) (wrap64 (x4 + 1))) else (some x3)
def vernierref05_Power.f (k : Nat) (a0 : Int) : Option (Int) := vernierref05_Power.l0 k a0 1 0
theorem vernierref05_Power.mono_l : ∀ k, (∀ y0 y1 y2, LeO (vernierref05_Power.l0 k y0 y1 y2) (vernierref05_Power.l0 (k + 1) y0 y1 y2))
  | 0 => fun _ _ _ r h => by simp [vernierref05_Power.l0] at h
  | k + 1 => by
    have ih0 := vernierref05_Power.mono_l k
    · intro y0 y1 y2
      unfold vernierref05_Power.l0
      repeat' first
      | (with_reducible exact ih0 _ _ _)
      | (with_reducible exact LeO.refl _)
      | (with_reducible exact LeO.none _)
      | (with_reducible refine LeO.ite ?_ ?_)
      | (with_reducible refine LeO.bind ?_ (fun _ => ?_))
      | exact ih0 _ _ _
      | exact LeO.none _
      | refine LeO.ite ?_ ?_
      | refine LeO.bind ?_ (fun _ => ?_)
theorem vernierref05_Power.mono : ∀ a0 k, LeO (vernierref05_Power.f k a0) (vernierref05_Power.f (k + 1) a0) := by
  intro a0 k
  have ih0 := vernierref05_Power.mono_l k
  unfold vernierref05_Power.f
  repeat' first
      | (with_reducible exact ih0 _ _ _)
      | (with_reducible exact LeO.refl _)
      | (with_reducible exact LeO.none _)
      | (with_reducible refine LeO.ite ?_ ?_)
      | (with_reducible refine LeO.bind ?_ (fun _ => ?_))
      | exact ih0 _ _ _
      | exact LeO.none _
      | refine LeO.ite ?_ ?_
      | refine LeO.bind ?_ (fun _ => ?_)
set_option maxHeartbeats 8000000 in
set_option maxRecDepth 100000 in
theorem vernierref05_Power.calls (k : Nat) (a0 : Int) (r : Int) (w : World) (h : vernierref05_Power.f k a0 = some r) :
    Calls Try.prog 26 #[.int .i64 a0] w fun e w' => e = .returned (.int .u64 r) ∧ Drawn0 w w' := by
  have H : (vernierref05_Power.l0 k a0 1 0) = some r := h
  clear h
  have H' := Aside0.mk H
  clear H
  go_enter Try.func26, Try.ntmps26
  go_wp2
  go_loopg [3, 4] k (fun kq v3 v4 w' => ∃ (x3_1 : Int) (x4_1 : Int), v3 = .int .u64 x3_1 ∧ v4 = .int .i64 x4_1 ∧ Aside0 (vernierref05_Power.l0 kq a0 x3_1 x4_1 = some r) ∧ Aside0 (kq ≤ k) ∧ Drawn0 w w')
  case atStart => exact ⟨(1), (0), (by first | rfl | (simp; done) | (simp [*]; done)), (by first | rfl | (simp; done) | (simp [*]; done)), H', ⟨Nat.le_refl _⟩, by repeat (first | exact Drawn0.refl _ | apply Drawn0.step)⟩
  case round =>
    clear H'
    obtain ⟨x3_1, x4_1, rfl, rfl, HA, HK1, ⟨m1, rfl⟩⟩ := hrel
    cases gk with
    | zero => exact absurd HA.out (by simp [vernierref05_Power.l0])
    | succ k1 =>
      have H := HA.out
      clear HA
      simp only [vernierref05_Power.l0] at H
      by_cases c2 : x4_1 < a0
      · rw [if_pos c2] at H
        have c2b0 : decide (x4_1 < a0) = true := decide_eq_true c2
        clear c2
        have H' := Aside0.mk H
        clear H
        go_wp2
        go_roundg k1
        case measure => have := HK1.out; omega
        case rel => exact ⟨(IntKind.u64.wrap (2 * x3_1)), (wrap64 (x4_1 + 1)), (by first | rfl | (simp; done) | (simp [*]; done)), (by first | rfl | (simp; done) | (simp [*]; done)), H', ⟨by have := HK1.out; omega⟩, by repeat (first | exact Drawn0.refl _ | apply Drawn0.step)⟩
      · rw [if_neg c2] at H
        have c2b0 : decide (x4_1 < a0) = false := decide_eq_false c2
        clear c2
        obtain rfl := Option.some.inj H
        go_wp2
        go_ret
        exact ⟨by first | rfl | (simp; done) | (simp [*]; done), by repeat (first | exact Drawn0.refl _ | apply Drawn0.step)⟩
end Go.Proofs.Ytfegofnplcmacaa.PAll
namespace Go.Proofs.Ytfegofnplcmacaa.PAll
open Go.RowKit Go.Proofs.YtfegofnplcmacaaW.PrintWords Go.Proofs.YtfegofnplcmacaaW.PrintLast Go.Proofs.YtfegofnplcmacaaW.PrintMore
attribute [local go_sem] max2_int min2_int max_two min_two max_three min_three max_four min_four
set_option linter.unusedVariables false
set_option linter.unusedSimpArgs false
def vernierref06_regime.f (a0 : Int) : Option (Int) := if (wrap64 (4 * (wrap64 (Int.tdiv a0 4)))) > a0 then (some (wrap64 ((wrap64 (Int.tdiv a0 4)) - 1))) else (some (wrap64 (Int.tdiv a0 4)))
set_option maxHeartbeats 8000000 in
set_option maxRecDepth 100000 in
theorem vernierref06_regime.calls (a0 : Int) (r : Int) (w : World) (h : vernierref06_regime.f a0 = some r) :
    Calls Try.prog 56 #[.int .i64 a0] w fun e w' => e = .returned (.int .i64 r) ∧ Drawn0 w w' := by
  have H : (if (wrap64 (4 * (wrap64 (Int.tdiv a0 4)))) > a0 then (some (wrap64 ((wrap64 (Int.tdiv a0 4)) - 1))) else (some (wrap64 (Int.tdiv a0 4)))) = some r := h
  clear h
  by_cases c2 : (wrap64 (4 * (wrap64 (Int.tdiv a0 4)))) > a0
  · rw [if_pos c2] at H
    have c2b0 : decide (a0 < (wrap64 (4 * (wrap64 (Int.tdiv a0 4))))) = true := decide_eq_true c2
    clear c2
    obtain rfl := Option.some.inj H
    go_enter Try.func56, Try.ntmps56
    go_wp2
    go_ret
    exact ⟨by first | rfl | (simp; done) | (simp [*]; done), by repeat (first | exact Drawn0.refl _ | apply Drawn0.step)⟩
  · rw [if_neg c2] at H
    have c2b0 : decide (a0 < (wrap64 (4 * (wrap64 (Int.tdiv a0 4))))) = false := decide_eq_false c2
    clear c2
    obtain rfl := Option.some.inj H
    go_enter Try.func56, Try.ntmps56
    go_wp2
    go_ret
    exact ⟨by first | rfl | (simp; done) | (simp [*]; done), by repeat (first | exact Drawn0.refl _ | apply Drawn0.step)⟩
end Go.Proofs.Ytfegofnplcmacaa.PAll
