-- Written by a program of this session out of its own texts (wip/tools/link.py).
import Derived.ArgAppend
import Derived.Below
import Derived.BigQuiet
import Derived.Deep.AppendLies
import Derived.Deep.CutBlock
import Derived.Deep.DeepCutAuto
import Derived.Deep.Draws
import Derived.Deep.LoopGhost
import Derived.Deep.OwnRows
import Derived.Deep.QuietTactic
import Derived.Deep.RegionHeld3
import Derived.KernelRfl
import Derived.LaidEql
import Derived.Laws.BitsLemmas
import Derived.Laws.BytesArg
import Derived.Laws.IdiomCopy
import Derived.Laws.MakeOwn
import Derived.Laws.OwnMore
import Derived.Laws.Rows
import Derived.Laws.Slices
import Derived.Laws.StructEq
import Derived.Lib.AppendStr
import Derived.Lib.BitFns
import Derived.Lib.ConvBytes
import Derived.Lib.Slices
import Derived.Lib.Small
import Derived.Lib.Strings
import Derived.Lib.Walk
import Derived.Maps.AppendAt
import Derived.OrdersHeld
import Derived.OwnWalk
import Derived.RowKit
import Derived.RowKit3
import Derived.Tactics
import Derived.Test.YtebhpipfkomhjaaProg
import Derived.WalkKit
import Derived.WideLaws
import Derived.Test.YtebhpipfkomhjaaCProdMuls8
namespace Go.Proofs.Ytebhpipfkomhjaa.PAll
open Go.RowKit Go.Proofs.YtebhpipfkomhjaaW.PrintWords Go.Proofs.YtebhpipfkomhjaaW.PrintLast Go.Proofs.YtebhpipfkomhjaaW.PrintMore
attribute [local go_sem] max2_int min2_int max_two min_two max_three min_three max_four min_four
set_option linter.unusedVariables false
set_option linter.unusedSimpArgs false
def codec_Decode.f (k : Nat) (a0 : Int) (a1 : Int) : Option (Int × Bool × Int × Int × Option Int) := (shape_Kind.f a0 a1).bind fun bt187 => (if bt187.2.isNone = true then (if bt187.1 = 1 then ((codec_Split.f k a0 a1).bind fun bt190 => (if 0 ≤ (wrap64 (63 - bt190.2.2.2.2.2.2.1)) then (some (bt187.1, bt190.1, wrap64 ((wrap64 (4 * bt190.2.2.2.1)) + bt190.2.2.2.2.2.1), Go.bits .or .u64 9223372036854775808 (shl .u64 bt190.2.2.2.2.2.2.2.1 (wrap64 (63 - bt190.2.2.2.2.2.2.1))), none)) else (none))) else (some (bt187.1, false,0, 0, none))) else (some (bt187.1, false,0, 0, some (bt187.2.getD 0))))
theorem codec_Decode.mono : ∀ a0 a1 k, LeO (codec_Decode.f k a0 a1) (codec_Decode.f (k + 1) a0 a1) := by
 intro a0 a1 k
 unfold codec_Decode.f
 repeat' first
   | (with_reducible exact codec_Split.mono _ _ _)
   | (with_reducible exact LeO.refl _)
   | (with_reducible exact LeO.none _)
   | (with_reducible refine LeO.ite ?_ ?_)
   | (with_reducible refine LeO.bind ?_ (fun _ => ?_))
   | exact codec_Split.mono _ _ _
   | exact LeO.none _
   | refine LeO.ite ?_ ?_
   | refine LeO.bind ?_ (fun _ => ?_)
def codec_Decode.T5 : Bool × List (List Nat × List Nat) := (true,[([], []), ([], []), ([1], [1]), ([], []), ([3], [3]), ([4], [4]), ([], []), ([6], [6]), ([5, 7], [5, 7]), ([], []), ([9], [9]), ([], []), ([11], [11]), ([12], [12]), ([10, 13], [10, 13]), ([14], [14]), ([0, 2, 8, 15], [0, 2, 8, 15]), ([16, 0, 1, 2, 3, 4, 5, 6, 7, 8, 9, 10, 11, 12, 13, 14, 15, 16], [16]), ([17, 0, 1, 2, 3, 4, 5, 6, 7, 8, 9, 10, 11, 12, 13, 14, 15, 16, 17], [])])
def codec_Decode.B5 : List Nat := [0, 0, 2, 0, 8, 24, 0, 64, 248, 0, 512, 0, 2048, 6144, 15872, 32256, 65535, 131071, 262143]
theorem codec_Decode.tab5 : rtab .any (opsOf Try.f29 5) = codec_Decode.T5 := by kernel_rfl
theorem codec_Decode.bits5 : waitsOk codec_Decode.T5.2 codec_Decode.B5 = true := by kernel_rfl
set_option maxHeartbeats 8000000 in
set_option maxRecDepth 100000 in
theorem codec_Decode.calls (k : Nat) (a0 : Int) (a1 : Int) (r1 : Int) (r2 : Bool) (r3 : Int) (r4 : Int) (r5 : Option Int) (w : World) (h : codec_Decode.f k a0 a1 = some (r1, r2, r3, r4, r5)) :
  Calls Try.prog 29 #[.int .i64 a0,.int .u64 a1] w fun e w' => e = .returned (.tuple #[.agg #[.int .i64 r1,.bool r2,.int .i64 r3,.int .u64 r4], errW r5]) ∧ Below w.heap.size w w' := by
 have hu24 := Try.underlying24
 have hu86 := Try.underlying86
 have hu29 := Try.underlying29
 have hu42 := Try.underlying42
 have HB := am_ (Below.refl w.heap.size w)
 have H : ((shape_Kind.f a0 a1).bind fun bt187 => (if bt187.2.isNone = true then (if bt187.1 = 1 then ((codec_Split.f k a0 a1).bind fun bt190 => (if 0 ≤ (wrap64 (63 - bt190.2.2.2.2.2.2.1)) then (some (bt187.1, bt190.1, wrap64 ((wrap64 (4 * bt190.2.2.2.1)) + bt190.2.2.2.2.2.1), Go.bits .or .u64 9223372036854775808 (shl .u64 bt190.2.2.2.2.2.2.2.1 (wrap64 (63 - bt190.2.2.2.2.2.2.1))), none)) else (none))) else (some (bt187.1, false,0, 0, none))) else (some (bt187.1, false,0, 0, some (bt187.2.getD 0))))) = some (r1, r2, r3, r4, r5) := h
 clear h
 replace H := Option.bind_eq_some_iff.mp H
 obtain ⟨⟨t187, t188⟩, A30, H⟩ := H
 replace H : (if t188.isNone = true then (if t187 = 1 then ((codec_Split.f k a0 a1).bind fun bt190 => (if 0 ≤ (wrap64 (63 - bt190.2.2.2.2.2.2.1)) then (some (t187, bt190.1, wrap64 ((wrap64 (4 * bt190.2.2.2.1)) + bt190.2.2.2.2.2.1), Go.bits .or .u64 9223372036854775808 (shl .u64 bt190.2.2.2.2.2.2.2.1 (wrap64 (63 - bt190.2.2.2.2.2.2.1))), none)) else (none))) else (some (t187, false,0, 0, none))) else (some (t187, false,0, 0, some (t188.getD 0)))) = some (r1, r2, r3, r4, r5) := H
 have A3 := am_ A30
 clear A30
 rcases t188 with _ | q189
 ·have H1 : (if t187 = 1 then ((codec_Split.f k a0 a1).bind fun bt190 => (if 0 ≤ (wrap64 (63 - bt190.2.2.2.2.2.2.1)) then (some (t187, bt190.1, wrap64 ((wrap64 (4 * bt190.2.2.2.1)) + bt190.2.2.2.2.2.1), Go.bits .or .u64 9223372036854775808 (shl .u64 bt190.2.2.2.2.2.2.2.1 (wrap64 (63 - bt190.2.2.2.2.2.2.1))), none)) else (none))) else (some (t187, false,0, 0, none))) = some (r1, r2, r3, r4, r5) := by rw [if_pos (show (none : Option Int).isNone = true by rfl)] at H;exact H
  clear H
  have H := H1
  clear H1
  try simp only [errW_none, errW_some]
  by_cases c4 : t187 = 1
  ·rw [if_pos c4] at H
   have c4b0 : (t187 == 1) = true := beq_iff_eq.mpr c4
   have c4b1 : (t187 != 1) = false := bne_eq_false_iff_eq.mpr c4
   clear c4
   replace H := Option.bind_eq_some_iff.mp H
   obtain ⟨⟨t190, t191, t192, t193, t194, t195, t196, t197, t198⟩, A50, H⟩ := H
   replace H : (if 0 ≤ (wrap64 (63 - t196)) then (some (t187, t190, wrap64 ((wrap64 (4 * t193)) + t195), Go.bits .or .u64 9223372036854775808 (shl .u64 t197 (wrap64 (63 - t196))), none)) else (none)) = some (r1, r2, r3, r4, r5) := H
   have A5 := am_ A50
   clear A50
   obtain ⟨ji6, hji6⟩ : ∃ j_ : Int, (wrap64 (63 - t196)) = j_ := ⟨_, rfl⟩
   replace H : (if 0 ≤ (ji6) then (some (t187, t190, wrap64 ((wrap64 (4 * t193)) + t195), Go.bits .or .u64 9223372036854775808 (shl .u64 t197 (ji6)), none)) else (none)) = some (r1, r2, r3, r4, r5) := by first | (rw [hji6] at H;exact H) | (simp only [hji6] at H ⊢;exact H)
   (try rw [hji6] at A3)
   (try rw [hji6] at A5)
   have hji6w : (IntKind.i64.wrap (63 - t196)) = ji6 := (i64_w _).trans hji6
   by_cases c7 : 0 ≤ (ji6)
   ·rw [if_pos c7] at H
    have c7b0 := eq_true c7
    have c7b1 : decide (0 ≤ (ji6)) = true := decide_eq_true c7
    clear c7
    obtain ⟨ji8, hji8⟩ : ∃ j_ : Int, (shl .u64 t197 (ji6)) = j_ := ⟨_, rfl⟩
    replace H : (some (t187, t190, wrap64 ((wrap64 (4 * t193)) + t195), Go.bits .or .u64 9223372036854775808 (ji8), none)) = some (r1, r2, r3, r4, r5) := by first | (rw [hji8] at H;exact H) | (simp only [hji8] at H ⊢;exact H)
    (try rw [hji8] at A3)
    (try rw [hji8] at A5)
    have hji8_ : (IntKind.u64.wrap (t197 * 2 ^ min (ji6).toNat 64)) = ji8 := hji8
    have hji8z : (ji6) ≤ 64 → (IntKind.u64.wrap (t197 * 2 ^ (ji6).toNat)) = ji8 := shl_small hji8
    (try (have hji8Z_ := hji8z (by omega)))
    simp only [Option.some.injEq, Prod.mk.injEq] at H
    obtain ⟨rfl, rfl, rfl, rfl, rfl⟩ := H
    go_enter Try.func29, Try.ntmps29
    try go_wp2_with (first | ((with_reducible refine gate_dst (N := 4) rfl ?_);refine box_event ?hg (N := 4) ?hd (cs := #[.int .i64 0,.bool false,.int .i64 0,.int .u64 0]) (t := 24) ?hr ?_;(case hd => rfl);(case hg => rfl);(case hr => first | (go_simp;done) | (go_simp;rfl));intro gb186 hg w9 hbox hb;have n0_ := am_ (below_step (z3_ HB.out) hb);have n1_ := am_ (hbox);have n2_ := am_ ((by rw [hg];exact (below_size (z3_ HB.out)) : w.heap.size ≤ gb186));have n3_ := am_ ((by rw [hg];exact (below_size (z3_ HB.out)) : w.heap.size ≤ gb186));clear HB;have HB := n0_;have BK186 := n1_;have GW186 := n2_;have GE186 := n3_;clear n0_ n1_ n2_ n3_;clear hb hbox hg) | ((with_reducible refine gate_callee (f := 47) rfl ?_);refine goesL_ (some 13) rfl rfl Try.func47 (by kernel_rfl) rfl #[.int .i64 a0,.int .u64 a1] rfl z5_ ?_;(with_reducible refine (shape_Kind.calls a0 a1 t187 none _ A3.out).mono ?_);rintro e w' ⟨rfl, ⟨nd, rfl⟩⟩;refine ⟨_, rfl, ?_⟩;(try simp only [errW_none, errW_some]);(try (rw [drewN_self w9];generalize hq_ : World.drewN w9 _ = w9;have n0_ : Aside0 (w9.heap[gb186]? = some (.cells #[.int .i64 0,.bool false,.int .i64 0,.int .u64 0] 24 (0, 0))) := ⟨by rw [← hq_];exact (z1_ BK186.out)⟩;have n1_ : Aside0 (Below w.heap.size w w9) := ⟨by rw [← hq_];exact (z3_ HB.out)⟩;clear BK186 HB hq_;have BK186 := n0_;have HB := n1_;clear n0_ n1_))) | ((with_reducible refine gate_callee (f := 48) rfl ?_);refine goesL_ (some 28) rfl rfl Try.func48 (by kernel_rfl) rfl #[.int .i64 a0,.int .u64 a1] rfl z5_ ?_;(with_reducible refine (codec_Split.calls k a0 a1 t190 t191 t192 t193 t194 t195 t196 t197 t198 _ A5.out).mono ?_);rintro e w10 ⟨rfl, hb⟩;refine ⟨_, rfl, ?_⟩;have n0_ := am_ (blk_below (g := gb186) (z1_ BK186.out) hb);have n1_ := am_ (below_step (z3_ HB.out) hb);clear BK186;clear HB;have BK186 := n0_;have HB := n1_;clear n0_ n1_;(try clear hb);(try simp only [errW_none, errW_some])) | ((with_reducible refine gate_dst (N := 8) rfl ?_);refine box_event ?hg (N := 8) ?hd (cs := #[.bool false,.bool false,.int .i64 0,.int .i64 0,.int .i64 0,.int .i64 0,.int .i64 0,.int .u64 0]) (t := 86) ?hr ?_;(case hd => rfl);(case hg => rfl);(case hr => first | (go_simp;done) | (go_simp;rfl));intro gb199 hg w11 hbox hb;have n0_ := am_ (blk_below (g := gb186) (z1_ BK186.out) hb);have n1_ := am_ (below_step (z3_ HB.out) hb);have n2_ := am_ (hbox);have n3_ := am_ ((by rw [hg];exact (below_size (z3_ HB.out)) : w.heap.size ≤ gb199));have n4_ := am_ ((by rw [hg];exact (below_size (z3_ HB.out)) : w.heap.size ≤ gb199));have n5_ := am_ ((by rw [hg];exact Nat.ne_of_lt (blk_lt (g := gb186) (o := .cells #[.int .i64 0,.bool false,.int .i64 0,.int .u64 0] 24 (0, 0)) (z1_ BK186.out)) : gb186 ≠ gb199));have n6_ := am_ ((by rw [hg];exact Nat.ne_of_gt (blk_lt (g := gb186) (o := .cells #[.int .i64 0,.bool false,.int .i64 0,.int .u64 0] 24 (0, 0)) (z1_ BK186.out)) : gb199 ≠ gb186));clear BK186;clear HB;have BK186 := n0_;have HB := n1_;have BK199 := n2_;have GW199 := n3_;have GE199 := n4_;have NB186_199 := n5_;have NB199_186 := n6_;clear n0_ n1_ n2_ n3_ n4_ n5_ n6_;clear hb hbox hg;have hnb12 := NB199_186.out;have hnc12 := NB186_199.out;obtain ⟨hcz13_0, hcz13_1, hcz13_2, hcz13_3, hcz13_4, hcz13_5, hcz13_6, hcz13_7, hfz13_0⟩ := zc8_ BK199.out))
    have n0_ : Aside0 (((((((((w11.setCell ⟨gb199, 0, none⟩ (.bool t190)).setCell ⟨gb199, 1, none⟩ (.bool t191)).setCell ⟨gb199, 2, none⟩ (.int .i64 t192)).setCell ⟨gb199, 3, none⟩ (.int .i64 t193)).setCell ⟨gb199, 4, none⟩ (.int .i64 t194)).setCell ⟨gb199, 5, none⟩ (.int .i64 t195)).setCell ⟨gb199, 6, none⟩ (.int .i64 t196)).setCell ⟨gb199, 7, none⟩ (.int .u64 t197)).heap[gb186]? = some (.cells #[.int .i64 0,.bool false,.int .i64 0,.int .u64 0] 24 (0, 0))) := ⟨by refine z2_ ?_;refine blk_far ?_ NB186_199.out _;refine z2_ ?_;refine blk_far ?_ NB186_199.out _;refine z2_ ?_;refine blk_far ?_ NB186_199.out _;refine z2_ ?_;refine blk_far ?_ NB186_199.out _;refine z2_ ?_;refine blk_far ?_ NB186_199.out _;refine z2_ ?_;refine blk_far ?_ NB186_199.out _;refine z2_ ?_;refine blk_far ?_ NB186_199.out _;refine z2_ ?_;refine blk_far ?_ NB186_199.out _;refine z2_ ?_;exact BK186.out⟩
    have n1_ : Aside0 (((((((((w11.setCell ⟨gb199, 0, none⟩ (.bool t190)).setCell ⟨gb199, 1, none⟩ (.bool t191)).setCell ⟨gb199, 2, none⟩ (.int .i64 t192)).setCell ⟨gb199, 3, none⟩ (.int .i64 t193)).setCell ⟨gb199, 4, none⟩ (.int .i64 t194)).setCell ⟨gb199, 5, none⟩ (.int .i64 t195)).setCell ⟨gb199, 6, none⟩ (.int .i64 t196)).setCell ⟨gb199, 7, none⟩ (.int .u64 t197)).heap[gb199]? = some (.cells #[.bool t190,.bool t191,.int .i64 t192,.int .i64 t193,.int .i64 t194,.int .i64 t195,.int .i64 t196,.int .u64 t197] 86 (0, 0))) := ⟨by refine z2_ ?_;refine blk_put (cs := #[.bool t190,.bool t191,.int .i64 t192,.int .i64 t193,.int .i64 t194,.int .i64 t195,.int .i64 t196,.int .u64 0]) ?_ 7 _ rfl;refine z2_ ?_;refine blk_put (cs := #[.bool t190,.bool t191,.int .i64 t192,.int .i64 t193,.int .i64 t194,.int .i64 t195,.int .i64 0,.int .u64 0]) ?_ 6 _ rfl;refine z2_ ?_;refine blk_put (cs := #[.bool t190,.bool t191,.int .i64 t192,.int .i64 t193,.int .i64 t194,.int .i64 0,.int .i64 0,.int .u64 0]) ?_ 5 _ rfl;refine z2_ ?_;refine blk_put (cs := #[.bool t190,.bool t191,.int .i64 t192,.int .i64 t193,.int .i64 0,.int .i64 0,.int .i64 0,.int .u64 0]) ?_ 4 _ rfl;refine z2_ ?_;refine blk_put (cs := #[.bool t190,.bool t191,.int .i64 t192,.int .i64 0,.int .i64 0,.int .i64 0,.int .i64 0,.int .u64 0]) ?_ 3 _ rfl;refine z2_ ?_;refine blk_put (cs := #[.bool t190,.bool t191,.int .i64 0,.int .i64 0,.int .i64 0,.int .i64 0,.int .i64 0,.int .u64 0]) ?_ 2 _ rfl;refine z2_ ?_;refine blk_put (cs := #[.bool t190,.bool false,.int .i64 0,.int .i64 0,.int .i64 0,.int .i64 0,.int .i64 0,.int .u64 0]) ?_ 1 _ rfl;refine z2_ ?_;refine blk_put (cs := #[.bool false,.bool false,.int .i64 0,.int .i64 0,.int .i64 0,.int .i64 0,.int .i64 0,.int .u64 0]) ?_ 0 _ rfl;refine z2_ ?_;exact BK199.out⟩
    have n2_ : Aside0 (Below w.heap.size w ((((((((w11.setCell ⟨gb199, 0, none⟩ (.bool t190)).setCell ⟨gb199, 1, none⟩ (.bool t191)).setCell ⟨gb199, 2, none⟩ (.int .i64 t192)).setCell ⟨gb199, 3, none⟩ (.int .i64 t193)).setCell ⟨gb199, 4, none⟩ (.int .i64 t194)).setCell ⟨gb199, 5, none⟩ (.int .i64 t195)).setCell ⟨gb199, 6, none⟩ (.int .i64 t196)).setCell ⟨gb199, 7, none⟩ (.int .u64 t197))) := ⟨z3_ HB.out⟩
    (try clear BK186)
    (try clear BK199)
    (try clear HB)
    generalize ((((((((w11.setCell ⟨gb199, 0, none⟩ (.bool t190)).setCell ⟨gb199, 1, none⟩ (.bool t191)).setCell ⟨gb199, 2, none⟩ (.int .i64 t192)).setCell ⟨gb199, 3, none⟩ (.int .i64 t193)).setCell ⟨gb199, 4, none⟩ (.int .i64 t194)).setCell ⟨gb199, 5, none⟩ (.int .i64 t195)).setCell ⟨gb199, 6, none⟩ (.int .i64 t196)).setCell ⟨gb199, 7, none⟩ (.int .u64 t197)) = w14 at n0_ n1_ n2_ ⊢
    have BK186 := n0_
    have BK199 := n1_
    have HB := n2_
    clear n0_ n1_ n2_
    have n0_ := am_ (blk_drew BK186.out)
    have n1_ := am_ (blk_drew BK199.out)
    have n2_ := am_ (below_drew1 HB.out)
    clear BK186
    clear BK199
    clear HB
    have BK186 := n0_
    have BK199 := n1_
    have HB := n2_
    clear n0_ n1_ n2_
    refine start_ (n := 19) (S := fun w' => w'.cell? ⟨gb199, 0, none⟩ = some (.bool t190) ∧ w'.cell? ⟨gb199, 1, none⟩ = some (.bool t191) ∧ w'.cell? ⟨gb199, 2, none⟩ = some (.int .i64 t192) ∧ w'.cell? ⟨gb199, 3, none⟩ = some (.int .i64 t193) ∧ w'.cell? ⟨gb199, 4, none⟩ = some (.int .i64 t194) ∧ w'.cell? ⟨gb199, 5, none⟩ = some (.int .i64 t195) ∧ w'.cell? ⟨gb199, 6, none⟩ = some (.int .i64 t196) ∧ w'.cell? ⟨gb199, 7, none⟩ = some (.int .u64 t197)) (ds := []) #[false,false,false,false,false,false,false,false,false,false,false,false,false,false,false,false,false,false,false] (by kernel_rfl) rfl rfl ⟨(blk_cell BK199.out 0).trans rfl, (blk_cell BK199.out 1).trans rfl, (blk_cell BK199.out 2).trans rfl, (blk_cell BK199.out 3).trans rfl, (blk_cell BK199.out 4).trans rfl, (blk_cell BK199.out 5).trans rfl, (blk_cell BK199.out 6).trans rfl, (blk_cell BK199.out 7).trans rfl⟩ (fun hHeld => ?_);refine with_tabW codec_Decode.tab5 codec_Decode.bits5 (fun HT_ HW_ => ?_)
    generalize w14.drew = w15 at BK186 BK199 HB hHeld ⊢
    refine pure_ (i := 0) (N := some 31) (v := ?_) (a' := ?_) #[true,false,false,false,false,false,false,false,false,false,false,false,false,false,false,false,false,false,false] rfl rfl (any_of HT_.out (by kernel_rfl)) (fun _ _ _ h => h) (Or.inl ⟨by rfl, ?_⟩) ?_ ?_
    rotate_left
    ·intro w'
     go_simp
     with_reducible rfl
    rotate_left
    ·simp only [Act.put, List.setIfInBounds_toArray, List.set_cons_zero, List.set_cons_succ, i64_w, i32_w]
     rfl
    refine pure_ (i := 1) (N := some 32) (v := ?_) (a' := ?_) #[true,true,false,false,false,false,false,false,false,false,false,false,false,false,false,false,false,false,false] rfl rfl (any_of HT_.out (by kernel_rfl)) (fun _ _ _ h => h) (Or.inl ⟨by rfl, ?_⟩) ?_ ?_
    rotate_left
    ·intro w'
     go_simp
     with_reducible rfl
    rotate_left
    ·simp only [Act.put, List.setIfInBounds_toArray, List.set_cons_zero, List.set_cons_succ, i64_w, i32_w]
     rfl
    refine pure_ (i := 3) (N := some 34) (v := ?_) (a' := ?_) #[true,true,false,true,false,false,false,false,false,false,false,false,false,false,false,false,false,false,false] rfl rfl (any_of HT_.out (by kernel_rfl)) (fun _ _ _ h => h) (Or.inl ⟨by rfl, ?_⟩) ?_ ?_
    rotate_left
    ·intro w'
     go_simp
     with_reducible rfl
    rotate_left
    ·simp only [Act.put, List.setIfInBounds_toArray, List.set_cons_zero, List.set_cons_succ, i64_w, i32_w]
     rfl
    refine pure_ (i := 6) (N := some 37) (v := ?_) (a' := ?_) #[true,true,false,true,false,false,true,false,false,false,false,false,false,false,false,false,false,false,false] rfl rfl (any_of HT_.out (by kernel_rfl)) (fun _ _ _ h => h) (Or.inl ⟨by rfl, ?_⟩) ?_ ?_
    rotate_left
    ·intro w'
     go_simp
     with_reducible rfl
    rotate_left
    ·simp only [Act.put, List.setIfInBounds_toArray, List.set_cons_zero, List.set_cons_succ, i64_w, i32_w]
     rfl
    refine pure_ (i := 9) (N := some 40) (v := ?_) (a' := ?_) #[true,true,false,true,false,false,true,false,false,true,false,false,false,false,false,false,false,false,false] rfl rfl (any_of HT_.out (by kernel_rfl)) (fun _ _ _ h => h) (Or.inl ⟨by rfl, ?_⟩) ?_ ?_
    rotate_left
    ·intro w'
     go_simp
     with_reducible rfl
    rotate_left
    ·simp only [Act.put, List.setIfInBounds_toArray, List.set_cons_zero, List.set_cons_succ, i64_w, i32_w]
     rfl
    refine pure_ (i := 11) (N := some 42) (v := ?_) (a' := ?_) #[true,true,false,true,false,false,true,false,false,true,false,true,false,false,false,false,false,false,false] rfl rfl (any_of HT_.out (by kernel_rfl)) (fun _ _ _ h => h) (Or.inl ⟨by rfl, ?_⟩) ?_ ?_
    rotate_left
    ·intro w'
     go_simp
     with_reducible rfl
    rotate_left
    ·simp only [Act.put, List.setIfInBounds_toArray, List.set_cons_zero, List.set_cons_succ, i64_w, i32_w]
     rfl
    refine take_ (i := 2) (N := some 33) (v := ?_) (a' := ?_) #[true,true,true,true,false,false,true,false,false,true,false,true,false,false,false,false,false,false,false] rfl rfl (take_ofW HT_.out HW_.out (by kernel_rfl)) (fun _ _ _ h => h) (Or.inl ⟨by rfl, ?_⟩) hHeld ?_ ?_
    rotate_left
    ·rintro w' ⟨s0, s1, s2, s3, s4, s5, s6, s7⟩
     go_simp
     with_reducible rfl
    rotate_left
    ·simp only [Act.put, List.setIfInBounds_toArray, List.set_cons_zero, List.set_cons_succ, i64_w, i32_w]
     rfl
    refine take_ (i := 4) (N := some 35) (v := ?_) (a' := ?_) #[true,true,true,true,true,false,true,false,false,true,false,true,false,false,false,false,false,false,false] rfl rfl (take_ofW HT_.out HW_.out (by kernel_rfl)) (fun _ _ _ h => h) (Or.inl ⟨by rfl, ?_⟩) hHeld ?_ ?_
    rotate_left
    ·rintro w' ⟨s0, s1, s2, s3, s4, s5, s6, s7⟩
     go_simp
     with_reducible rfl
    rotate_left
    ·simp only [Act.put, List.setIfInBounds_toArray, List.set_cons_zero, List.set_cons_succ, i64_w, i32_w]
     rfl
    refine pure_ (i := 5) (N := some 36) (v := ?_) (a' := ?_) #[true,true,true,true,true,true,true,false,false,true,false,true,false,false,false,false,false,false,false] rfl rfl (any_of HT_.out (by kernel_rfl)) (fun _ _ _ h => h) (Or.inl ⟨by rfl, ?_⟩) ?_ ?_
    rotate_left
    ·intro w'
     go_simp
     with_reducible rfl
    rotate_left
    ·simp only [Act.put, List.setIfInBounds_toArray, List.set_cons_zero, List.set_cons_succ, i64_w, i32_w]
     rfl
    refine take_ (i := 7) (N := some 38) (v := ?_) (a' := ?_) #[true,true,true,true,true,true,true,true,false,true,false,true,false,false,false,false,false,false,false] rfl rfl (take_ofW HT_.out HW_.out (by kernel_rfl)) (fun _ _ _ h => h) (Or.inl ⟨by rfl, ?_⟩) hHeld ?_ ?_
    rotate_left
    ·rintro w' ⟨s0, s1, s2, s3, s4, s5, s6, s7⟩
     go_simp
     with_reducible rfl
    rotate_left
    ·simp only [Act.put, List.setIfInBounds_toArray, List.set_cons_zero, List.set_cons_succ, i64_w, i32_w]
     rfl
    refine pure_ (i := 8) (N := some 39) (v := ?_) (a' := ?_) #[true,true,true,true,true,true,true,true,true,true,false,true,false,false,false,false,false,false,false] rfl rfl (any_of HT_.out (by kernel_rfl)) (fun _ _ _ h => h) (Or.inl ⟨by rfl, ?_⟩) ?_ ?_
    rotate_left
    ·intro w'
     go_simp
     with_reducible rfl
    rotate_left
    ·simp only [Act.put, List.setIfInBounds_toArray, List.set_cons_zero, List.set_cons_succ, i64_w, i32_w]
     rfl
    refine take_ (i := 10) (N := some 41) (v := ?_) (a' := ?_) #[true,true,true,true,true,true,true,true,true,true,true,true,false,false,false,false,false,false,false] rfl rfl (take_ofW HT_.out HW_.out (by kernel_rfl)) (fun _ _ _ h => h) (Or.inl ⟨by rfl, ?_⟩) hHeld ?_ ?_
    rotate_left
    ·rintro w' ⟨s0, s1, s2, s3, s4, s5, s6, s7⟩
     go_simp
     with_reducible rfl
    rotate_left
    ·simp only [Act.put, List.setIfInBounds_toArray, List.set_cons_zero, List.set_cons_succ, i64_w, i32_w]
     rfl
    refine take_ (i := 12) (N := some 43) (v := ?_) (a' := ?_) #[true,true,true,true,true,true,true,true,true,true,true,true,true,false,false,false,false,false,false] rfl rfl (take_ofW HT_.out HW_.out (by kernel_rfl)) (fun _ _ _ h => h) (Or.inl ⟨by rfl, ?_⟩) hHeld ?_ ?_
    rotate_left
    ·rintro w' ⟨s0, s1, s2, s3, s4, s5, s6, s7⟩
     go_simp
     with_reducible rfl
    rotate_left
    ·simp only [Act.put, List.setIfInBounds_toArray, List.set_cons_zero, List.set_cons_succ, i64_w, i32_w]
     rfl
    refine pure_ (i := 13) (N := some 44) (v := ?_) (a' := ?_) #[true,true,true,true,true,true,true,true,true,true,true,true,true,true,false,false,false,false,false] rfl rfl (any_of HT_.out (by kernel_rfl)) (fun _ _ _ h => h) (Or.inl ⟨by rfl, ?_⟩) ?_ ?_
    rotate_left
    ·intro w'
     go_simp
     with_reducible rfl
    rotate_left
    ·simp only [Act.put, List.setIfInBounds_toArray, List.set_cons_zero, List.set_cons_succ, i64_w, i32_w]
     rfl
    refine pure_ (i := 14) (N := some 45) (v := ?_) (a' := ?_) #[true,true,true,true,true,true,true,true,true,true,true,true,true,true,true,false,false,false,false] rfl rfl (any_of HT_.out (by kernel_rfl)) (fun _ _ _ h => h) (Or.inl ⟨by rfl, ?_⟩) ?_ ?_
    rotate_left
    ·intro w'
     go_simp
     with_reducible rfl
    rotate_left
    ·simp only [Act.put, List.setIfInBounds_toArray, List.set_cons_zero, List.set_cons_succ, i64_w, i32_w]
     rfl
    refine pure_ (i := 15) (N := some 46) (v := ?_) (a' := ?_) #[true,true,true,true,true,true,true,true,true,true,true,true,true,true,true,true,false,false,false] rfl rfl (any_of HT_.out (by kernel_rfl)) (fun _ _ _ h => h) (Or.inl ⟨by rfl, ?_⟩) ?_ ?_
    rotate_left
    ·intro w'
     go_simp
     with_reducible rfl
    rotate_left
    ·simp only [Act.put, List.setIfInBounds_toArray, List.set_cons_zero, List.set_cons_succ, i64_w, i32_w]
     rfl
    refine pure_ (i := 16) (N := some 47) (v := ?_) (a' := ?_) #[true,true,true,true,true,true,true,true,true,true,true,true,true,true,true,true,true,false,false] rfl rfl (any_of HT_.out (by kernel_rfl)) (fun _ _ _ h => h) (Or.inl ⟨by rfl, ?_⟩) ?_ ?_
    rotate_left
    ·intro w'
     go_simp
     with_reducible rfl
    rotate_left
    ·simp only [Act.put, List.setIfInBounds_toArray, List.set_cons_zero, List.set_cons_succ, i64_w, i32_w]
     rfl
    refine one_ (i := 17) (N := none) #[true,true,true,true,true,true,true,true,true,true,true,true,true,true,true,true,true,true,false] rfl rfl (one_of HT_.out (by kernel_rfl)) (by decide) (fun K hK => ?_)
    have hs16 : w15.cell? ⟨gb186, 0, none⟩ = some (.int .i64 0) := (blk_cell BK186.out 0).trans rfl
    have hfs16 := blk_frozen BK186.out 0
    have hns16_1 := NB199_186.out
    have hms16_1 := NB186_199.out
    have hs17 : w15.cell? ⟨gb186, 1, none⟩ = some (.bool false) := (blk_cell BK186.out 1).trans rfl
    have hfs17 := blk_frozen BK186.out 1
    have hns17_1 := NB199_186.out
    have hms17_1 := NB186_199.out
    have hs18 : w15.cell? ⟨gb186, 2, none⟩ = some (.int .i64 0) := (blk_cell BK186.out 2).trans rfl
    have hfs18 := blk_frozen BK186.out 2
    have hns18_1 := NB199_186.out
    have hms18_1 := NB186_199.out
    have hs19 : w15.cell? ⟨gb186, 3, none⟩ = some (.int .u64 0) := (blk_cell BK186.out 3).trans rfl
    have hfs19 := blk_frozen BK186.out 3
    have hns19_1 := NB199_186.out
    have hms19_1 := NB186_199.out
    refine skip_ (w1 := ?_) (by rfl) rfl ?_ ?_
    rotate_left
    ·go_simp
     rfl
    refine hK.out _ _ ⟨((cell_far (p := ⟨gb186, _, none⟩) NB199_186.out _).trans (((cell_far (p := ⟨gb186, _, none⟩) NB199_186.out _).trans (((cell_far (p := ⟨gb186, _, none⟩) NB199_186.out _).trans (((cell_far (p := ⟨gb186, _, none⟩) NB199_186.out _).trans (hHeld.1)))))))), ((cell_far (p := ⟨gb186, _, none⟩) NB199_186.out _).trans (((cell_far (p := ⟨gb186, _, none⟩) NB199_186.out _).trans (((cell_far (p := ⟨gb186, _, none⟩) NB199_186.out _).trans (((cell_far (p := ⟨gb186, _, none⟩) NB199_186.out _).trans (hHeld.2.1)))))))), ((cell_far (p := ⟨gb186, _, none⟩) NB199_186.out _).trans (((cell_far (p := ⟨gb186, _, none⟩) NB199_186.out _).trans (((cell_far (p := ⟨gb186, _, none⟩) NB199_186.out _).trans (((cell_far (p := ⟨gb186, _, none⟩) NB199_186.out _).trans (hHeld.2.2.1)))))))), ((cell_far (p := ⟨gb186, _, none⟩) NB199_186.out _).trans (((cell_far (p := ⟨gb186, _, none⟩) NB199_186.out _).trans (((cell_far (p := ⟨gb186, _, none⟩) NB199_186.out _).trans (((cell_far (p := ⟨gb186, _, none⟩) NB199_186.out _).trans (hHeld.2.2.2.1)))))))), ((cell_far (p := ⟨gb186, _, none⟩) NB199_186.out _).trans (((cell_far (p := ⟨gb186, _, none⟩) NB199_186.out _).trans (((cell_far (p := ⟨gb186, _, none⟩) NB199_186.out _).trans (((cell_far (p := ⟨gb186, _, none⟩) NB199_186.out _).trans (hHeld.2.2.2.2.1)))))))), ((cell_far (p := ⟨gb186, _, none⟩) NB199_186.out _).trans (((cell_far (p := ⟨gb186, _, none⟩) NB199_186.out _).trans (((cell_far (p := ⟨gb186, _, none⟩) NB199_186.out _).trans (((cell_far (p := ⟨gb186, _, none⟩) NB199_186.out _).trans (hHeld.2.2.2.2.2.1)))))))), ((cell_far (p := ⟨gb186, _, none⟩) NB199_186.out _).trans (((cell_far (p := ⟨gb186, _, none⟩) NB199_186.out _).trans (((cell_far (p := ⟨gb186, _, none⟩) NB199_186.out _).trans (((cell_far (p := ⟨gb186, _, none⟩) NB199_186.out _).trans (hHeld.2.2.2.2.2.2.1)))))))), ((cell_far (p := ⟨gb186, _, none⟩) NB199_186.out _).trans (((cell_far (p := ⟨gb186, _, none⟩) NB199_186.out _).trans (((cell_far (p := ⟨gb186, _, none⟩) NB199_186.out _).trans (((cell_far (p := ⟨gb186, _, none⟩) NB199_186.out _).trans (hHeld.2.2.2.2.2.2.2))))))))⟩ (fun hHeld => ?_)
    clear hK K
    refine pure_ (i := 18) (N := some 5) (v := ?_) (a' := ?_) #[true,true,true,true,true,true,true,true,true,true,true,true,true,true,true,true,true,true,true] rfl rfl (any_of HT_.out (by kernel_rfl)) (fun _ _ _ h => h) (Or.inl ⟨by rfl, ?_⟩) ?_ ?_
    rotate_left
    ·intro w'
     go_simp
     with_reducible rfl
    rotate_left
    ·simp only [Act.put, List.setIfInBounds_toArray, List.set_cons_zero, List.set_cons_succ, i64_w, i32_w]
     rfl
    refine done_ (done_of HT_.out (by kernel_rfl)) ?_
    try go_wp2
    refine bodyPost_ret (results_ct rfl _ _ gb186 24 #[.int .i64 t187,.bool t190,.int .i64 (wrap64 ((wrap64 (4 * t193)) + t195)),.int .u64 (Go.bits .or .u64 9223372036854775808 (ji8))] (0, 0) _ rfl (by refine z2_ ?_;refine blk_put (cs := #[.int .i64 t187,.bool t190,.int .i64 (wrap64 ((wrap64 (4 * t193)) + t195)),.int .u64 0]) ?_ 3 _ rfl;refine z2_ ?_;refine blk_put (cs := #[.int .i64 t187,.bool t190,.int .i64 0,.int .u64 0]) ?_ 2 _ rfl;refine z2_ ?_;refine blk_put (cs := #[.int .i64 t187,.bool false,.int .i64 0,.int .u64 0]) ?_ 1 _ rfl;refine z2_ ?_;refine blk_put (cs := #[.int .i64 0,.bool false,.int .i64 0,.int .u64 0]) ?_ 0 _ rfl;refine z2_ ?_;exact BK186.out) Try.underlying24 rfl (by kernel_rfl)) rfl ?_
    exact ⟨by first | rfl | (simp [errW_none, errW_some] <;> rfl) | (simp only [← hji6, ← hji8];first | rfl | (simp [errW_none, errW_some] <;> rfl)) | (simp [*, errW_none, errW_some] <;> rfl), z3_ HB.out⟩
   ·rw [if_neg c7] at H
    exact absurd H (by simp)
  ·rw [if_neg c4] at H
   have c4b0 : (t187 == 1) = false := beq_eq_false_iff_ne.mpr c4
   have c4b1 : (t187 != 1) = true := bne_iff_ne.mpr c4
   simp only [Option.some.injEq, Prod.mk.injEq] at H
   obtain ⟨rfl, rfl, rfl, rfl, rfl⟩ := H
   go_enter Try.func29, Try.ntmps29
   go_wp2_with (first | ((with_reducible refine gate_dst (N := 4) rfl ?_);refine box_event ?hg (N := 4) ?hd (cs := #[.int .i64 0,.bool false,.int .i64 0,.int .u64 0]) (t := 24) ?hr ?_;(case hd => rfl);(case hg => rfl);(case hr => first | (go_simp;done) | (go_simp;rfl));intro gb186 hg w20 hbox hb;have n0_ := am_ (below_step (z3_ HB.out) hb);have n1_ := am_ (hbox);have n2_ := am_ ((by rw [hg];exact (below_size (z3_ HB.out)) : w.heap.size ≤ gb186));have n3_ := am_ ((by rw [hg];exact (below_size (z3_ HB.out)) : w.heap.size ≤ gb186));clear HB;have HB := n0_;have BK186 := n1_;have GW186 := n2_;have GE186 := n3_;clear n0_ n1_ n2_ n3_;clear hb hbox hg) | ((with_reducible refine gate_callee (f := 47) rfl ?_);refine goesL_ (some 13) rfl rfl Try.func47 (by kernel_rfl) rfl #[.int .i64 a0,.int .u64 a1] rfl z5_ ?_;(with_reducible refine (shape_Kind.calls a0 a1 t187 none _ A3.out).mono ?_);rintro e w' ⟨rfl, ⟨nd, rfl⟩⟩;refine ⟨_, rfl, ?_⟩;(try simp only [errW_none, errW_some]);(try (rw [drewN_self w20];generalize hq_ : World.drewN w20 _ = w20;have n0_ : Aside0 (w20.heap[gb186]? = some (.cells #[.int .i64 0,.bool false,.int .i64 0,.int .u64 0] 24 (0, 0))) := ⟨by rw [← hq_];exact (z1_ BK186.out)⟩;have n1_ : Aside0 (Below w.heap.size w w20) := ⟨by rw [← hq_];exact (z3_ HB.out)⟩;clear BK186 HB hq_;have BK186 := n0_;have HB := n1_;clear n0_ n1_));obtain ⟨hcz21_0, hcz21_1, hcz21_2, hcz21_3, hfz21_0⟩ := zc4_ BK186.out))
   refine bodyPost_ret (results_ct rfl _ _ gb186 24 #[.int .i64 t187,.bool false,.int .i64 0,.int .u64 0] (0, 0) _ rfl (by refine z2_ ?_;refine blk_put (cs := #[.int .i64 t187,.bool false,.int .i64 0,.int .u64 0]) ?_ 3 _ rfl;refine z2_ ?_;refine blk_put (cs := #[.int .i64 t187,.bool false,.int .i64 0,.int .u64 0]) ?_ 2 _ rfl;refine z2_ ?_;refine blk_put (cs := #[.int .i64 t187,.bool false,.int .i64 0,.int .u64 0]) ?_ 1 _ rfl;refine z2_ ?_;refine blk_put (cs := #[.int .i64 0,.bool false,.int .i64 0,.int .u64 0]) ?_ 0 _ rfl;refine z2_ ?_;exact BK186.out) Try.underlying24 rfl (by kernel_rfl)) rfl ?_
   exact ⟨z6_, z3_ HB.out⟩
 ·have H1 : (some (t187, false,0, 0, some q189)) = some (r1, r2, r3, r4, r5) := by rw [if_neg (show ¬ (some q189).isNone = true by simp)] at H;exact H
  clear H
  have H := H1
  clear H1
  try simp only [errW_none, errW_some]
  simp only [Option.some.injEq, Prod.mk.injEq] at H
  obtain ⟨rfl, rfl, rfl, rfl, rfl⟩ := H
  go_enter Try.func29, Try.ntmps29
  go_wp2_with (first | ((with_reducible refine gate_dst (N := 4) rfl ?_);refine box_event ?hg (N := 4) ?hd (cs := #[.int .i64 0,.bool false,.int .i64 0,.int .u64 0]) (t := 24) ?hr ?_;(case hd => rfl);(case hg => rfl);(case hr => first | (go_simp;done) | (go_simp;rfl));intro gb186 hg w22 hbox hb;have n0_ := am_ (below_step (z3_ HB.out) hb);have n1_ := am_ (hbox);have n2_ := am_ ((by rw [hg];exact (below_size (z3_ HB.out)) : w.heap.size ≤ gb186));have n3_ := am_ ((by rw [hg];exact (below_size (z3_ HB.out)) : w.heap.size ≤ gb186));clear HB;have HB := n0_;have BK186 := n1_;have GW186 := n2_;have GE186 := n3_;clear n0_ n1_ n2_ n3_;clear hb hbox hg) | ((with_reducible refine gate_callee (f := 47) rfl ?_);refine goesL_ (some 13) rfl rfl Try.func47 (by kernel_rfl) rfl #[.int .i64 a0,.int .u64 a1] rfl z5_ ?_;(with_reducible refine (shape_Kind.calls a0 a1 t187 (some q189) _ A3.out).mono ?_);rintro e w' ⟨rfl, ⟨nd, rfl⟩⟩;refine ⟨_, rfl, ?_⟩;(try simp only [errW_none, errW_some]);(try (rw [drewN_self w22];generalize hq_ : World.drewN w22 _ = w22;have n0_ : Aside0 (w22.heap[gb186]? = some (.cells #[.int .i64 0,.bool false,.int .i64 0,.int .u64 0] 24 (0, 0))) := ⟨by rw [← hq_];exact (z1_ BK186.out)⟩;have n1_ : Aside0 (Below w.heap.size w w22) := ⟨by rw [← hq_];exact (z3_ HB.out)⟩;clear BK186 HB hq_;have BK186 := n0_;have HB := n1_;clear n0_ n1_));obtain ⟨hcz23_0, hcz23_1, hcz23_2, hcz23_3, hfz23_0⟩ := zc4_ BK186.out))
  refine bodyPost_ret (results_ct rfl _ _ gb186 24 #[.int .i64 t187,.bool false,.int .i64 0,.int .u64 0] (0, 0) _ rfl (by refine z2_ ?_;refine blk_put (cs := #[.int .i64 t187,.bool false,.int .i64 0,.int .u64 0]) ?_ 3 _ rfl;refine z2_ ?_;refine blk_put (cs := #[.int .i64 t187,.bool false,.int .i64 0,.int .u64 0]) ?_ 2 _ rfl;refine z2_ ?_;refine blk_put (cs := #[.int .i64 t187,.bool false,.int .i64 0,.int .u64 0]) ?_ 1 _ rfl;refine z2_ ?_;refine blk_put (cs := #[.int .i64 0,.bool false,.int .i64 0,.int .u64 0]) ?_ 0 _ rfl;refine z2_ ?_;exact BK186.out) Try.underlying24 rfl (by kernel_rfl)) rfl ?_
  exact ⟨z6_, z3_ HB.out⟩
def shape_Of.f (a0 : Int) : Option (Int × Int × Int × Int × Int × Option Int) := (shape_is.f a0).bind fun t201 => (if t201 = true then (if 0 ≤ (wrap64 (a0 - 1)) then (some (a0, IntKind.u64.wrap ((shl .u64 1 (wrap64 (a0 - 1))) - 1), 1, shl .u64 1 (wrap64 (a0 - 1)), wrap64 ((wrap64 (4 * a0)) - 8), none)) else (none)) else (some (0, 0, 0, 0, 0, some 2)))
set_option maxHeartbeats 8000000 in
set_option maxRecDepth 100000 in
theorem shape_Of.calls (a0 : Int) (r1 : Int) (r2 : Int) (r3 : Int) (r4 : Int) (r5 : Int) (r6 : Option Int) (w : World) (h : shape_Of.f a0 = some (r1, r2, r3, r4, r5, r6)) :
  Calls Try.prog 56 #[.int .i64 a0] w fun e w' => e = .returned (.tuple #[.agg #[.int .i64 r1,.int .u64 r2,.int .u64 r3,.int .u64 r4,.int .i64 r5], errW r6]) ∧ Below w.heap.size w w' := by
 have hu98 := Try.underlying98
 have hu29 := Try.underlying29
 have hu42 := Try.underlying42
 have HB := am_ (Below.refl w.heap.size w)
 have H : ((shape_is.f a0).bind fun t201 => (if t201 = true then (if 0 ≤ (wrap64 (a0 - 1)) then (some (a0, IntKind.u64.wrap ((shl .u64 1 (wrap64 (a0 - 1))) - 1), 1, shl .u64 1 (wrap64 (a0 - 1)), wrap64 ((wrap64 (4 * a0)) - 8), none)) else (none)) else (some (0, 0, 0, 0, 0, some 2)))) = some (r1, r2, r3, r4, r5, r6) := h
 clear h
 replace H := Option.bind_eq_some_iff.mp H
 obtain ⟨t201, A20, H⟩ := H
 replace H : (if t201 = true then (if 0 ≤ (wrap64 (a0 - 1)) then (some (a0, IntKind.u64.wrap ((shl .u64 1 (wrap64 (a0 - 1))) - 1), 1, shl .u64 1 (wrap64 (a0 - 1)), wrap64 ((wrap64 (4 * a0)) - 8), none)) else (none)) else (some (0, 0, 0, 0, 0, some 2))) = some (r1, r2, r3, r4, r5, r6) := H
 have A2 := am_ A20
 clear A20
 by_cases c3 : t201 = true
 ·subst c3
  have H1 : (if 0 ≤ (wrap64 (a0 - 1)) then (some (a0, IntKind.u64.wrap ((shl .u64 1 (wrap64 (a0 - 1))) - 1), 1, shl .u64 1 (wrap64 (a0 - 1)), wrap64 ((wrap64 (4 * a0)) - 8), none)) else (none)) = some (r1, r2, r3, r4, r5, r6) := by rw [if_pos rfl] at H;exact H
  clear H
  have H := H1
  clear H1
  obtain ⟨ji4, hji4⟩ : ∃ j_ : Int, (wrap64 (a0 - 1)) = j_ := ⟨_, rfl⟩
  replace H : (if 0 ≤ (ji4) then (some (a0, IntKind.u64.wrap ((shl .u64 1 (ji4)) - 1), 1, shl .u64 1 (ji4), wrap64 ((wrap64 (4 * a0)) - 8), none)) else (none)) = some (r1, r2, r3, r4, r5, r6) := by first | (rw [hji4] at H;exact H) | (simp only [hji4] at H ⊢;exact H)
  (try rw [hji4] at A2)
  have hji4w : (IntKind.i64.wrap (a0 - 1)) = ji4 := (i64_w _).trans hji4
  by_cases c5 : 0 ≤ (ji4)
  ·rw [if_pos c5] at H
   have c5b0 := eq_true c5
   have c5b1 : decide (0 ≤ (ji4)) = true := decide_eq_true c5
   clear c5
   obtain ⟨ji6, hji6⟩ : ∃ j_ : Int, (shl .u64 1 (ji4)) = j_ := ⟨_, rfl⟩
   replace H : (some (a0, IntKind.u64.wrap ((ji6) - 1), 1, ji6, wrap64 ((wrap64 (4 * a0)) - 8), none)) = some (r1, r2, r3, r4, r5, r6) := by first | (rw [hji6] at H;exact H) | (simp only [hji6] at H ⊢;exact H)
   (try rw [hji6] at A2)
   have hji6_ : (IntKind.u64.wrap (1 * 2 ^ min (ji4).toNat 64)) = ji6 := hji6
   have hji6z : (ji4) ≤ 64 → (IntKind.u64.wrap (1 * 2 ^ (ji4).toNat)) = ji6 := shl_small hji6
   (try (have hji6Z_ := hji6z (by omega)))
   have hji6u : (IntKind.u64.wrap (2 ^ min (ji4).toNat 64)) = ji6 := by have h_ := hji6_;rw [Int.one_mul] at h_;exact h_
   have hji6v : (ji4) ≤ 64 → (IntKind.u64.wrap (2 ^ (ji4).toNat)) = ji6 := fun hle_ => by have h_ := hji6z hle_;rw [Int.one_mul] at h_;exact h_
   simp only [Option.some.injEq, Prod.mk.injEq] at H
   obtain ⟨rfl, rfl, rfl, rfl, rfl, rfl⟩ := H
   go_enter Try.func56, Try.ntmps56
   go_wp2_with (first | ((with_reducible refine gate_dst (N := 2) rfl ?_);refine box_event ?hg (N := 2) ?hd (cs := #[.int .i64 0,.int .u64 0,.int .u64 0,.int .u64 0,.int .i64 0]) (t := 98) ?hr ?_;(case hd => rfl);(case hg => rfl);(case hr => first | (go_simp;done) | (go_simp;rfl));intro gb200 hg w7 hbox hb;have n0_ := am_ (below_step (z3_ HB.out) hb);have n1_ := am_ (hbox);have n2_ := am_ ((by rw [hg];exact (below_size (z3_ HB.out)) : w.heap.size ≤ gb200));have n3_ := am_ ((by rw [hg];exact (below_size (z3_ HB.out)) : w.heap.size ≤ gb200));clear HB;have HB := n0_;have BK200 := n1_;have GW200 := n2_;have GE200 := n3_;clear n0_ n1_ n2_ n3_;clear hb hbox hg) | ((with_reducible refine gate_callee (f := 70) rfl ?_);refine goesL_ (some 6) rfl rfl Try.func70 (by kernel_rfl) rfl #[.int .i64 a0] rfl z5_ ?_;(with_reducible refine (shape_is.calls a0 true _ A2.out).mono ?_);rintro e w' ⟨rfl, ⟨nd, rfl⟩⟩;refine ⟨_, rfl, ?_⟩;(try (rw [drewN_self w7];generalize hq_ : World.drewN w7 _ = w7;have n0_ : Aside0 (w7.heap[gb200]? = some (.cells #[.int .i64 0,.int .u64 0,.int .u64 0,.int .u64 0,.int .i64 0] 98 (0, 0))) := ⟨by rw [← hq_];exact (z1_ BK200.out)⟩;have n1_ : Aside0 (Below w.heap.size w w7) := ⟨by rw [← hq_];exact (z3_ HB.out)⟩;clear BK200 HB hq_;have BK200 := n0_;have HB := n1_;clear n0_ n1_));obtain ⟨hcz8_0, hcz8_1, hcz8_2, hcz8_3, hcz8_4, hfz8_0⟩ := zc5_ BK200.out))
   refine bodyPost_ret (results_ct rfl _ _ gb200 98 #[.int .i64 a0,.int .u64 (IntKind.u64.wrap ((ji6) - 1)),.int .u64 1,.int .u64 ji6,.int .i64 (wrap64 ((wrap64 (4 * a0)) - 8))] (0, 0) _ rfl (by refine z2_ ?_;refine blk_put (cs := #[.int .i64 a0,.int .u64 (IntKind.u64.wrap ((ji6) - 1)),.int .u64 1,.int .u64 ji6,.int .i64 0]) ?_ 4 _ rfl;refine z2_ ?_;refine blk_put (cs := #[.int .i64 a0,.int .u64 (IntKind.u64.wrap ((ji6) - 1)),.int .u64 1,.int .u64 0,.int .i64 0]) ?_ 3 _ rfl;refine z2_ ?_;refine blk_put (cs := #[.int .i64 a0,.int .u64 (IntKind.u64.wrap ((ji6) - 1)),.int .u64 0,.int .u64 0,.int .i64 0]) ?_ 2 _ rfl;refine z2_ ?_;refine blk_put (cs := #[.int .i64 a0,.int .u64 0,.int .u64 0,.int .u64 0,.int .i64 0]) ?_ 1 _ rfl;refine z2_ ?_;refine blk_put (cs := #[.int .i64 0,.int .u64 0,.int .u64 0,.int .u64 0,.int .i64 0]) ?_ 0 _ rfl;refine z2_ ?_;exact BK200.out) Try.underlying98 rfl (by kernel_rfl)) rfl ?_
   exact ⟨by first | rfl | (simp [errW_none, errW_some] <;> rfl) | (simp only [← hji4, ← hji6];first | rfl | (simp [errW_none, errW_some] <;> rfl)) | (simp [*, errW_none, errW_some] <;> rfl), z3_ HB.out⟩
  ·rw [if_neg c5] at H
   exact absurd H (by simp)
 ·replace c3 := Bool.eq_false_iff.mpr c3
  subst c3
  have H1 : (some (0, 0, 0, 0, 0, some 2)) = some (r1, r2, r3, r4, r5, r6) := by rw [if_neg (show ¬ (false = true) by decide)] at H;exact H
  clear H
  have H := H1
  clear H1
  simp only [Option.some.injEq, Prod.mk.injEq] at H
  obtain ⟨rfl, rfl, rfl, rfl, rfl, rfl⟩ := H
  go_enter Try.func56, Try.ntmps56
  go_wp2_with (first | ((with_reducible refine gate_dst (N := 2) rfl ?_);refine box_event ?hg (N := 2) ?hd (cs := #[.int .i64 0,.int .u64 0,.int .u64 0,.int .u64 0,.int .i64 0]) (t := 98) ?hr ?_;(case hd => rfl);(case hg => rfl);(case hr => first | (go_simp;done) | (go_simp;rfl));intro gb200 hg w9 hbox hb;have n0_ := am_ (below_step (z3_ HB.out) hb);have n1_ := am_ (hbox);have n2_ := am_ ((by rw [hg];exact (below_size (z3_ HB.out)) : w.heap.size ≤ gb200));have n3_ := am_ ((by rw [hg];exact (below_size (z3_ HB.out)) : w.heap.size ≤ gb200));clear HB;have HB := n0_;have BK200 := n1_;have GW200 := n2_;have GE200 := n3_;clear n0_ n1_ n2_ n3_;clear hb hbox hg) | ((with_reducible refine gate_callee (f := 70) rfl ?_);refine goesL_ (some 6) rfl rfl Try.func70 (by kernel_rfl) rfl #[.int .i64 a0] rfl z5_ ?_;(with_reducible refine (shape_is.calls a0 false _ A2.out).mono ?_);rintro e w' ⟨rfl, ⟨nd, rfl⟩⟩;refine ⟨_, rfl, ?_⟩;(try (rw [drewN_self w9];generalize hq_ : World.drewN w9 _ = w9;have n0_ : Aside0 (w9.heap[gb200]? = some (.cells #[.int .i64 0,.int .u64 0,.int .u64 0,.int .u64 0,.int .i64 0] 98 (0, 0))) := ⟨by rw [← hq_];exact (z1_ BK200.out)⟩;have n1_ : Aside0 (Below w.heap.size w w9) := ⟨by rw [← hq_];exact (z3_ HB.out)⟩;clear BK200 HB hq_;have BK200 := n0_;have HB := n1_;clear n0_ n1_));obtain ⟨hcz10_0, hcz10_1, hcz10_2, hcz10_3, hcz10_4, hfz10_0⟩ := zc5_ BK200.out))
  refine bodyPost_ret (results_ct rfl _ _ gb200 98 #[.int .i64 0,.int .u64 0,.int .u64 0,.int .u64 0,.int .i64 0] (0, 0) _ rfl (by refine z2_ ?_;refine blk_put (cs := #[.int .i64 0,.int .u64 0,.int .u64 0,.int .u64 0,.int .i64 0]) ?_ 4 _ rfl;refine z2_ ?_;refine blk_put (cs := #[.int .i64 0,.int .u64 0,.int .u64 0,.int .u64 0,.int .i64 0]) ?_ 3 _ rfl;refine z2_ ?_;refine blk_put (cs := #[.int .i64 0,.int .u64 0,.int .u64 0,.int .u64 0,.int .i64 0]) ?_ 2 _ rfl;refine z2_ ?_;refine blk_put (cs := #[.int .i64 0,.int .u64 0,.int .u64 0,.int .u64 0,.int .i64 0]) ?_ 1 _ rfl;refine z2_ ?_;refine blk_put (cs := #[.int .i64 0,.int .u64 0,.int .u64 0,.int .u64 0,.int .i64 0]) ?_ 0 _ rfl;refine z2_ ?_;exact BK200.out) Try.underlying98 rfl (by kernel_rfl)) rfl ?_
  exact ⟨z6_, z3_ HB.out⟩
def twin_Shl.f (a0_0 : Int) (a0_1 : Int) (a1 : Int) : Option (Int × Int × Bool × Option Int) := if a1 < 0 then (some (0, 0, false,some 1)) else ((twin_shl.f a0_0 a0_1 (mn a1 128)).bind fun bt204 => ((twin_Len.f a0_0 a0_1).bind fun t206 => (some (bt204.1, bt204.2, decide (t206 > (wrap64 (128 - (mn a1 128)))), none))))
def twin_Shl.T4 : Bool × List (List Nat × List Nat) := (true,[([], []), ([], []), ([0, 1], [0, 1]), ([], []), ([3, 2], [3]), ([], []), ([5], [5]), ([4, 6], [4, 6]), ([2, 4, 0, 1, 2], [2]), ([7, 8, 0, 1, 2, 3, 4, 5, 6, 7, 8], [7]), ([9, 0, 1, 2, 3, 4, 5, 6, 7, 8, 9], [])])
def twin_Shl.B4 : List Nat := [0, 0, 3, 0, 15, 0, 32, 127, 31, 511, 1023]
theorem twin_Shl.tab4 : rtab .any (opsOf Try.f67 4) = twin_Shl.T4 := by kernel_rfl
theorem twin_Shl.bits4 : waitsOk twin_Shl.T4.2 twin_Shl.B4 = true := by kernel_rfl
set_option maxHeartbeats 8000000 in
set_option maxRecDepth 100000 in
theorem twin_Shl.calls (a0_0 : Int) (a0_1 : Int) (a1 : Int) (r1 : Int) (r2 : Int) (r3 : Bool) (r4 : Option Int) (w : World) (h : twin_Shl.f a0_0 a0_1 a1 = some (r1, r2, r3, r4)) :
  Calls Try.prog 67 #[.agg #[.int .u64 a0_0,.int .u64 a0_1],.int .i64 a1] w fun e w' => e = .returned (.tuple #[.agg #[.int .u64 r1,.int .u64 r2],.bool r3, errW r4]) ∧ Below w.heap.size w w' := by
 have hu54 := Try.underlying54
 have hu29 := Try.underlying29
 have hu42 := Try.underlying42
 have HB := am_ (Below.refl w.heap.size w)
 have H : (if a1 < 0 then (some (0, 0, false,some 1)) else ((twin_shl.f a0_0 a0_1 (mn a1 128)).bind fun bt204 => ((twin_Len.f a0_0 a0_1).bind fun t206 => (some (bt204.1, bt204.2, decide (t206 > (wrap64 (128 - (mn a1 128)))), none))))) = some (r1, r2, r3, r4) := h
 clear h
 by_cases c3 : a1 < 0
 ·rw [if_pos c3] at H
  have c3b0 : decide (a1 < 0) = true := decide_eq_true c3
  clear c3
  simp only [Option.some.injEq, Prod.mk.injEq] at H
  obtain ⟨rfl, rfl, rfl, rfl⟩ := H
  go_enter Try.func67, Try.ntmps67
  go_wp2_with (first | ((with_reducible refine gate_dst (N := 2) rfl ?_);refine box_event ?hg (N := 2) ?hd (cs := #[.int .u64 a0_0,.int .u64 a0_1]) (t := 54) ?hr ?_;(case hd => rfl);(case hg => rfl);(case hr => first | (go_simp;done) | (go_simp;rfl));intro gb202 hg w4 hbox hb;have n0_ := am_ (below_step (z3_ HB.out) hb);have n1_ := am_ (hbox);have n2_ := am_ ((by rw [hg];exact (below_size (z3_ HB.out)) : w.heap.size ≤ gb202));have n3_ := am_ ((by rw [hg];exact (below_size (z3_ HB.out)) : w.heap.size ≤ gb202));clear HB;have HB := n0_;have BK202 := n1_;have GW202 := n2_;have GE202 := n3_;clear n0_ n1_ n2_ n3_;clear hb hbox hg) | ((with_reducible refine gate_dst (N := 4) rfl ?_);refine box_event ?hg (N := 4) ?hd (cs := #[.int .u64 0,.int .u64 0]) (t := 54) ?hr ?_;(case hd => rfl);(case hg => rfl);(case hr => first | (go_simp;done) | (go_simp;rfl));intro gb203 hg w5 hbox hb;have n0_ := am_ (blk_below (g := gb202) (z1_ BK202.out) hb);have n1_ := am_ (below_step (z3_ HB.out) hb);have n2_ := am_ (hbox);have n3_ := am_ ((by rw [hg];exact (below_size (z3_ HB.out)) : w.heap.size ≤ gb203));have n4_ := am_ ((by rw [hg];exact (below_size (z3_ HB.out)) : w.heap.size ≤ gb203));have n5_ := am_ ((by rw [hg];exact Nat.ne_of_lt (blk_lt (g := gb202) (o := .cells #[.int .u64 a0_0,.int .u64 a0_1] 54 (0, 0)) (z1_ BK202.out)) : gb202 ≠ gb203));have n6_ := am_ ((by rw [hg];exact Nat.ne_of_gt (blk_lt (g := gb202) (o := .cells #[.int .u64 a0_0,.int .u64 a0_1] 54 (0, 0)) (z1_ BK202.out)) : gb203 ≠ gb202));clear BK202;clear HB;have BK202 := n0_;have HB := n1_;have BK203 := n2_;have GW203 := n3_;have GE203 := n4_;have NB202_203 := n5_;have NB203_202 := n6_;clear n0_ n1_ n2_ n3_ n4_ n5_ n6_;clear hb hbox hg;have hnb6 := NB203_202.out;have hnc6 := NB202_203.out;obtain ⟨hcz7_0, hcz7_1, hfz7_0⟩ := zc2_ BK203.out))
  refine bodyPost_ret (results_ctt rfl _ _ gb203 54 #[.int .u64 0,.int .u64 0] (0, 0) _ rfl (by refine z2_ ?_;refine blk_put (cs := #[.int .u64 0,.int .u64 0]) ?_ 1 _ rfl;refine z2_ ?_;refine blk_put (cs := #[.int .u64 0,.int .u64 0]) ?_ 0 _ rfl;refine z2_ ?_;exact BK203.out) Try.underlying54 rfl (by kernel_rfl)) rfl ?_
  exact ⟨z6_, z3_ HB.out⟩
 ·rw [if_neg c3] at H
  have c3b0 : decide (a1 < 0) = false := decide_eq_false c3
  clear c3
  obtain ⟨ji8, hji8⟩ : ∃ j_ : Int, (mn a1 128) = j_ := ⟨_, rfl⟩
  replace H : ((twin_shl.f a0_0 a0_1 (ji8)).bind fun bt204 => ((twin_Len.f a0_0 a0_1).bind fun t206 => (some (bt204.1, bt204.2, decide (t206 > (wrap64 (128 - (ji8)))), none)))) = some (r1, r2, r3, r4) := by first | (rw [hji8] at H;exact H) | (simp only [hji8] at H ⊢;exact H)
  (try (have hji8h : ji8 ≤ 128 := by (rw [← hji8];unfold mn;(repeat' split) <;> omega)))
  (try (have hji8g : ji8 ≤ 64 := by omega))
  have hji8_ : (if 128 < a1 then 128 else a1) = ji8 := hji8
  replace H := Option.bind_eq_some_iff.mp H
  obtain ⟨⟨t204, t205⟩, A90, H⟩ := H
  replace H : ((twin_Len.f a0_0 a0_1).bind fun t206 => (some (t204, t205, decide (t206 > (wrap64 (128 - (ji8)))), none))) = some (r1, r2, r3, r4) := H
  have A9 := am_ A90
  clear A90
  replace H := Option.bind_eq_some_iff.mp H
  obtain ⟨t206, A100, H⟩ := H
  replace H : (some (t204, t205, decide (t206 > (wrap64 (128 - (ji8)))), none)) = some (r1, r2, r3, r4) := H
  have A10 := am_ A100
  clear A100
  simp only [Option.some.injEq, Prod.mk.injEq] at H
  obtain ⟨rfl, rfl, rfl, rfl⟩ := H
  go_enter Try.func67, Try.ntmps67
  try go_wp2_with (first | ((with_reducible refine gate_dst (N := 2) rfl ?_);refine box_event ?hg (N := 2) ?hd (cs := #[.int .u64 a0_0,.int .u64 a0_1]) (t := 54) ?hr ?_;(case hd => rfl);(case hg => rfl);(case hr => first | (go_simp;done) | (go_simp;rfl));intro gb202 hg w11 hbox hb;have n0_ := am_ (below_step (z3_ HB.out) hb);have n1_ := am_ (hbox);have n2_ := am_ ((by rw [hg];exact (below_size (z3_ HB.out)) : w.heap.size ≤ gb202));have n3_ := am_ ((by rw [hg];exact (below_size (z3_ HB.out)) : w.heap.size ≤ gb202));clear HB;have HB := n0_;have BK202 := n1_;have GW202 := n2_;have GE202 := n3_;clear n0_ n1_ n2_ n3_;clear hb hbox hg) | ((with_reducible refine gate_dst (N := 4) rfl ?_);refine box_event ?hg (N := 4) ?hd (cs := #[.int .u64 0,.int .u64 0]) (t := 54) ?hr ?_;(case hd => rfl);(case hg => rfl);(case hr => first | (go_simp;done) | (go_simp;rfl));intro gb203 hg w12 hbox hb;have n0_ := am_ (blk_below (g := gb202) (z1_ BK202.out) hb);have n1_ := am_ (below_step (z3_ HB.out) hb);have n2_ := am_ (hbox);have n3_ := am_ ((by rw [hg];exact (below_size (z3_ HB.out)) : w.heap.size ≤ gb203));have n4_ := am_ ((by rw [hg];exact (below_size (z3_ HB.out)) : w.heap.size ≤ gb203));have n5_ := am_ ((by rw [hg];exact Nat.ne_of_lt (blk_lt (g := gb202) (o := .cells #[.int .u64 a0_0,.int .u64 a0_1] 54 (0, 0)) (z1_ BK202.out)) : gb202 ≠ gb203));have n6_ := am_ ((by rw [hg];exact Nat.ne_of_gt (blk_lt (g := gb202) (o := .cells #[.int .u64 a0_0,.int .u64 a0_1] 54 (0, 0)) (z1_ BK202.out)) : gb203 ≠ gb202));clear BK202;clear HB;have BK202 := n0_;have HB := n1_;have BK203 := n2_;have GW203 := n3_;have GE203 := n4_;have NB202_203 := n5_;have NB203_202 := n6_;clear n0_ n1_ n2_ n3_ n4_ n5_ n6_;clear hb hbox hg))
  have n0_ := am_ (blk_drew BK202.out)
  have n1_ := am_ (blk_drew BK203.out)
  have n2_ := am_ (below_drew1 HB.out)
  clear BK202
  clear BK203
  clear HB
  have BK202 := n0_
  have BK203 := n1_
  have HB := n2_
  clear n0_ n1_ n2_
  refine start_ (n := 11) (S := fun w' => w'.cell? ⟨gb202, 0, none⟩ = some (.int .u64 a0_0) ∧ w'.cell? ⟨gb202, 1, none⟩ = some (.int .u64 a0_1)) (ds := []) #[false,false,false,false,false,false,false,false,false,false,false] (by kernel_rfl) rfl rfl ⟨(blk_cell BK202.out 0).trans rfl, (blk_cell BK202.out 1).trans rfl⟩ (fun hHeld => ?_);refine with_tabW twin_Shl.tab4 twin_Shl.bits4 (fun HT_ HW_ => ?_)
  generalize w12.drew = w13 at BK202 BK203 HB hHeld ⊢
  refine pure_ (i := 1) (N := some 14) (v := ?_) (a' := ?_) #[false,true,false,false,false,false,false,false,false,false,false] rfl rfl (any_of HT_.out (by kernel_rfl)) (fun _ _ _ h => h) (Or.inl ⟨by rfl, ?_⟩) ?_ ?_
  rotate_left
  ·intro w'
   go_simp
   with_reducible rfl
  rotate_left
  ·simp only [Act.put, List.setIfInBounds_toArray, List.set_cons_zero, List.set_cons_succ, i64_w, i32_w]
   rfl
  refine pure_ (i := 5) (N := some 18) (v := ?_) (a' := ?_) #[false,true,false,false,false,true,false,false,false,false,false] rfl rfl (any_of HT_.out (by kernel_rfl)) (fun _ _ _ h => h) (Or.inl ⟨by rfl, ?_⟩) ?_ ?_
  rotate_left
  ·intro w'
   go_simp
   with_reducible rfl
  rotate_left
  ·simp only [Act.put, List.setIfInBounds_toArray, List.set_cons_zero, List.set_cons_succ, i64_w, i32_w]
   rfl
  refine pure_ (i := 6) (N := some 19) (v := ?_) (a' := ?_) #[false,true,false,false,false,true,true,false,false,false,false] rfl rfl (any_of HT_.out (by kernel_rfl)) (fun _ _ _ h => h) (Or.inl ⟨by rfl, ?_⟩) ?_ ?_
  rotate_left
  ·intro w'
   go_simp
   with_reducible rfl
  rotate_left
  ·simp only [Act.put, List.setIfInBounds_toArray, List.set_cons_zero, List.set_cons_succ, i64_w, i32_w]
   rfl
  refine take_ (i := 0) (N := some 13) (v := ?_) (a' := ?_) #[true,true,false,false,false,true,true,false,false,false,false] rfl rfl (take_ofW HT_.out HW_.out (by kernel_rfl)) (fun _ _ _ h => h) (Or.inl ⟨by rfl, ?_⟩) hHeld ?_ ?_
  rotate_left
  ·rintro w' ⟨s0, s1⟩
   go_simp
   with_reducible rfl
  rotate_left
  ·simp only [Act.put, List.setIfInBounds_toArray, List.set_cons_zero, List.set_cons_succ, i64_w, i32_w]
   rfl
  refine take_ (i := 3) (N := some 16) (v := ?_) (a' := ?_) #[true,true,false,true,false,true,true,false,false,false,false] rfl rfl (take_ofW HT_.out HW_.out (by kernel_rfl)) (fun _ _ _ h => h) (Or.inl ⟨by rfl, ?_⟩) hHeld ?_ ?_
  rotate_left
  ·rintro w' ⟨s0, s1⟩
   go_simp
   with_reducible rfl
  rotate_left
  ·simp only [Act.put, List.setIfInBounds_toArray, List.set_cons_zero, List.set_cons_succ, i64_w, i32_w]
   rfl
  refine one_ (i := 2) (N := some 15) #[true,true,true,true,false,true,true,false,false,false,false] rfl rfl (one_of HT_.out (by kernel_rfl)) (by decide) (fun K hK => ?_)
  refine goes_ Try.func60 (by kernel_rfl) rfl #[.agg #[.int .u64 a0_0,.int .u64 a0_1],.int .i64 ji8] (by rfl) rfl rfl (by (try simp only [List.map_toArray, List.map_cons, List.map_nil]);first | done | (simp only [hji8];rfl) | rfl | (simp only [List.length_drop, List.length_take];rfl)) ?_
  with_reducible refine (twin_shl.calls a0_0 a0_1 ji8 t204 t205 _ A9.out).mono ?_
  rintro e w14 ⟨rfl, hb⟩
  refine ⟨_, rfl, ?_⟩
  have n0_ := am_ (blk_below (g := gb202) (z1_ BK202.out) hb)
  have n1_ := am_ (blk_below (g := gb203) (z1_ BK203.out) hb)
  have n2_ := am_ (below_step (z3_ HB.out) hb)
  clear BK202
  clear BK203
  clear HB
  have BK202 := n0_
  have BK203 := n1_
  have HB := n2_
  clear n0_ n1_ n2_
  (try clear hb)
  (try clear hb2)
  (try clear hk)
  (try clear hi)
  refine hK.out _ _ ⟨(blk_cell BK202.out 0).trans rfl, (blk_cell BK202.out 1).trans rfl⟩ (fun hHeld => ?_)
  clear hK K
  refine norm_ (a' := ?_) ?_ ?_
  rotate_left
  ·show Act.put _ (some 15) _ = _
   simp only [Act.put, List.setIfInBounds_toArray, List.set_cons_zero, List.set_cons_succ, i64_w, i32_w]
   rfl
  refine one_ (i := 4) (N := some 17) #[true,true,true,true,true,true,true,false,false,false,false] rfl rfl (one_of HT_.out (by kernel_rfl)) (by decide) (fun K hK => ?_)
  refine goes_ Try.func59 (by kernel_rfl) rfl #[.agg #[.int .u64 a0_0,.int .u64 a0_1]] (by rfl) rfl rfl z5_ ?_
  with_reducible refine (twin_Len.calls a0_0 a0_1 t206 _ A10.out).mono ?_
  rintro e w15 ⟨rfl, hb⟩
  refine ⟨_, rfl, ?_⟩
  have n0_ := am_ (blk_below (g := gb202) (z1_ BK202.out) hb)
  have n1_ := am_ (blk_below (g := gb203) (z1_ BK203.out) hb)
  have n2_ := am_ (below_step (z3_ HB.out) hb)
  clear BK202
  clear BK203
  clear HB
  have BK202 := n0_
  have BK203 := n1_
  have HB := n2_
  clear n0_ n1_ n2_
  (try clear hb)
  (try clear hb2)
  (try clear hk)
  (try clear hi)
  refine hK.out _ _ ⟨(blk_cell BK202.out 0).trans rfl, (blk_cell BK202.out 1).trans rfl⟩ (fun hHeld => ?_)
  clear hK K
  refine norm_ (a' := ?_) ?_ ?_
  rotate_left
  ·show Act.put _ (some 17) _ = _
   simp only [Act.put, List.setIfInBounds_toArray, List.set_cons_zero, List.set_cons_succ, i64_w, i32_w]
   rfl
  refine pure_ (i := 7) (N := some 20) (v := ?_) (a' := ?_) #[true,true,true,true,true,true,true,true,false,false,false] rfl rfl (any_of HT_.out (by kernel_rfl)) (fun _ _ _ h => h) (Or.inl ⟨by rfl, ?_⟩) ?_ ?_
  rotate_left
  ·intro w'
   go_simp
   with_reducible rfl
  rotate_left
  ·simp only [Act.put, List.setIfInBounds_toArray, List.set_cons_zero, List.set_cons_succ, i64_w, i32_w]
   rfl
  refine one_ (i := 8) (N := none) #[true,true,true,true,true,true,true,true,true,false,false] rfl rfl (one_of HT_.out (by kernel_rfl)) (by decide) (fun K hK => ?_)
  have hs16 : w15.cell? ⟨gb203, 0, none⟩ = some (.int .u64 0) := (blk_cell BK203.out 0).trans rfl
  have hfs16 := blk_frozen BK203.out 0
  have hns16_0 := NB202_203.out
  have hms16_0 := NB203_202.out
  have hs17 : w15.cell? ⟨gb203, 1, none⟩ = some (.int .u64 0) := (blk_cell BK203.out 1).trans rfl
  have hfs17 := blk_frozen BK203.out 1
  have hns17_0 := NB202_203.out
  have hms17_0 := NB203_202.out
  refine skip_ (w1 := ?_) (by rfl) rfl ?_ ?_
  rotate_left
  ·go_simp
   rfl
  refine hK.out _ _ ⟨((cell_far (p := ⟨gb203, _, none⟩) NB202_203.out _).trans (((cell_far (p := ⟨gb203, _, none⟩) NB202_203.out _).trans (hHeld.1)))), ((cell_far (p := ⟨gb203, _, none⟩) NB202_203.out _).trans (((cell_far (p := ⟨gb203, _, none⟩) NB202_203.out _).trans (hHeld.2))))⟩ (fun hHeld => ?_)
  clear hK K
  refine pure_ (i := 9) (N := some 5) (v := ?_) (a' := ?_) #[true,true,true,true,true,true,true,true,true,true,false] rfl rfl (any_of HT_.out (by kernel_rfl)) (fun _ _ _ h => h) (Or.inl ⟨by rfl, ?_⟩) ?_ ?_
  rotate_left
  ·intro w'
   go_simp
   with_reducible rfl
  rotate_left
  ·simp only [Act.put, List.setIfInBounds_toArray, List.set_cons_zero, List.set_cons_succ, i64_w, i32_w]
   rfl
  refine pure_ (i := 10) (N := some 6) (v := ?_) (a' := ?_) #[true,true,true,true,true,true,true,true,true,true,true] rfl rfl (any_of HT_.out (by kernel_rfl)) (fun _ _ _ h => h) (Or.inl ⟨by rfl, ?_⟩) ?_ ?_
  rotate_left
  ·intro w'
   go_simp
   with_reducible rfl
  rotate_left
  ·simp only [Act.put, List.setIfInBounds_toArray, List.set_cons_zero, List.set_cons_succ, i64_w, i32_w]
   rfl
  refine done_ (done_of HT_.out (by kernel_rfl)) ?_
  try go_wp2
  refine bodyPost_ret (results_ctt rfl _ _ gb203 54 #[.int .u64 t204,.int .u64 t205] (0, 0) _ rfl (by refine z2_ ?_;refine blk_put (cs := #[.int .u64 t204,.int .u64 0]) ?_ 1 _ rfl;refine z2_ ?_;refine blk_put (cs := #[.int .u64 0,.int .u64 0]) ?_ 0 _ rfl;refine z2_ ?_;exact BK203.out) Try.underlying54 rfl (by kernel_rfl)) rfl ?_
  exact ⟨by first | rfl | (simp [errW_none, errW_some] <;> rfl) | (simp only [← hji8];first | rfl | (simp [errW_none, errW_some] <;> rfl)) | (simp [*, errW_none, errW_some] <;> rfl), z3_ HB.out⟩
def twin_shr.f (a0_0 : Int) (a0_1 : Int) (a1 : Int) : Option (Int × Int) := if a1 ≥ 64 then (if 0 ≤ (wrap64 (a1 - 64)) then (some (0, shr .u64 a0_0 (wrap64 (a1 - 64)))) else (none)) else (if 0 ≤ a1 then (if 0 ≤ (wrap64 (64 - a1)) then (some (shr .u64 a0_0 a1, Go.bits .or .u64 (shr .u64 a0_1 a1) (shl .u64 a0_0 (wrap64 (64 - a1))))) else (none)) else (none))
def twin_shr.T3 : Bool × List (List Nat × List Nat) := (true,[([], []), ([0], [0]), ([], []), ([1, 2], [1, 2]), ([], []), ([4], [4]), ([], []), ([5, 6], [5, 6]), ([], []), ([8], [8]), ([], []), ([10], [10]), ([9, 11], [9, 11]), ([7, 12], [7, 12]), ([3, 13], [3, 13]), ([14, 0, 1, 2, 3, 4, 5, 6, 7, 8, 9, 10, 11, 12, 13, 14], [14])])
def twin_shr.B3 : List Nat := [0, 1, 0, 7, 0, 16, 0, 112, 0, 256, 0, 1024, 3840, 8176, 16383, 32767]
theorem twin_shr.tab3 : rtab .any (opsOf Try.f84 3) = twin_shr.T3 := by kernel_rfl
theorem twin_shr.bits3 : waitsOk twin_shr.T3.2 twin_shr.B3 = true := by kernel_rfl
set_option maxHeartbeats 8000000 in
set_option maxRecDepth 100000 in
theorem twin_shr.calls (a0_0 : Int) (a0_1 : Int) (a1 : Int) (r1 : Int) (r2 : Int) (w : World) (h : twin_shr.f a0_0 a0_1 a1 = some (r1, r2)) :
  Calls Try.prog 84 #[.agg #[.int .u64 a0_0,.int .u64 a0_1],.int .i64 a1] w fun e w' => e = .returned (.agg #[.int .u64 r1,.int .u64 r2]) ∧ Below w.heap.size w w' := by
 have hu54 := Try.underlying54
 have HB := am_ (Below.refl w.heap.size w)
 have H : (if a1 ≥ 64 then (if 0 ≤ (wrap64 (a1 - 64)) then (some (0, shr .u64 a0_0 (wrap64 (a1 - 64)))) else (none)) else (if 0 ≤ a1 then (if 0 ≤ (wrap64 (64 - a1)) then (some (shr .u64 a0_0 a1, Go.bits .or .u64 (shr .u64 a0_1 a1) (shl .u64 a0_0 (wrap64 (64 - a1))))) else (none)) else (none))) = some (r1, r2) := h
 clear h
 by_cases c3 : a1 ≥ 64
 ·rw [if_pos c3] at H
  have c3b0 : decide (64 ≤ a1) = true := decide_eq_true c3
  clear c3
  obtain ⟨ji4, hji4⟩ : ∃ j_ : Int, (wrap64 (a1 - 64)) = j_ := ⟨_, rfl⟩
  replace H : (if 0 ≤ (ji4) then (some (0, shr .u64 a0_0 (ji4))) else (none)) = some (r1, r2) := by first | (rw [hji4] at H;exact H) | (simp only [hji4] at H ⊢;exact H)
  have hji4w : (IntKind.i64.wrap (a1 - 64)) = ji4 := (i64_w _).trans hji4
  by_cases c5 : 0 ≤ (ji4)
  ·rw [if_pos c5] at H
   have c5b0 := eq_true c5
   have c5b1 : decide (0 ≤ (ji4)) = true := decide_eq_true c5
   clear c5
   obtain ⟨ji6, hji6⟩ : ∃ j_ : Int, (shr .u64 a0_0 (ji4)) = j_ := ⟨_, rfl⟩
   replace H : (some (0, ji6)) = some (r1, r2) := by first | (rw [hji6] at H;exact H) | (simp only [hji6] at H ⊢;exact H)
   have hji6_ : (a0_0 / 2 ^ min (ji4).toNat 64) = ji6 := hji6
   have hji6z : (ji4) ≤ 64 → (a0_0 / 2 ^ (ji4).toNat) = ji6 := shr_small hji6
   (try (have hji6Z_ := hji6z (by omega)))
   simp only [Option.some.injEq, Prod.mk.injEq] at H
   obtain ⟨rfl, rfl⟩ := H
   go_enter Try.func84, Try.ntmps84
   go_wp2_with (first | ((with_reducible refine gate_dst (N := 2) rfl ?_);refine box_event ?hg (N := 2) ?hd (cs := #[.int .u64 a0_0,.int .u64 a0_1]) (t := 54) ?hr ?_;(case hd => rfl);(case hg => rfl);(case hr => first | (go_simp;done) | (go_simp;rfl));intro gb207 hg w7 hbox hb;have n0_ := am_ (below_step (z3_ HB.out) hb);have n1_ := am_ (hbox);have n2_ := am_ ((by rw [hg];exact (below_size (z3_ HB.out)) : w.heap.size ≤ gb207));have n3_ := am_ ((by rw [hg];exact (below_size (z3_ HB.out)) : w.heap.size ≤ gb207));clear HB;have HB := n0_;have BK207 := n1_;have GW207 := n2_;have GE207 := n3_;clear n0_ n1_ n2_ n3_;clear hb hbox hg) | ((with_reducible refine gate_dst (N := 4) rfl ?_);refine box_event ?hg (N := 4) ?hd (cs := #[.int .u64 0,.int .u64 0]) (t := 54) ?hr ?_;(case hd => rfl);(case hg => rfl);(case hr => first | (go_simp;done) | (go_simp;rfl));intro gb208 hg w8 hbox hb;have n0_ := am_ (blk_below (g := gb207) (z1_ BK207.out) hb);have n1_ := am_ (below_step (z3_ HB.out) hb);have n2_ := am_ (hbox);have n3_ := am_ ((by rw [hg];exact (below_size (z3_ HB.out)) : w.heap.size ≤ gb208));have n4_ := am_ ((by rw [hg];exact (below_size (z3_ HB.out)) : w.heap.size ≤ gb208));have n5_ := am_ ((by rw [hg];exact Nat.ne_of_lt (blk_lt (g := gb207) (o := .cells #[.int .u64 a0_0,.int .u64 a0_1] 54 (0, 0)) (z1_ BK207.out)) : gb207 ≠ gb208));have n6_ := am_ ((by rw [hg];exact Nat.ne_of_gt (blk_lt (g := gb207) (o := .cells #[.int .u64 a0_0,.int .u64 a0_1] 54 (0, 0)) (z1_ BK207.out)) : gb208 ≠ gb207));clear BK207;clear HB;have BK207 := n0_;have HB := n1_;have BK208 := n2_;have GW208 := n3_;have GE208 := n4_;have NB207_208 := n5_;have NB208_207 := n6_;clear n0_ n1_ n2_ n3_ n4_ n5_ n6_;clear hb hbox hg;have hnb9 := NB207_208.out;have hnc9 := NB208_207.out;obtain ⟨hcz10_0, hcz10_1, hfz10_0⟩ := zc2_ BK207.out;obtain ⟨hcz11_0, hcz11_1, hfz11_0⟩ := zc2_ BK208.out))
   refine bodyPost_ret (results_cell_row rfl _ _ gb208 54 #[.int .u64 0,.int .u64 ji6] (0, 0) _ rfl (by refine z2_ ?_;refine blk_put (cs := #[.int .u64 0,.int .u64 0]) ?_ 1 _ rfl;refine z2_ ?_;refine blk_put (cs := #[.int .u64 0,.int .u64 0]) ?_ 0 _ rfl;refine z2_ ?_;exact BK208.out) Try.underlying54 rfl (by kernel_rfl)) rfl ?_
   exact ⟨by first | rfl | (simp [errW_none, errW_some] <;> rfl) | (simp only [← hji4, ← hji6];first | rfl | (simp [errW_none, errW_some] <;> rfl)) | (simp [*, errW_none, errW_some] <;> rfl), z3_ HB.out⟩
  ·rw [if_neg c5] at H
   exact absurd H (by simp)
 ·rw [if_neg c3] at H
  have c3b0 : decide (64 ≤ a1) = false := decide_eq_false c3
  clear c3
  by_cases c12 : 0 ≤ a1
  ·rw [if_pos c12] at H
   have c12b0 := eq_true c12
   have c12b1 : decide (0 ≤ a1) = true := decide_eq_true c12
   clear c12
   obtain ⟨ji13, hji13⟩ : ∃ j_ : Int, (shr .u64 a0_0 a1) = j_ := ⟨_, rfl⟩
   replace H : (if 0 ≤ (wrap64 (64 - a1)) then (some (ji13, Go.bits .or .u64 (shr .u64 a0_1 a1) (shl .u64 a0_0 (wrap64 (64 - a1))))) else (none)) = some (r1, r2) := by first | (rw [hji13] at H;exact H) | (simp only [hji13] at H ⊢;exact H)
   have hji13_ : (a0_0 / 2 ^ min a1.toNat 64) = ji13 := hji13
   have hji13z : a1 ≤ 64 → (a0_0 / 2 ^ a1.toNat) = ji13 := shr_small hji13
   (try (have hji13Z_ := hji13z (by omega)))
   have c14b0 := eq_true (of_decide_eq_true (by first | (with_reducible assumption) | assumption) : 0 ≤ a1)
   obtain ⟨ji15, hji15⟩ : ∃ j_ : Int, (shr .u64 a0_1 a1) = j_ := ⟨_, rfl⟩
   replace H : (if 0 ≤ (wrap64 (64 - a1)) then (some (ji13, Go.bits .or .u64 (ji15) (shl .u64 a0_0 (wrap64 (64 - a1))))) else (none)) = some (r1, r2) := by first | (rw [hji15] at H;exact H) | (simp only [hji15] at H ⊢;exact H)
   have hji15_ : (a0_1 / 2 ^ min a1.toNat 64) = ji15 := hji15
   have hji15z : a1 ≤ 64 → (a0_1 / 2 ^ a1.toNat) = ji15 := shr_small hji15
   (try (have hji15Z_ := hji15z (by omega)))
   obtain ⟨ji16, hji16⟩ : ∃ j_ : Int, (wrap64 (64 - a1)) = j_ := ⟨_, rfl⟩
   replace H : (if 0 ≤ (ji16) then (some (ji13, Go.bits .or .u64 (ji15) (shl .u64 a0_0 (ji16)))) else (none)) = some (r1, r2) := by first | (rw [hji16] at H;exact H) | (simp only [hji16] at H ⊢;exact H)
   have hji16w : (IntKind.i64.wrap (64 - a1)) = ji16 := (i64_w _).trans hji16
   by_cases c17 : 0 ≤ (ji16)
   ·rw [if_pos c17] at H
    have c17b0 := eq_true c17
    have c17b1 : decide (0 ≤ (ji16)) = true := decide_eq_true c17
    clear c17
    obtain ⟨ji18, hji18⟩ : ∃ j_ : Int, (shl .u64 a0_0 (ji16)) = j_ := ⟨_, rfl⟩
    replace H : (some (ji13, Go.bits .or .u64 (ji15) (ji18))) = some (r1, r2) := by first | (rw [hji18] at H;exact H) | (simp only [hji18] at H ⊢;exact H)
    have hji18_ : (IntKind.u64.wrap (a0_0 * 2 ^ min (ji16).toNat 64)) = ji18 := hji18
    have hji18z : (ji16) ≤ 64 → (IntKind.u64.wrap (a0_0 * 2 ^ (ji16).toNat)) = ji18 := shl_small hji18
    (try (have hji18Z_ := hji18z (by omega)))
    simp only [Option.some.injEq, Prod.mk.injEq] at H
    obtain ⟨rfl, rfl⟩ := H
    go_enter Try.func84, Try.ntmps84
    try go_wp2_with (first | ((with_reducible refine gate_dst (N := 2) rfl ?_);refine box_event ?hg (N := 2) ?hd (cs := #[.int .u64 a0_0,.int .u64 a0_1]) (t := 54) ?hr ?_;(case hd => rfl);(case hg => rfl);(case hr => first | (go_simp;done) | (go_simp;rfl));intro gb207 hg w19 hbox hb;have n0_ := am_ (below_step (z3_ HB.out) hb);have n1_ := am_ (hbox);have n2_ := am_ ((by rw [hg];exact (below_size (z3_ HB.out)) : w.heap.size ≤ gb207));have n3_ := am_ ((by rw [hg];exact (below_size (z3_ HB.out)) : w.heap.size ≤ gb207));clear HB;have HB := n0_;have BK207 := n1_;have GW207 := n2_;have GE207 := n3_;clear n0_ n1_ n2_ n3_;clear hb hbox hg) | ((with_reducible refine gate_dst (N := 4) rfl ?_);refine box_event ?hg (N := 4) ?hd (cs := #[.int .u64 0,.int .u64 0]) (t := 54) ?hr ?_;(case hd => rfl);(case hg => rfl);(case hr => first | (go_simp;done) | (go_simp;rfl));intro gb208 hg w20 hbox hb;have n0_ := am_ (blk_below (g := gb207) (z1_ BK207.out) hb);have n1_ := am_ (below_step (z3_ HB.out) hb);have n2_ := am_ (hbox);have n3_ := am_ ((by rw [hg];exact (below_size (z3_ HB.out)) : w.heap.size ≤ gb208));have n4_ := am_ ((by rw [hg];exact (below_size (z3_ HB.out)) : w.heap.size ≤ gb208));have n5_ := am_ ((by rw [hg];exact Nat.ne_of_lt (blk_lt (g := gb207) (o := .cells #[.int .u64 a0_0,.int .u64 a0_1] 54 (0, 0)) (z1_ BK207.out)) : gb207 ≠ gb208));have n6_ := am_ ((by rw [hg];exact Nat.ne_of_gt (blk_lt (g := gb207) (o := .cells #[.int .u64 a0_0,.int .u64 a0_1] 54 (0, 0)) (z1_ BK207.out)) : gb208 ≠ gb207));clear BK207;clear HB;have BK207 := n0_;have HB := n1_;have BK208 := n2_;have GW208 := n3_;have GE208 := n4_;have NB207_208 := n5_;have NB208_207 := n6_;clear n0_ n1_ n2_ n3_ n4_ n5_ n6_;clear hb hbox hg))
    have n0_ := am_ (blk_drew BK207.out)
    have n1_ := am_ (blk_drew BK208.out)
    have n2_ := am_ (below_drew1 HB.out)
    clear BK207
    clear BK208
    clear HB
    have BK207 := n0_
    have BK208 := n1_
    have HB := n2_
    clear n0_ n1_ n2_
    refine start_ (n := 16) (S := fun w' => w'.cell? ⟨gb207, 0, none⟩ = some (.int .u64 a0_0) ∧ w'.cell? ⟨gb207, 1, none⟩ = some (.int .u64 a0_1)) (ds := []) #[false,false,false,false,false,false,false,false,false,false,false,false,false,false,false,false] (by kernel_rfl) rfl rfl ⟨(blk_cell BK207.out 0).trans rfl, (blk_cell BK207.out 1).trans rfl⟩ (fun hHeld => ?_);refine with_tabW twin_shr.tab3 twin_shr.bits3 (fun HT_ HW_ => ?_)
    generalize w20.drew = w21 at BK207 BK208 HB hHeld ⊢
    refine pure_ (i := 0) (N := some 13) (v := ?_) (a' := ?_) #[true,false,false,false,false,false,false,false,false,false,false,false,false,false,false,false] rfl rfl (any_of HT_.out (by kernel_rfl)) (fun _ _ _ h => h) (Or.inl ⟨by rfl, ?_⟩) ?_ ?_
    rotate_left
    ·intro w'
     go_simp
     with_reducible rfl
    rotate_left
    ·simp only [Act.put, List.setIfInBounds_toArray, List.set_cons_zero, List.set_cons_succ, i64_w, i32_w]
     rfl
    refine pure_ (i := 2) (N := some 15) (v := ?_) (a' := ?_) #[true,false,true,false,false,false,false,false,false,false,false,false,false,false,false,false] rfl rfl (any_of HT_.out (by kernel_rfl)) (fun _ _ _ h => h) (Or.inl ⟨by rfl, ?_⟩) ?_ ?_
    rotate_left
    ·intro w'
     go_simp
     with_reducible rfl
    rotate_left
    ·simp only [Act.put, List.setIfInBounds_toArray, List.set_cons_zero, List.set_cons_succ, i64_w, i32_w]
     rfl
    refine pure_ (i := 4) (N := some 17) (v := ?_) (a' := ?_) #[true,false,true,false,true,false,false,false,false,false,false,false,false,false,false,false] rfl rfl (any_of HT_.out (by kernel_rfl)) (fun _ _ _ h => h) (Or.inl ⟨by rfl, ?_⟩) ?_ ?_
    rotate_left
    ·intro w'
     go_simp
     with_reducible rfl
    rotate_left
    ·simp only [Act.put, List.setIfInBounds_toArray, List.set_cons_zero, List.set_cons_succ, i64_w, i32_w]
     rfl
    refine pure_ (i := 6) (N := some 19) (v := ?_) (a' := ?_) #[true,false,true,false,true,false,true,false,false,false,false,false,false,false,false,false] rfl rfl (any_of HT_.out (by kernel_rfl)) (fun _ _ _ h => h) (Or.inl ⟨by rfl, ?_⟩) ?_ ?_
    rotate_left
    ·intro w'
     go_simp
     with_reducible rfl
    rotate_left
    ·simp only [Act.put, List.setIfInBounds_toArray, List.set_cons_zero, List.set_cons_succ, i64_w, i32_w]
     rfl
    refine pure_ (i := 8) (N := some 21) (v := ?_) (a' := ?_) #[true,false,true,false,true,false,true,false,true,false,false,false,false,false,false,false] rfl rfl (any_of HT_.out (by kernel_rfl)) (fun _ _ _ h => h) (Or.inl ⟨by rfl, ?_⟩) ?_ ?_
    rotate_left
    ·intro w'
     go_simp
     with_reducible rfl
    rotate_left
    ·simp only [Act.put, List.setIfInBounds_toArray, List.set_cons_zero, List.set_cons_succ, i64_w, i32_w]
     rfl
    refine pure_ (i := 10) (N := some 23) (v := ?_) (a' := ?_) #[true,false,true,false,true,false,true,false,true,false,true,false,false,false,false,false] rfl rfl (any_of HT_.out (by kernel_rfl)) (fun _ _ _ h => h) (Or.inl ⟨by rfl, ?_⟩) ?_ ?_
    rotate_left
    ·intro w'
     go_simp
     with_reducible rfl
    rotate_left
    ·simp only [Act.put, List.setIfInBounds_toArray, List.set_cons_zero, List.set_cons_succ, i64_w, i32_w]
     rfl
    refine pure_ (i := 11) (N := some 24) (v := ?_) (a' := ?_) #[true,false,true,false,true,false,true,false,true,false,true,true,false,false,false,false] rfl rfl (any_of HT_.out (by kernel_rfl)) (fun _ _ _ h => h) (Or.inl ⟨by rfl, ?_⟩) ?_ ?_
    rotate_left
    ·intro w'
     go_simp
     with_reducible rfl
    rotate_left
    ·simp only [Act.put, List.setIfInBounds_toArray, List.set_cons_zero, List.set_cons_succ, i64_w, i32_w]
     rfl
    refine take_ (i := 1) (N := some 14) (v := ?_) (a' := ?_) #[true,true,true,false,true,false,true,false,true,false,true,true,false,false,false,false] rfl rfl (take_ofW HT_.out HW_.out (by kernel_rfl)) (fun _ _ _ h => h) (Or.inl ⟨by rfl, ?_⟩) hHeld ?_ ?_
    rotate_left
    ·rintro w' ⟨s0, s1⟩
     go_simp
     with_reducible rfl
    rotate_left
    ·simp only [Act.put, List.setIfInBounds_toArray, List.set_cons_zero, List.set_cons_succ, i64_w, i32_w]
     rfl
    refine pure_ (i := 3) (N := some 16) (v := ?_) (a' := ?_) #[true,true,true,true,true,false,true,false,true,false,true,true,false,false,false,false] rfl rfl (any_of HT_.out (by kernel_rfl)) (fun _ _ _ h => h) (Or.inl ⟨by rfl, ?_⟩) ?_ ?_
    rotate_left
    ·intro w'
     go_simp
     with_reducible rfl
    rotate_left
    ·simp only [Act.put, List.setIfInBounds_toArray, List.set_cons_zero, List.set_cons_succ, i64_w, i32_w]
     rfl
    refine take_ (i := 5) (N := some 18) (v := ?_) (a' := ?_) #[true,true,true,true,true,true,true,false,true,false,true,true,false,false,false,false] rfl rfl (take_ofW HT_.out HW_.out (by kernel_rfl)) (fun _ _ _ h => h) (Or.inl ⟨by rfl, ?_⟩) hHeld ?_ ?_
    rotate_left
    ·rintro w' ⟨s0, s1⟩
     go_simp
     with_reducible rfl
    rotate_left
    ·simp only [Act.put, List.setIfInBounds_toArray, List.set_cons_zero, List.set_cons_succ, i64_w, i32_w]
     rfl
    refine pure_ (i := 7) (N := some 20) (v := ?_) (a' := ?_) #[true,true,true,true,true,true,true,true,true,false,true,true,false,false,false,false] rfl rfl (any_of HT_.out (by kernel_rfl)) (fun _ _ _ h => h) (Or.inl ⟨by rfl, ?_⟩) ?_ ?_
    rotate_left
    ·intro w'
     go_simp
     with_reducible rfl
    rotate_left
    ·simp only [Act.put, List.setIfInBounds_toArray, List.set_cons_zero, List.set_cons_succ, i64_w, i32_w]
     rfl
    refine take_ (i := 9) (N := some 22) (v := ?_) (a' := ?_) #[true,true,true,true,true,true,true,true,true,true,true,true,false,false,false,false] rfl rfl (take_ofW HT_.out HW_.out (by kernel_rfl)) (fun _ _ _ h => h) (Or.inl ⟨by rfl, ?_⟩) hHeld ?_ ?_
    rotate_left
    ·rintro w' ⟨s0, s1⟩
     go_simp
     with_reducible rfl
    rotate_left
    ·simp only [Act.put, List.setIfInBounds_toArray, List.set_cons_zero, List.set_cons_succ, i64_w, i32_w]
     rfl
    refine pure_ (i := 12) (N := some 25) (v := ?_) (a' := ?_) #[true,true,true,true,true,true,true,true,true,true,true,true,true,false,false,false] rfl rfl (any_of HT_.out (by kernel_rfl)) (fun _ _ _ h => h) (Or.inl ⟨by rfl, ?_⟩) ?_ ?_
    rotate_left
    ·intro w'
     go_simp
     with_reducible rfl
    rotate_left
    ·simp only [Act.put, List.setIfInBounds_toArray, List.set_cons_zero, List.set_cons_succ, i64_w, i32_w]
     rfl
    refine pure_ (i := 13) (N := some 26) (v := ?_) (a' := ?_) #[true,true,true,true,true,true,true,true,true,true,true,true,true,true,false,false] rfl rfl (any_of HT_.out (by kernel_rfl)) (fun _ _ _ h => h) (Or.inl ⟨by rfl, ?_⟩) ?_ ?_
    rotate_left
    ·intro w'
     go_simp
     with_reducible rfl
    rotate_left
    ·simp only [Act.put, List.setIfInBounds_toArray, List.set_cons_zero, List.set_cons_succ, i64_w, i32_w]
     rfl
    refine pure_ (i := 14) (N := some 27) (v := ?_) (a' := ?_) #[true,true,true,true,true,true,true,true,true,true,true,true,true,true,true,false] rfl rfl (any_of HT_.out (by kernel_rfl)) (fun _ _ _ h => h) (Or.inl ⟨by rfl, ?_⟩) ?_ ?_
    rotate_left
    ·intro w'
     go_simp
     with_reducible rfl
    rotate_left
    ·simp only [Act.put, List.setIfInBounds_toArray, List.set_cons_zero, List.set_cons_succ, i64_w, i32_w]
     rfl
    refine one_ (i := 15) (N := none) #[true,true,true,true,true,true,true,true,true,true,true,true,true,true,true,true] rfl rfl (one_of HT_.out (by kernel_rfl)) (by decide) (fun K hK => ?_)
    have hs22 : w21.cell? ⟨gb208, 0, none⟩ = some (.int .u64 0) := (blk_cell BK208.out 0).trans rfl
    have hfs22 := blk_frozen BK208.out 0
    have hns22_0 := NB207_208.out
    have hms22_0 := NB208_207.out
    have hs23 : w21.cell? ⟨gb208, 1, none⟩ = some (.int .u64 0) := (blk_cell BK208.out 1).trans rfl
    have hfs23 := blk_frozen BK208.out 1
    have hns23_0 := NB207_208.out
    have hms23_0 := NB208_207.out
    refine skip_ (w1 := ?_) (by rfl) rfl ?_ ?_
    rotate_left
    ·go_simp
     rfl
    refine hK.out _ _ ⟨((cell_far (p := ⟨gb208, _, none⟩) NB207_208.out _).trans (((cell_far (p := ⟨gb208, _, none⟩) NB207_208.out _).trans (hHeld.1)))), ((cell_far (p := ⟨gb208, _, none⟩) NB207_208.out _).trans (((cell_far (p := ⟨gb208, _, none⟩) NB207_208.out _).trans (hHeld.2))))⟩ (fun hHeld => ?_)
    clear hK K
    refine done_ (done_of HT_.out (by kernel_rfl)) ?_
    try go_wp2
    refine bodyPost_ret (results_cell_row rfl _ _ gb208 54 #[.int .u64 ji13,.int .u64 (Go.bits .or .u64 (ji15) (ji18))] (0, 0) _ rfl (by refine z2_ ?_;refine blk_put (cs := #[.int .u64 ji13,.int .u64 0]) ?_ 1 _ rfl;refine z2_ ?_;refine blk_put (cs := #[.int .u64 0,.int .u64 0]) ?_ 0 _ rfl;refine z2_ ?_;exact BK208.out) Try.underlying54 rfl (by kernel_rfl)) rfl ?_
    exact ⟨by first | rfl | (simp [errW_none, errW_some] <;> rfl) | (simp only [← hji13, ← hji15, ← hji16, ← hji18];first | rfl | (simp [errW_none, errW_some] <;> rfl)) | (simp [*, errW_none, errW_some] <;> rfl), z3_ HB.out⟩
   ·rw [if_neg c17] at H
    exact absurd H (by simp)
  ·rw [if_neg c12] at H
   exact absurd H (by simp)
end Go.Proofs.Ytebhpipfkomhjaa.PAll
namespace Go.Proofs.Ytebhpipfkomhjaa.PAll
open Go.RowKit Go.Proofs.YtebhpipfkomhjaaW.PrintWords Go.Proofs.YtebhpipfkomhjaaW.PrintLast Go.Proofs.YtebhpipfkomhjaaW.PrintMore
attribute [local go_sem] max2_int min2_int max_two min_two max_three min_three max_four min_four
set_option linter.unusedVariables false
set_option linter.unusedSimpArgs false
attribute [local go_sem high] eqA54
def twin_Shr.f (a0_0 : Int) (a0_1 : Int) (a1 : Int) : Option (Int × Int × Bool × Option Int) := if a1 < 0 then (some (0, 0, false,some 1)) else ((twin_shr.f a0_0 a0_1 (mn a1 128)).bind fun bt211 => ((twin_shl.f bt211.1 bt211.2 (mn a1 128)).bind fun bt214 => (some (bt211.1, bt211.2, (!(bt214.1 == a0_0) || (!(bt214.2 == a0_1))), none))))
def twin_Shr.T5 : Bool × List (List Nat × List Nat) := (true,[([], []), ([], []), ([], []), ([1, 2], [1, 2]), ([], []), ([3, 4], [3, 4]), ([0, 3, 0], [0]), ([5, 6, 0, 1, 2, 3, 4, 5, 6], [5]), ([7, 0, 1, 2, 3, 4, 5, 6, 7], [])])
def twin_Shr.B5 : List Nat := [0, 0, 0, 6, 0, 30, 15, 127, 255]
theorem twin_Shr.tab5 : rtab .any (opsOf Try.f81 5) = twin_Shr.T5 := by kernel_rfl
theorem twin_Shr.bits5 : waitsOk twin_Shr.T5.2 twin_Shr.B5 = true := by kernel_rfl
set_option maxHeartbeats 8000000 in
set_option maxRecDepth 100000 in
theorem twin_Shr.calls (a0_0 : Int) (a0_1 : Int) (a1 : Int) (r1 : Int) (r2 : Int) (r3 : Bool) (r4 : Option Int) (w : World) (h : twin_Shr.f a0_0 a0_1 a1 = some (r1, r2, r3, r4)) :
  Calls Try.prog 81 #[.agg #[.int .u64 a0_0,.int .u64 a0_1],.int .i64 a1] w fun e w' => e = .returned (.tuple #[.agg #[.int .u64 r1,.int .u64 r2],.bool r3, errW r4]) ∧ Below w.heap.size w w' := by
 have hu54 := Try.underlying54
 have hu29 := Try.underlying29
 have hu42 := Try.underlying42
 have HB := am_ (Below.refl w.heap.size w)
 have H : (if a1 < 0 then (some (0, 0, false,some 1)) else ((twin_shr.f a0_0 a0_1 (mn a1 128)).bind fun bt211 => ((twin_shl.f bt211.1 bt211.2 (mn a1 128)).bind fun bt214 => (some (bt211.1, bt211.2, (!(bt214.1 == a0_0) || (!(bt214.2 == a0_1))), none))))) = some (r1, r2, r3, r4) := h
 clear h
 by_cases c3 : a1 < 0
 ·rw [if_pos c3] at H
  have c3b0 : decide (a1 < 0) = true := decide_eq_true c3
  clear c3
  simp only [Option.some.injEq, Prod.mk.injEq] at H
  obtain ⟨rfl, rfl, rfl, rfl⟩ := H
  go_enter Try.func81, Try.ntmps81
  go_wp2_with (first | ((with_reducible refine gate_dst (N := 2) rfl ?_);refine box_event ?hg (N := 2) ?hd (cs := #[.int .u64 a0_0,.int .u64 a0_1]) (t := 54) ?hr ?_;(case hd => rfl);(case hg => rfl);(case hr => first | (go_simp;done) | (go_simp;rfl));intro gb209 hg w4 hbox hb;have n0_ := am_ (below_step (z3_ HB.out) hb);have n1_ := am_ (hbox);have n2_ := am_ ((by rw [hg];exact (below_size (z3_ HB.out)) : w.heap.size ≤ gb209));have n3_ := am_ ((by rw [hg];exact (below_size (z3_ HB.out)) : w.heap.size ≤ gb209));clear HB;have HB := n0_;have BK209 := n1_;have GW209 := n2_;have GE209 := n3_;clear n0_ n1_ n2_ n3_;clear hb hbox hg) | ((with_reducible refine gate_dst (N := 4) rfl ?_);refine box_event ?hg (N := 4) ?hd (cs := #[.int .u64 0,.int .u64 0]) (t := 54) ?hr ?_;(case hd => rfl);(case hg => rfl);(case hr => first | (go_simp;done) | (go_simp;rfl));intro gb210 hg w5 hbox hb;have n0_ := am_ (blk_below (g := gb209) (z1_ BK209.out) hb);have n1_ := am_ (below_step (z3_ HB.out) hb);have n2_ := am_ (hbox);have n3_ := am_ ((by rw [hg];exact (below_size (z3_ HB.out)) : w.heap.size ≤ gb210));have n4_ := am_ ((by rw [hg];exact (below_size (z3_ HB.out)) : w.heap.size ≤ gb210));have n5_ := am_ ((by rw [hg];exact Nat.ne_of_lt (blk_lt (g := gb209) (o := .cells #[.int .u64 a0_0,.int .u64 a0_1] 54 (0, 0)) (z1_ BK209.out)) : gb209 ≠ gb210));have n6_ := am_ ((by rw [hg];exact Nat.ne_of_gt (blk_lt (g := gb209) (o := .cells #[.int .u64 a0_0,.int .u64 a0_1] 54 (0, 0)) (z1_ BK209.out)) : gb210 ≠ gb209));clear BK209;clear HB;have BK209 := n0_;have HB := n1_;have BK210 := n2_;have GW210 := n3_;have GE210 := n4_;have NB209_210 := n5_;have NB210_209 := n6_;clear n0_ n1_ n2_ n3_ n4_ n5_ n6_;clear hb hbox hg;have hnb6 := NB210_209.out;have hnc6 := NB209_210.out;obtain ⟨hcz7_0, hcz7_1, hfz7_0⟩ := zc2_ BK210.out))
  refine bodyPost_ret (results_ctt rfl _ _ gb210 54 #[.int .u64 0,.int .u64 0] (0, 0) _ rfl (by refine z2_ ?_;refine blk_put (cs := #[.int .u64 0,.int .u64 0]) ?_ 1 _ rfl;refine z2_ ?_;refine blk_put (cs := #[.int .u64 0,.int .u64 0]) ?_ 0 _ rfl;refine z2_ ?_;exact BK210.out) Try.underlying54 rfl (by kernel_rfl)) rfl ?_
  exact ⟨z6_, z3_ HB.out⟩
 ·rw [if_neg c3] at H
  have c3b0 : decide (a1 < 0) = false := decide_eq_false c3
  clear c3
  obtain ⟨ji8, hji8⟩ : ∃ j_ : Int, (mn a1 128) = j_ := ⟨_, rfl⟩
  replace H : ((twin_shr.f a0_0 a0_1 (ji8)).bind fun bt211 => ((twin_shl.f bt211.1 bt211.2 (ji8)).bind fun bt214 => (some (bt211.1, bt211.2, (!(bt214.1 == a0_0) || (!(bt214.2 == a0_1))), none)))) = some (r1, r2, r3, r4) := by first | (rw [hji8] at H;exact H) | (simp only [hji8] at H ⊢;exact H)
  (try (have hji8h : ji8 ≤ 128 := by (rw [← hji8];unfold mn;(repeat' split) <;> omega)))
  (try (have hji8g : ji8 ≤ 64 := by omega))
  have hji8_ : (if 128 < a1 then 128 else a1) = ji8 := hji8
  replace H := Option.bind_eq_some_iff.mp H
  obtain ⟨⟨t211, t212⟩, A90, H⟩ := H
  replace H : ((twin_shl.f t211 t212 (ji8)).bind fun bt214 => (some (t211, t212, (!(bt214.1 == a0_0) || (!(bt214.2 == a0_1))), none))) = some (r1, r2, r3, r4) := H
  have A9 := am_ A90
  clear A90
  replace H := Option.bind_eq_some_iff.mp H
  obtain ⟨⟨t214, t215⟩, A100, H⟩ := H
  replace H : (some (t211, t212, (!(t214 == a0_0) || (!(t215 == a0_1))), none)) = some (r1, r2, r3, r4) := H
  have A10 := am_ A100
  clear A100
  simp only [Option.some.injEq, Prod.mk.injEq] at H
  obtain ⟨rfl, rfl, rfl, rfl⟩ := H
  go_enter Try.func81, Try.ntmps81
  try go_wp2_with (first | ((with_reducible refine gate_dst (N := 2) rfl ?_);refine box_event ?hg (N := 2) ?hd (cs := #[.int .u64 a0_0,.int .u64 a0_1]) (t := 54) ?hr ?_;(case hd => rfl);(case hg => rfl);(case hr => first | (go_simp;done) | (go_simp;rfl));intro gb209 hg w11 hbox hb;have n0_ := am_ (below_step (z3_ HB.out) hb);have n1_ := am_ (hbox);have n2_ := am_ ((by rw [hg];exact (below_size (z3_ HB.out)) : w.heap.size ≤ gb209));have n3_ := am_ ((by rw [hg];exact (below_size (z3_ HB.out)) : w.heap.size ≤ gb209));clear HB;have HB := n0_;have BK209 := n1_;have GW209 := n2_;have GE209 := n3_;clear n0_ n1_ n2_ n3_;clear hb hbox hg) | ((with_reducible refine gate_dst (N := 4) rfl ?_);refine box_event ?hg (N := 4) ?hd (cs := #[.int .u64 0,.int .u64 0]) (t := 54) ?hr ?_;(case hd => rfl);(case hg => rfl);(case hr => first | (go_simp;done) | (go_simp;rfl));intro gb210 hg w12 hbox hb;have n0_ := am_ (blk_below (g := gb209) (z1_ BK209.out) hb);have n1_ := am_ (below_step (z3_ HB.out) hb);have n2_ := am_ (hbox);have n3_ := am_ ((by rw [hg];exact (below_size (z3_ HB.out)) : w.heap.size ≤ gb210));have n4_ := am_ ((by rw [hg];exact (below_size (z3_ HB.out)) : w.heap.size ≤ gb210));have n5_ := am_ ((by rw [hg];exact Nat.ne_of_lt (blk_lt (g := gb209) (o := .cells #[.int .u64 a0_0,.int .u64 a0_1] 54 (0, 0)) (z1_ BK209.out)) : gb209 ≠ gb210));have n6_ := am_ ((by rw [hg];exact Nat.ne_of_gt (blk_lt (g := gb209) (o := .cells #[.int .u64 a0_0,.int .u64 a0_1] 54 (0, 0)) (z1_ BK209.out)) : gb210 ≠ gb209));clear BK209;clear HB;have BK209 := n0_;have HB := n1_;have BK210 := n2_;have GW210 := n3_;have GE210 := n4_;have NB209_210 := n5_;have NB210_209 := n6_;clear n0_ n1_ n2_ n3_ n4_ n5_ n6_;clear hb hbox hg;have hnb13 := NB209_210.out;have hnc13 := NB210_209.out;obtain ⟨hcz14_0, hcz14_1, hfz14_0⟩ := zc2_ BK209.out) | ((with_reducible refine gate_callee (f := 84) rfl ?_);refine goesL_ (some 16) rfl rfl Try.func84 (by kernel_rfl) rfl #[.agg #[.int .u64 a0_0,.int .u64 a0_1],.int .i64 ji8] rfl (by (try simp only [List.map_toArray, List.map_cons, List.map_nil]);first | done | (simp only [hji8];rfl) | rfl | (simp only [List.length_drop, List.length_take];rfl)) ?_;(with_reducible refine (twin_shr.calls a0_0 a0_1 ji8 t211 t212 _ A9.out).mono ?_);rintro e w15 ⟨rfl, hb⟩;refine ⟨_, rfl, ?_⟩;have n0_ := am_ (blk_below (g := gb209) (z1_ BK209.out) hb);have n1_ := am_ (blk_below (g := gb210) (z1_ BK210.out) hb);have n2_ := am_ (below_step (z3_ HB.out) hb);clear BK209;clear BK210;clear HB;have BK209 := n0_;have BK210 := n1_;have HB := n2_;clear n0_ n1_ n2_;(try clear hb)) | ((with_reducible refine gate_dst (N := 7) rfl ?_);refine box_event ?hg (N := 7) ?hd (cs := #[.int .u64 0,.int .u64 0]) (t := 54) ?hr ?_;(case hd => rfl);(case hg => rfl);(case hr => first | (go_simp;done) | (go_simp;rfl));intro gb213 hg w16 hbox hb;have n0_ := am_ (blk_below (g := gb209) (z1_ BK209.out) hb);have n1_ := am_ (blk_below (g := gb210) (z1_ BK210.out) hb);have n2_ := am_ (below_step (z3_ HB.out) hb);have n3_ := am_ (hbox);have n4_ := am_ ((by rw [hg];exact (below_size (z3_ HB.out)) : w.heap.size ≤ gb213));have n5_ := am_ ((by rw [hg];exact (below_size (z3_ HB.out)) : w.heap.size ≤ gb213));have n6_ := am_ ((by rw [hg];exact Nat.ne_of_lt (blk_lt (g := gb209) (o := .cells #[.int .u64 a0_0,.int .u64 a0_1] 54 (0, 0)) (z1_ BK209.out)) : gb209 ≠ gb213));have n7_ := am_ ((by rw [hg];exact Nat.ne_of_gt (blk_lt (g := gb209) (o := .cells #[.int .u64 a0_0,.int .u64 a0_1] 54 (0, 0)) (z1_ BK209.out)) : gb213 ≠ gb209));have n8_ := am_ ((by rw [hg];exact Nat.ne_of_lt (blk_lt (g := gb210) (o := .cells #[.int .u64 0,.int .u64 0] 54 (0, 0)) (z1_ BK210.out)) : gb210 ≠ gb213));have n9_ := am_ ((by rw [hg];exact Nat.ne_of_gt (blk_lt (g := gb210) (o := .cells #[.int .u64 0,.int .u64 0] 54 (0, 0)) (z1_ BK210.out)) : gb213 ≠ gb210));clear BK209;clear BK210;clear HB;have BK209 := n0_;have BK210 := n1_;have HB := n2_;have BK213 := n3_;have GW213 := n4_;have GE213 := n5_;have NB209_213 := n6_;have NB213_209 := n7_;have NB210_213 := n8_;have NB213_210 := n9_;clear n0_ n1_ n2_ n3_ n4_ n5_ n6_ n7_ n8_ n9_;clear hb hbox hg;have hnb17 := NB213_209.out;have hnc17 := NB209_213.out;have hnb18 := NB213_210.out;have hnc18 := NB210_213.out;obtain ⟨hcz19_0, hcz19_1, hfz19_0⟩ := zc2_ BK213.out))
  have n0_ : Aside0 (((w16.setCell ⟨gb213, 0, none⟩ (.int .u64 t211)).setCell ⟨gb213, 1, none⟩ (.int .u64 t212)).heap[gb209]? = some (.cells #[.int .u64 a0_0,.int .u64 a0_1] 54 (0, 0))) := ⟨by refine z2_ ?_;refine blk_far ?_ NB209_213.out _;refine z2_ ?_;refine blk_far ?_ NB209_213.out _;refine z2_ ?_;exact BK209.out⟩
  have n1_ : Aside0 (((w16.setCell ⟨gb213, 0, none⟩ (.int .u64 t211)).setCell ⟨gb213, 1, none⟩ (.int .u64 t212)).heap[gb210]? = some (.cells #[.int .u64 0,.int .u64 0] 54 (0, 0))) := ⟨by refine z2_ ?_;refine blk_far ?_ NB210_213.out _;refine z2_ ?_;refine blk_far ?_ NB210_213.out _;refine z2_ ?_;exact BK210.out⟩
  have n2_ : Aside0 (((w16.setCell ⟨gb213, 0, none⟩ (.int .u64 t211)).setCell ⟨gb213, 1, none⟩ (.int .u64 t212)).heap[gb213]? = some (.cells #[.int .u64 t211,.int .u64 t212] 54 (0, 0))) := ⟨by refine z2_ ?_;refine blk_put (cs := #[.int .u64 t211,.int .u64 0]) ?_ 1 _ rfl;refine z2_ ?_;refine blk_put (cs := #[.int .u64 0,.int .u64 0]) ?_ 0 _ rfl;refine z2_ ?_;exact BK213.out⟩
  have n3_ : Aside0 (Below w.heap.size w ((w16.setCell ⟨gb213, 0, none⟩ (.int .u64 t211)).setCell ⟨gb213, 1, none⟩ (.int .u64 t212))) := ⟨z3_ HB.out⟩
  (try clear BK209)
  (try clear BK210)
  (try clear BK213)
  (try clear HB)
  generalize ((w16.setCell ⟨gb213, 0, none⟩ (.int .u64 t211)).setCell ⟨gb213, 1, none⟩ (.int .u64 t212)) = w20 at n0_ n1_ n2_ n3_ ⊢
  have BK209 := n0_
  have BK210 := n1_
  have BK213 := n2_
  have HB := n3_
  clear n0_ n1_ n2_ n3_
  have n0_ := am_ (blk_drew BK209.out)
  have n1_ := am_ (blk_drew BK210.out)
  have n2_ := am_ (blk_drew BK213.out)
  have n3_ := am_ (below_drew1 HB.out)
  clear BK209
  clear BK210
  clear BK213
  clear HB
  have BK209 := n0_
  have BK210 := n1_
  have BK213 := n2_
  have HB := n3_
  clear n0_ n1_ n2_ n3_
  refine start_ (n := 9) (S := fun w' => w'.cell? ⟨gb213, 0, none⟩ = some (.int .u64 t211) ∧ w'.cell? ⟨gb213, 1, none⟩ = some (.int .u64 t212) ∧ w'.cell? ⟨gb209, 0, none⟩ = some (.int .u64 a0_0) ∧ w'.cell? ⟨gb209, 1, none⟩ = some (.int .u64 a0_1)) (ds := []) #[false,false,false,false,false,false,false,false,false] (by kernel_rfl) rfl rfl ⟨(blk_cell BK213.out 0).trans rfl, (blk_cell BK213.out 1).trans rfl, (blk_cell BK209.out 0).trans rfl, (blk_cell BK209.out 1).trans rfl⟩ (fun hHeld => ?_);refine with_tabW twin_Shr.tab5 twin_Shr.bits5 (fun HT_ HW_ => ?_)
  generalize w20.drew = w21 at BK209 BK210 BK213 HB hHeld ⊢
  refine pure_ (i := 2) (N := some 19) (v := ?_) (a' := ?_) #[false,false,true,false,false,false,false,false,false] rfl rfl (any_of HT_.out (by kernel_rfl)) (fun _ _ _ h => h) (Or.inl ⟨by rfl, ?_⟩) ?_ ?_
  rotate_left
  ·intro w'
   go_simp
   with_reducible rfl
  rotate_left
  ·simp only [Act.put, List.setIfInBounds_toArray, List.set_cons_zero, List.set_cons_succ, i64_w, i32_w]
   rfl
  refine take_ (i := 0) (N := some 17) (v := ?_) (a' := ?_) #[true,false,true,false,false,false,false,false,false] rfl rfl (take_ofW HT_.out HW_.out (by kernel_rfl)) (fun _ _ _ h => h) (Or.inl ⟨by rfl, ?_⟩) hHeld ?_ ?_
  rotate_left
  ·rintro w' ⟨s0, s1, s2, s3⟩
   go_simp
   with_reducible rfl
  rotate_left
  ·simp only [Act.put, List.setIfInBounds_toArray, List.set_cons_zero, List.set_cons_succ, i64_w, i32_w]
   rfl
  refine take_ (i := 1) (N := some 18) (v := ?_) (a' := ?_) #[true,true,true,false,false,false,false,false,false] rfl rfl (take_ofW HT_.out HW_.out (by kernel_rfl)) (fun _ _ _ h => h) (Or.inl ⟨by rfl, ?_⟩) hHeld ?_ ?_
  rotate_left
  ·rintro w' ⟨s0, s1, s2, s3⟩
   go_simp
   with_reducible rfl
  rotate_left
  ·simp only [Act.put, List.setIfInBounds_toArray, List.set_cons_zero, List.set_cons_succ, i64_w, i32_w]
   rfl
  refine take_ (i := 4) (N := some 21) (v := ?_) (a' := ?_) #[true,true,true,false,true,false,false,false,false] rfl rfl (take_ofW HT_.out HW_.out (by kernel_rfl)) (fun _ _ _ h => h) (Or.inl ⟨by rfl, ?_⟩) hHeld ?_ ?_
  rotate_left
  ·rintro w' ⟨s0, s1, s2, s3⟩
   go_simp
   with_reducible rfl
  rotate_left
  ·simp only [Act.put, List.setIfInBounds_toArray, List.set_cons_zero, List.set_cons_succ, i64_w, i32_w]
   rfl
  refine one_ (i := 3) (N := some 20) #[true,true,true,true,true,false,false,false,false] rfl rfl (one_of HT_.out (by kernel_rfl)) (by decide) (fun K hK => ?_)
  refine goes_ Try.func60 (by kernel_rfl) rfl #[.agg #[.int .u64 t211,.int .u64 t212],.int .i64 ji8] (by rfl) rfl rfl (by (try simp only [List.map_toArray, List.map_cons, List.map_nil]);first | done | (simp only [hji8];rfl) | rfl | (simp only [List.length_drop, List.length_take];rfl)) ?_
  with_reducible refine (twin_shl.calls t211 t212 ji8 t214 t215 _ A10.out).mono ?_
  rintro e w22 ⟨rfl, hb⟩
  refine ⟨_, rfl, ?_⟩
  have n0_ := am_ (blk_below (g := gb209) (z1_ BK209.out) hb)
  have n1_ := am_ (blk_below (g := gb210) (z1_ BK210.out) hb)
  have n2_ := am_ (blk_below (g := gb213) (z1_ BK213.out) hb)
  have n3_ := am_ (below_step (z3_ HB.out) hb)
  clear BK209
  clear BK210
  clear BK213
  clear HB
  have BK209 := n0_
  have BK210 := n1_
  have BK213 := n2_
  have HB := n3_
  clear n0_ n1_ n2_ n3_
  (try clear hb)
  (try clear hb2)
  (try clear hk)
  (try clear hi)
  refine hK.out _ _ ⟨(blk_cell BK213.out 0).trans rfl, (blk_cell BK213.out 1).trans rfl, (blk_cell BK209.out 0).trans rfl, (blk_cell BK209.out 1).trans rfl⟩ (fun hHeld => ?_)
  clear hK K
  refine norm_ (a' := ?_) ?_ ?_
  rotate_left
  ·show Act.put _ (some 20) _ = _
   simp only [Act.put, List.setIfInBounds_toArray, List.set_cons_zero, List.set_cons_succ, i64_w, i32_w]
   rfl
  refine pure_ (i := 5) (N := some 22) (v := ?_) (a' := ?_) #[true,true,true,true,true,true,false,false,false] rfl rfl (any_of HT_.out (by kernel_rfl)) (fun _ _ _ h => h) (Or.inl ⟨by rfl, ?_⟩) ?_ ?_
  rotate_left
  ·intro w'
   go_simp
   with_reducible rfl
  rotate_left
  ·simp only [Act.put, List.setIfInBounds_toArray, List.set_cons_zero, List.set_cons_succ, i64_w, i32_w]
   rfl
  refine one_ (i := 6) (N := none) #[true,true,true,true,true,true,true,false,false] rfl rfl (one_of HT_.out (by kernel_rfl)) (by decide) (fun K hK => ?_)
  have hs23 : w22.cell? ⟨gb210, 0, none⟩ = some (.int .u64 0) := (blk_cell BK210.out 0).trans rfl
  have hfs23 := blk_frozen BK210.out 0
  have hns23_0 := NB209_210.out
  have hns23_2 := NB213_210.out
  have hms23_0 := NB210_209.out
  have hms23_2 := NB210_213.out
  have hs24 : w22.cell? ⟨gb210, 1, none⟩ = some (.int .u64 0) := (blk_cell BK210.out 1).trans rfl
  have hfs24 := blk_frozen BK210.out 1
  have hns24_0 := NB209_210.out
  have hns24_2 := NB213_210.out
  have hms24_0 := NB210_209.out
  have hms24_2 := NB210_213.out
  refine skip_ (w1 := ?_) (by rfl) rfl ?_ ?_
  rotate_left
  ·go_simp
   rfl
  refine hK.out _ _ ⟨((cell_far (p := ⟨gb210, _, none⟩) NB213_210.out _).trans (((cell_far (p := ⟨gb210, _, none⟩) NB213_210.out _).trans (hHeld.1)))), ((cell_far (p := ⟨gb210, _, none⟩) NB213_210.out _).trans (((cell_far (p := ⟨gb210, _, none⟩) NB213_210.out _).trans (hHeld.2.1)))), ((cell_far (p := ⟨gb210, _, none⟩) NB209_210.out _).trans (((cell_far (p := ⟨gb210, _, none⟩) NB209_210.out _).trans (hHeld.2.2.1)))), ((cell_far (p := ⟨gb210, _, none⟩) NB209_210.out _).trans (((cell_far (p := ⟨gb210, _, none⟩) NB209_210.out _).trans (hHeld.2.2.2))))⟩ (fun hHeld => ?_)
  clear hK K
  refine pure_ (i := 7) (N := some 5) (v := ?_) (a' := ?_) #[true,true,true,true,true,true,true,true,false] rfl rfl (any_of HT_.out (by kernel_rfl)) (fun _ _ _ h => h) (Or.inl ⟨by rfl, ?_⟩) ?_ ?_
  rotate_left
  ·intro w'
   go_simp
   with_reducible rfl
  rotate_left
  ·simp only [Act.put, List.setIfInBounds_toArray, List.set_cons_zero, List.set_cons_succ, i64_w, i32_w]
   rfl
  refine pure_ (i := 8) (N := some 6) (v := ?_) (a' := ?_) #[true,true,true,true,true,true,true,true,true] rfl rfl (any_of HT_.out (by kernel_rfl)) (fun _ _ _ h => h) (Or.inl ⟨by rfl, ?_⟩) ?_ ?_
  rotate_left
  ·intro w'
   go_simp
   with_reducible rfl
  rotate_left
  ·simp only [Act.put, List.setIfInBounds_toArray, List.set_cons_zero, List.set_cons_succ, i64_w, i32_w]
   rfl
  refine done_ (done_of HT_.out (by kernel_rfl)) ?_
  try go_wp2
  refine bodyPost_ret (results_ctt rfl _ _ gb210 54 #[.int .u64 t211,.int .u64 t212] (0, 0) _ rfl (by refine z2_ ?_;refine blk_put (cs := #[.int .u64 t211,.int .u64 0]) ?_ 1 _ rfl;refine z2_ ?_;refine blk_put (cs := #[.int .u64 0,.int .u64 0]) ?_ 0 _ rfl;refine z2_ ?_;exact BK210.out) Try.underlying54 rfl (by kernel_rfl)) rfl ?_
  exact ⟨by first | rfl | (simp [errW_none, errW_some] <;> rfl) | (simp only [← hji8];first | rfl | (simp [errW_none, errW_some] <;> rfl)) | (simp [*, errW_none, errW_some] <;> rfl), z3_ HB.out⟩
end Go.Proofs.Ytebhpipfkomhjaa.PAll
namespace Go.Proofs.Ytebhpipfkomhjaa.PAll
open Go.RowKit Go.Proofs.YtebhpipfkomhjaaW.PrintWords Go.Proofs.YtebhpipfkomhjaaW.PrintLast Go.Proofs.YtebhpipfkomhjaaW.PrintMore
attribute [local go_sem] max2_int min2_int max_two min_two max_three min_three max_four min_four
set_option linter.unusedVariables false
set_option linter.unusedSimpArgs false
def round_under.f (a0_0 : Int) (a0_1 : Int) (a1 : Int) (a2 : Int) (a3 : Bool) : Option (Int × Int × Bool) := (twin_Shr.f a0_0 a0_1 a2).bind fun bt218 => (if 0 ≤ (wrap64 (64 - a2)) then (if a3 = true then (some (Go.bits .or .u64 bt218.1 (shl .u64 a1 (wrap64 (64 - a2))), bt218.2.1, true)) else (some (Go.bits .or .u64 bt218.1 (shl .u64 a1 (wrap64 (64 - a2))), bt218.2.1, bt218.2.2.1))) else (none))
def round_under.T2 : Bool × List (List Nat × List Nat) := (true,[([], []), ([0], [0]), ([], []), ([], []), ([3], [3]), ([2, 4], [2, 4]), ([1, 5], [1, 5]), ([0, 1, 2, 3, 4, 5, 6], []), ([7, 6, 0, 1, 2, 3, 4, 5, 6], [6, 7])])
def round_under.B2 : List Nat := [0, 1, 0, 0, 8, 28, 63, 127, 255]
theorem round_under.tab2 : rtab .any (opsOf Try.f68 2) = round_under.T2 := by kernel_rfl
theorem round_under.bits2 : waitsOk round_under.T2.2 round_under.B2 = true := by kernel_rfl
set_option maxHeartbeats 8000000 in
set_option maxRecDepth 100000 in
theorem round_under.calls (a0_0 : Int) (a0_1 : Int) (a1 : Int) (a2 : Int) (a3 : Bool) (r1 : Int) (r2 : Int) (r3 : Bool) (w : World) (h : round_under.f a0_0 a0_1 a1 a2 a3 = some (r1, r2, r3)) :
  Calls Try.prog 68 #[.agg #[.int .u64 a0_0,.int .u64 a0_1],.int .u64 a1,.int .i64 a2,.bool a3] w fun e w' => e = .returned (.tuple #[.agg #[.int .u64 r1,.int .u64 r2],.bool r3]) ∧ Below w.heap.size w w' := by
 have hu54 := Try.underlying54
 have HB := am_ (Below.refl w.heap.size w)
 have H : ((twin_Shr.f a0_0 a0_1 a2).bind fun bt218 => (if 0 ≤ (wrap64 (64 - a2)) then (if a3 = true then (some (Go.bits .or .u64 bt218.1 (shl .u64 a1 (wrap64 (64 - a2))), bt218.2.1, true)) else (some (Go.bits .or .u64 bt218.1 (shl .u64 a1 (wrap64 (64 - a2))), bt218.2.1, bt218.2.2.1))) else (none))) = some (r1, r2, r3) := h
 clear h
 replace H := Option.bind_eq_some_iff.mp H
 obtain ⟨⟨t218, t219, t220, t221⟩, A50, H⟩ := H
 replace H : (if 0 ≤ (wrap64 (64 - a2)) then (if a3 = true then (some (Go.bits .or .u64 t218 (shl .u64 a1 (wrap64 (64 - a2))), t219, true)) else (some (Go.bits .or .u64 t218 (shl .u64 a1 (wrap64 (64 - a2))), t219, t220))) else (none)) = some (r1, r2, r3) := H
 have A5 := am_ A50
 clear A50
 obtain ⟨ji6, hji6⟩ : ∃ j_ : Int, (wrap64 (64 - a2)) = j_ := ⟨_, rfl⟩
 replace H : (if 0 ≤ (ji6) then (if a3 = true then (some (Go.bits .or .u64 t218 (shl .u64 a1 (ji6)), t219, true)) else (some (Go.bits .or .u64 t218 (shl .u64 a1 (ji6)), t219, t220))) else (none)) = some (r1, r2, r3) := by first | (rw [hji6] at H;exact H) | (simp only [hji6] at H ⊢;exact H)
 (try rw [hji6] at A5)
 have hji6w : (IntKind.i64.wrap (64 - a2)) = ji6 := (i64_w _).trans hji6
 by_cases c7 : 0 ≤ (ji6)
 ·rw [if_pos c7] at H
  have c7b0 := eq_true c7
  have c7b1 : decide (0 ≤ (ji6)) = true := decide_eq_true c7
  clear c7
  obtain ⟨ji8, hji8⟩ : ∃ j_ : Int, (shl .u64 a1 (ji6)) = j_ := ⟨_, rfl⟩
  replace H : (if a3 = true then (some (Go.bits .or .u64 t218 (ji8), t219, true)) else (some (Go.bits .or .u64 t218 (ji8), t219, t220))) = some (r1, r2, r3) := by first | (rw [hji8] at H;exact H) | (simp only [hji8] at H ⊢;exact H)
  (try rw [hji8] at A5)
  have hji8_ : (IntKind.u64.wrap (a1 * 2 ^ min (ji6).toNat 64)) = ji8 := hji8
  have hji8z : (ji6) ≤ 64 → (IntKind.u64.wrap (a1 * 2 ^ (ji6).toNat)) = ji8 := shl_small hji8
  (try (have hji8Z_ := hji8z (by omega)))
  by_cases c9 : a3 = true
  ·subst c9
   have H1 : (some (Go.bits .or .u64 t218 (ji8), t219, true)) = some (r1, r2, r3) := by rw [if_pos rfl] at H;exact H
   clear H
   have H := H1
   clear H1
   simp only [Option.some.injEq, Prod.mk.injEq] at H
   obtain ⟨rfl, rfl, rfl⟩ := H
   go_enter Try.func68, Try.ntmps68
   try go_wp2_with (first | ((with_reducible refine gate_dst (N := 4) rfl ?_);refine box_event ?hg (N := 4) ?hd (cs := #[.int .u64 a0_0,.int .u64 a0_1]) (t := 54) ?hr ?_;(case hd => rfl);(case hg => rfl);(case hr => first | (go_simp;done) | (go_simp;rfl));intro gb216 hg w10 hbox hb;have n0_ := am_ (below_step (z3_ HB.out) hb);have n1_ := am_ (hbox);have n2_ := am_ ((by rw [hg];exact (below_size (z3_ HB.out)) : w.heap.size ≤ gb216));have n3_ := am_ ((by rw [hg];exact (below_size (z3_ HB.out)) : w.heap.size ≤ gb216));clear HB;have HB := n0_;have BK216 := n1_;have GW216 := n2_;have GE216 := n3_;clear n0_ n1_ n2_ n3_;clear hb hbox hg) | ((with_reducible refine gate_dst (N := 8) rfl ?_);refine box_event ?hg (N := 8) ?hd (cs := #[.int .u64 0,.int .u64 0]) (t := 54) ?hr ?_;(case hd => rfl);(case hg => rfl);(case hr => first | (go_simp;done) | (go_simp;rfl));intro gb217 hg w11 hbox hb;have n0_ := am_ (blk_below (g := gb216) (z1_ BK216.out) hb);have n1_ := am_ (below_step (z3_ HB.out) hb);have n2_ := am_ (hbox);have n3_ := am_ ((by rw [hg];exact (below_size (z3_ HB.out)) : w.heap.size ≤ gb217));have n4_ := am_ ((by rw [hg];exact (below_size (z3_ HB.out)) : w.heap.size ≤ gb217));have n5_ := am_ ((by rw [hg];exact Nat.ne_of_lt (blk_lt (g := gb216) (o := .cells #[.int .u64 a0_0,.int .u64 a0_1] 54 (0, 0)) (z1_ BK216.out)) : gb216 ≠ gb217));have n6_ := am_ ((by rw [hg];exact Nat.ne_of_gt (blk_lt (g := gb216) (o := .cells #[.int .u64 a0_0,.int .u64 a0_1] 54 (0, 0)) (z1_ BK216.out)) : gb217 ≠ gb216));clear BK216;clear HB;have BK216 := n0_;have HB := n1_;have BK217 := n2_;have GW217 := n3_;have GE217 := n4_;have NB216_217 := n5_;have NB217_216 := n6_;clear n0_ n1_ n2_ n3_ n4_ n5_ n6_;clear hb hbox hg;have hnb12 := NB216_217.out;have hnc12 := NB217_216.out;obtain ⟨hcz13_0, hcz13_1, hfz13_0⟩ := zc2_ BK216.out) | ((with_reducible refine gate_callee (f := 81) rfl ?_);refine goesL_ (some 16) rfl rfl Try.func81 (by kernel_rfl) rfl #[.agg #[.int .u64 a0_0,.int .u64 a0_1],.int .i64 a2] rfl z5_ ?_;(with_reducible refine (twin_Shr.calls a0_0 a0_1 a2 t218 t219 t220 t221 _ A5.out).mono ?_);rintro e w14 ⟨rfl, hb⟩;refine ⟨_, rfl, ?_⟩;have n0_ := am_ (blk_below (g := gb216) (z1_ BK216.out) hb);have n1_ := am_ (blk_below (g := gb217) (z1_ BK217.out) hb);have n2_ := am_ (below_step (z3_ HB.out) hb);clear BK216;clear BK217;clear HB;have BK216 := n0_;have BK217 := n1_;have HB := n2_;clear n0_ n1_ n2_;(try clear hb);(try simp only [errW_none, errW_some])) | ((with_reducible refine gate_dst (N := 10) rfl ?_);refine box_event ?hg (N := 10) ?hd (cs := #[.int .u64 0,.int .u64 0]) (t := 54) ?hr ?_;(case hd => rfl);(case hg => rfl);(case hr => first | (go_simp;done) | (go_simp;rfl));intro gb222 hg w15 hbox hb;have n0_ := am_ (blk_below (g := gb216) (z1_ BK216.out) hb);have n1_ := am_ (blk_below (g := gb217) (z1_ BK217.out) hb);have n2_ := am_ (below_step (z3_ HB.out) hb);have n3_ := am_ (hbox);have n4_ := am_ ((by rw [hg];exact (below_size (z3_ HB.out)) : w.heap.size ≤ gb222));have n5_ := am_ ((by rw [hg];exact (below_size (z3_ HB.out)) : w.heap.size ≤ gb222));have n6_ := am_ ((by rw [hg];exact Nat.ne_of_lt (blk_lt (g := gb216) (o := .cells #[.int .u64 a0_0,.int .u64 a0_1] 54 (0, 0)) (z1_ BK216.out)) : gb216 ≠ gb222));have n7_ := am_ ((by rw [hg];exact Nat.ne_of_gt (blk_lt (g := gb216) (o := .cells #[.int .u64 a0_0,.int .u64 a0_1] 54 (0, 0)) (z1_ BK216.out)) : gb222 ≠ gb216));have n8_ := am_ ((by rw [hg];exact Nat.ne_of_lt (blk_lt (g := gb217) (o := .cells #[.int .u64 0,.int .u64 0] 54 (0, 0)) (z1_ BK217.out)) : gb217 ≠ gb222));have n9_ := am_ ((by rw [hg];exact Nat.ne_of_gt (blk_lt (g := gb217) (o := .cells #[.int .u64 0,.int .u64 0] 54 (0, 0)) (z1_ BK217.out)) : gb222 ≠ gb217));clear BK216;clear BK217;clear HB;have BK216 := n0_;have BK217 := n1_;have HB := n2_;have BK222 := n3_;have GW222 := n4_;have GE222 := n5_;have NB216_222 := n6_;have NB222_216 := n7_;have NB217_222 := n8_;have NB222_217 := n9_;clear n0_ n1_ n2_ n3_ n4_ n5_ n6_ n7_ n8_ n9_;clear hb hbox hg;have hnb16 := NB222_216.out;have hnc16 := NB216_222.out;have hnb17 := NB222_217.out;have hnc17 := NB217_222.out;obtain ⟨hcz18_0, hcz18_1, hfz18_0⟩ := zc2_ BK222.out))
   have n0_ : Aside0 (((w15.setCell ⟨gb222, 0, none⟩ (.int .u64 t218)).setCell ⟨gb222, 1, none⟩ (.int .u64 t219)).heap[gb216]? = some (.cells #[.int .u64 a0_0,.int .u64 a0_1] 54 (0, 0))) := ⟨by refine z2_ ?_;refine blk_far ?_ NB216_222.out _;refine z2_ ?_;refine blk_far ?_ NB216_222.out _;refine z2_ ?_;exact BK216.out⟩
   have n1_ : Aside0 (((w15.setCell ⟨gb222, 0, none⟩ (.int .u64 t218)).setCell ⟨gb222, 1, none⟩ (.int .u64 t219)).heap[gb217]? = some (.cells #[.int .u64 0,.int .u64 0] 54 (0, 0))) := ⟨by refine z2_ ?_;refine blk_far ?_ NB217_222.out _;refine z2_ ?_;refine blk_far ?_ NB217_222.out _;refine z2_ ?_;exact BK217.out⟩
   have n2_ : Aside0 (((w15.setCell ⟨gb222, 0, none⟩ (.int .u64 t218)).setCell ⟨gb222, 1, none⟩ (.int .u64 t219)).heap[gb222]? = some (.cells #[.int .u64 t218,.int .u64 t219] 54 (0, 0))) := ⟨by refine z2_ ?_;refine blk_put (cs := #[.int .u64 t218,.int .u64 0]) ?_ 1 _ rfl;refine z2_ ?_;refine blk_put (cs := #[.int .u64 0,.int .u64 0]) ?_ 0 _ rfl;refine z2_ ?_;exact BK222.out⟩
   have n3_ : Aside0 (Below w.heap.size w ((w15.setCell ⟨gb222, 0, none⟩ (.int .u64 t218)).setCell ⟨gb222, 1, none⟩ (.int .u64 t219))) := ⟨z3_ HB.out⟩
   (try clear BK216)
   (try clear BK217)
   (try clear BK222)
   (try clear HB)
   generalize ((w15.setCell ⟨gb222, 0, none⟩ (.int .u64 t218)).setCell ⟨gb222, 1, none⟩ (.int .u64 t219)) = w19 at n0_ n1_ n2_ n3_ ⊢
   have BK216 := n0_
   have BK217 := n1_
   have BK222 := n2_
   have HB := n3_
   clear n0_ n1_ n2_ n3_
   have n0_ := am_ (blk_drew BK216.out)
   have n1_ := am_ (blk_drew BK217.out)
   have n2_ := am_ (blk_drew BK222.out)
   have n3_ := am_ (below_drew1 HB.out)
   clear BK216
   clear BK217
   clear BK222
   clear HB
   have BK216 := n0_
   have BK217 := n1_
   have BK222 := n2_
   have HB := n3_
   clear n0_ n1_ n2_ n3_
   refine start_ (n := 9) (S := fun w' => w'.cell? ⟨gb222, 0, none⟩ = some (.int .u64 t218) ∧ w'.cell? ⟨gb222, 1, none⟩ = some (.int .u64 t219)) (ds := [8]) #[false,false,false,false,false,false,false,false,false] (by kernel_rfl) rfl rfl ⟨(blk_cell BK222.out 0).trans rfl, (blk_cell BK222.out 1).trans rfl⟩ (fun hHeld => ?_);refine with_tabW round_under.tab2 round_under.bits2 (fun HT_ HW_ => ?_)
   generalize w19.drew = w20 at BK216 BK217 BK222 HB hHeld ⊢
   refine pure_ (i := 0) (N := some 20) (v := ?_) (a' := ?_) #[true,false,false,false,false,false,false,false,false] rfl rfl (any_of HT_.out (by kernel_rfl)) (fun _ _ _ h => h) (Or.inl ⟨by rfl, ?_⟩) ?_ ?_
   rotate_left
   ·intro w'
    go_simp
    with_reducible rfl
   rotate_left
   ·simp only [Act.put, List.setIfInBounds_toArray, List.set_cons_zero, List.set_cons_succ, i64_w, i32_w]
    rfl
   refine pure_ (i := 2) (N := some 22) (v := ?_) (a' := ?_) #[true,false,true,false,false,false,false,false,false] rfl rfl (any_of HT_.out (by kernel_rfl)) (fun _ _ _ h => h) (Or.inl ⟨by rfl, ?_⟩) ?_ ?_
   rotate_left
   ·intro w'
    go_simp
    with_reducible rfl
   rotate_left
   ·simp only [Act.put, List.setIfInBounds_toArray, List.set_cons_zero, List.set_cons_succ, i64_w, i32_w]
    rfl
   refine pure_ (i := 3) (N := some 23) (v := ?_) (a' := ?_) #[true,false,true,true,false,false,false,false,false] rfl rfl (any_of HT_.out (by kernel_rfl)) (fun _ _ _ h => h) (Or.inl ⟨by rfl, ?_⟩) ?_ ?_
   rotate_left
   ·intro w'
    go_simp
    with_reducible rfl
   rotate_left
   ·simp only [Act.put, List.setIfInBounds_toArray, List.set_cons_zero, List.set_cons_succ, i64_w, i32_w]
    rfl
   refine pure_ (i := 4) (N := some 24) (v := ?_) (a' := ?_) #[true,false,true,true,true,false,false,false,false] rfl rfl (any_of HT_.out (by kernel_rfl)) (fun _ _ _ h => h) (Or.inl ⟨by rfl, ?_⟩) ?_ ?_
   rotate_left
   ·intro w'
    go_simp
    with_reducible rfl
   rotate_left
   ·simp only [Act.put, List.setIfInBounds_toArray, List.set_cons_zero, List.set_cons_succ, i64_w, i32_w]
    rfl
   refine pure_ (i := 5) (N := some 25) (v := ?_) (a' := ?_) #[true,false,true,true,true,true,false,false,false] rfl rfl (any_of HT_.out (by kernel_rfl)) (fun _ _ _ h => h) (Or.inl ⟨by rfl, ?_⟩) ?_ ?_
   rotate_left
   ·intro w'
    go_simp
    with_reducible rfl
   rotate_left
   ·simp only [Act.put, List.setIfInBounds_toArray, List.set_cons_zero, List.set_cons_succ, i64_w, i32_w]
    rfl
   refine take_ (i := 1) (N := some 21) (v := ?_) (a' := ?_) #[true,true,true,true,true,true,false,false,false] rfl rfl (take_ofW HT_.out HW_.out (by kernel_rfl)) (fun _ _ _ h => h) (Or.inl ⟨by rfl, ?_⟩) hHeld ?_ ?_
   rotate_left
   ·rintro w' ⟨s0, s1⟩
    go_simp
    with_reducible rfl
   rotate_left
   ·simp only [Act.put, List.setIfInBounds_toArray, List.set_cons_zero, List.set_cons_succ, i64_w, i32_w]
    rfl
   refine pure_ (i := 6) (N := some 26) (v := ?_) (a' := ?_) #[true,true,true,true,true,true,true,false,false] rfl rfl (any_of HT_.out (by kernel_rfl)) (fun _ _ _ h => h) (Or.inl ⟨by rfl, ?_⟩) ?_ ?_
   rotate_left
   ·intro w'
    go_simp
    with_reducible rfl
   rotate_left
   ·simp only [Act.put, List.setIfInBounds_toArray, List.set_cons_zero, List.set_cons_succ, i64_w, i32_w]
    rfl
   refine pure_ (i := 7) (N := some 27) (v := ?_) (a' := ?_) #[true,true,true,true,true,true,true,true,false] rfl rfl (any_of HT_.out (by kernel_rfl)) (fun _ _ _ h => h) (Or.inl ⟨by rfl, ?_⟩) ?_ ?_
   rotate_left
   ·intro w'
    go_simp
    with_reducible rfl
   rotate_left
   ·simp only [Act.put, List.setIfInBounds_toArray, List.set_cons_zero, List.set_cons_succ, i64_w, i32_w]
    rfl
   refine last_ (i := 8) (N := none) #[true,true,true,true,true,true,true,true,true] rfl rfl (one_of HT_.out (by kernel_rfl)) (by decide) (fun K hK => ?_)
   have hs21 : w20.cell? ⟨gb222, 0, none⟩ = some (.int .u64 t218) := (blk_cell BK222.out 0).trans rfl
   have hfs21 := blk_frozen BK222.out 0
   have hns21_0 := NB216_222.out
   have hns21_1 := NB217_222.out
   have hms21_0 := NB222_216.out
   have hms21_1 := NB222_217.out
   refine skip_ (w1 := ?_) (by rfl) rfl ?_ ?_
   rotate_left
   ·go_simp
    rfl
   refine hK.out _ _ ?_
   clear hK K
   refine done_ (done_of HT_.out (by kernel_rfl)) ?_
   obtain ⟨hcz22_0, hcz22_1, hfz22_0⟩ := zc2_ BK222.out
   obtain ⟨hcz23_0, hcz23_1, hfz23_0⟩ := zc2_ BK217.out
   try go_wp2
   refine bodyPost_ret (results_ct rfl _ _ gb217 54 #[.int .u64 (Go.bits .or .u64 t218 (ji8)),.int .u64 t219] (0, 0) _ rfl (by refine z2_ ?_;refine blk_put (cs := #[.int .u64 (Go.bits .or .u64 t218 (ji8)),.int .u64 0]) ?_ 1 _ rfl;refine z2_ ?_;refine blk_put (cs := #[.int .u64 0,.int .u64 0]) ?_ 0 _ rfl;refine z2_ ?_;refine blk_far ?_ NB217_222.out _;refine z2_ ?_;exact BK217.out) Try.underlying54 rfl (by kernel_rfl)) rfl ?_
   exact ⟨by first | rfl | (simp [errW_none, errW_some] <;> rfl) | (simp only [← hji6, ← hji8];first | rfl | (simp [errW_none, errW_some] <;> rfl)) | (simp [*, errW_none, errW_some] <;> rfl), z3_ HB.out⟩
  ·replace c9 := Bool.eq_false_iff.mpr c9
   subst c9
   have H1 : (some (Go.bits .or .u64 t218 (ji8), t219, t220)) = some (r1, r2, r3) := by rw [if_neg (show ¬ (false = true) by decide)] at H;exact H
   clear H
   have H := H1
   clear H1
   simp only [Option.some.injEq, Prod.mk.injEq] at H
   obtain ⟨rfl, rfl, rfl⟩ := H
   go_enter Try.func68, Try.ntmps68
   try go_wp2_with (first | ((with_reducible refine gate_dst (N := 4) rfl ?_);refine box_event ?hg (N := 4) ?hd (cs := #[.int .u64 a0_0,.int .u64 a0_1]) (t := 54) ?hr ?_;(case hd => rfl);(case hg => rfl);(case hr => first | (go_simp;done) | (go_simp;rfl));intro gb216 hg w24 hbox hb;have n0_ := am_ (below_step (z3_ HB.out) hb);have n1_ := am_ (hbox);have n2_ := am_ ((by rw [hg];exact (below_size (z3_ HB.out)) : w.heap.size ≤ gb216));have n3_ := am_ ((by rw [hg];exact (below_size (z3_ HB.out)) : w.heap.size ≤ gb216));clear HB;have HB := n0_;have BK216 := n1_;have GW216 := n2_;have GE216 := n3_;clear n0_ n1_ n2_ n3_;clear hb hbox hg) | ((with_reducible refine gate_dst (N := 8) rfl ?_);refine box_event ?hg (N := 8) ?hd (cs := #[.int .u64 0,.int .u64 0]) (t := 54) ?hr ?_;(case hd => rfl);(case hg => rfl);(case hr => first | (go_simp;done) | (go_simp;rfl));intro gb217 hg w25 hbox hb;have n0_ := am_ (blk_below (g := gb216) (z1_ BK216.out) hb);have n1_ := am_ (below_step (z3_ HB.out) hb);have n2_ := am_ (hbox);have n3_ := am_ ((by rw [hg];exact (below_size (z3_ HB.out)) : w.heap.size ≤ gb217));have n4_ := am_ ((by rw [hg];exact (below_size (z3_ HB.out)) : w.heap.size ≤ gb217));have n5_ := am_ ((by rw [hg];exact Nat.ne_of_lt (blk_lt (g := gb216) (o := .cells #[.int .u64 a0_0,.int .u64 a0_1] 54 (0, 0)) (z1_ BK216.out)) : gb216 ≠ gb217));have n6_ := am_ ((by rw [hg];exact Nat.ne_of_gt (blk_lt (g := gb216) (o := .cells #[.int .u64 a0_0,.int .u64 a0_1] 54 (0, 0)) (z1_ BK216.out)) : gb217 ≠ gb216));clear BK216;clear HB;have BK216 := n0_;have HB := n1_;have BK217 := n2_;have GW217 := n3_;have GE217 := n4_;have NB216_217 := n5_;have NB217_216 := n6_;clear n0_ n1_ n2_ n3_ n4_ n5_ n6_;clear hb hbox hg;have hnb26 := NB216_217.out;have hnc26 := NB217_216.out;obtain ⟨hcz27_0, hcz27_1, hfz27_0⟩ := zc2_ BK216.out) | ((with_reducible refine gate_callee (f := 81) rfl ?_);refine goesL_ (some 16) rfl rfl Try.func81 (by kernel_rfl) rfl #[.agg #[.int .u64 a0_0,.int .u64 a0_1],.int .i64 a2] rfl z5_ ?_;(with_reducible refine (twin_Shr.calls a0_0 a0_1 a2 t218 t219 t220 t221 _ A5.out).mono ?_);rintro e w28 ⟨rfl, hb⟩;refine ⟨_, rfl, ?_⟩;have n0_ := am_ (blk_below (g := gb216) (z1_ BK216.out) hb);have n1_ := am_ (blk_below (g := gb217) (z1_ BK217.out) hb);have n2_ := am_ (below_step (z3_ HB.out) hb);clear BK216;clear BK217;clear HB;have BK216 := n0_;have BK217 := n1_;have HB := n2_;clear n0_ n1_ n2_;(try clear hb);(try simp only [errW_none, errW_some])) | ((with_reducible refine gate_dst (N := 10) rfl ?_);refine box_event ?hg (N := 10) ?hd (cs := #[.int .u64 0,.int .u64 0]) (t := 54) ?hr ?_;(case hd => rfl);(case hg => rfl);(case hr => first | (go_simp;done) | (go_simp;rfl));intro gb222 hg w29 hbox hb;have n0_ := am_ (blk_below (g := gb216) (z1_ BK216.out) hb);have n1_ := am_ (blk_below (g := gb217) (z1_ BK217.out) hb);have n2_ := am_ (below_step (z3_ HB.out) hb);have n3_ := am_ (hbox);have n4_ := am_ ((by rw [hg];exact (below_size (z3_ HB.out)) : w.heap.size ≤ gb222));have n5_ := am_ ((by rw [hg];exact (below_size (z3_ HB.out)) : w.heap.size ≤ gb222));have n6_ := am_ ((by rw [hg];exact Nat.ne_of_lt (blk_lt (g := gb216) (o := .cells #[.int .u64 a0_0,.int .u64 a0_1] 54 (0, 0)) (z1_ BK216.out)) : gb216 ≠ gb222));have n7_ := am_ ((by rw [hg];exact Nat.ne_of_gt (blk_lt (g := gb216) (o := .cells #[.int .u64 a0_0,.int .u64 a0_1] 54 (0, 0)) (z1_ BK216.out)) : gb222 ≠ gb216));have n8_ := am_ ((by rw [hg];exact Nat.ne_of_lt (blk_lt (g := gb217) (o := .cells #[.int .u64 0,.int .u64 0] 54 (0, 0)) (z1_ BK217.out)) : gb217 ≠ gb222));have n9_ := am_ ((by rw [hg];exact Nat.ne_of_gt (blk_lt (g := gb217) (o := .cells #[.int .u64 0,.int .u64 0] 54 (0, 0)) (z1_ BK217.out)) : gb222 ≠ gb217));clear BK216;clear BK217;clear HB;have BK216 := n0_;have BK217 := n1_;have HB := n2_;have BK222 := n3_;have GW222 := n4_;have GE222 := n5_;have NB216_222 := n6_;have NB222_216 := n7_;have NB217_222 := n8_;have NB222_217 := n9_;clear n0_ n1_ n2_ n3_ n4_ n5_ n6_ n7_ n8_ n9_;clear hb hbox hg;have hnb30 := NB222_216.out;have hnc30 := NB216_222.out;have hnb31 := NB222_217.out;have hnc31 := NB217_222.out;obtain ⟨hcz32_0, hcz32_1, hfz32_0⟩ := zc2_ BK222.out))
   have n0_ : Aside0 (((w29.setCell ⟨gb222, 0, none⟩ (.int .u64 t218)).setCell ⟨gb222, 1, none⟩ (.int .u64 t219)).heap[gb216]? = some (.cells #[.int .u64 a0_0,.int .u64 a0_1] 54 (0, 0))) := ⟨by refine z2_ ?_;refine blk_far ?_ NB216_222.out _;refine z2_ ?_;refine blk_far ?_ NB216_222.out _;refine z2_ ?_;exact BK216.out⟩
   have n1_ : Aside0 (((w29.setCell ⟨gb222, 0, none⟩ (.int .u64 t218)).setCell ⟨gb222, 1, none⟩ (.int .u64 t219)).heap[gb217]? = some (.cells #[.int .u64 0,.int .u64 0] 54 (0, 0))) := ⟨by refine z2_ ?_;refine blk_far ?_ NB217_222.out _;refine z2_ ?_;refine blk_far ?_ NB217_222.out _;refine z2_ ?_;exact BK217.out⟩
   have n2_ : Aside0 (((w29.setCell ⟨gb222, 0, none⟩ (.int .u64 t218)).setCell ⟨gb222, 1, none⟩ (.int .u64 t219)).heap[gb222]? = some (.cells #[.int .u64 t218,.int .u64 t219] 54 (0, 0))) := ⟨by refine z2_ ?_;refine blk_put (cs := #[.int .u64 t218,.int .u64 0]) ?_ 1 _ rfl;refine z2_ ?_;refine blk_put (cs := #[.int .u64 0,.int .u64 0]) ?_ 0 _ rfl;refine z2_ ?_;exact BK222.out⟩
   have n3_ : Aside0 (Below w.heap.size w ((w29.setCell ⟨gb222, 0, none⟩ (.int .u64 t218)).setCell ⟨gb222, 1, none⟩ (.int .u64 t219))) := ⟨z3_ HB.out⟩
   (try clear BK216)
   (try clear BK217)
   (try clear BK222)
   (try clear HB)
   generalize ((w29.setCell ⟨gb222, 0, none⟩ (.int .u64 t218)).setCell ⟨gb222, 1, none⟩ (.int .u64 t219)) = w33 at n0_ n1_ n2_ n3_ ⊢
   have BK216 := n0_
   have BK217 := n1_
   have BK222 := n2_
   have HB := n3_
   clear n0_ n1_ n2_ n3_
   have n0_ := am_ (blk_drew BK216.out)
   have n1_ := am_ (blk_drew BK217.out)
   have n2_ := am_ (blk_drew BK222.out)
   have n3_ := am_ (below_drew1 HB.out)
   clear BK216
   clear BK217
   clear BK222
   clear HB
   have BK216 := n0_
   have BK217 := n1_
   have BK222 := n2_
   have HB := n3_
   clear n0_ n1_ n2_ n3_
   refine start_ (n := 9) (S := fun w' => w'.cell? ⟨gb222, 0, none⟩ = some (.int .u64 t218) ∧ w'.cell? ⟨gb222, 1, none⟩ = some (.int .u64 t219)) (ds := [8]) #[false,false,false,false,false,false,false,false,false] (by kernel_rfl) rfl rfl ⟨(blk_cell BK222.out 0).trans rfl, (blk_cell BK222.out 1).trans rfl⟩ (fun hHeld => ?_);refine with_tabW round_under.tab2 round_under.bits2 (fun HT_ HW_ => ?_)
   generalize w33.drew = w34 at BK216 BK217 BK222 HB hHeld ⊢
   refine pure_ (i := 0) (N := some 20) (v := ?_) (a' := ?_) #[true,false,false,false,false,false,false,false,false] rfl rfl (any_of HT_.out (by kernel_rfl)) (fun _ _ _ h => h) (Or.inl ⟨by rfl, ?_⟩) ?_ ?_
   rotate_left
   ·intro w'
    go_simp
    with_reducible rfl
   rotate_left
   ·simp only [Act.put, List.setIfInBounds_toArray, List.set_cons_zero, List.set_cons_succ, i64_w, i32_w]
    rfl
   refine pure_ (i := 2) (N := some 22) (v := ?_) (a' := ?_) #[true,false,true,false,false,false,false,false,false] rfl rfl (any_of HT_.out (by kernel_rfl)) (fun _ _ _ h => h) (Or.inl ⟨by rfl, ?_⟩) ?_ ?_
   rotate_left
   ·intro w'
    go_simp
    with_reducible rfl
   rotate_left
   ·simp only [Act.put, List.setIfInBounds_toArray, List.set_cons_zero, List.set_cons_succ, i64_w, i32_w]
    rfl
   refine pure_ (i := 3) (N := some 23) (v := ?_) (a' := ?_) #[true,false,true,true,false,false,false,false,false] rfl rfl (any_of HT_.out (by kernel_rfl)) (fun _ _ _ h => h) (Or.inl ⟨by rfl, ?_⟩) ?_ ?_
   rotate_left
   ·intro w'
    go_simp
    with_reducible rfl
   rotate_left
   ·simp only [Act.put, List.setIfInBounds_toArray, List.set_cons_zero, List.set_cons_succ, i64_w, i32_w]
    rfl
   refine pure_ (i := 4) (N := some 24) (v := ?_) (a' := ?_) #[true,false,true,true,true,false,false,false,false] rfl rfl (any_of HT_.out (by kernel_rfl)) (fun _ _ _ h => h) (Or.inl ⟨by rfl, ?_⟩) ?_ ?_
   rotate_left
   ·intro w'
    go_simp
    with_reducible rfl
   rotate_left
   ·simp only [Act.put, List.setIfInBounds_toArray, List.set_cons_zero, List.set_cons_succ, i64_w, i32_w]
    rfl
   refine pure_ (i := 5) (N := some 25) (v := ?_) (a' := ?_) #[true,false,true,true,true,true,false,false,false] rfl rfl (any_of HT_.out (by kernel_rfl)) (fun _ _ _ h => h) (Or.inl ⟨by rfl, ?_⟩) ?_ ?_
   rotate_left
   ·intro w'
    go_simp
    with_reducible rfl
   rotate_left
   ·simp only [Act.put, List.setIfInBounds_toArray, List.set_cons_zero, List.set_cons_succ, i64_w, i32_w]
    rfl
   refine take_ (i := 1) (N := some 21) (v := ?_) (a' := ?_) #[true,true,true,true,true,true,false,false,false] rfl rfl (take_ofW HT_.out HW_.out (by kernel_rfl)) (fun _ _ _ h => h) (Or.inl ⟨by rfl, ?_⟩) hHeld ?_ ?_
   rotate_left
   ·rintro w' ⟨s0, s1⟩
    go_simp
    with_reducible rfl
   rotate_left
   ·simp only [Act.put, List.setIfInBounds_toArray, List.set_cons_zero, List.set_cons_succ, i64_w, i32_w]
    rfl
   refine pure_ (i := 6) (N := some 26) (v := ?_) (a' := ?_) #[true,true,true,true,true,true,true,false,false] rfl rfl (any_of HT_.out (by kernel_rfl)) (fun _ _ _ h => h) (Or.inl ⟨by rfl, ?_⟩) ?_ ?_
   rotate_left
   ·intro w'
    go_simp
    with_reducible rfl
   rotate_left
   ·simp only [Act.put, List.setIfInBounds_toArray, List.set_cons_zero, List.set_cons_succ, i64_w, i32_w]
    rfl
   refine pure_ (i := 7) (N := some 27) (v := ?_) (a' := ?_) #[true,true,true,true,true,true,true,true,false] rfl rfl (any_of HT_.out (by kernel_rfl)) (fun _ _ _ h => h) (Or.inl ⟨by rfl, ?_⟩) ?_ ?_
   rotate_left
   ·intro w'
    go_simp
    with_reducible rfl
   rotate_left
   ·simp only [Act.put, List.setIfInBounds_toArray, List.set_cons_zero, List.set_cons_succ, i64_w, i32_w]
    rfl
   refine last_ (i := 8) (N := none) #[true,true,true,true,true,true,true,true,true] rfl rfl (one_of HT_.out (by kernel_rfl)) (by decide) (fun K hK => ?_)
   have hs35 : w34.cell? ⟨gb222, 0, none⟩ = some (.int .u64 t218) := (blk_cell BK222.out 0).trans rfl
   have hfs35 := blk_frozen BK222.out 0
   have hns35_0 := NB216_222.out
   have hns35_1 := NB217_222.out
   have hms35_0 := NB222_216.out
   have hms35_1 := NB222_217.out
   refine skip_ (w1 := ?_) (by rfl) rfl ?_ ?_
   rotate_left
   ·go_simp
    rfl
   refine hK.out _ _ ?_
   clear hK K
   refine done_ (done_of HT_.out (by kernel_rfl)) ?_
   obtain ⟨hcz36_0, hcz36_1, hfz36_0⟩ := zc2_ BK222.out
   obtain ⟨hcz37_0, hcz37_1, hfz37_0⟩ := zc2_ BK217.out
   try go_wp2
   refine bodyPost_ret (results_ct rfl _ _ gb217 54 #[.int .u64 (Go.bits .or .u64 t218 (ji8)),.int .u64 t219] (0, 0) _ rfl (by refine z2_ ?_;refine blk_put (cs := #[.int .u64 (Go.bits .or .u64 t218 (ji8)),.int .u64 0]) ?_ 1 _ rfl;refine z2_ ?_;refine blk_put (cs := #[.int .u64 0,.int .u64 0]) ?_ 0 _ rfl;refine z2_ ?_;refine blk_far ?_ NB217_222.out _;refine z2_ ?_;exact BK217.out) Try.underlying54 rfl (by kernel_rfl)) rfl ?_
   exact ⟨by first | rfl | (simp [errW_none, errW_some] <;> rfl) | (simp only [← hji6, ← hji8];first | rfl | (simp [errW_none, errW_some] <;> rfl)) | (simp [*, errW_none, errW_some] <;> rfl), z3_ HB.out⟩
 ·rw [if_neg c7] at H
  exact absurd H (by simp)
def round_left.j0 : Nat → Int → Bool → Int → Bool → Option (Int)
 | 0, _, _, _, _ => none
 | k + 1, x0, x1, x5, x6 => if x6 = true then (some 3) else (if x0 = x5 then (some 2) else (if x0 > 0 then (some 1) else (if x1 = true then (some 1) else (some 0))))
def round_left.f (k : Nat) (a0 : Int) (a1 : Bool) : Option (Int) := if a0 > 9223372036854775808 then (round_left.j0 k a0 a1 9223372036854775808 (decide (a0 > 9223372036854775808))) else (if a0 = 9223372036854775808 then (round_left.j0 k a0 a1 9223372036854775808 a1) else (round_left.j0 k a0 a1 9223372036854775808 false))
theorem round_left.mono_l : ∀ k, (∀ y0 y1 y2 y3, LeO (round_left.j0 k y0 y1 y2 y3) (round_left.j0 (k + 1) y0 y1 y2 y3))
 | 0 => fun _ _ _ _ r h => by simp [round_left.j0] at h
 | k + 1 => by
  have ih0 := round_left.mono_l k
  ·intro y0 y1 y2 y3
   unfold round_left.j0
   repeat' first
   | (with_reducible exact ih0 _ _ _ _)
   | (with_reducible exact LeO.refl _)
   | (with_reducible exact LeO.none _)
   | (with_reducible refine LeO.ite ?_ ?_)
   | (with_reducible refine LeO.bind ?_ (fun _ => ?_))
   | exact ih0 _ _ _ _
   | exact LeO.none _
   | refine LeO.ite ?_ ?_
   | refine LeO.bind ?_ (fun _ => ?_)
theorem round_left.mono : ∀ a0 a1 k, LeO (round_left.f k a0 a1) (round_left.f (k + 1) a0 a1) := by
 intro a0 a1 k
 have ih0 := round_left.mono_l k
 unfold round_left.f
 repeat' first
   | (with_reducible exact ih0 _ _ _ _)
   | (with_reducible exact LeO.refl _)
   | (with_reducible exact LeO.none _)
   | (with_reducible refine LeO.ite ?_ ?_)
   | (with_reducible refine LeO.bind ?_ (fun _ => ?_))
   | exact ih0 _ _ _ _
   | exact LeO.none _
   | refine LeO.ite ?_ ?_
   | refine LeO.bind ?_ (fun _ => ?_)
set_option maxHeartbeats 8000000 in
set_option maxRecDepth 100000 in
theorem round_left.calls (k : Nat) (a0 : Int) (a1 : Bool) (r : Int) (w : World) (h : round_left.f k a0 a1 = some r) :
  Calls Try.prog 69 #[.int .u64 a0,.bool a1] w fun e w' => e = .returned (.int .i64 r) ∧ Drawn0 w w' := by
 have H : (if a0 > 9223372036854775808 then (round_left.j0 k a0 a1 9223372036854775808 (decide (a0 > 9223372036854775808))) else (if a0 = 9223372036854775808 then (round_left.j0 k a0 a1 9223372036854775808 a1) else (round_left.j0 k a0 a1 9223372036854775808 false))) = some r := h
 clear h
 have HC3 := am_ H
 clear H
 go_enter Try.func69, Try.ntmps69
 go_upto_if 6 with (fail)
 go_cut [6] (fun v6 wc => ∃ (kq : Nat) (x6_2 : Bool), v6 = .bool x6_2 ∧ Aside0 (round_left.j0 kq a0 a1 9223372036854775808 x6_2 = some r) ∧ Aside0 (kq ≤ k) ∧ Drawn0 w wc)
 case first =>
  have H := HC3.out
  clear HC3
  by_cases c4 : a0 > 9223372036854775808
  ·rw [if_pos c4] at H
   have c4b0 : decide (9223372036854775808 < a0) = true := decide_eq_true c4
   clear c4
   (first | rw [c4b0] | (simp only [i64_w, i32_w];rw [c4b0]) | skip)
   have H' := am_ H
   clear H
   go_wp2
   go_meet
   case rel => exact ⟨_, (decide (a0 > 9223372036854775808)), (by first | rfl | (simp;done) | (simp [*];done)), H', ⟨by first | omega | exact Nat.le_refl _⟩, by repeat (first | exact Drawn0.refl _ | apply Drawn0.step)⟩
  ·rw [if_neg c4] at H
   have c4b0 : decide (9223372036854775808 < a0) = false := decide_eq_false c4
   clear c4
   (first | rw [c4b0] | (simp only [i64_w, i32_w];rw [c4b0]) | skip)
   by_cases c5 : a0 = 9223372036854775808
   ·rw [if_pos c5] at H
    have c5b0 : (a0 == 9223372036854775808) = true := beq_iff_eq.mpr c5
    have c5b1 : (a0 != 9223372036854775808) = false := bne_eq_false_iff_eq.mpr c5
    clear c5
    have H' := am_ H
    clear H
    go_wp2
    go_meet
    case rel => exact ⟨_, (a1), (by first | rfl | (simp;done) | (simp [*];done)), H', ⟨by first | omega | exact Nat.le_refl _⟩, by repeat (first | exact Drawn0.refl _ | apply Drawn0.step)⟩
   ·rw [if_neg c5] at H
    have c5b0 : (a0 == 9223372036854775808) = false := beq_eq_false_iff_ne.mpr c5
    have c5b1 : (a0 != 9223372036854775808) = true := bne_iff_ne.mpr c5
    have H' := am_ H
    clear H
    go_wp2
    go_meet
    case rel => exact ⟨_, (false), (by first | rfl | (simp;done) | (simp [*];done)), H', ⟨by first | omega | exact Nat.le_refl _⟩, by repeat (first | exact Drawn0.refl _ | apply Drawn0.step)⟩
 case rest =>
  clear HC3
  obtain ⟨kq, x6_2, rfl, HA, HJ2, ⟨mc2, rfl⟩⟩ := hcut
  cases kq with
  | zero => exact absurd HA.out (by simp [round_left.j0])
  | succ kj2 =>
   have H := HA.out
   clear HA
   simp only [round_left.j0] at H
   by_cases c6 : x6_2 = true
   ·subst c6
    have H1 : (some 3) = some r := by rw [if_pos rfl] at H;exact H
    clear H
    have H := H1
    clear H1
    obtain rfl := Option.some.inj H
    go_wp2
    go_ret
    exact ⟨by first | rfl | (simp;done) | (simp [*];done), by repeat (first | exact Drawn0.refl _ | apply Drawn0.step)⟩
   ·replace c6 := Bool.eq_false_iff.mpr c6
    subst c6
    have H1 : (if a0 = 9223372036854775808 then (some 2) else (if a0 > 0 then (some 1) else (if a1 = true then (some 1) else (some 0)))) = some r := by rw [if_neg (show ¬ (false = true) by decide)] at H;exact H
    clear H
    have H := H1
    clear H1
    by_cases c7 : a0 = 9223372036854775808
    ·rw [if_pos c7] at H
     have c7b0 : (a0 == 9223372036854775808) = true := beq_iff_eq.mpr c7
     have c7b1 : (a0 != 9223372036854775808) = false := bne_eq_false_iff_eq.mpr c7
     clear c7
     obtain rfl := Option.some.inj H
     go_wp2
     go_ret
     exact ⟨by first | rfl | (simp;done) | (simp [*];done), by repeat (first | exact Drawn0.refl _ | apply Drawn0.step)⟩
    ·rw [if_neg c7] at H
     have c7b0 : (a0 == 9223372036854775808) = false := beq_eq_false_iff_ne.mpr c7
     have c7b1 : (a0 != 9223372036854775808) = true := bne_iff_ne.mpr c7
     by_cases c8 : a0 > 0
     ·rw [if_pos c8] at H
      have c8b0 : decide (0 < a0) = true := decide_eq_true c8
      clear c8
      obtain rfl := Option.some.inj H
      go_wp2
      go_ret
      exact ⟨by first | rfl | (simp;done) | (simp [*];done), by repeat (first | exact Drawn0.refl _ | apply Drawn0.step)⟩
     ·rw [if_neg c8] at H
      have c8b0 : decide (0 < a0) = false := decide_eq_false c8
      clear c8
      by_cases c9 : a1 = true
      ·subst c9
       have H1 : (some 1) = some r := by rw [if_pos rfl] at H;exact H
       clear H
       have H := H1
       clear H1
       obtain rfl := Option.some.inj H
       go_wp2
       go_ret
       exact ⟨by first | rfl | (simp;done) | (simp [*];done), by repeat (first | exact Drawn0.refl _ | apply Drawn0.step)⟩
      ·replace c9 := Bool.eq_false_iff.mpr c9
       subst c9
       have H1 : (some 0) = some r := by rw [if_neg (show ¬ (false = true) by decide)] at H;exact H
       clear H
       have H := H1
       clear H1
       obtain rfl := Option.some.inj H
       go_wp2
       go_ret
       exact ⟨by first | rfl | (simp;done) | (simp [*];done), by repeat (first | exact Drawn0.refl _ | apply Drawn0.step)⟩
mutual
def round_Cut.j0 : Nat → Int → Int → Bool → Int → Int → Int → Bool → Option (Int × Int × Option Int)
 | 0, _, _, _, _, _, _, _ => none
 | k + 1, x0, x224000, x224001, x224002, x224003, x224004, x224005 => (twin_Shl.f x224003 x224004 1).bind fun bt233 => ((round_under.f bt233.1 bt233.2.1 (IntKind.u64.wrap (Go.bits .and .i64 x224002 3)) 2 x224005).bind fun bt238 => (if (x224002 / 4) ≥ 0 then ((round_under.f bt238.1 bt238.2.1 0 1 bt238.2.2).bind fun bt241 => (round_Cut.l0 k x0 bt241.2.2 (wrap64 ((x224002 / 4) + 1)) 0 bt241.1 bt241.2.1)) else ((round_under.f bt238.1 bt238.2.1 1 1 bt238.2.2).bind fun bt247 => (round_Cut.l1 k x0 bt247.2.2 (wrap64 (-(x224002 / 4))) 0 bt247.1 bt247.2.1))))
def round_Cut.j3 : Nat → Int → Bool → Int → Int → Option (Int × Int × Option Int)
 | 0, _, _, _, _ => none
 | k + 1, x0, x12, x238000, x238001 => if 0 ≤ (wrap64 (65 - x0)) then ((twin_Shl.f x238000 x238001 (wrap64 (x0 - 1))).bind fun bt253 => (if bt253.2.1 = 0 then ((round_left.f k bt253.1 x12).bind fun t258 => (some (shr .u64 x238000 (wrap64 (65 - x0)), t258, none))) else ((round_left.f k bt253.1 true).bind fun t259 => (some (shr .u64 x238000 (wrap64 (65 - x0)), t259, none))))) else (none)
def round_Cut.l0 : Nat → Int → Bool → Int → Int → Int → Int → Option (Int × Int × Option Int)
 | 0, _, _, _, _, _, _ => none
 | k + 1, x0, x12, x114, x115, x238000, x238001 => if x115 < x114 then ((round_under.f x238000 x238001 1 1 x12).bind fun bt244 => (round_Cut.l0 k x0 bt244.2.2 x114 (wrap64 (x115 + 1)) bt244.1 bt244.2.1)) else (round_Cut.j3 k x0 x12 x238000 x238001)
def round_Cut.l1 : Nat → Int → Bool → Int → Int → Int → Int → Option (Int × Int × Option Int)
 | 0, _, _, _, _, _, _ => none
 | k + 1, x0, x12, x131, x132, x238000, x238001 => if x132 < x131 then ((round_under.f x238000 x238001 0 1 x12).bind fun bt250 => (round_Cut.l1 k x0 bt250.2.2 x131 (wrap64 (x132 + 1)) bt250.1 bt250.2.1)) else (round_Cut.j3 k x0 x12 x238000 x238001)
end
def round_Cut.f (k : Nat) (a0 : Int) (a1_0 : Int) (a1_1 : Bool) (a1_2 : Int) (a1_3 : Int) (a1_4 : Int) (a1_5 : Bool) : Option (Int × Int × Option Int) := (shape_Of.f a0).bind fun bt224 => (if bt224.2.2.2.2.2.isNone = true then ((round_sound.f k a1_0 a1_1 a1_2 a1_3 a1_4 a1_5).bind fun t232 => (if t232 = true then (if a1_0 = 0 then (some (0, 0, none)) else (if a1_0 = 2 then (some (bt224.2.2.2.1, 0, none)) else (if a1_2 ≥ bt224.2.2.2.2.1 then (some (bt224.2.1, 0, none)) else (if a1_2 < (wrap64 (-bt224.2.2.2.2.1)) then (some (bt224.2.2.1, 0, none)) else (if a1_2 = (wrap64 (-bt224.2.2.2.2.1)) then (if a1_3 = 9223372036854775808 then (if a1_4 = 0 then (if a1_5 = true then (round_Cut.j0 k a0 a1_0 a1_1 a1_2 a1_3 a1_4 a1_5) else (some (bt224.2.2.1, 0, none))) else (round_Cut.j0 k a0 a1_0 a1_1 a1_2 a1_3 a1_4 a1_5)) else (round_Cut.j0 k a0 a1_0 a1_1 a1_2 a1_3 a1_4 a1_5)) else (round_Cut.j0 k a0 a1_0 a1_1 a1_2 a1_3 a1_4 a1_5)))))) else (some (0, 0, some 1)))) else (some (0, 0, some (bt224.2.2.2.2.2.getD 0))))
theorem round_Cut.mono_l : ∀ k, (∀ y0 y1 y2 y3 y4 y5 y6, LeO (round_Cut.j0 k y0 y1 y2 y3 y4 y5 y6) (round_Cut.j0 (k + 1) y0 y1 y2 y3 y4 y5 y6)) ∧ (∀ y0 y1 y2 y3, LeO (round_Cut.j3 k y0 y1 y2 y3) (round_Cut.j3 (k + 1) y0 y1 y2 y3)) ∧ (∀ y0 y1 y2 y3 y4 y5, LeO (round_Cut.l0 k y0 y1 y2 y3 y4 y5) (round_Cut.l0 (k + 1) y0 y1 y2 y3 y4 y5)) ∧ (∀ y0 y1 y2 y3 y4 y5, LeO (round_Cut.l1 k y0 y1 y2 y3 y4 y5) (round_Cut.l1 (k + 1) y0 y1 y2 y3 y4 y5))
 | 0 => ⟨fun _ _ _ _ _ _ _ r h => by simp [round_Cut.j0] at h, fun _ _ _ _ r h => by simp [round_Cut.j3] at h, fun _ _ _ _ _ _ r h => by simp [round_Cut.l0] at h, fun _ _ _ _ _ _ r h => by simp [round_Cut.l1] at h⟩
 | k + 1 => by
  obtain ⟨ih0, ih1, ih2, ih3⟩ := round_Cut.mono_l k
  refine ⟨?_, ?_, ?_, ?_⟩
  ·intro y0 y1 y2 y3 y4 y5 y6
   unfold round_Cut.j0
   repeat' first
   | (with_reducible exact ih0 _ _ _ _ _ _ _)
   | (with_reducible exact ih1 _ _ _ _)
   | (with_reducible exact ih2 _ _ _ _ _ _)
   | (with_reducible exact ih3 _ _ _ _ _ _)
   | (with_reducible exact round_left.mono _ _ _)
   | (with_reducible exact round_sound.mono _ _ _ _ _ _ _)
   | (with_reducible exact LeO.refl _)
   | (with_reducible exact LeO.none _)
   | (with_reducible refine LeO.ite ?_ ?_)
   | (with_reducible refine LeO.bind ?_ (fun _ => ?_))
   | exact ih0 _ _ _ _ _ _ _
   | exact ih1 _ _ _ _
   | exact ih2 _ _ _ _ _ _
   | exact ih3 _ _ _ _ _ _
   | exact round_left.mono _ _ _
   | exact round_sound.mono _ _ _ _ _ _ _
   | exact LeO.none _
   | refine LeO.ite ?_ ?_
   | refine LeO.bind ?_ (fun _ => ?_)
  ·intro y0 y1 y2 y3
   unfold round_Cut.j3
   repeat' first
   | (with_reducible exact ih0 _ _ _ _ _ _ _)
   | (with_reducible exact ih1 _ _ _ _)
   | (with_reducible exact ih2 _ _ _ _ _ _)
   | (with_reducible exact ih3 _ _ _ _ _ _)
   | (with_reducible exact round_left.mono _ _ _)
   | (with_reducible exact round_sound.mono _ _ _ _ _ _ _)
   | (with_reducible exact LeO.refl _)
   | (with_reducible exact LeO.none _)
   | (with_reducible refine LeO.ite ?_ ?_)
   | (with_reducible refine LeO.bind ?_ (fun _ => ?_))
   | exact ih0 _ _ _ _ _ _ _
   | exact ih1 _ _ _ _
   | exact ih2 _ _ _ _ _ _
   | exact ih3 _ _ _ _ _ _
   | exact round_left.mono _ _ _
   | exact round_sound.mono _ _ _ _ _ _ _
   | exact LeO.none _
   | refine LeO.ite ?_ ?_
   | refine LeO.bind ?_ (fun _ => ?_)
  ·intro y0 y1 y2 y3 y4 y5
   unfold round_Cut.l0
   repeat' first
   | (with_reducible exact ih0 _ _ _ _ _ _ _)
   | (with_reducible exact ih1 _ _ _ _)
   | (with_reducible exact ih2 _ _ _ _ _ _)
   | (with_reducible exact ih3 _ _ _ _ _ _)
   | (with_reducible exact round_left.mono _ _ _)
   | (with_reducible exact round_sound.mono _ _ _ _ _ _ _)
   | (with_reducible exact LeO.refl _)
   | (with_reducible exact LeO.none _)
   | (with_reducible refine LeO.ite ?_ ?_)
   | (with_reducible refine LeO.bind ?_ (fun _ => ?_))
   | exact ih0 _ _ _ _ _ _ _
   | exact ih1 _ _ _ _
   | exact ih2 _ _ _ _ _ _
   | exact ih3 _ _ _ _ _ _
   | exact round_left.mono _ _ _
   | exact round_sound.mono _ _ _ _ _ _ _
   | exact LeO.none _
   | refine LeO.ite ?_ ?_
   | refine LeO.bind ?_ (fun _ => ?_)
  ·intro y0 y1 y2 y3 y4 y5
   unfold round_Cut.l1
   repeat' first
   | (with_reducible exact ih0 _ _ _ _ _ _ _)
   | (with_reducible exact ih1 _ _ _ _)
   | (with_reducible exact ih2 _ _ _ _ _ _)
   | (with_reducible exact ih3 _ _ _ _ _ _)
   | (with_reducible exact round_left.mono _ _ _)
   | (with_reducible exact round_sound.mono _ _ _ _ _ _ _)
   | (with_reducible exact LeO.refl _)
   | (with_reducible exact LeO.none _)
   | (with_reducible refine LeO.ite ?_ ?_)
   | (with_reducible refine LeO.bind ?_ (fun _ => ?_))
   | exact ih0 _ _ _ _ _ _ _
   | exact ih1 _ _ _ _
   | exact ih2 _ _ _ _ _ _
   | exact ih3 _ _ _ _ _ _
   | exact round_left.mono _ _ _
   | exact round_sound.mono _ _ _ _ _ _ _
   | exact LeO.none _
   | refine LeO.ite ?_ ?_
   | refine LeO.bind ?_ (fun _ => ?_)
theorem round_Cut.mono : ∀ a0 a1 a2 a3 a4 a5 a6 k, LeO (round_Cut.f k a0 a1 a2 a3 a4 a5 a6) (round_Cut.f (k + 1) a0 a1 a2 a3 a4 a5 a6) := by
 intro a0 a1 a2 a3 a4 a5 a6 k
 obtain ⟨ih0, ih1, ih2, ih3⟩ := round_Cut.mono_l k
 unfold round_Cut.f
 repeat' first
   | (with_reducible exact ih0 _ _ _ _ _ _ _)
   | (with_reducible exact ih1 _ _ _ _)
   | (with_reducible exact ih2 _ _ _ _ _ _)
   | (with_reducible exact ih3 _ _ _ _ _ _)
   | (with_reducible exact round_left.mono _ _ _)
   | (with_reducible exact round_sound.mono _ _ _ _ _ _ _)
   | (with_reducible exact LeO.refl _)
   | (with_reducible exact LeO.none _)
   | (with_reducible refine LeO.ite ?_ ?_)
   | (with_reducible refine LeO.bind ?_ (fun _ => ?_))
   | exact ih0 _ _ _ _ _ _ _
   | exact ih1 _ _ _ _
   | exact ih2 _ _ _ _ _ _
   | exact ih3 _ _ _ _ _ _
   | exact round_left.mono _ _ _
   | exact round_sound.mono _ _ _ _ _ _ _
   | exact LeO.none _
   | refine LeO.ite ?_ ?_
   | refine LeO.bind ?_ (fun _ => ?_)
set_option maxHeartbeats 8000000 in
set_option maxRecDepth 100000 in
theorem round_Cut.calls (k : Nat) (a0 : Int) (a1_0 : Int) (a1_1 : Bool) (a1_2 : Int) (a1_3 : Int) (a1_4 : Int) (a1_5 : Bool) (r1 : Int) (r2 : Int) (r3 : Option Int) (w : World) (h : round_Cut.f k a0 a1_0 a1_1 a1_2 a1_3 a1_4 a1_5 = some (r1, r2, r3)) :
  Calls Try.prog 49 #[.int .i64 a0,.agg #[.int .i64 a1_0,.bool a1_1,.int .i64 a1_2,.int .u64 a1_3,.int .u64 a1_4,.bool a1_5]] w fun e w' => e = .returned (.tuple #[.int .u64 r1,.int .i64 r2, errW r3]) ∧ Below w.heap.size w w' := by
 have hu27 := Try.underlying27
 have hu98 := Try.underlying98
 have hu54 := Try.underlying54
 have hu29 := Try.underlying29
 have hu42 := Try.underlying42
 have HB := am_ (Below.refl w.heap.size w)
 have H : ((shape_Of.f a0).bind fun bt224 => (if bt224.2.2.2.2.2.isNone = true then ((round_sound.f k a1_0 a1_1 a1_2 a1_3 a1_4 a1_5).bind fun t232 => (if t232 = true then (if a1_0 = 0 then (some (0, 0, none)) else (if a1_0 = 2 then (some (bt224.2.2.2.1, 0, none)) else (if a1_2 ≥ bt224.2.2.2.2.1 then (some (bt224.2.1, 0, none)) else (if a1_2 < (wrap64 (-bt224.2.2.2.2.1)) then (some (bt224.2.2.1, 0, none)) else (if a1_2 = (wrap64 (-bt224.2.2.2.2.1)) then (if a1_3 = 9223372036854775808 then (if a1_4 = 0 then (if a1_5 = true then (round_Cut.j0 k a0 a1_0 a1_1 a1_2 a1_3 a1_4 a1_5) else (some (bt224.2.2.1, 0, none))) else (round_Cut.j0 k a0 a1_0 a1_1 a1_2 a1_3 a1_4 a1_5)) else (round_Cut.j0 k a0 a1_0 a1_1 a1_2 a1_3 a1_4 a1_5)) else (round_Cut.j0 k a0 a1_0 a1_1 a1_2 a1_3 a1_4 a1_5)))))) else (some (0, 0, some 1)))) else (some (0, 0, some (bt224.2.2.2.2.2.getD 0))))) = some (r1, r2, r3) := h
 clear h
 replace H := Option.bind_eq_some_iff.mp H
 obtain ⟨⟨t224, t225, t226, t227, t228, t229⟩, A30, H⟩ := H
 replace H : (if t229.isNone = true then ((round_sound.f k a1_0 a1_1 a1_2 a1_3 a1_4 a1_5).bind fun t232 => (if t232 = true then (if a1_0 = 0 then (some (0, 0, none)) else (if a1_0 = 2 then (some (t227, 0, none)) else (if a1_2 ≥ t228 then (some (t225, 0, none)) else (if a1_2 < (wrap64 (-t228)) then (some (t226, 0, none)) else (if a1_2 = (wrap64 (-t228)) then (if a1_3 = 9223372036854775808 then (if a1_4 = 0 then (if a1_5 = true then (round_Cut.j0 k a0 a1_0 a1_1 a1_2 a1_3 a1_4 a1_5) else (some (t226, 0, none))) else (round_Cut.j0 k a0 a1_0 a1_1 a1_2 a1_3 a1_4 a1_5)) else (round_Cut.j0 k a0 a1_0 a1_1 a1_2 a1_3 a1_4 a1_5)) else (round_Cut.j0 k a0 a1_0 a1_1 a1_2 a1_3 a1_4 a1_5)))))) else (some (0, 0, some 1)))) else (some (0, 0, some (t229.getD 0)))) = some (r1, r2, r3) := H
 have A3 := am_ A30
 clear A30
 have HC4 := am_ H
 clear H
 go_enter Try.func49, Try.ntmps49
 go_upto_block 0 with (first | ((with_reducible refine gate_dst (N := 3) rfl ?_);refine box_event ?hg (N := 3) ?hd (cs := #[.int .i64 a1_0,.bool a1_1,.int .i64 a1_2,.int .u64 a1_3,.int .u64 a1_4,.bool a1_5]) (t := 27) ?hr ?_;(case hd => rfl);(case hg => rfl);(case hr => first | (go_simp;done) | (go_simp;rfl));intro gb223 hg w5 hbox hb;have n0_ := am_ (below_step (z3_ HB.out) hb);have n1_ := am_ (hbox);have n2_ := am_ ((by rw [hg];exact (below_size (z3_ HB.out)) : w.heap.size ≤ gb223));have n3_ := am_ ((by rw [hg];exact (below_size (z3_ HB.out)) : w.heap.size ≤ gb223));clear HB;have HB := n0_;have BK223 := n1_;have GW223 := n2_;have GE223 := n3_;clear n0_ n1_ n2_ n3_;clear hb hbox hg) | ((with_reducible refine gate_callee (f := 56) rfl ?_);refine goesL_ (some 20) rfl rfl Try.func56 (by kernel_rfl) rfl #[.int .i64 a0] rfl z5_ ?_;(with_reducible refine (shape_Of.calls a0 t224 t225 t226 t227 t228 t229 _ A3.out).mono ?_);rintro e w6 ⟨rfl, hb⟩;refine ⟨_, rfl, ?_⟩;have n0_ := am_ (blk_below (g := gb223) (z1_ BK223.out) hb);have n1_ := am_ (below_step (z3_ HB.out) hb);clear BK223;clear HB;have BK223 := n0_;have HB := n1_;clear n0_ n1_;(try clear hb);(try simp only [errW_none, errW_some])) | ((with_reducible refine gate_dst (N := 7) rfl ?_);refine box_event ?hg (N := 7) ?hd (cs := #[.int .i64 0,.int .u64 0,.int .u64 0,.int .u64 0,.int .i64 0]) (t := 98) ?hr ?_;(case hd => rfl);(case hg => rfl);(case hr => first | (go_simp;done) | (go_simp;rfl));intro gb230 hg w7 hbox hb;have n0_ := am_ (blk_below (g := gb223) (z1_ BK223.out) hb);have n1_ := am_ (below_step (z3_ HB.out) hb);have n2_ := am_ (hbox);have n3_ := am_ ((by rw [hg];exact (below_size (z3_ HB.out)) : w.heap.size ≤ gb230));have n4_ := am_ ((by rw [hg];exact (below_size (z3_ HB.out)) : w.heap.size ≤ gb230));have n5_ := am_ ((by rw [hg];exact Nat.ne_of_lt (blk_lt (g := gb223) (o := .cells #[.int .i64 a1_0,.bool a1_1,.int .i64 a1_2,.int .u64 a1_3,.int .u64 a1_4,.bool a1_5] 27 (0, 0)) (z1_ BK223.out)) : gb223 ≠ gb230));have n6_ := am_ ((by rw [hg];exact Nat.ne_of_gt (blk_lt (g := gb223) (o := .cells #[.int .i64 a1_0,.bool a1_1,.int .i64 a1_2,.int .u64 a1_3,.int .u64 a1_4,.bool a1_5] 27 (0, 0)) (z1_ BK223.out)) : gb230 ≠ gb223));clear BK223;clear HB;have BK223 := n0_;have HB := n1_;have BK230 := n2_;have GW230 := n3_;have GE230 := n4_;have NB223_230 := n5_;have NB230_223 := n6_;clear n0_ n1_ n2_ n3_ n4_ n5_ n6_;clear hb hbox hg;have hnb8 := NB230_223.out;have hnc8 := NB223_230.out;obtain ⟨hcz9_0, hcz9_1, hcz9_2, hcz9_3, hcz9_4, hfz9_0⟩ := zc5_ BK230.out))
 (try simp only [Act.put, List.setIfInBounds_toArray, List.set_cons_zero, List.set_cons_succ])
 go_cut [] (fun wc => ∃ (kq : Nat), Aside0 (round_Cut.j0 kq a0 a1_0 a1_1 a1_2 a1_3 a1_4 a1_5 = some (r1, r2, r3)) ∧ Aside0 (kq ≤ k) ∧ Aside0 (wc.heap[gb223]? = some (.cells #[.int .i64 a1_0,.bool a1_1,.int .i64 a1_2,.int .u64 a1_3,.int .u64 a1_4,.bool a1_5] 27 (0, 0))) ∧ Aside0 (wc.heap[gb230]? = some (.cells #[.int .i64 t224,.int .u64 t225,.int .u64 t226,.int .u64 t227,.int .i64 t228] 98 (0, 0))) ∧ Aside0 (Below w.heap.size w wc))
 case first =>
  have H := HC4.out
  clear HC4
  rcases t229 with _ | q231
  ·have H1 : ((round_sound.f k a1_0 a1_1 a1_2 a1_3 a1_4 a1_5).bind fun t232 => (if t232 = true then (if a1_0 = 0 then (some (0, 0, none)) else (if a1_0 = 2 then (some (t227, 0, none)) else (if a1_2 ≥ t228 then (some (t225, 0, none)) else (if a1_2 < (wrap64 (-t228)) then (some (t226, 0, none)) else (if a1_2 = (wrap64 (-t228)) then (if a1_3 = 9223372036854775808 then (if a1_4 = 0 then (if a1_5 = true then (round_Cut.j0 k a0 a1_0 a1_1 a1_2 a1_3 a1_4 a1_5) else (some (t226, 0, none))) else (round_Cut.j0 k a0 a1_0 a1_1 a1_2 a1_3 a1_4 a1_5)) else (round_Cut.j0 k a0 a1_0 a1_1 a1_2 a1_3 a1_4 a1_5)) else (round_Cut.j0 k a0 a1_0 a1_1 a1_2 a1_3 a1_4 a1_5)))))) else (some (0, 0, some 1)))) = some (r1, r2, r3) := by rw [if_pos (show (none : Option Int).isNone = true by rfl)] at H;exact H
   clear H
   have H := H1
   clear H1
   try simp only [errW_none, errW_some]
   replace H := Option.bind_eq_some_iff.mp H
   obtain ⟨t232, A100, H⟩ := H
   replace H : (if t232 = true then (if a1_0 = 0 then (some (0, 0, none)) else (if a1_0 = 2 then (some (t227, 0, none)) else (if a1_2 ≥ t228 then (some (t225, 0, none)) else (if a1_2 < (wrap64 (-t228)) then (some (t226, 0, none)) else (if a1_2 = (wrap64 (-t228)) then (if a1_3 = 9223372036854775808 then (if a1_4 = 0 then (if a1_5 = true then (round_Cut.j0 k a0 a1_0 a1_1 a1_2 a1_3 a1_4 a1_5) else (some (t226, 0, none))) else (round_Cut.j0 k a0 a1_0 a1_1 a1_2 a1_3 a1_4 a1_5)) else (round_Cut.j0 k a0 a1_0 a1_1 a1_2 a1_3 a1_4 a1_5)) else (round_Cut.j0 k a0 a1_0 a1_1 a1_2 a1_3 a1_4 a1_5)))))) else (some (0, 0, some 1))) = some (r1, r2, r3) := H
   have A10 := am_ A100
   clear A100
   by_cases c11 : t232 = true
   ·subst c11
    have H1 : (if a1_0 = 0 then (some (0, 0, none)) else (if a1_0 = 2 then (some (t227, 0, none)) else (if a1_2 ≥ t228 then (some (t225, 0, none)) else (if a1_2 < (wrap64 (-t228)) then (some (t226, 0, none)) else (if a1_2 = (wrap64 (-t228)) then (if a1_3 = 9223372036854775808 then (if a1_4 = 0 then (if a1_5 = true then (round_Cut.j0 k a0 a1_0 a1_1 a1_2 a1_3 a1_4 a1_5) else (some (t226, 0, none))) else (round_Cut.j0 k a0 a1_0 a1_1 a1_2 a1_3 a1_4 a1_5)) else (round_Cut.j0 k a0 a1_0 a1_1 a1_2 a1_3 a1_4 a1_5)) else (round_Cut.j0 k a0 a1_0 a1_1 a1_2 a1_3 a1_4 a1_5)))))) = some (r1, r2, r3) := by rw [if_pos rfl] at H;exact H
    clear H
    have H := H1
    clear H1
    by_cases c12 : a1_0 = 0
    ·rw [if_pos c12] at H
     have c12b0 : (a1_0 == 0) = true := beq_iff_eq.mpr c12
     have c12b1 : (a1_0 != 0) = false := bne_eq_false_iff_eq.mpr c12
     clear c12
     (first | rw [c12b0] | (simp only [i64_w, i32_w];rw [c12b0]) | skip)
     simp only [Option.some.injEq, Prod.mk.injEq] at H
     obtain ⟨rfl, rfl, rfl⟩ := H
     have hnb13 := NB223_230.out
     have hnc13 := NB230_223.out
     obtain ⟨hcz14_0, hcz14_1, hcz14_2, hcz14_3, hcz14_4, hcz14_5, hfz14_0⟩ := zc6_ BK223.out
     go_wp2_with (first | ((with_reducible refine gate_callee (f := 36) rfl ?_);refine goesL_ (some 29) rfl rfl Try.func36 (by kernel_rfl) rfl #[.agg #[.int .i64 a1_0,.bool a1_1,.int .i64 a1_2,.int .u64 a1_3,.int .u64 a1_4,.bool a1_5]] rfl z5_ ?_;(with_reducible refine (round_sound.calls k a1_0 a1_1 a1_2 a1_3 a1_4 a1_5 true _ A10.out).mono ?_);rintro e w15 ⟨rfl, hb⟩;refine ⟨_, rfl, ?_⟩;have n0_ := am_ (blk_below (g := gb223) (o := .cells #[.int .i64 a1_0,.bool a1_1,.int .i64 a1_2,.int .u64 a1_3,.int .u64 a1_4,.bool a1_5] 27 (0, 0)) (by refine z2_ ?_;refine blk_far ?_ NB223_230.out _;refine z2_ ?_;refine blk_far ?_ NB223_230.out _;refine z2_ ?_;refine blk_far ?_ NB223_230.out _;refine z2_ ?_;refine blk_far ?_ NB223_230.out _;refine z2_ ?_;refine blk_far ?_ NB223_230.out _;refine z2_ ?_;exact BK223.out) hb);have n1_ := am_ (blk_below (g := gb230) (o := .cells #[.int .i64 t224,.int .u64 t225,.int .u64 t226,.int .u64 t227,.int .i64 t228] 98 (0, 0)) (by refine z2_ ?_;refine blk_put (cs := #[.int .i64 t224,.int .u64 t225,.int .u64 t226,.int .u64 t227,.int .i64 0]) ?_ 4 _ rfl;refine z2_ ?_;refine blk_put (cs := #[.int .i64 t224,.int .u64 t225,.int .u64 t226,.int .u64 0,.int .i64 0]) ?_ 3 _ rfl;refine z2_ ?_;refine blk_put (cs := #[.int .i64 t224,.int .u64 t225,.int .u64 0,.int .u64 0,.int .i64 0]) ?_ 2 _ rfl;refine z2_ ?_;refine blk_put (cs := #[.int .i64 t224,.int .u64 0,.int .u64 0,.int .u64 0,.int .i64 0]) ?_ 1 _ rfl;refine z2_ ?_;refine blk_put (cs := #[.int .i64 0,.int .u64 0,.int .u64 0,.int .u64 0,.int .i64 0]) ?_ 0 _ rfl;refine z2_ ?_;exact BK230.out) hb);have n2_ := am_ (below_step (z3_ HB.out) hb);clear BK223;clear BK230;clear HB;have BK223 := n0_;have BK230 := n1_;have HB := n2_;clear n0_ n1_ n2_;(try clear hb);obtain ⟨hcz16_0, hcz16_1, hcz16_2, hcz16_3, hcz16_4, hcz16_5, hfz16_0⟩ := zc6_ BK223.out))
     go_ret3
     exact ⟨z6_, z3_ HB.out⟩
    ·rw [if_neg c12] at H
     have c12b0 : (a1_0 == 0) = false := beq_eq_false_iff_ne.mpr c12
     have c12b1 : (a1_0 != 0) = true := bne_iff_ne.mpr c12
     (first | rw [c12b0] | (simp only [i64_w, i32_w];rw [c12b0]) | skip)
     by_cases c17 : a1_0 = 2
     ·rw [if_pos c17] at H
      have c17b0 : (a1_0 == 2) = true := beq_iff_eq.mpr c17
      have c17b1 : (a1_0 != 2) = false := bne_eq_false_iff_eq.mpr c17
      clear c17
      simp only [Option.some.injEq, Prod.mk.injEq] at H
      obtain ⟨rfl, rfl, rfl⟩ := H
      have hnb18 := NB223_230.out
      have hnc18 := NB230_223.out
      obtain ⟨hcz19_0, hcz19_1, hcz19_2, hcz19_3, hcz19_4, hcz19_5, hfz19_0⟩ := zc6_ BK223.out
      go_wp2_with (first | ((with_reducible refine gate_callee (f := 36) rfl ?_);refine goesL_ (some 29) rfl rfl Try.func36 (by kernel_rfl) rfl #[.agg #[.int .i64 a1_0,.bool a1_1,.int .i64 a1_2,.int .u64 a1_3,.int .u64 a1_4,.bool a1_5]] rfl z5_ ?_;(with_reducible refine (round_sound.calls k a1_0 a1_1 a1_2 a1_3 a1_4 a1_5 true _ A10.out).mono ?_);rintro e w20 ⟨rfl, hb⟩;refine ⟨_, rfl, ?_⟩;have n0_ := am_ (blk_below (g := gb223) (o := .cells #[.int .i64 a1_0,.bool a1_1,.int .i64 a1_2,.int .u64 a1_3,.int .u64 a1_4,.bool a1_5] 27 (0, 0)) (by refine z2_ ?_;refine blk_far ?_ NB223_230.out _;refine z2_ ?_;refine blk_far ?_ NB223_230.out _;refine z2_ ?_;refine blk_far ?_ NB223_230.out _;refine z2_ ?_;refine blk_far ?_ NB223_230.out _;refine z2_ ?_;refine blk_far ?_ NB223_230.out _;refine z2_ ?_;exact BK223.out) hb);have n1_ := am_ (blk_below (g := gb230) (o := .cells #[.int .i64 t224,.int .u64 t225,.int .u64 t226,.int .u64 t227,.int .i64 t228] 98 (0, 0)) (by refine z2_ ?_;refine blk_put (cs := #[.int .i64 t224,.int .u64 t225,.int .u64 t226,.int .u64 t227,.int .i64 0]) ?_ 4 _ rfl;refine z2_ ?_;refine blk_put (cs := #[.int .i64 t224,.int .u64 t225,.int .u64 t226,.int .u64 0,.int .i64 0]) ?_ 3 _ rfl;refine z2_ ?_;refine blk_put (cs := #[.int .i64 t224,.int .u64 t225,.int .u64 0,.int .u64 0,.int .i64 0]) ?_ 2 _ rfl;refine z2_ ?_;refine blk_put (cs := #[.int .i64 t224,.int .u64 0,.int .u64 0,.int .u64 0,.int .i64 0]) ?_ 1 _ rfl;refine z2_ ?_;refine blk_put (cs := #[.int .i64 0,.int .u64 0,.int .u64 0,.int .u64 0,.int .i64 0]) ?_ 0 _ rfl;refine z2_ ?_;exact BK230.out) hb);have n2_ := am_ (below_step (z3_ HB.out) hb);clear BK223;clear BK230;clear HB;have BK223 := n0_;have BK230 := n1_;have HB := n2_;clear n0_ n1_ n2_;(try clear hb);obtain ⟨hcz21_0, hcz21_1, hcz21_2, hcz21_3, hcz21_4, hcz21_5, hfz21_0⟩ := zc6_ BK223.out;obtain ⟨hcz22_0, hcz22_1, hcz22_2, hcz22_3, hcz22_4, hfz22_0⟩ := zc5_ BK230.out))
      go_ret3
      exact ⟨z6_, z3_ HB.out⟩
     ·rw [if_neg c17] at H
      have c17b0 : (a1_0 == 2) = false := beq_eq_false_iff_ne.mpr c17
      have c17b1 : (a1_0 != 2) = true := bne_iff_ne.mpr c17
      by_cases c23 : a1_2 ≥ t228
      ·rw [if_pos c23] at H
       have c23b0 : decide (t228 ≤ a1_2) = true := decide_eq_true c23
       clear c23
       simp only [Option.some.injEq, Prod.mk.injEq] at H
       obtain ⟨rfl, rfl, rfl⟩ := H
       have hnb24 := NB223_230.out
       have hnc24 := NB230_223.out
       obtain ⟨hcz25_0, hcz25_1, hcz25_2, hcz25_3, hcz25_4, hcz25_5, hfz25_0⟩ := zc6_ BK223.out
       go_wp2_with (first | ((with_reducible refine gate_callee (f := 36) rfl ?_);refine goesL_ (some 29) rfl rfl Try.func36 (by kernel_rfl) rfl #[.agg #[.int .i64 a1_0,.bool a1_1,.int .i64 a1_2,.int .u64 a1_3,.int .u64 a1_4,.bool a1_5]] rfl z5_ ?_;(with_reducible refine (round_sound.calls k a1_0 a1_1 a1_2 a1_3 a1_4 a1_5 true _ A10.out).mono ?_);rintro e w26 ⟨rfl, hb⟩;refine ⟨_, rfl, ?_⟩;have n0_ := am_ (blk_below (g := gb223) (o := .cells #[.int .i64 a1_0,.bool a1_1,.int .i64 a1_2,.int .u64 a1_3,.int .u64 a1_4,.bool a1_5] 27 (0, 0)) (by refine z2_ ?_;refine blk_far ?_ NB223_230.out _;refine z2_ ?_;refine blk_far ?_ NB223_230.out _;refine z2_ ?_;refine blk_far ?_ NB223_230.out _;refine z2_ ?_;refine blk_far ?_ NB223_230.out _;refine z2_ ?_;refine blk_far ?_ NB223_230.out _;refine z2_ ?_;exact BK223.out) hb);have n1_ := am_ (blk_below (g := gb230) (o := .cells #[.int .i64 t224,.int .u64 t225,.int .u64 t226,.int .u64 t227,.int .i64 t228] 98 (0, 0)) (by refine z2_ ?_;refine blk_put (cs := #[.int .i64 t224,.int .u64 t225,.int .u64 t226,.int .u64 t227,.int .i64 0]) ?_ 4 _ rfl;refine z2_ ?_;refine blk_put (cs := #[.int .i64 t224,.int .u64 t225,.int .u64 t226,.int .u64 0,.int .i64 0]) ?_ 3 _ rfl;refine z2_ ?_;refine blk_put (cs := #[.int .i64 t224,.int .u64 t225,.int .u64 0,.int .u64 0,.int .i64 0]) ?_ 2 _ rfl;refine z2_ ?_;refine blk_put (cs := #[.int .i64 t224,.int .u64 0,.int .u64 0,.int .u64 0,.int .i64 0]) ?_ 1 _ rfl;refine z2_ ?_;refine blk_put (cs := #[.int .i64 0,.int .u64 0,.int .u64 0,.int .u64 0,.int .i64 0]) ?_ 0 _ rfl;refine z2_ ?_;exact BK230.out) hb);have n2_ := am_ (below_step (z3_ HB.out) hb);clear BK223;clear BK230;clear HB;have BK223 := n0_;have BK230 := n1_;have HB := n2_;clear n0_ n1_ n2_;(try clear hb);obtain ⟨hcz27_0, hcz27_1, hcz27_2, hcz27_3, hcz27_4, hcz27_5, hfz27_0⟩ := zc6_ BK223.out;obtain ⟨hcz28_0, hcz28_1, hcz28_2, hcz28_3, hcz28_4, hfz28_0⟩ := zc5_ BK230.out))
       go_ret3
       exact ⟨z6_, z3_ HB.out⟩
      ·rw [if_neg c23] at H
       have c23b0 : decide (t228 ≤ a1_2) = false := decide_eq_false c23
       clear c23
       by_cases c29 : a1_2 < (wrap64 (-t228))
       ·rw [if_pos c29] at H
        have c29b0 : decide (a1_2 < (wrap64 (-t228))) = true := decide_eq_true c29
        clear c29
        simp only [Option.some.injEq, Prod.mk.injEq] at H
        obtain ⟨rfl, rfl, rfl⟩ := H
        have hnb30 := NB223_230.out
        have hnc30 := NB230_223.out
        obtain ⟨hcz31_0, hcz31_1, hcz31_2, hcz31_3, hcz31_4, hcz31_5, hfz31_0⟩ := zc6_ BK223.out
        go_wp2_with (first | ((with_reducible refine gate_callee (f := 36) rfl ?_);refine goesL_ (some 29) rfl rfl Try.func36 (by kernel_rfl) rfl #[.agg #[.int .i64 a1_0,.bool a1_1,.int .i64 a1_2,.int .u64 a1_3,.int .u64 a1_4,.bool a1_5]] rfl z5_ ?_;(with_reducible refine (round_sound.calls k a1_0 a1_1 a1_2 a1_3 a1_4 a1_5 true _ A10.out).mono ?_);rintro e w32 ⟨rfl, hb⟩;refine ⟨_, rfl, ?_⟩;have n0_ := am_ (blk_below (g := gb223) (o := .cells #[.int .i64 a1_0,.bool a1_1,.int .i64 a1_2,.int .u64 a1_3,.int .u64 a1_4,.bool a1_5] 27 (0, 0)) (by refine z2_ ?_;refine blk_far ?_ NB223_230.out _;refine z2_ ?_;refine blk_far ?_ NB223_230.out _;refine z2_ ?_;refine blk_far ?_ NB223_230.out _;refine z2_ ?_;refine blk_far ?_ NB223_230.out _;refine z2_ ?_;refine blk_far ?_ NB223_230.out _;refine z2_ ?_;exact BK223.out) hb);have n1_ := am_ (blk_below (g := gb230) (o := .cells #[.int .i64 t224,.int .u64 t225,.int .u64 t226,.int .u64 t227,.int .i64 t228] 98 (0, 0)) (by refine z2_ ?_;refine blk_put (cs := #[.int .i64 t224,.int .u64 t225,.int .u64 t226,.int .u64 t227,.int .i64 0]) ?_ 4 _ rfl;refine z2_ ?_;refine blk_put (cs := #[.int .i64 t224,.int .u64 t225,.int .u64 t226,.int .u64 0,.int .i64 0]) ?_ 3 _ rfl;refine z2_ ?_;refine blk_put (cs := #[.int .i64 t224,.int .u64 t225,.int .u64 0,.int .u64 0,.int .i64 0]) ?_ 2 _ rfl;refine z2_ ?_;refine blk_put (cs := #[.int .i64 t224,.int .u64 0,.int .u64 0,.int .u64 0,.int .i64 0]) ?_ 1 _ rfl;refine z2_ ?_;refine blk_put (cs := #[.int .i64 0,.int .u64 0,.int .u64 0,.int .u64 0,.int .i64 0]) ?_ 0 _ rfl;refine z2_ ?_;exact BK230.out) hb);have n2_ := am_ (below_step (z3_ HB.out) hb);clear BK223;clear BK230;clear HB;have BK223 := n0_;have BK230 := n1_;have HB := n2_;clear n0_ n1_ n2_;(try clear hb);obtain ⟨hcz33_0, hcz33_1, hcz33_2, hcz33_3, hcz33_4, hcz33_5, hfz33_0⟩ := zc6_ BK223.out;obtain ⟨hcz34_0, hcz34_1, hcz34_2, hcz34_3, hcz34_4, hfz34_0⟩ := zc5_ BK230.out))
        go_ret3
        exact ⟨z6_, z3_ HB.out⟩
       ·rw [if_neg c29] at H
        have c29b0 : decide (a1_2 < (wrap64 (-t228))) = false := decide_eq_false c29
        clear c29
        by_cases c35 : a1_2 = (wrap64 (-t228))
        ·rw [if_pos c35] at H
         have c35b0 : (a1_2 == (wrap64 (-t228))) = true := beq_iff_eq.mpr c35
         have c35b1 : (a1_2 != (wrap64 (-t228))) = false := bne_eq_false_iff_eq.mpr c35
         clear c35
         by_cases c36 : a1_3 = 9223372036854775808
         ·rw [if_pos c36] at H
          have c36b0 : (a1_3 == 9223372036854775808) = true := beq_iff_eq.mpr c36
          have c36b1 : (a1_3 != 9223372036854775808) = false := bne_eq_false_iff_eq.mpr c36
          clear c36
          by_cases c37 : a1_4 = 0
          ·rw [if_pos c37] at H
           have c37b0 : (a1_4 == 0) = true := beq_iff_eq.mpr c37
           have c37b1 : (a1_4 != 0) = false := bne_eq_false_iff_eq.mpr c37
           clear c37
           by_cases c38 : a1_5 = true
           ·subst c38
            have H1 : (round_Cut.j0 k a0 a1_0 a1_1 a1_2 a1_3 a1_4 true) = some (r1, r2, r3) := by rw [if_pos rfl] at H;exact H
            clear H
            have H := H1
            clear H1
            have H' := am_ H
            clear H
            have hnb39 := NB223_230.out
            have hnc39 := NB230_223.out
            obtain ⟨hcz40_0, hcz40_1, hcz40_2, hcz40_3, hcz40_4, hcz40_5, hfz40_0⟩ := zc6_ BK223.out
            go_wp2_with (first | ((with_reducible refine gate_callee (f := 36) rfl ?_);refine goesL_ (some 29) rfl rfl Try.func36 (by kernel_rfl) rfl #[.agg #[.int .i64 a1_0,.bool a1_1,.int .i64 a1_2,.int .u64 a1_3,.int .u64 a1_4,.bool true]] rfl z5_ ?_;(with_reducible refine (round_sound.calls k a1_0 a1_1 a1_2 a1_3 a1_4 true true _ A10.out).mono ?_);rintro e w41 ⟨rfl, hb⟩;refine ⟨_, rfl, ?_⟩;have n0_ := am_ (blk_below (g := gb223) (o := .cells #[.int .i64 a1_0,.bool a1_1,.int .i64 a1_2,.int .u64 a1_3,.int .u64 a1_4,.bool true] 27 (0, 0)) (by refine z2_ ?_;refine blk_far ?_ NB223_230.out _;refine z2_ ?_;refine blk_far ?_ NB223_230.out _;refine z2_ ?_;refine blk_far ?_ NB223_230.out _;refine z2_ ?_;refine blk_far ?_ NB223_230.out _;refine z2_ ?_;refine blk_far ?_ NB223_230.out _;refine z2_ ?_;exact BK223.out) hb);have n1_ := am_ (blk_below (g := gb230) (o := .cells #[.int .i64 t224,.int .u64 t225,.int .u64 t226,.int .u64 t227,.int .i64 t228] 98 (0, 0)) (by refine z2_ ?_;refine blk_put (cs := #[.int .i64 t224,.int .u64 t225,.int .u64 t226,.int .u64 t227,.int .i64 0]) ?_ 4 _ rfl;refine z2_ ?_;refine blk_put (cs := #[.int .i64 t224,.int .u64 t225,.int .u64 t226,.int .u64 0,.int .i64 0]) ?_ 3 _ rfl;refine z2_ ?_;refine blk_put (cs := #[.int .i64 t224,.int .u64 t225,.int .u64 0,.int .u64 0,.int .i64 0]) ?_ 2 _ rfl;refine z2_ ?_;refine blk_put (cs := #[.int .i64 t224,.int .u64 0,.int .u64 0,.int .u64 0,.int .i64 0]) ?_ 1 _ rfl;refine z2_ ?_;refine blk_put (cs := #[.int .i64 0,.int .u64 0,.int .u64 0,.int .u64 0,.int .i64 0]) ?_ 0 _ rfl;refine z2_ ?_;exact BK230.out) hb);have n2_ := am_ (below_step (z3_ HB.out) hb);clear BK223;clear BK230;clear HB;have BK223 := n0_;have BK230 := n1_;have HB := n2_;clear n0_ n1_ n2_;(try clear hb);obtain ⟨hcz42_0, hcz42_1, hcz42_2, hcz42_3, hcz42_4, hcz42_5, hfz42_0⟩ := zc6_ BK223.out;obtain ⟨hcz43_0, hcz43_1, hcz43_2, hcz43_3, hcz43_4, hfz43_0⟩ := zc5_ BK230.out))
            go_meet
            case rel => exact ⟨_, H', ⟨by first | omega | exact Nat.le_refl _⟩, ⟨by refine z2_ ?_;exact BK223.out⟩, ⟨by refine z2_ ?_;exact BK230.out⟩, ⟨z3_ HB.out⟩⟩
           ·replace c38 := Bool.eq_false_iff.mpr c38
            subst c38
            have H1 : (some (t226, 0, none)) = some (r1, r2, r3) := by rw [if_neg (show ¬ (false = true) by decide)] at H;exact H
            clear H
            have H := H1
            clear H1
            simp only [Option.some.injEq, Prod.mk.injEq] at H
            obtain ⟨rfl, rfl, rfl⟩ := H
            have hnb44 := NB223_230.out
            have hnc44 := NB230_223.out
            obtain ⟨hcz45_0, hcz45_1, hcz45_2, hcz45_3, hcz45_4, hcz45_5, hfz45_0⟩ := zc6_ BK223.out
            go_wp2_with (first | ((with_reducible refine gate_callee (f := 36) rfl ?_);refine goesL_ (some 29) rfl rfl Try.func36 (by kernel_rfl) rfl #[.agg #[.int .i64 a1_0,.bool a1_1,.int .i64 a1_2,.int .u64 a1_3,.int .u64 a1_4,.bool false]] rfl z5_ ?_;(with_reducible refine (round_sound.calls k a1_0 a1_1 a1_2 a1_3 a1_4 false true _ A10.out).mono ?_);rintro e w46 ⟨rfl, hb⟩;refine ⟨_, rfl, ?_⟩;have n0_ := am_ (blk_below (g := gb223) (o := .cells #[.int .i64 a1_0,.bool a1_1,.int .i64 a1_2,.int .u64 a1_3,.int .u64 a1_4,.bool false] 27 (0, 0)) (by refine z2_ ?_;refine blk_far ?_ NB223_230.out _;refine z2_ ?_;refine blk_far ?_ NB223_230.out _;refine z2_ ?_;refine blk_far ?_ NB223_230.out _;refine z2_ ?_;refine blk_far ?_ NB223_230.out _;refine z2_ ?_;refine blk_far ?_ NB223_230.out _;refine z2_ ?_;exact BK223.out) hb);have n1_ := am_ (blk_below (g := gb230) (o := .cells #[.int .i64 t224,.int .u64 t225,.int .u64 t226,.int .u64 t227,.int .i64 t228] 98 (0, 0)) (by refine z2_ ?_;refine blk_put (cs := #[.int .i64 t224,.int .u64 t225,.int .u64 t226,.int .u64 t227,.int .i64 0]) ?_ 4 _ rfl;refine z2_ ?_;refine blk_put (cs := #[.int .i64 t224,.int .u64 t225,.int .u64 t226,.int .u64 0,.int .i64 0]) ?_ 3 _ rfl;refine z2_ ?_;refine blk_put (cs := #[.int .i64 t224,.int .u64 t225,.int .u64 0,.int .u64 0,.int .i64 0]) ?_ 2 _ rfl;refine z2_ ?_;refine blk_put (cs := #[.int .i64 t224,.int .u64 0,.int .u64 0,.int .u64 0,.int .i64 0]) ?_ 1 _ rfl;refine z2_ ?_;refine blk_put (cs := #[.int .i64 0,.int .u64 0,.int .u64 0,.int .u64 0,.int .i64 0]) ?_ 0 _ rfl;refine z2_ ?_;exact BK230.out) hb);have n2_ := am_ (below_step (z3_ HB.out) hb);clear BK223;clear BK230;clear HB;have BK223 := n0_;have BK230 := n1_;have HB := n2_;clear n0_ n1_ n2_;(try clear hb);obtain ⟨hcz47_0, hcz47_1, hcz47_2, hcz47_3, hcz47_4, hcz47_5, hfz47_0⟩ := zc6_ BK223.out;obtain ⟨hcz48_0, hcz48_1, hcz48_2, hcz48_3, hcz48_4, hfz48_0⟩ := zc5_ BK230.out))
            go_ret3
            exact ⟨z6_, z3_ HB.out⟩
          ·rw [if_neg c37] at H
           have c37b0 : (a1_4 == 0) = false := beq_eq_false_iff_ne.mpr c37
           have c37b1 : (a1_4 != 0) = true := bne_iff_ne.mpr c37
           have H' := am_ H
           clear H
           have hnb49 := NB223_230.out
           have hnc49 := NB230_223.out
           obtain ⟨hcz50_0, hcz50_1, hcz50_2, hcz50_3, hcz50_4, hcz50_5, hfz50_0⟩ := zc6_ BK223.out
           go_wp2_with (first | ((with_reducible refine gate_callee (f := 36) rfl ?_);refine goesL_ (some 29) rfl rfl Try.func36 (by kernel_rfl) rfl #[.agg #[.int .i64 a1_0,.bool a1_1,.int .i64 a1_2,.int .u64 a1_3,.int .u64 a1_4,.bool a1_5]] rfl z5_ ?_;(with_reducible refine (round_sound.calls k a1_0 a1_1 a1_2 a1_3 a1_4 a1_5 true _ A10.out).mono ?_);rintro e w51 ⟨rfl, hb⟩;refine ⟨_, rfl, ?_⟩;have n0_ := am_ (blk_below (g := gb223) (o := .cells #[.int .i64 a1_0,.bool a1_1,.int .i64 a1_2,.int .u64 a1_3,.int .u64 a1_4,.bool a1_5] 27 (0, 0)) (by refine z2_ ?_;refine blk_far ?_ NB223_230.out _;refine z2_ ?_;refine blk_far ?_ NB223_230.out _;refine z2_ ?_;refine blk_far ?_ NB223_230.out _;refine z2_ ?_;refine blk_far ?_ NB223_230.out _;refine z2_ ?_;refine blk_far ?_ NB223_230.out _;refine z2_ ?_;exact BK223.out) hb);have n1_ := am_ (blk_below (g := gb230) (o := .cells #[.int .i64 t224,.int .u64 t225,.int .u64 t226,.int .u64 t227,.int .i64 t228] 98 (0, 0)) (by refine z2_ ?_;refine blk_put (cs := #[.int .i64 t224,.int .u64 t225,.int .u64 t226,.int .u64 t227,.int .i64 0]) ?_ 4 _ rfl;refine z2_ ?_;refine blk_put (cs := #[.int .i64 t224,.int .u64 t225,.int .u64 t226,.int .u64 0,.int .i64 0]) ?_ 3 _ rfl;refine z2_ ?_;refine blk_put (cs := #[.int .i64 t224,.int .u64 t225,.int .u64 0,.int .u64 0,.int .i64 0]) ?_ 2 _ rfl;refine z2_ ?_;refine blk_put (cs := #[.int .i64 t224,.int .u64 0,.int .u64 0,.int .u64 0,.int .i64 0]) ?_ 1 _ rfl;refine z2_ ?_;refine blk_put (cs := #[.int .i64 0,.int .u64 0,.int .u64 0,.int .u64 0,.int .i64 0]) ?_ 0 _ rfl;refine z2_ ?_;exact BK230.out) hb);have n2_ := am_ (below_step (z3_ HB.out) hb);clear BK223;clear BK230;clear HB;have BK223 := n0_;have BK230 := n1_;have HB := n2_;clear n0_ n1_ n2_;(try clear hb);obtain ⟨hcz52_0, hcz52_1, hcz52_2, hcz52_3, hcz52_4, hcz52_5, hfz52_0⟩ := zc6_ BK223.out;obtain ⟨hcz53_0, hcz53_1, hcz53_2, hcz53_3, hcz53_4, hfz53_0⟩ := zc5_ BK230.out))
           go_meet
           case rel => exact ⟨_, H', ⟨by first | omega | exact Nat.le_refl _⟩, ⟨by refine z2_ ?_;exact BK223.out⟩, ⟨by refine z2_ ?_;exact BK230.out⟩, ⟨z3_ HB.out⟩⟩
         ·rw [if_neg c36] at H
          have c36b0 : (a1_3 == 9223372036854775808) = false := beq_eq_false_iff_ne.mpr c36
          have c36b1 : (a1_3 != 9223372036854775808) = true := bne_iff_ne.mpr c36
          have H' := am_ H
          clear H
          have hnb54 := NB223_230.out
          have hnc54 := NB230_223.out
          obtain ⟨hcz55_0, hcz55_1, hcz55_2, hcz55_3, hcz55_4, hcz55_5, hfz55_0⟩ := zc6_ BK223.out
          go_wp2_with (first | ((with_reducible refine gate_callee (f := 36) rfl ?_);refine goesL_ (some 29) rfl rfl Try.func36 (by kernel_rfl) rfl #[.agg #[.int .i64 a1_0,.bool a1_1,.int .i64 a1_2,.int .u64 a1_3,.int .u64 a1_4,.bool a1_5]] rfl z5_ ?_;(with_reducible refine (round_sound.calls k a1_0 a1_1 a1_2 a1_3 a1_4 a1_5 true _ A10.out).mono ?_);rintro e w56 ⟨rfl, hb⟩;refine ⟨_, rfl, ?_⟩;have n0_ := am_ (blk_below (g := gb223) (o := .cells #[.int .i64 a1_0,.bool a1_1,.int .i64 a1_2,.int .u64 a1_3,.int .u64 a1_4,.bool a1_5] 27 (0, 0)) (by refine z2_ ?_;refine blk_far ?_ NB223_230.out _;refine z2_ ?_;refine blk_far ?_ NB223_230.out _;refine z2_ ?_;refine blk_far ?_ NB223_230.out _;refine z2_ ?_;refine blk_far ?_ NB223_230.out _;refine z2_ ?_;refine blk_far ?_ NB223_230.out _;refine z2_ ?_;exact BK223.out) hb);have n1_ := am_ (blk_below (g := gb230) (o := .cells #[.int .i64 t224,.int .u64 t225,.int .u64 t226,.int .u64 t227,.int .i64 t228] 98 (0, 0)) (by refine z2_ ?_;refine blk_put (cs := #[.int .i64 t224,.int .u64 t225,.int .u64 t226,.int .u64 t227,.int .i64 0]) ?_ 4 _ rfl;refine z2_ ?_;refine blk_put (cs := #[.int .i64 t224,.int .u64 t225,.int .u64 t226,.int .u64 0,.int .i64 0]) ?_ 3 _ rfl;refine z2_ ?_;refine blk_put (cs := #[.int .i64 t224,.int .u64 t225,.int .u64 0,.int .u64 0,.int .i64 0]) ?_ 2 _ rfl;refine z2_ ?_;refine blk_put (cs := #[.int .i64 t224,.int .u64 0,.int .u64 0,.int .u64 0,.int .i64 0]) ?_ 1 _ rfl;refine z2_ ?_;refine blk_put (cs := #[.int .i64 0,.int .u64 0,.int .u64 0,.int .u64 0,.int .i64 0]) ?_ 0 _ rfl;refine z2_ ?_;exact BK230.out) hb);have n2_ := am_ (below_step (z3_ HB.out) hb);clear BK223;clear BK230;clear HB;have BK223 := n0_;have BK230 := n1_;have HB := n2_;clear n0_ n1_ n2_;(try clear hb);obtain ⟨hcz57_0, hcz57_1, hcz57_2, hcz57_3, hcz57_4, hcz57_5, hfz57_0⟩ := zc6_ BK223.out;obtain ⟨hcz58_0, hcz58_1, hcz58_2, hcz58_3, hcz58_4, hfz58_0⟩ := zc5_ BK230.out))
          go_meet
          case rel => exact ⟨_, H', ⟨by first | omega | exact Nat.le_refl _⟩, ⟨by refine z2_ ?_;exact BK223.out⟩, ⟨by refine z2_ ?_;exact BK230.out⟩, ⟨z3_ HB.out⟩⟩
        ·rw [if_neg c35] at H
         have c35b0 : (a1_2 == (wrap64 (-t228))) = false := beq_eq_false_iff_ne.mpr c35
         have c35b1 : (a1_2 != (wrap64 (-t228))) = true := bne_iff_ne.mpr c35
         have H' := am_ H
         clear H
         have hnb59 := NB223_230.out
         have hnc59 := NB230_223.out
         obtain ⟨hcz60_0, hcz60_1, hcz60_2, hcz60_3, hcz60_4, hcz60_5, hfz60_0⟩ := zc6_ BK223.out
         go_wp2_with (first | ((with_reducible refine gate_callee (f := 36) rfl ?_);refine goesL_ (some 29) rfl rfl Try.func36 (by kernel_rfl) rfl #[.agg #[.int .i64 a1_0,.bool a1_1,.int .i64 a1_2,.int .u64 a1_3,.int .u64 a1_4,.bool a1_5]] rfl z5_ ?_;(with_reducible refine (round_sound.calls k a1_0 a1_1 a1_2 a1_3 a1_4 a1_5 true _ A10.out).mono ?_);rintro e w61 ⟨rfl, hb⟩;refine ⟨_, rfl, ?_⟩;have n0_ := am_ (blk_below (g := gb223) (o := .cells #[.int .i64 a1_0,.bool a1_1,.int .i64 a1_2,.int .u64 a1_3,.int .u64 a1_4,.bool a1_5] 27 (0, 0)) (by refine z2_ ?_;refine blk_far ?_ NB223_230.out _;refine z2_ ?_;refine blk_far ?_ NB223_230.out _;refine z2_ ?_;refine blk_far ?_ NB223_230.out _;refine z2_ ?_;refine blk_far ?_ NB223_230.out _;refine z2_ ?_;refine blk_far ?_ NB223_230.out _;refine z2_ ?_;exact BK223.out) hb);have n1_ := am_ (blk_below (g := gb230) (o := .cells #[.int .i64 t224,.int .u64 t225,.int .u64 t226,.int .u64 t227,.int .i64 t228] 98 (0, 0)) (by refine z2_ ?_;refine blk_put (cs := #[.int .i64 t224,.int .u64 t225,.int .u64 t226,.int .u64 t227,.int .i64 0]) ?_ 4 _ rfl;refine z2_ ?_;refine blk_put (cs := #[.int .i64 t224,.int .u64 t225,.int .u64 t226,.int .u64 0,.int .i64 0]) ?_ 3 _ rfl;refine z2_ ?_;refine blk_put (cs := #[.int .i64 t224,.int .u64 t225,.int .u64 0,.int .u64 0,.int .i64 0]) ?_ 2 _ rfl;refine z2_ ?_;refine blk_put (cs := #[.int .i64 t224,.int .u64 0,.int .u64 0,.int .u64 0,.int .i64 0]) ?_ 1 _ rfl;refine z2_ ?_;refine blk_put (cs := #[.int .i64 0,.int .u64 0,.int .u64 0,.int .u64 0,.int .i64 0]) ?_ 0 _ rfl;refine z2_ ?_;exact BK230.out) hb);have n2_ := am_ (below_step (z3_ HB.out) hb);clear BK223;clear BK230;clear HB;have BK223 := n0_;have BK230 := n1_;have HB := n2_;clear n0_ n1_ n2_;(try clear hb);obtain ⟨hcz62_0, hcz62_1, hcz62_2, hcz62_3, hcz62_4, hcz62_5, hfz62_0⟩ := zc6_ BK223.out;obtain ⟨hcz63_0, hcz63_1, hcz63_2, hcz63_3, hcz63_4, hfz63_0⟩ := zc5_ BK230.out))
         go_meet
         case rel => exact ⟨_, H', ⟨by first | omega | exact Nat.le_refl _⟩, ⟨by refine z2_ ?_;exact BK223.out⟩, ⟨by refine z2_ ?_;exact BK230.out⟩, ⟨z3_ HB.out⟩⟩
   ·replace c11 := Bool.eq_false_iff.mpr c11
    subst c11
    have H1 : (some (0, 0, some 1)) = some (r1, r2, r3) := by rw [if_neg (show ¬ (false = true) by decide)] at H;exact H
    clear H
    have H := H1
    clear H1
    simp only [Option.some.injEq, Prod.mk.injEq] at H
    obtain ⟨rfl, rfl, rfl⟩ := H
    have hnb64 := NB223_230.out
    have hnc64 := NB230_223.out
    obtain ⟨hcz65_0, hcz65_1, hcz65_2, hcz65_3, hcz65_4, hcz65_5, hfz65_0⟩ := zc6_ BK223.out
    go_wp2_with (first | ((with_reducible refine gate_callee (f := 36) rfl ?_);refine goesL_ (some 29) rfl rfl Try.func36 (by kernel_rfl) rfl #[.agg #[.int .i64 a1_0,.bool a1_1,.int .i64 a1_2,.int .u64 a1_3,.int .u64 a1_4,.bool a1_5]] rfl z5_ ?_;(with_reducible refine (round_sound.calls k a1_0 a1_1 a1_2 a1_3 a1_4 a1_5 false _ A10.out).mono ?_);rintro e w66 ⟨rfl, hb⟩;refine ⟨_, rfl, ?_⟩;have n0_ := am_ (blk_below (g := gb223) (o := .cells #[.int .i64 a1_0,.bool a1_1,.int .i64 a1_2,.int .u64 a1_3,.int .u64 a1_4,.bool a1_5] 27 (0, 0)) (by refine z2_ ?_;refine blk_far ?_ NB223_230.out _;refine z2_ ?_;refine blk_far ?_ NB223_230.out _;refine z2_ ?_;refine blk_far ?_ NB223_230.out _;refine z2_ ?_;refine blk_far ?_ NB223_230.out _;refine z2_ ?_;refine blk_far ?_ NB223_230.out _;refine z2_ ?_;exact BK223.out) hb);have n1_ := am_ (blk_below (g := gb230) (o := .cells #[.int .i64 t224,.int .u64 t225,.int .u64 t226,.int .u64 t227,.int .i64 t228] 98 (0, 0)) (by refine z2_ ?_;refine blk_put (cs := #[.int .i64 t224,.int .u64 t225,.int .u64 t226,.int .u64 t227,.int .i64 0]) ?_ 4 _ rfl;refine z2_ ?_;refine blk_put (cs := #[.int .i64 t224,.int .u64 t225,.int .u64 t226,.int .u64 0,.int .i64 0]) ?_ 3 _ rfl;refine z2_ ?_;refine blk_put (cs := #[.int .i64 t224,.int .u64 t225,.int .u64 0,.int .u64 0,.int .i64 0]) ?_ 2 _ rfl;refine z2_ ?_;refine blk_put (cs := #[.int .i64 t224,.int .u64 0,.int .u64 0,.int .u64 0,.int .i64 0]) ?_ 1 _ rfl;refine z2_ ?_;refine blk_put (cs := #[.int .i64 0,.int .u64 0,.int .u64 0,.int .u64 0,.int .i64 0]) ?_ 0 _ rfl;refine z2_ ?_;exact BK230.out) hb);have n2_ := am_ (below_step (z3_ HB.out) hb);clear BK223;clear BK230;clear HB;have BK223 := n0_;have BK230 := n1_;have HB := n2_;clear n0_ n1_ n2_;(try clear hb)))
    go_ret3
    exact ⟨z6_, z3_ HB.out⟩
  ·have H1 : (some (0, 0, some q231)) = some (r1, r2, r3) := by rw [if_neg (show ¬ (some q231).isNone = true by simp)] at H;exact H
   clear H
   have H := H1
   clear H1
   try simp only [errW_none, errW_some]
   simp only [Option.some.injEq, Prod.mk.injEq] at H
   obtain ⟨rfl, rfl, rfl⟩ := H
   go_wp2
   go_ret3
   exact ⟨z6_, z3_ HB.out⟩
 case rest =>
  clear HC4
  try clear hcz9_0
  try clear hcz9_1
  try clear hcz9_2
  try clear hcz9_3
  try clear hcz9_4
  try clear hfz9_0
  obtain ⟨kq, HA, HJ3, BK223, BK230, HB⟩ := hcut
  cases kq with
  | zero => exact absurd HA.out (by simp [round_Cut.j0])
  | succ kj3 =>
   have H := HA.out
   clear HA
   simp only [round_Cut.j0] at H
   replace H := Option.bind_eq_some_iff.mp H
   obtain ⟨⟨t233, t234, t235, t236⟩, A670, H⟩ := H
   replace H : ((round_under.f t233 t234 (IntKind.u64.wrap (Go.bits .and .i64 a1_2 3)) 2 a1_5).bind fun bt238 => (if (a1_2 / 4) ≥ 0 then ((round_under.f bt238.1 bt238.2.1 0 1 bt238.2.2).bind fun bt241 => (round_Cut.l0 kj3 a0 bt241.2.2 (wrap64 ((a1_2 / 4) + 1)) 0 bt241.1 bt241.2.1)) else ((round_under.f bt238.1 bt238.2.1 1 1 bt238.2.2).bind fun bt247 => (round_Cut.l1 kj3 a0 bt247.2.2 (wrap64 (-(a1_2 / 4))) 0 bt247.1 bt247.2.1)))) = some (r1, r2, r3) := H
   have A67 := am_ A670
   clear A670
   replace H := Option.bind_eq_some_iff.mp H
   obtain ⟨⟨t238, t239, t240⟩, A680, H⟩ := H
   replace H : (if (a1_2 / 4) ≥ 0 then ((round_under.f t238 t239 0 1 t240).bind fun bt241 => (round_Cut.l0 kj3 a0 bt241.2.2 (wrap64 ((a1_2 / 4) + 1)) 0 bt241.1 bt241.2.1)) else ((round_under.f t238 t239 1 1 t240).bind fun bt247 => (round_Cut.l1 kj3 a0 bt247.2.2 (wrap64 (-(a1_2 / 4))) 0 bt247.1 bt247.2.1))) = some (r1, r2, r3) := H
   have A68 := am_ A680
   clear A680
   have HC69 := am_ H
   clear H
   have hnb70 := NB223_230.out
   have hnc70 := NB230_223.out
   obtain ⟨hcz71_0, hcz71_1, hcz71_2, hcz71_3, hcz71_4, hcz71_5, hfz71_0⟩ := zc6_ BK223.out
   go_upto_if 106 with (first | ((with_reducible refine gate_callee (f := 67) rfl ?_);refine goesL_ (some 86) rfl rfl Try.func67 (by kernel_rfl) rfl #[.agg #[.int .u64 a1_3,.int .u64 a1_4],.int .i64 1] rfl z5_ ?_;(with_reducible refine (twin_Shl.calls a1_3 a1_4 1 t233 t234 t235 t236 _ A67.out).mono ?_);rintro e w72 ⟨rfl, hb⟩;refine ⟨_, rfl, ?_⟩;have n0_ := am_ (blk_below (g := gb223) (z1_ BK223.out) hb);have n1_ := am_ (blk_below (g := gb230) (z1_ BK230.out) hb);have n2_ := am_ (below_step (z3_ HB.out) hb);clear BK223;clear BK230;clear HB;have BK223 := n0_;have BK230 := n1_;have HB := n2_;clear n0_ n1_ n2_;(try clear hb);(try simp only [errW_none, errW_some])) | ((with_reducible refine gate_dst (N := 9) rfl ?_);refine box_event ?hg (N := 9) ?hd (cs := #[.int .u64 0,.int .u64 0]) (t := 54) ?hr ?_;(case hd => rfl);(case hg => rfl);(case hr => first | (go_simp;done) | (go_simp;rfl));intro gb237 hg w73 hbox hb;have n0_ := am_ (blk_below (g := gb223) (z1_ BK223.out) hb);have n1_ := am_ (blk_below (g := gb230) (z1_ BK230.out) hb);have n2_ := am_ (below_step (z3_ HB.out) hb);have n3_ := am_ (hbox);have n4_ := am_ ((by rw [hg];exact (below_size (z3_ HB.out)) : w.heap.size ≤ gb237));have n5_ := am_ ((by rw [hg];exact (below_size (z3_ HB.out)) : w.heap.size ≤ gb237));have n6_ := am_ ((by rw [hg];exact Nat.ne_of_lt (blk_lt (g := gb223) (o := .cells #[.int .i64 a1_0,.bool a1_1,.int .i64 a1_2,.int .u64 a1_3,.int .u64 a1_4,.bool a1_5] 27 (0, 0)) (z1_ BK223.out)) : gb223 ≠ gb237));have n7_ := am_ ((by rw [hg];exact Nat.ne_of_gt (blk_lt (g := gb223) (o := .cells #[.int .i64 a1_0,.bool a1_1,.int .i64 a1_2,.int .u64 a1_3,.int .u64 a1_4,.bool a1_5] 27 (0, 0)) (z1_ BK223.out)) : gb237 ≠ gb223));have n8_ := am_ ((by rw [hg];exact Nat.ne_of_lt (blk_lt (g := gb230) (o := .cells #[.int .i64 t224,.int .u64 t225,.int .u64 t226,.int .u64 t227,.int .i64 t228] 98 (0, 0)) (z1_ BK230.out)) : gb230 ≠ gb237));have n9_ := am_ ((by rw [hg];exact Nat.ne_of_gt (blk_lt (g := gb230) (o := .cells #[.int .i64 t224,.int .u64 t225,.int .u64 t226,.int .u64 t227,.int .i64 t228] 98 (0, 0)) (z1_ BK230.out)) : gb237 ≠ gb230));clear BK223;clear BK230;clear HB;have BK223 := n0_;have BK230 := n1_;have HB := n2_;have BK237 := n3_;have GW237 := n4_;have GE237 := n5_;have NB223_237 := n6_;have NB237_223 := n7_;have NB230_237 := n8_;have NB237_230 := n9_;clear n0_ n1_ n2_ n3_ n4_ n5_ n6_ n7_ n8_ n9_;clear hb hbox hg;have hnb74 := NB237_223.out;have hnc74 := NB223_237.out;have hnb75 := NB237_230.out;have hnc75 := NB230_237.out;obtain ⟨hcz76_0, hcz76_1, hfz76_0⟩ := zc2_ BK237.out;obtain ⟨hcz77_0, hcz77_1, hcz77_2, hcz77_3, hcz77_4, hcz77_5, hfz77_0⟩ := zc6_ BK223.out) | ((with_reducible refine gate_callee (f := 68) rfl ?_);refine goesL_ (some 102) rfl rfl Try.func68 (by kernel_rfl) rfl #[.agg #[.int .u64 t233,.int .u64 t234],.int .u64 (IntKind.u64.wrap (Go.bits .and .i64 a1_2 3)),.int .i64 2,.bool a1_5] rfl z5_ ?_;(with_reducible refine (round_under.calls t233 t234 (IntKind.u64.wrap (Go.bits .and .i64 a1_2 3)) 2 a1_5 t238 t239 t240 _ A68.out).mono ?_);rintro e w78 ⟨rfl, hb⟩;refine ⟨_, rfl, ?_⟩;have n0_ := am_ (blk_below (g := gb223) (o := .cells #[.int .i64 a1_0,.bool a1_1,.int .i64 a1_2,.int .u64 a1_3,.int .u64 a1_4,.bool a1_5] 27 (0, 0)) (by refine z2_ ?_;refine blk_far ?_ NB223_237.out _;refine z2_ ?_;refine blk_far ?_ NB223_237.out _;refine z2_ ?_;exact BK223.out) hb);have n1_ := am_ (blk_below (g := gb230) (o := .cells #[.int .i64 t224,.int .u64 t225,.int .u64 t226,.int .u64 t227,.int .i64 t228] 98 (0, 0)) (by refine z2_ ?_;refine blk_far ?_ NB230_237.out _;refine z2_ ?_;refine blk_far ?_ NB230_237.out _;refine z2_ ?_;exact BK230.out) hb);have n2_ := am_ (blk_below (g := gb237) (o := .cells #[.int .u64 t233,.int .u64 t234] 54 (0, 0)) (by refine z2_ ?_;refine blk_put (cs := #[.int .u64 t233,.int .u64 0]) ?_ 1 _ rfl;refine z2_ ?_;refine blk_put (cs := #[.int .u64 0,.int .u64 0]) ?_ 0 _ rfl;refine z2_ ?_;exact BK237.out) hb);have n3_ := am_ (below_step (z3_ HB.out) hb);clear BK223;clear BK230;clear BK237;clear HB;have BK223 := n0_;have BK230 := n1_;have BK237 := n2_;have HB := n3_;clear n0_ n1_ n2_ n3_;(try clear hb);obtain ⟨hcz79_0, hcz79_1, hfz79_0⟩ := zc2_ BK237.out))
   (try simp only [Act.put, List.setIfInBounds_toArray, List.set_cons_zero, List.set_cons_succ])
   go_cut [12] (fun v12 wc => ∃ (kq : Nat) (x12_68 : Bool) (x238000_68 : Int) (x238001_68 : Int), v12 = .bool x12_68 ∧ Aside0 (round_Cut.j3 kq a0 x12_68 x238000_68 x238001_68 = some (r1, r2, r3)) ∧ Aside0 (kq ≤ kj3) ∧ Aside0 (wc.heap[gb223]? = some (.cells #[.int .i64 a1_0,.bool a1_1,.int .i64 a1_2,.int .u64 a1_3,.int .u64 a1_4,.bool a1_5] 27 (0, 0))) ∧ Aside0 (wc.heap[gb230]? = some (.cells #[.int .i64 t224,.int .u64 t225,.int .u64 t226,.int .u64 t227,.int .i64 t228] 98 (0, 0))) ∧ Aside0 (wc.heap[gb237]? = some (.cells #[.int .u64 x238000_68,.int .u64 x238001_68] 54 (0, 0))) ∧ Aside0 (Below w.heap.size w wc))
   case first =>
    have H := HC69.out
    clear HC69
    by_cases c80 : (a1_2 / 4) ≥ 0
    ·rw [if_pos c80] at H
     have c80b0 : decide (0 ≤ (a1_2 / 4)) = true := decide_eq_true c80
     clear c80
     (first | rw [c80b0] | (simp only [i64_w, i32_w];rw [c80b0]) | skip)
     replace H := Option.bind_eq_some_iff.mp H
     obtain ⟨⟨t241, t242, t243⟩, A810, H⟩ := H
     replace H : (round_Cut.l0 kj3 a0 t243 (wrap64 ((a1_2 / 4) + 1)) 0 t241 t242) = some (r1, r2, r3) := H
     have A81 := am_ A810
     clear A810
     have H' := am_ H
     clear H
     have hnb82 := NB237_223.out
     have hnc82 := NB223_237.out
     have hnb83 := NB237_230.out
     have hnc83 := NB230_237.out
     obtain ⟨hcz84_0, hcz84_1, hfz84_0⟩ := zc2_ BK237.out
     go_wp2_with (first | ((with_reducible refine gate_callee (f := 68) rfl ?_);refine goesL_ (some 110) rfl rfl Try.func68 (by kernel_rfl) rfl #[.agg #[.int .u64 t238,.int .u64 t239],.int .u64 0,.int .i64 1,.bool t240] rfl z5_ ?_;(with_reducible refine (round_under.calls t238 t239 0 1 t240 t241 t242 t243 _ A81.out).mono ?_);rintro e w85 ⟨rfl, hb⟩;refine ⟨_, rfl, ?_⟩;have n0_ := am_ (blk_below (g := gb223) (o := .cells #[.int .i64 a1_0,.bool a1_1,.int .i64 a1_2,.int .u64 a1_3,.int .u64 a1_4,.bool a1_5] 27 (0, 0)) (by refine z2_ ?_;refine blk_far ?_ NB223_237.out _;refine z2_ ?_;refine blk_far ?_ NB223_237.out _;refine z2_ ?_;exact BK223.out) hb);have n1_ := am_ (blk_below (g := gb230) (o := .cells #[.int .i64 t224,.int .u64 t225,.int .u64 t226,.int .u64 t227,.int .i64 t228] 98 (0, 0)) (by refine z2_ ?_;refine blk_far ?_ NB230_237.out _;refine z2_ ?_;refine blk_far ?_ NB230_237.out _;refine z2_ ?_;exact BK230.out) hb);have n2_ := am_ (blk_below (g := gb237) (o := .cells #[.int .u64 t238,.int .u64 t239] 54 (0, 0)) (by refine z2_ ?_;refine blk_put (cs := #[.int .u64 t238,.int .u64 t234]) ?_ 1 _ rfl;refine z2_ ?_;refine blk_put (cs := #[.int .u64 t233,.int .u64 t234]) ?_ 0 _ rfl;refine z2_ ?_;exact BK237.out) hb);have n3_ := am_ (below_step (z3_ HB.out) hb);clear BK223;clear BK230;clear BK237;clear HB;have BK223 := n0_;have BK230 := n1_;have BK237 := n2_;have HB := n3_;clear n0_ n1_ n2_ n3_;(try clear hb);obtain ⟨hcz86_0, hcz86_1, hfz86_0⟩ := zc2_ BK237.out))
     go_loopg [12, 115] kj3 (fun kq v12 v115 w' => ∃ (x12_2 : Bool) (x115_2 : Int) (x238000_2 : Int) (x238001_2 : Int), v12 = .bool x12_2 ∧ v115 = .int .i64 x115_2 ∧ Aside0 (round_Cut.l0 kq a0 x12_2 (wrap64 ((a1_2 / 4) + 1)) x115_2 x238000_2 x238001_2 = some (r1, r2, r3)) ∧ Aside0 (kq ≤ kj3) ∧ Aside0 (w'.heap[gb223]? = some (.cells #[.int .i64 a1_0,.bool a1_1,.int .i64 a1_2,.int .u64 a1_3,.int .u64 a1_4,.bool a1_5] 27 (0, 0))) ∧ Aside0 (w'.heap[gb230]? = some (.cells #[.int .i64 t224,.int .u64 t225,.int .u64 t226,.int .u64 t227,.int .i64 t228] 98 (0, 0))) ∧ Aside0 (w'.heap[gb237]? = some (.cells #[.int .u64 x238000_2,.int .u64 x238001_2] 54 (0, 0))) ∧ Aside0 (Below w.heap.size w w'))
     case atStart => exact ⟨(t243), (0), (t241), (t242), (by first | rfl | (simp;done) | (simp [*];done)), (by first | rfl | (simp;done) | (simp [*];done)), H', ⟨Nat.le_refl _⟩, ⟨by refine z2_ ?_;refine blk_far ?_ NB223_237.out _;refine z2_ ?_;refine blk_far ?_ NB223_237.out _;refine z2_ ?_;exact BK223.out⟩, ⟨by refine z2_ ?_;refine blk_far ?_ NB230_237.out _;refine z2_ ?_;refine blk_far ?_ NB230_237.out _;refine z2_ ?_;exact BK230.out⟩, ⟨by refine z2_ ?_;refine blk_put (cs := #[.int .u64 t241,.int .u64 t239]) ?_ 1 _ rfl;refine z2_ ?_;refine blk_put (cs := #[.int .u64 t238,.int .u64 t239]) ?_ 0 _ rfl;refine z2_ ?_;exact BK237.out⟩, ⟨z3_ HB.out⟩⟩
     case round =>
      clear H'
      try clear c80
      try clear c80b0
      try clear hcz71_0
      try clear hcz71_1
      try clear hcz71_2
      try clear hcz71_3
      try clear hcz71_4
      try clear hcz71_5
      try clear hcz76_0
      try clear hcz76_1
      try clear hcz77_0
      try clear hcz77_1
      try clear hcz77_2
      try clear hcz77_3
      try clear hcz77_4
      try clear hcz77_5
      try clear hcz79_0
      try clear hcz79_1
      try clear hcz84_0
      try clear hcz84_1
      try clear hcz86_0
      try clear hcz86_1
      try clear hcz9_0
      try clear hcz9_1
      try clear hcz9_2
      try clear hcz9_3
      try clear hcz9_4
      try clear hfz71_0
      try clear hfz76_0
      try clear hfz77_0
      try clear hfz79_0
      try clear hfz84_0
      try clear hfz86_0
      try clear hfz9_0
      obtain ⟨x12_2, x115_2, x238000_2, x238001_2, rfl, rfl, HA, HK2, BK223, BK230, BK237, HB⟩ := hrel
      cases gk with
      | zero => exact absurd HA.out (by simp [round_Cut.l0])
      | succ k2 =>
       have H := HA.out
       clear HA
       simp only [round_Cut.l0] at H
       by_cases c87 : x115_2 < (wrap64 ((a1_2 / 4) + 1))
       ·rw [if_pos c87] at H
        have c87b0 : decide (x115_2 < (wrap64 ((a1_2 / 4) + 1))) = true := decide_eq_true c87
        clear c87
        replace H := Option.bind_eq_some_iff.mp H
        obtain ⟨⟨t244, t245, t246⟩, A880, H⟩ := H
        replace H : (round_Cut.l0 k2 a0 t246 (wrap64 ((a1_2 / 4) + 1)) (wrap64 (x115_2 + 1)) t244 t245) = some (r1, r2, r3) := H
        have A88 := am_ A880
        clear A880
        have H' := am_ H
        clear H
        have hnb89 := NB237_223.out
        have hnc89 := NB223_237.out
        have hnb90 := NB237_230.out
        have hnc90 := NB230_237.out
        obtain ⟨hcz91_0, hcz91_1, hfz91_0⟩ := zc2_ BK237.out
        go_wp2_with (first | ((with_reducible refine gate_callee (f := 68) rfl ?_);refine goesL_ (some 120) rfl rfl Try.func68 (by kernel_rfl) rfl #[.agg #[.int .u64 x238000_2,.int .u64 x238001_2],.int .u64 1,.int .i64 1,.bool x12_2] rfl z5_ ?_;(with_reducible refine (round_under.calls x238000_2 x238001_2 1 1 x12_2 t244 t245 t246 _ A88.out).mono ?_);rintro e w92 ⟨rfl, hb⟩;refine ⟨_, rfl, ?_⟩;have n0_ := am_ (blk_below (g := gb223) (z1_ BK223.out) hb);have n1_ := am_ (blk_below (g := gb230) (z1_ BK230.out) hb);have n2_ := am_ (blk_below (g := gb237) (z1_ BK237.out) hb);have n3_ := am_ (below_step (z3_ HB.out) hb);clear BK223;clear BK230;clear BK237;clear HB;have BK223 := n0_;have BK230 := n1_;have BK237 := n2_;have HB := n3_;clear n0_ n1_ n2_ n3_;(try clear hb);obtain ⟨hcz93_0, hcz93_1, hfz93_0⟩ := zc2_ BK237.out))
        go_roundg k2
        case measure => have := HJ3.out;have := HK2.out;omega
        case rel => exact ⟨(t246), (wrap64 (x115_2 + 1)), (t244), (t245), (by first | rfl | (simp;done) | (simp [*];done)), (by first | rfl | (simp;done) | (simp [*];done)), H', ⟨by have := HJ3.out;have := HK2.out;omega⟩, ⟨by refine z2_ ?_;refine blk_far ?_ NB223_237.out _;refine z2_ ?_;refine blk_far ?_ NB223_237.out _;refine z2_ ?_;exact BK223.out⟩, ⟨by refine z2_ ?_;refine blk_far ?_ NB230_237.out _;refine z2_ ?_;refine blk_far ?_ NB230_237.out _;refine z2_ ?_;exact BK230.out⟩, ⟨by refine z2_ ?_;refine blk_put (cs := #[.int .u64 t244,.int .u64 x238001_2]) ?_ 1 _ rfl;refine z2_ ?_;refine blk_put (cs := #[.int .u64 x238000_2,.int .u64 x238001_2]) ?_ 0 _ rfl;refine z2_ ?_;exact BK237.out⟩, ⟨z3_ HB.out⟩⟩
       ·rw [if_neg c87] at H
        have c87b0 : decide (x115_2 < (wrap64 ((a1_2 / 4) + 1))) = false := decide_eq_false c87
        clear c87
        have H' := am_ H
        clear H
        go_wp2
        go_meet
        case rel => exact ⟨_, (x12_2), (x238000_2), (x238001_2), (by first | rfl | (simp;done) | (simp [*];done)), H', ⟨by have := HJ3.out;have := HK2.out;first | omega | exact Nat.le_refl _⟩, ⟨by refine z2_ ?_;exact BK223.out⟩, ⟨by refine z2_ ?_;exact BK230.out⟩, ⟨by refine z2_ ?_;exact BK237.out⟩, ⟨z3_ HB.out⟩⟩
    ·rw [if_neg c80] at H
     have c80b0 : decide (0 ≤ (a1_2 / 4)) = false := decide_eq_false c80
     clear c80
     (first | rw [c80b0] | (simp only [i64_w, i32_w];rw [c80b0]) | skip)
     replace H := Option.bind_eq_some_iff.mp H
     obtain ⟨⟨t247, t248, t249⟩, A940, H⟩ := H
     replace H : (round_Cut.l1 kj3 a0 t249 (wrap64 (-(a1_2 / 4))) 0 t247 t248) = some (r1, r2, r3) := H
     have A94 := am_ A940
     clear A940
     have H' := am_ H
     clear H
     have hnb95 := NB237_223.out
     have hnc95 := NB223_237.out
     have hnb96 := NB237_230.out
     have hnc96 := NB230_237.out
     obtain ⟨hcz97_0, hcz97_1, hfz97_0⟩ := zc2_ BK237.out
     go_wp2_with (first | ((with_reducible refine gate_callee (f := 68) rfl ?_);refine goesL_ (some 127) rfl rfl Try.func68 (by kernel_rfl) rfl #[.agg #[.int .u64 t238,.int .u64 t239],.int .u64 1,.int .i64 1,.bool t240] rfl z5_ ?_;(with_reducible refine (round_under.calls t238 t239 1 1 t240 t247 t248 t249 _ A94.out).mono ?_);rintro e w98 ⟨rfl, hb⟩;refine ⟨_, rfl, ?_⟩;have n0_ := am_ (blk_below (g := gb223) (o := .cells #[.int .i64 a1_0,.bool a1_1,.int .i64 a1_2,.int .u64 a1_3,.int .u64 a1_4,.bool a1_5] 27 (0, 0)) (by refine z2_ ?_;refine blk_far ?_ NB223_237.out _;refine z2_ ?_;refine blk_far ?_ NB223_237.out _;refine z2_ ?_;exact BK223.out) hb);have n1_ := am_ (blk_below (g := gb230) (o := .cells #[.int .i64 t224,.int .u64 t225,.int .u64 t226,.int .u64 t227,.int .i64 t228] 98 (0, 0)) (by refine z2_ ?_;refine blk_far ?_ NB230_237.out _;refine z2_ ?_;refine blk_far ?_ NB230_237.out _;refine z2_ ?_;exact BK230.out) hb);have n2_ := am_ (blk_below (g := gb237) (o := .cells #[.int .u64 t238,.int .u64 t239] 54 (0, 0)) (by refine z2_ ?_;refine blk_put (cs := #[.int .u64 t238,.int .u64 t234]) ?_ 1 _ rfl;refine z2_ ?_;refine blk_put (cs := #[.int .u64 t233,.int .u64 t234]) ?_ 0 _ rfl;refine z2_ ?_;exact BK237.out) hb);have n3_ := am_ (below_step (z3_ HB.out) hb);clear BK223;clear BK230;clear BK237;clear HB;have BK223 := n0_;have BK230 := n1_;have BK237 := n2_;have HB := n3_;clear n0_ n1_ n2_ n3_;(try clear hb);obtain ⟨hcz99_0, hcz99_1, hfz99_0⟩ := zc2_ BK237.out))
     go_loopg [12, 132] kj3 (fun kq v12 v132 w' => ∃ (x12_2 : Bool) (x132_2 : Int) (x238000_2 : Int) (x238001_2 : Int), v12 = .bool x12_2 ∧ v132 = .int .i64 x132_2 ∧ Aside0 (round_Cut.l1 kq a0 x12_2 (wrap64 (-(a1_2 / 4))) x132_2 x238000_2 x238001_2 = some (r1, r2, r3)) ∧ Aside0 (kq ≤ kj3) ∧ Aside0 (w'.heap[gb223]? = some (.cells #[.int .i64 a1_0,.bool a1_1,.int .i64 a1_2,.int .u64 a1_3,.int .u64 a1_4,.bool a1_5] 27 (0, 0))) ∧ Aside0 (w'.heap[gb230]? = some (.cells #[.int .i64 t224,.int .u64 t225,.int .u64 t226,.int .u64 t227,.int .i64 t228] 98 (0, 0))) ∧ Aside0 (w'.heap[gb237]? = some (.cells #[.int .u64 x238000_2,.int .u64 x238001_2] 54 (0, 0))) ∧ Aside0 (Below w.heap.size w w'))
     case atStart => exact ⟨(t249), (0), (t247), (t248), (by first | rfl | (simp;done) | (simp [*];done)), (by first | rfl | (simp;done) | (simp [*];done)), H', ⟨Nat.le_refl _⟩, ⟨by refine z2_ ?_;refine blk_far ?_ NB223_237.out _;refine z2_ ?_;refine blk_far ?_ NB223_237.out _;refine z2_ ?_;exact BK223.out⟩, ⟨by refine z2_ ?_;refine blk_far ?_ NB230_237.out _;refine z2_ ?_;refine blk_far ?_ NB230_237.out _;refine z2_ ?_;exact BK230.out⟩, ⟨by refine z2_ ?_;refine blk_put (cs := #[.int .u64 t247,.int .u64 t239]) ?_ 1 _ rfl;refine z2_ ?_;refine blk_put (cs := #[.int .u64 t238,.int .u64 t239]) ?_ 0 _ rfl;refine z2_ ?_;exact BK237.out⟩, ⟨z3_ HB.out⟩⟩
     case round =>
      clear H'
      try clear c80
      try clear c80b0
      try clear hcz71_0
      try clear hcz71_1
      try clear hcz71_2
      try clear hcz71_3
      try clear hcz71_4
      try clear hcz71_5
      try clear hcz76_0
      try clear hcz76_1
      try clear hcz77_0
      try clear hcz77_1
      try clear hcz77_2
      try clear hcz77_3
      try clear hcz77_4
      try clear hcz77_5
      try clear hcz79_0
      try clear hcz79_1
      try clear hcz97_0
      try clear hcz97_1
      try clear hcz99_0
      try clear hcz99_1
      try clear hcz9_0
      try clear hcz9_1
      try clear hcz9_2
      try clear hcz9_3
      try clear hcz9_4
      try clear hfz71_0
      try clear hfz76_0
      try clear hfz77_0
      try clear hfz79_0
      try clear hfz97_0
      try clear hfz99_0
      try clear hfz9_0
      obtain ⟨x12_2, x132_2, x238000_2, x238001_2, rfl, rfl, HA, HK2, BK223, BK230, BK237, HB⟩ := hrel
      cases gk with
      | zero => exact absurd HA.out (by simp [round_Cut.l1])
      | succ k2 =>
       have H := HA.out
       clear HA
       simp only [round_Cut.l1] at H
       by_cases c100 : x132_2 < (wrap64 (-(a1_2 / 4)))
       ·rw [if_pos c100] at H
        have c100b0 : decide (x132_2 < (wrap64 (-(a1_2 / 4)))) = true := decide_eq_true c100
        clear c100
        replace H := Option.bind_eq_some_iff.mp H
        obtain ⟨⟨t250, t251, t252⟩, A1010, H⟩ := H
        replace H : (round_Cut.l1 k2 a0 t252 (wrap64 (-(a1_2 / 4))) (wrap64 (x132_2 + 1)) t250 t251) = some (r1, r2, r3) := H
        have A101 := am_ A1010
        clear A1010
        have H' := am_ H
        clear H
        have hnb102 := NB237_223.out
        have hnc102 := NB223_237.out
        have hnb103 := NB237_230.out
        have hnc103 := NB230_237.out
        obtain ⟨hcz104_0, hcz104_1, hfz104_0⟩ := zc2_ BK237.out
        go_wp2_with (first | ((with_reducible refine gate_callee (f := 68) rfl ?_);refine goesL_ (some 137) rfl rfl Try.func68 (by kernel_rfl) rfl #[.agg #[.int .u64 x238000_2,.int .u64 x238001_2],.int .u64 0,.int .i64 1,.bool x12_2] rfl z5_ ?_;(with_reducible refine (round_under.calls x238000_2 x238001_2 0 1 x12_2 t250 t251 t252 _ A101.out).mono ?_);rintro e w105 ⟨rfl, hb⟩;refine ⟨_, rfl, ?_⟩;have n0_ := am_ (blk_below (g := gb223) (z1_ BK223.out) hb);have n1_ := am_ (blk_below (g := gb230) (z1_ BK230.out) hb);have n2_ := am_ (blk_below (g := gb237) (z1_ BK237.out) hb);have n3_ := am_ (below_step (z3_ HB.out) hb);clear BK223;clear BK230;clear BK237;clear HB;have BK223 := n0_;have BK230 := n1_;have BK237 := n2_;have HB := n3_;clear n0_ n1_ n2_ n3_;(try clear hb);obtain ⟨hcz106_0, hcz106_1, hfz106_0⟩ := zc2_ BK237.out))
        go_roundg k2
        case measure => have := HJ3.out;have := HK2.out;omega
        case rel => exact ⟨(t252), (wrap64 (x132_2 + 1)), (t250), (t251), (by first | rfl | (simp;done) | (simp [*];done)), (by first | rfl | (simp;done) | (simp [*];done)), H', ⟨by have := HJ3.out;have := HK2.out;omega⟩, ⟨by refine z2_ ?_;refine blk_far ?_ NB223_237.out _;refine z2_ ?_;refine blk_far ?_ NB223_237.out _;refine z2_ ?_;exact BK223.out⟩, ⟨by refine z2_ ?_;refine blk_far ?_ NB230_237.out _;refine z2_ ?_;refine blk_far ?_ NB230_237.out _;refine z2_ ?_;exact BK230.out⟩, ⟨by refine z2_ ?_;refine blk_put (cs := #[.int .u64 t250,.int .u64 x238001_2]) ?_ 1 _ rfl;refine z2_ ?_;refine blk_put (cs := #[.int .u64 x238000_2,.int .u64 x238001_2]) ?_ 0 _ rfl;refine z2_ ?_;exact BK237.out⟩, ⟨z3_ HB.out⟩⟩
       ·rw [if_neg c100] at H
        have c100b0 : decide (x132_2 < (wrap64 (-(a1_2 / 4)))) = false := decide_eq_false c100
        clear c100
        have H' := am_ H
        clear H
        go_wp2
        go_meet
        case rel => exact ⟨_, (x12_2), (x238000_2), (x238001_2), (by first | rfl | (simp;done) | (simp [*];done)), H', ⟨by have := HJ3.out;have := HK2.out;first | omega | exact Nat.le_refl _⟩, ⟨by refine z2_ ?_;exact BK223.out⟩, ⟨by refine z2_ ?_;exact BK230.out⟩, ⟨by refine z2_ ?_;exact BK237.out⟩, ⟨z3_ HB.out⟩⟩
   case rest =>
    clear HC69
    try clear hcz71_0
    try clear hcz71_1
    try clear hcz71_2
    try clear hcz71_3
    try clear hcz71_4
    try clear hcz71_5
    try clear hcz76_0
    try clear hcz76_1
    try clear hcz77_0
    try clear hcz77_1
    try clear hcz77_2
    try clear hcz77_3
    try clear hcz77_4
    try clear hcz77_5
    try clear hcz79_0
    try clear hcz79_1
    try clear hcz9_0
    try clear hcz9_1
    try clear hcz9_2
    try clear hcz9_3
    try clear hcz9_4
    try clear hfz71_0
    try clear hfz76_0
    try clear hfz77_0
    try clear hfz79_0
    try clear hfz9_0
    obtain ⟨kq, x12_68, x238000_68, x238001_68, rfl, HA, HJ68, BK223, BK230, BK237, HB⟩ := hcut
    cases kq with
    | zero => exact absurd HA.out (by simp [round_Cut.j3])
    | succ kj68 =>
     have H := HA.out
     clear HA
     simp only [round_Cut.j3] at H
     obtain ⟨ji107, hji107⟩ : ∃ j_ : Int, (wrap64 (65 - a0)) = j_ := ⟨_, rfl⟩
     replace H : (if 0 ≤ (ji107) then ((twin_Shl.f x238000_68 x238001_68 (wrap64 (a0 - 1))).bind fun bt253 => (if bt253.2.1 = 0 then ((round_left.f kj68 bt253.1 x12_68).bind fun t258 => (some (shr .u64 x238000_68 (ji107), t258, none))) else ((round_left.f kj68 bt253.1 true).bind fun t259 => (some (shr .u64 x238000_68 (ji107), t259, none))))) else (none)) = some (r1, r2, r3) := by first | (rw [hji107] at H;exact H) | (simp only [hji107] at H ⊢;exact H)
     have hji107w : (IntKind.i64.wrap (65 - a0)) = ji107 := (i64_w _).trans hji107
     by_cases c108 : 0 ≤ (ji107)
     ·rw [if_pos c108] at H
      have c108b0 := eq_true c108
      have c108b1 : decide (0 ≤ (ji107)) = true := decide_eq_true c108
      clear c108
      obtain ⟨ji109, hji109⟩ : ∃ j_ : Int, (shr .u64 x238000_68 (ji107)) = j_ := ⟨_, rfl⟩
      replace H : ((twin_Shl.f x238000_68 x238001_68 (wrap64 (a0 - 1))).bind fun bt253 => (if bt253.2.1 = 0 then ((round_left.f kj68 bt253.1 x12_68).bind fun t258 => (some (ji109, t258, none))) else ((round_left.f kj68 bt253.1 true).bind fun t259 => (some (ji109, t259, none))))) = some (r1, r2, r3) := by first | (rw [hji109] at H;exact H) | (simp only [hji109] at H ⊢;exact H)
      have hji109_ : (x238000_68 / 2 ^ min (ji107).toNat 64) = ji109 := hji109
      have hji109z : (ji107) ≤ 64 → (x238000_68 / 2 ^ (ji107).toNat) = ji109 := shr_small hji109
      (try (have hji109Z_ := hji109z (by omega)))
      replace H := Option.bind_eq_some_iff.mp H
      obtain ⟨⟨t253, t254, t255, t256⟩, A1100, H⟩ := H
      replace H : (if t254 = 0 then ((round_left.f kj68 t253 x12_68).bind fun t258 => (some (ji109, t258, none))) else ((round_left.f kj68 t253 true).bind fun t259 => (some (ji109, t259, none)))) = some (r1, r2, r3) := H
      have A110 := am_ A1100
      clear A1100
      by_cases c111 : t254 = 0
      ·rw [if_pos c111] at H
       have c111b0 : (t254 == 0) = true := beq_iff_eq.mpr c111
       have c111b1 : (t254 != 0) = false := bne_eq_false_iff_eq.mpr c111
       clear c111
       replace H := Option.bind_eq_some_iff.mp H
       obtain ⟨t258, A1120, H⟩ := H
       replace H : (some (ji109, t258, none)) = some (r1, r2, r3) := H
       have A112 := am_ A1120
       clear A1120
       simp only [Option.some.injEq, Prod.mk.injEq] at H
       obtain ⟨rfl, rfl, rfl⟩ := H
       have hnb113 := NB237_223.out
       have hnc113 := NB223_237.out
       have hnb114 := NB237_230.out
       have hnc114 := NB230_237.out
       obtain ⟨hcz115_0, hcz115_1, hfz115_0⟩ := zc2_ BK237.out
       go_wp2_with (first | ((with_reducible refine gate_callee (f := 67) rfl ?_);refine goesL_ (some 150) rfl rfl Try.func67 (by kernel_rfl) rfl #[.agg #[.int .u64 x238000_68,.int .u64 x238001_68],.int .i64 (wrap64 (a0 - 1))] rfl z5_ ?_;(with_reducible refine (twin_Shl.calls x238000_68 x238001_68 (wrap64 (a0 - 1)) t253 t254 t255 t256 _ A110.out).mono ?_);rintro e w116 ⟨rfl, hb⟩;refine ⟨_, rfl, ?_⟩;have n0_ := am_ (blk_below (g := gb223) (z1_ BK223.out) hb);have n1_ := am_ (blk_below (g := gb230) (z1_ BK230.out) hb);have n2_ := am_ (blk_below (g := gb237) (z1_ BK237.out) hb);have n3_ := am_ (below_step (z3_ HB.out) hb);clear BK223;clear BK230;clear BK237;clear HB;have BK223 := n0_;have BK230 := n1_;have BK237 := n2_;have HB := n3_;clear n0_ n1_ n2_ n3_;(try clear hb);(try simp only [errW_none, errW_some])) | ((with_reducible refine gate_dst (N := 15) rfl ?_);refine box_event ?hg (N := 15) ?hd (cs := #[.int .u64 0,.int .u64 0]) (t := 54) ?hr ?_;(case hd => rfl);(case hg => rfl);(case hr => first | (go_simp;done) | (go_simp;rfl));intro gb257 hg w117 hbox hb;have n0_ := am_ (blk_below (g := gb223) (z1_ BK223.out) hb);have n1_ := am_ (blk_below (g := gb230) (z1_ BK230.out) hb);have n2_ := am_ (blk_below (g := gb237) (z1_ BK237.out) hb);have n3_ := am_ (below_step (z3_ HB.out) hb);have n4_ := am_ (hbox);have n5_ := am_ ((by rw [hg];exact (below_size (z3_ HB.out)) : w.heap.size ≤ gb257));have n6_ := am_ ((by rw [hg];exact (below_size (z3_ HB.out)) : w.heap.size ≤ gb257));have n7_ := am_ ((by rw [hg];exact Nat.ne_of_lt (blk_lt (g := gb223) (o := .cells #[.int .i64 a1_0,.bool a1_1,.int .i64 a1_2,.int .u64 a1_3,.int .u64 a1_4,.bool a1_5] 27 (0, 0)) (z1_ BK223.out)) : gb223 ≠ gb257));have n8_ := am_ ((by rw [hg];exact Nat.ne_of_gt (blk_lt (g := gb223) (o := .cells #[.int .i64 a1_0,.bool a1_1,.int .i64 a1_2,.int .u64 a1_3,.int .u64 a1_4,.bool a1_5] 27 (0, 0)) (z1_ BK223.out)) : gb257 ≠ gb223));have n9_ := am_ ((by rw [hg];exact Nat.ne_of_lt (blk_lt (g := gb230) (o := .cells #[.int .i64 t224,.int .u64 t225,.int .u64 t226,.int .u64 t227,.int .i64 t228] 98 (0, 0)) (z1_ BK230.out)) : gb230 ≠ gb257));have n10_ := am_ ((by rw [hg];exact Nat.ne_of_gt (blk_lt (g := gb230) (o := .cells #[.int .i64 t224,.int .u64 t225,.int .u64 t226,.int .u64 t227,.int .i64 t228] 98 (0, 0)) (z1_ BK230.out)) : gb257 ≠ gb230));have n11_ := am_ ((by rw [hg];exact Nat.ne_of_lt (blk_lt (g := gb237) (o := .cells #[.int .u64 x238000_68,.int .u64 x238001_68] 54 (0, 0)) (z1_ BK237.out)) : gb237 ≠ gb257));have n12_ := am_ ((by rw [hg];exact Nat.ne_of_gt (blk_lt (g := gb237) (o := .cells #[.int .u64 x238000_68,.int .u64 x238001_68] 54 (0, 0)) (z1_ BK237.out)) : gb257 ≠ gb237));clear BK223;clear BK230;clear BK237;clear HB;have BK223 := n0_;have BK230 := n1_;have BK237 := n2_;have HB := n3_;have BK257 := n4_;have GW257 := n5_;have GE257 := n6_;have NB223_257 := n7_;have NB257_223 := n8_;have NB230_257 := n9_;have NB257_230 := n10_;have NB237_257 := n11_;have NB257_237 := n12_;clear n0_ n1_ n2_ n3_ n4_ n5_ n6_ n7_ n8_ n9_ n10_ n11_ n12_;clear hb hbox hg;have hnb118 := NB257_223.out;have hnc118 := NB223_257.out;have hnb119 := NB257_230.out;have hnc119 := NB230_257.out;have hnb120 := NB257_237.out;have hnc120 := NB237_257.out;obtain ⟨hcz121_0, hcz121_1, hfz121_0⟩ := zc2_ BK257.out) | ((with_reducible refine gate_callee (f := 69) rfl ?_);refine goesL_ (some 161) rfl rfl Try.func69 (by kernel_rfl) rfl #[.int .u64 t253,.bool x12_68] rfl z5_ ?_;(with_reducible refine (round_left.calls kj68 t253 x12_68 t258 _ A112.out).mono ?_);rintro e w' ⟨rfl, ⟨nd, rfl⟩⟩;refine ⟨_, rfl, ?_⟩))
       go_ret3
       exact ⟨by first | rfl | (simp [errW_none, errW_some] <;> rfl) | (simp only [← hji107, ← hji109];first | rfl | (simp [errW_none, errW_some] <;> rfl)) | (simp [*, errW_none, errW_some] <;> rfl), z3_ HB.out⟩
      ·rw [if_neg c111] at H
       have c111b0 : (t254 == 0) = false := beq_eq_false_iff_ne.mpr c111
       have c111b1 : (t254 != 0) = true := bne_iff_ne.mpr c111
       replace H := Option.bind_eq_some_iff.mp H
       obtain ⟨t259, A1220, H⟩ := H
       replace H : (some (ji109, t259, none)) = some (r1, r2, r3) := H
       have A122 := am_ A1220
       clear A1220
       simp only [Option.some.injEq, Prod.mk.injEq] at H
       obtain ⟨rfl, rfl, rfl⟩ := H
       have hnb123 := NB237_223.out
       have hnc123 := NB223_237.out
       have hnb124 := NB237_230.out
       have hnc124 := NB230_237.out
       obtain ⟨hcz125_0, hcz125_1, hfz125_0⟩ := zc2_ BK237.out
       go_wp2_with (first | ((with_reducible refine gate_callee (f := 67) rfl ?_);refine goesL_ (some 150) rfl rfl Try.func67 (by kernel_rfl) rfl #[.agg #[.int .u64 x238000_68,.int .u64 x238001_68],.int .i64 (wrap64 (a0 - 1))] rfl z5_ ?_;(with_reducible refine (twin_Shl.calls x238000_68 x238001_68 (wrap64 (a0 - 1)) t253 t254 t255 t256 _ A110.out).mono ?_);rintro e w126 ⟨rfl, hb⟩;refine ⟨_, rfl, ?_⟩;have n0_ := am_ (blk_below (g := gb223) (z1_ BK223.out) hb);have n1_ := am_ (blk_below (g := gb230) (z1_ BK230.out) hb);have n2_ := am_ (blk_below (g := gb237) (z1_ BK237.out) hb);have n3_ := am_ (below_step (z3_ HB.out) hb);clear BK223;clear BK230;clear BK237;clear HB;have BK223 := n0_;have BK230 := n1_;have BK237 := n2_;have HB := n3_;clear n0_ n1_ n2_ n3_;(try clear hb);(try simp only [errW_none, errW_some])) | ((with_reducible refine gate_dst (N := 15) rfl ?_);refine box_event ?hg (N := 15) ?hd (cs := #[.int .u64 0,.int .u64 0]) (t := 54) ?hr ?_;(case hd => rfl);(case hg => rfl);(case hr => first | (go_simp;done) | (go_simp;rfl));intro gb257 hg w127 hbox hb;have n0_ := am_ (blk_below (g := gb223) (z1_ BK223.out) hb);have n1_ := am_ (blk_below (g := gb230) (z1_ BK230.out) hb);have n2_ := am_ (blk_below (g := gb237) (z1_ BK237.out) hb);have n3_ := am_ (below_step (z3_ HB.out) hb);have n4_ := am_ (hbox);have n5_ := am_ ((by rw [hg];exact (below_size (z3_ HB.out)) : w.heap.size ≤ gb257));have n6_ := am_ ((by rw [hg];exact (below_size (z3_ HB.out)) : w.heap.size ≤ gb257));have n7_ := am_ ((by rw [hg];exact Nat.ne_of_lt (blk_lt (g := gb223) (o := .cells #[.int .i64 a1_0,.bool a1_1,.int .i64 a1_2,.int .u64 a1_3,.int .u64 a1_4,.bool a1_5] 27 (0, 0)) (z1_ BK223.out)) : gb223 ≠ gb257));have n8_ := am_ ((by rw [hg];exact Nat.ne_of_gt (blk_lt (g := gb223) (o := .cells #[.int .i64 a1_0,.bool a1_1,.int .i64 a1_2,.int .u64 a1_3,.int .u64 a1_4,.bool a1_5] 27 (0, 0)) (z1_ BK223.out)) : gb257 ≠ gb223));have n9_ := am_ ((by rw [hg];exact Nat.ne_of_lt (blk_lt (g := gb230) (o := .cells #[.int .i64 t224,.int .u64 t225,.int .u64 t226,.int .u64 t227,.int .i64 t228] 98 (0, 0)) (z1_ BK230.out)) : gb230 ≠ gb257));have n10_ := am_ ((by rw [hg];exact Nat.ne_of_gt (blk_lt (g := gb230) (o := .cells #[.int .i64 t224,.int .u64 t225,.int .u64 t226,.int .u64 t227,.int .i64 t228] 98 (0, 0)) (z1_ BK230.out)) : gb257 ≠ gb230));have n11_ := am_ ((by rw [hg];exact Nat.ne_of_lt (blk_lt (g := gb237) (o := .cells #[.int .u64 x238000_68,.int .u64 x238001_68] 54 (0, 0)) (z1_ BK237.out)) : gb237 ≠ gb257));have n12_ := am_ ((by rw [hg];exact Nat.ne_of_gt (blk_lt (g := gb237) (o := .cells #[.int .u64 x238000_68,.int .u64 x238001_68] 54 (0, 0)) (z1_ BK237.out)) : gb257 ≠ gb237));clear BK223;clear BK230;clear BK237;clear HB;have BK223 := n0_;have BK230 := n1_;have BK237 := n2_;have HB := n3_;have BK257 := n4_;have GW257 := n5_;have GE257 := n6_;have NB223_257 := n7_;have NB257_223 := n8_;have NB230_257 := n9_;have NB257_230 := n10_;have NB237_257 := n11_;have NB257_237 := n12_;clear n0_ n1_ n2_ n3_ n4_ n5_ n6_ n7_ n8_ n9_ n10_ n11_ n12_;clear hb hbox hg;have hnb128 := NB257_223.out;have hnc128 := NB223_257.out;have hnb129 := NB257_230.out;have hnc129 := NB230_257.out;have hnb130 := NB257_237.out;have hnc130 := NB237_257.out;obtain ⟨hcz131_0, hcz131_1, hfz131_0⟩ := zc2_ BK257.out) | ((with_reducible refine gate_callee (f := 69) rfl ?_);refine goesL_ (some 161) rfl rfl Try.func69 (by kernel_rfl) rfl #[.int .u64 t253,.bool true] rfl z5_ ?_;(with_reducible refine (round_left.calls kj68 t253 true t259 _ A122.out).mono ?_);rintro e w' ⟨rfl, ⟨nd, rfl⟩⟩;refine ⟨_, rfl, ?_⟩))
       go_ret3
       exact ⟨by first | rfl | (simp [errW_none, errW_some] <;> rfl) | (simp only [← hji107, ← hji109];first | rfl | (simp [errW_none, errW_some] <;> rfl)) | (simp [*, errW_none, errW_some] <;> rfl), z3_ HB.out⟩
     ·rw [if_neg c108] at H
      exact absurd H (by simp)
def round_Round.f (k : Nat) (a0 : Int) (a1_0 : Int) (a1_1 : Bool) (a1_2 : Int) (a1_3 : Int) (a1_4 : Int) (a1_5 : Bool) : Option (Int × Option Int) := (round_Cut.f k a0 a1_0 a1_1 a1_2 a1_3 a1_4 a1_5).bind fun bt261 => (if bt261.2.2.isNone = true then (if bt261.2.1 = 2 then (if (Go.bits .and .u64 bt261.1 1) = 0 then (if a1_1 = true then ((shape_Fold.f a0 (IntKind.u64.wrap (-bt261.1))).bind fun bt273 => (some (bt273.1, bt273.2))) else ((shape_Fold.f a0 bt261.1).bind fun bt275 => (some (bt275.1, bt275.2)))) else (if a1_1 = true then ((shape_Fold.f a0 (IntKind.u64.wrap (-(IntKind.u64.wrap (bt261.1 + 1))))).bind fun bt277 => (some (bt277.1, bt277.2))) else ((shape_Fold.f a0 (IntKind.u64.wrap (bt261.1 + 1))).bind fun bt279 => (some (bt279.1, bt279.2))))) else (if bt261.2.1 = 3 then (if a1_1 = true then ((shape_Fold.f a0 (IntKind.u64.wrap (-(IntKind.u64.wrap (bt261.1 + 1))))).bind fun bt265 => (some (bt265.1, bt265.2))) else ((shape_Fold.f a0 (IntKind.u64.wrap (bt261.1 + 1))).bind fun bt267 => (some (bt267.1, bt267.2)))) else (if a1_1 = true then ((shape_Fold.f a0 (IntKind.u64.wrap (-bt261.1))).bind fun bt269 => (some (bt269.1, bt269.2))) else ((shape_Fold.f a0 bt261.1).bind fun bt271 => (some (bt271.1, bt271.2)))))) else (some (0, some (bt261.2.2.getD 0))))
theorem round_Round.mono : ∀ a0 a1 a2 a3 a4 a5 a6 k, LeO (round_Round.f k a0 a1 a2 a3 a4 a5 a6) (round_Round.f (k + 1) a0 a1 a2 a3 a4 a5 a6) := by
 intro a0 a1 a2 a3 a4 a5 a6 k
 unfold round_Round.f
 repeat' first
   | (with_reducible exact round_Cut.mono _ _ _ _ _ _ _ _)
   | (with_reducible exact LeO.refl _)
   | (with_reducible exact LeO.none _)
   | (with_reducible refine LeO.ite ?_ ?_)
   | (with_reducible refine LeO.bind ?_ (fun _ => ?_))
   | exact round_Cut.mono _ _ _ _ _ _ _ _
   | exact LeO.none _
   | refine LeO.ite ?_ ?_
   | refine LeO.bind ?_ (fun _ => ?_)
set_option maxHeartbeats 8000000 in
set_option maxRecDepth 100000 in
theorem round_Round.calls (k : Nat) (a0 : Int) (a1_0 : Int) (a1_1 : Bool) (a1_2 : Int) (a1_3 : Int) (a1_4 : Int) (a1_5 : Bool) (r1 : Int) (r2 : Option Int) (w : World) (h : round_Round.f k a0 a1_0 a1_1 a1_2 a1_3 a1_4 a1_5 = some (r1, r2)) :
  Calls Try.prog 30 #[.int .i64 a0,.agg #[.int .i64 a1_0,.bool a1_1,.int .i64 a1_2,.int .u64 a1_3,.int .u64 a1_4,.bool a1_5]] w fun e w' => e = .returned (.tuple #[.int .u64 r1, errW r2]) ∧ Below w.heap.size w w' := by
 have hu27 := Try.underlying27
 have hu29 := Try.underlying29
 have hu42 := Try.underlying42
 have HB := am_ (Below.refl w.heap.size w)
 have H : ((round_Cut.f k a0 a1_0 a1_1 a1_2 a1_3 a1_4 a1_5).bind fun bt261 => (if bt261.2.2.isNone = true then (if bt261.2.1 = 2 then (if (Go.bits .and .u64 bt261.1 1) = 0 then (if a1_1 = true then ((shape_Fold.f a0 (IntKind.u64.wrap (-bt261.1))).bind fun bt273 => (some (bt273.1, bt273.2))) else ((shape_Fold.f a0 bt261.1).bind fun bt275 => (some (bt275.1, bt275.2)))) else (if a1_1 = true then ((shape_Fold.f a0 (IntKind.u64.wrap (-(IntKind.u64.wrap (bt261.1 + 1))))).bind fun bt277 => (some (bt277.1, bt277.2))) else ((shape_Fold.f a0 (IntKind.u64.wrap (bt261.1 + 1))).bind fun bt279 => (some (bt279.1, bt279.2))))) else (if bt261.2.1 = 3 then (if a1_1 = true then ((shape_Fold.f a0 (IntKind.u64.wrap (-(IntKind.u64.wrap (bt261.1 + 1))))).bind fun bt265 => (some (bt265.1, bt265.2))) else ((shape_Fold.f a0 (IntKind.u64.wrap (bt261.1 + 1))).bind fun bt267 => (some (bt267.1, bt267.2)))) else (if a1_1 = true then ((shape_Fold.f a0 (IntKind.u64.wrap (-bt261.1))).bind fun bt269 => (some (bt269.1, bt269.2))) else ((shape_Fold.f a0 bt261.1).bind fun bt271 => (some (bt271.1, bt271.2)))))) else (some (0, some (bt261.2.2.getD 0))))) = some (r1, r2) := h
 clear h
 replace H := Option.bind_eq_some_iff.mp H
 obtain ⟨⟨t261, t262, t263⟩, A30, H⟩ := H
 replace H : (if t263.isNone = true then (if t262 = 2 then (if (Go.bits .and .u64 t261 1) = 0 then (if a1_1 = true then ((shape_Fold.f a0 (IntKind.u64.wrap (-t261))).bind fun bt273 => (some (bt273.1, bt273.2))) else ((shape_Fold.f a0 t261).bind fun bt275 => (some (bt275.1, bt275.2)))) else (if a1_1 = true then ((shape_Fold.f a0 (IntKind.u64.wrap (-(IntKind.u64.wrap (t261 + 1))))).bind fun bt277 => (some (bt277.1, bt277.2))) else ((shape_Fold.f a0 (IntKind.u64.wrap (t261 + 1))).bind fun bt279 => (some (bt279.1, bt279.2))))) else (if t262 = 3 then (if a1_1 = true then ((shape_Fold.f a0 (IntKind.u64.wrap (-(IntKind.u64.wrap (t261 + 1))))).bind fun bt265 => (some (bt265.1, bt265.2))) else ((shape_Fold.f a0 (IntKind.u64.wrap (t261 + 1))).bind fun bt267 => (some (bt267.1, bt267.2)))) else (if a1_1 = true then ((shape_Fold.f a0 (IntKind.u64.wrap (-t261))).bind fun bt269 => (some (bt269.1, bt269.2))) else ((shape_Fold.f a0 t261).bind fun bt271 => (some (bt271.1, bt271.2)))))) else (some (0, some (t263.getD 0)))) = some (r1, r2) := H
 have A3 := am_ A30
 clear A30
 rcases t263 with _ | q264
 ·have H1 : (if t262 = 2 then (if (Go.bits .and .u64 t261 1) = 0 then (if a1_1 = true then ((shape_Fold.f a0 (IntKind.u64.wrap (-t261))).bind fun bt273 => (some (bt273.1, bt273.2))) else ((shape_Fold.f a0 t261).bind fun bt275 => (some (bt275.1, bt275.2)))) else (if a1_1 = true then ((shape_Fold.f a0 (IntKind.u64.wrap (-(IntKind.u64.wrap (t261 + 1))))).bind fun bt277 => (some (bt277.1, bt277.2))) else ((shape_Fold.f a0 (IntKind.u64.wrap (t261 + 1))).bind fun bt279 => (some (bt279.1, bt279.2))))) else (if t262 = 3 then (if a1_1 = true then ((shape_Fold.f a0 (IntKind.u64.wrap (-(IntKind.u64.wrap (t261 + 1))))).bind fun bt265 => (some (bt265.1, bt265.2))) else ((shape_Fold.f a0 (IntKind.u64.wrap (t261 + 1))).bind fun bt267 => (some (bt267.1, bt267.2)))) else (if a1_1 = true then ((shape_Fold.f a0 (IntKind.u64.wrap (-t261))).bind fun bt269 => (some (bt269.1, bt269.2))) else ((shape_Fold.f a0 t261).bind fun bt271 => (some (bt271.1, bt271.2)))))) = some (r1, r2) := by rw [if_pos (show (none : Option Int).isNone = true by rfl)] at H;exact H
  clear H
  have H := H1
  clear H1
  try simp only [errW_none, errW_some]
  by_cases c4 : t262 = 2
  ·rw [if_pos c4] at H
   have c4b0 : (t262 == 2) = true := beq_iff_eq.mpr c4
   have c4b1 : (t262 != 2) = false := bne_eq_false_iff_eq.mpr c4
   clear c4
   by_cases c5 : (Go.bits .and .u64 t261 1) = 0
   ·rw [if_pos c5] at H
    have c5b0 : ((Go.bits .and .u64 t261 1) == 0) = true := beq_iff_eq.mpr c5
    have c5b1 : ((Go.bits .and .u64 t261 1) != 0) = false := bne_eq_false_iff_eq.mpr c5
    clear c5
    by_cases c6 : a1_1 = true
    ·subst c6
     have H1 : ((shape_Fold.f a0 (IntKind.u64.wrap (-t261))).bind fun bt273 => (some (bt273.1, bt273.2))) = some (r1, r2) := by rw [if_pos rfl] at H;exact H
     clear H
     have H := H1
     clear H1
     replace H := Option.bind_eq_some_iff.mp H
     obtain ⟨⟨t273, t274⟩, A70, H⟩ := H
     replace H : (some (t273, t274)) = some (r1, r2) := H
     have A7 := am_ A70
     clear A70
     simp only [Option.some.injEq, Prod.mk.injEq] at H
     obtain ⟨rfl, rfl⟩ := H
     go_enter Try.func30, Try.ntmps30
     go_wp2_with (first | ((with_reducible refine gate_dst (N := 3) rfl ?_);refine box_event ?hg (N := 3) ?hd (cs := #[.int .i64 a1_0,.bool true,.int .i64 a1_2,.int .u64 a1_3,.int .u64 a1_4,.bool a1_5]) (t := 27) ?hr ?_;(case hd => rfl);(case hg => rfl);(case hr => first | (go_simp;done) | (go_simp;rfl));intro gb260 hg w8 hbox hb;have n0_ := am_ (below_step (z3_ HB.out) hb);have n1_ := am_ (hbox);have n2_ := am_ ((by rw [hg];exact (below_size (z3_ HB.out)) : w.heap.size ≤ gb260));have n3_ := am_ ((by rw [hg];exact (below_size (z3_ HB.out)) : w.heap.size ≤ gb260));clear HB;have HB := n0_;have BK260 := n1_;have GW260 := n2_;have GE260 := n3_;clear n0_ n1_ n2_ n3_;clear hb hbox hg;obtain ⟨hcz9_0, hcz9_1, hcz9_2, hcz9_3, hcz9_4, hcz9_5, hfz9_0⟩ := zc6_ BK260.out) | ((with_reducible refine gate_callee (f := 49) rfl ?_);refine goesL_ (some 12) rfl rfl Try.func49 (by kernel_rfl) rfl #[.int .i64 a0,.agg #[.int .i64 a1_0,.bool true,.int .i64 a1_2,.int .u64 a1_3,.int .u64 a1_4,.bool a1_5]] rfl z5_ ?_;(with_reducible refine (round_Cut.calls k a0 a1_0 true a1_2 a1_3 a1_4 a1_5 t261 t262 none _ A3.out).mono ?_);rintro e w10 ⟨rfl, hb⟩;refine ⟨_, rfl, ?_⟩;have n0_ := am_ (blk_below (g := gb260) (z1_ BK260.out) hb);have n1_ := am_ (below_step (z3_ HB.out) hb);clear BK260;clear HB;have BK260 := n0_;have HB := n1_;clear n0_ n1_;(try clear hb);(try simp only [errW_none, errW_some]);obtain ⟨hcz11_0, hcz11_1, hcz11_2, hcz11_3, hcz11_4, hcz11_5, hfz11_0⟩ := zc6_ BK260.out) | ((with_reducible refine gate_callee (f := 50) rfl ?_);refine goesL_ (some 35) rfl rfl Try.func50 (by kernel_rfl) rfl #[.int .i64 a0,.int .u64 (IntKind.u64.wrap (-t261))] rfl z5_ ?_;(with_reducible refine (shape_Fold.calls a0 (IntKind.u64.wrap (-t261)) t273 t274 _ A7.out).mono ?_);rintro e w' ⟨rfl, ⟨nd, rfl⟩⟩;refine ⟨_, rfl, ?_⟩;(try simp only [errW_none, errW_some])))
     go_ret2
     exact ⟨z6_, z3_ HB.out⟩
    ·replace c6 := Bool.eq_false_iff.mpr c6
     subst c6
     have H1 : ((shape_Fold.f a0 t261).bind fun bt275 => (some (bt275.1, bt275.2))) = some (r1, r2) := by rw [if_neg (show ¬ (false = true) by decide)] at H;exact H
     clear H
     have H := H1
     clear H1
     replace H := Option.bind_eq_some_iff.mp H
     obtain ⟨⟨t275, t276⟩, A120, H⟩ := H
     replace H : (some (t275, t276)) = some (r1, r2) := H
     have A12 := am_ A120
     clear A120
     simp only [Option.some.injEq, Prod.mk.injEq] at H
     obtain ⟨rfl, rfl⟩ := H
     go_enter Try.func30, Try.ntmps30
     go_wp2_with (first | ((with_reducible refine gate_dst (N := 3) rfl ?_);refine box_event ?hg (N := 3) ?hd (cs := #[.int .i64 a1_0,.bool false,.int .i64 a1_2,.int .u64 a1_3,.int .u64 a1_4,.bool a1_5]) (t := 27) ?hr ?_;(case hd => rfl);(case hg => rfl);(case hr => first | (go_simp;done) | (go_simp;rfl));intro gb260 hg w13 hbox hb;have n0_ := am_ (below_step (z3_ HB.out) hb);have n1_ := am_ (hbox);have n2_ := am_ ((by rw [hg];exact (below_size (z3_ HB.out)) : w.heap.size ≤ gb260));have n3_ := am_ ((by rw [hg];exact (below_size (z3_ HB.out)) : w.heap.size ≤ gb260));clear HB;have HB := n0_;have BK260 := n1_;have GW260 := n2_;have GE260 := n3_;clear n0_ n1_ n2_ n3_;clear hb hbox hg;obtain ⟨hcz14_0, hcz14_1, hcz14_2, hcz14_3, hcz14_4, hcz14_5, hfz14_0⟩ := zc6_ BK260.out) | ((with_reducible refine gate_callee (f := 49) rfl ?_);refine goesL_ (some 12) rfl rfl Try.func49 (by kernel_rfl) rfl #[.int .i64 a0,.agg #[.int .i64 a1_0,.bool false,.int .i64 a1_2,.int .u64 a1_3,.int .u64 a1_4,.bool a1_5]] rfl z5_ ?_;(with_reducible refine (round_Cut.calls k a0 a1_0 false a1_2 a1_3 a1_4 a1_5 t261 t262 none _ A3.out).mono ?_);rintro e w15 ⟨rfl, hb⟩;refine ⟨_, rfl, ?_⟩;have n0_ := am_ (blk_below (g := gb260) (z1_ BK260.out) hb);have n1_ := am_ (below_step (z3_ HB.out) hb);clear BK260;clear HB;have BK260 := n0_;have HB := n1_;clear n0_ n1_;(try clear hb);(try simp only [errW_none, errW_some]);obtain ⟨hcz16_0, hcz16_1, hcz16_2, hcz16_3, hcz16_4, hcz16_5, hfz16_0⟩ := zc6_ BK260.out) | ((with_reducible refine gate_callee (f := 50) rfl ?_);refine goesL_ (some 35) rfl rfl Try.func50 (by kernel_rfl) rfl #[.int .i64 a0,.int .u64 t261] rfl z5_ ?_;(with_reducible refine (shape_Fold.calls a0 t261 t275 t276 _ A12.out).mono ?_);rintro e w' ⟨rfl, ⟨nd, rfl⟩⟩;refine ⟨_, rfl, ?_⟩;(try simp only [errW_none, errW_some])))
     go_ret2
     exact ⟨z6_, z3_ HB.out⟩
   ·rw [if_neg c5] at H
    have c5b0 : ((Go.bits .and .u64 t261 1) == 0) = false := beq_eq_false_iff_ne.mpr c5
    have c5b1 : ((Go.bits .and .u64 t261 1) != 0) = true := bne_iff_ne.mpr c5
    by_cases c17 : a1_1 = true
    ·subst c17
     have H1 : ((shape_Fold.f a0 (IntKind.u64.wrap (-(IntKind.u64.wrap (t261 + 1))))).bind fun bt277 => (some (bt277.1, bt277.2))) = some (r1, r2) := by rw [if_pos rfl] at H;exact H
     clear H
     have H := H1
     clear H1
     replace H := Option.bind_eq_some_iff.mp H
     obtain ⟨⟨t277, t278⟩, A180, H⟩ := H
     replace H : (some (t277, t278)) = some (r1, r2) := H
     have A18 := am_ A180
     clear A180
     simp only [Option.some.injEq, Prod.mk.injEq] at H
     obtain ⟨rfl, rfl⟩ := H
     go_enter Try.func30, Try.ntmps30
     go_wp2_with (first | ((with_reducible refine gate_dst (N := 3) rfl ?_);refine box_event ?hg (N := 3) ?hd (cs := #[.int .i64 a1_0,.bool true,.int .i64 a1_2,.int .u64 a1_3,.int .u64 a1_4,.bool a1_5]) (t := 27) ?hr ?_;(case hd => rfl);(case hg => rfl);(case hr => first | (go_simp;done) | (go_simp;rfl));intro gb260 hg w19 hbox hb;have n0_ := am_ (below_step (z3_ HB.out) hb);have n1_ := am_ (hbox);have n2_ := am_ ((by rw [hg];exact (below_size (z3_ HB.out)) : w.heap.size ≤ gb260));have n3_ := am_ ((by rw [hg];exact (below_size (z3_ HB.out)) : w.heap.size ≤ gb260));clear HB;have HB := n0_;have BK260 := n1_;have GW260 := n2_;have GE260 := n3_;clear n0_ n1_ n2_ n3_;clear hb hbox hg;obtain ⟨hcz20_0, hcz20_1, hcz20_2, hcz20_3, hcz20_4, hcz20_5, hfz20_0⟩ := zc6_ BK260.out) | ((with_reducible refine gate_callee (f := 49) rfl ?_);refine goesL_ (some 12) rfl rfl Try.func49 (by kernel_rfl) rfl #[.int .i64 a0,.agg #[.int .i64 a1_0,.bool true,.int .i64 a1_2,.int .u64 a1_3,.int .u64 a1_4,.bool a1_5]] rfl z5_ ?_;(with_reducible refine (round_Cut.calls k a0 a1_0 true a1_2 a1_3 a1_4 a1_5 t261 t262 none _ A3.out).mono ?_);rintro e w21 ⟨rfl, hb⟩;refine ⟨_, rfl, ?_⟩;have n0_ := am_ (blk_below (g := gb260) (z1_ BK260.out) hb);have n1_ := am_ (below_step (z3_ HB.out) hb);clear BK260;clear HB;have BK260 := n0_;have HB := n1_;clear n0_ n1_;(try clear hb);(try simp only [errW_none, errW_some]);obtain ⟨hcz22_0, hcz22_1, hcz22_2, hcz22_3, hcz22_4, hcz22_5, hfz22_0⟩ := zc6_ BK260.out) | ((with_reducible refine gate_callee (f := 50) rfl ?_);refine goesL_ (some 35) rfl rfl Try.func50 (by kernel_rfl) rfl #[.int .i64 a0,.int .u64 (IntKind.u64.wrap (-(IntKind.u64.wrap (t261 + 1))))] rfl z5_ ?_;(with_reducible refine (shape_Fold.calls a0 (IntKind.u64.wrap (-(IntKind.u64.wrap (t261 + 1)))) t277 t278 _ A18.out).mono ?_);rintro e w' ⟨rfl, ⟨nd, rfl⟩⟩;refine ⟨_, rfl, ?_⟩;(try simp only [errW_none, errW_some])))
     go_ret2
     exact ⟨z6_, z3_ HB.out⟩
    ·replace c17 := Bool.eq_false_iff.mpr c17
     subst c17
     have H1 : ((shape_Fold.f a0 (IntKind.u64.wrap (t261 + 1))).bind fun bt279 => (some (bt279.1, bt279.2))) = some (r1, r2) := by rw [if_neg (show ¬ (false = true) by decide)] at H;exact H
     clear H
     have H := H1
     clear H1
     replace H := Option.bind_eq_some_iff.mp H
     obtain ⟨⟨t279, t280⟩, A230, H⟩ := H
     replace H : (some (t279, t280)) = some (r1, r2) := H
     have A23 := am_ A230
     clear A230
     simp only [Option.some.injEq, Prod.mk.injEq] at H
     obtain ⟨rfl, rfl⟩ := H
     go_enter Try.func30, Try.ntmps30
     go_wp2_with (first | ((with_reducible refine gate_dst (N := 3) rfl ?_);refine box_event ?hg (N := 3) ?hd (cs := #[.int .i64 a1_0,.bool false,.int .i64 a1_2,.int .u64 a1_3,.int .u64 a1_4,.bool a1_5]) (t := 27) ?hr ?_;(case hd => rfl);(case hg => rfl);(case hr => first | (go_simp;done) | (go_simp;rfl));intro gb260 hg w24 hbox hb;have n0_ := am_ (below_step (z3_ HB.out) hb);have n1_ := am_ (hbox);have n2_ := am_ ((by rw [hg];exact (below_size (z3_ HB.out)) : w.heap.size ≤ gb260));have n3_ := am_ ((by rw [hg];exact (below_size (z3_ HB.out)) : w.heap.size ≤ gb260));clear HB;have HB := n0_;have BK260 := n1_;have GW260 := n2_;have GE260 := n3_;clear n0_ n1_ n2_ n3_;clear hb hbox hg;obtain ⟨hcz25_0, hcz25_1, hcz25_2, hcz25_3, hcz25_4, hcz25_5, hfz25_0⟩ := zc6_ BK260.out) | ((with_reducible refine gate_callee (f := 49) rfl ?_);refine goesL_ (some 12) rfl rfl Try.func49 (by kernel_rfl) rfl #[.int .i64 a0,.agg #[.int .i64 a1_0,.bool false,.int .i64 a1_2,.int .u64 a1_3,.int .u64 a1_4,.bool a1_5]] rfl z5_ ?_;(with_reducible refine (round_Cut.calls k a0 a1_0 false a1_2 a1_3 a1_4 a1_5 t261 t262 none _ A3.out).mono ?_);rintro e w26 ⟨rfl, hb⟩;refine ⟨_, rfl, ?_⟩;have n0_ := am_ (blk_below (g := gb260) (z1_ BK260.out) hb);have n1_ := am_ (below_step (z3_ HB.out) hb);clear BK260;clear HB;have BK260 := n0_;have HB := n1_;clear n0_ n1_;(try clear hb);(try simp only [errW_none, errW_some]);obtain ⟨hcz27_0, hcz27_1, hcz27_2, hcz27_3, hcz27_4, hcz27_5, hfz27_0⟩ := zc6_ BK260.out) | ((with_reducible refine gate_callee (f := 50) rfl ?_);refine goesL_ (some 35) rfl rfl Try.func50 (by kernel_rfl) rfl #[.int .i64 a0,.int .u64 (IntKind.u64.wrap (t261 + 1))] rfl z5_ ?_;(with_reducible refine (shape_Fold.calls a0 (IntKind.u64.wrap (t261 + 1)) t279 t280 _ A23.out).mono ?_);rintro e w' ⟨rfl, ⟨nd, rfl⟩⟩;refine ⟨_, rfl, ?_⟩;(try simp only [errW_none, errW_some])))
     go_ret2
     exact ⟨z6_, z3_ HB.out⟩
  ·rw [if_neg c4] at H
   have c4b0 : (t262 == 2) = false := beq_eq_false_iff_ne.mpr c4
   have c4b1 : (t262 != 2) = true := bne_iff_ne.mpr c4
   by_cases c28 : t262 = 3
   ·rw [if_pos c28] at H
    have c28b0 : (t262 == 3) = true := beq_iff_eq.mpr c28
    have c28b1 : (t262 != 3) = false := bne_eq_false_iff_eq.mpr c28
    clear c28
    by_cases c29 : a1_1 = true
    ·subst c29
     have H1 : ((shape_Fold.f a0 (IntKind.u64.wrap (-(IntKind.u64.wrap (t261 + 1))))).bind fun bt265 => (some (bt265.1, bt265.2))) = some (r1, r2) := by rw [if_pos rfl] at H;exact H
     clear H
     have H := H1
     clear H1
     replace H := Option.bind_eq_some_iff.mp H
     obtain ⟨⟨t265, t266⟩, A300, H⟩ := H
     replace H : (some (t265, t266)) = some (r1, r2) := H
     have A30 := am_ A300
     clear A300
     simp only [Option.some.injEq, Prod.mk.injEq] at H
     obtain ⟨rfl, rfl⟩ := H
     go_enter Try.func30, Try.ntmps30
     go_wp2_with (first | ((with_reducible refine gate_dst (N := 3) rfl ?_);refine box_event ?hg (N := 3) ?hd (cs := #[.int .i64 a1_0,.bool true,.int .i64 a1_2,.int .u64 a1_3,.int .u64 a1_4,.bool a1_5]) (t := 27) ?hr ?_;(case hd => rfl);(case hg => rfl);(case hr => first | (go_simp;done) | (go_simp;rfl));intro gb260 hg w31 hbox hb;have n0_ := am_ (below_step (z3_ HB.out) hb);have n1_ := am_ (hbox);have n2_ := am_ ((by rw [hg];exact (below_size (z3_ HB.out)) : w.heap.size ≤ gb260));have n3_ := am_ ((by rw [hg];exact (below_size (z3_ HB.out)) : w.heap.size ≤ gb260));clear HB;have HB := n0_;have BK260 := n1_;have GW260 := n2_;have GE260 := n3_;clear n0_ n1_ n2_ n3_;clear hb hbox hg;obtain ⟨hcz32_0, hcz32_1, hcz32_2, hcz32_3, hcz32_4, hcz32_5, hfz32_0⟩ := zc6_ BK260.out) | ((with_reducible refine gate_callee (f := 49) rfl ?_);refine goesL_ (some 12) rfl rfl Try.func49 (by kernel_rfl) rfl #[.int .i64 a0,.agg #[.int .i64 a1_0,.bool true,.int .i64 a1_2,.int .u64 a1_3,.int .u64 a1_4,.bool a1_5]] rfl z5_ ?_;(with_reducible refine (round_Cut.calls k a0 a1_0 true a1_2 a1_3 a1_4 a1_5 t261 t262 none _ A3.out).mono ?_);rintro e w33 ⟨rfl, hb⟩;refine ⟨_, rfl, ?_⟩;have n0_ := am_ (blk_below (g := gb260) (z1_ BK260.out) hb);have n1_ := am_ (below_step (z3_ HB.out) hb);clear BK260;clear HB;have BK260 := n0_;have HB := n1_;clear n0_ n1_;(try clear hb);(try simp only [errW_none, errW_some]);obtain ⟨hcz34_0, hcz34_1, hcz34_2, hcz34_3, hcz34_4, hcz34_5, hfz34_0⟩ := zc6_ BK260.out) | ((with_reducible refine gate_callee (f := 50) rfl ?_);refine goesL_ (some 35) rfl rfl Try.func50 (by kernel_rfl) rfl #[.int .i64 a0,.int .u64 (IntKind.u64.wrap (-(IntKind.u64.wrap (t261 + 1))))] rfl z5_ ?_;(with_reducible refine (shape_Fold.calls a0 (IntKind.u64.wrap (-(IntKind.u64.wrap (t261 + 1)))) t265 t266 _ A30.out).mono ?_);rintro e w' ⟨rfl, ⟨nd, rfl⟩⟩;refine ⟨_, rfl, ?_⟩;(try simp only [errW_none, errW_some])))
     go_ret2
     exact ⟨z6_, z3_ HB.out⟩
    ·replace c29 := Bool.eq_false_iff.mpr c29
     subst c29
     have H1 : ((shape_Fold.f a0 (IntKind.u64.wrap (t261 + 1))).bind fun bt267 => (some (bt267.1, bt267.2))) = some (r1, r2) := by rw [if_neg (show ¬ (false = true) by decide)] at H;exact H
     clear H
     have H := H1
     clear H1
     replace H := Option.bind_eq_some_iff.mp H
     obtain ⟨⟨t267, t268⟩, A350, H⟩ := H
     replace H : (some (t267, t268)) = some (r1, r2) := H
     have A35 := am_ A350
     clear A350
     simp only [Option.some.injEq, Prod.mk.injEq] at H
     obtain ⟨rfl, rfl⟩ := H
     go_enter Try.func30, Try.ntmps30
     go_wp2_with (first | ((with_reducible refine gate_dst (N := 3) rfl ?_);refine box_event ?hg (N := 3) ?hd (cs := #[.int .i64 a1_0,.bool false,.int .i64 a1_2,.int .u64 a1_3,.int .u64 a1_4,.bool a1_5]) (t := 27) ?hr ?_;(case hd => rfl);(case hg => rfl);(case hr => first | (go_simp;done) | (go_simp;rfl));intro gb260 hg w36 hbox hb;have n0_ := am_ (below_step (z3_ HB.out) hb);have n1_ := am_ (hbox);have n2_ := am_ ((by rw [hg];exact (below_size (z3_ HB.out)) : w.heap.size ≤ gb260));have n3_ := am_ ((by rw [hg];exact (below_size (z3_ HB.out)) : w.heap.size ≤ gb260));clear HB;have HB := n0_;have BK260 := n1_;have GW260 := n2_;have GE260 := n3_;clear n0_ n1_ n2_ n3_;clear hb hbox hg;obtain ⟨hcz37_0, hcz37_1, hcz37_2, hcz37_3, hcz37_4, hcz37_5, hfz37_0⟩ := zc6_ BK260.out) | ((with_reducible refine gate_callee (f := 49) rfl ?_);refine goesL_ (some 12) rfl rfl Try.func49 (by kernel_rfl) rfl #[.int .i64 a0,.agg #[.int .i64 a1_0,.bool false,.int .i64 a1_2,.int .u64 a1_3,.int .u64 a1_4,.bool a1_5]] rfl z5_ ?_;(with_reducible refine (round_Cut.calls k a0 a1_0 false a1_2 a1_3 a1_4 a1_5 t261 t262 none _ A3.out).mono ?_);rintro e w38 ⟨rfl, hb⟩;refine ⟨_, rfl, ?_⟩;have n0_ := am_ (blk_below (g := gb260) (z1_ BK260.out) hb);have n1_ := am_ (below_step (z3_ HB.out) hb);clear BK260;clear HB;have BK260 := n0_;have HB := n1_;clear n0_ n1_;(try clear hb);(try simp only [errW_none, errW_some]);obtain ⟨hcz39_0, hcz39_1, hcz39_2, hcz39_3, hcz39_4, hcz39_5, hfz39_0⟩ := zc6_ BK260.out) | ((with_reducible refine gate_callee (f := 50) rfl ?_);refine goesL_ (some 35) rfl rfl Try.func50 (by kernel_rfl) rfl #[.int .i64 a0,.int .u64 (IntKind.u64.wrap (t261 + 1))] rfl z5_ ?_;(with_reducible refine (shape_Fold.calls a0 (IntKind.u64.wrap (t261 + 1)) t267 t268 _ A35.out).mono ?_);rintro e w' ⟨rfl, ⟨nd, rfl⟩⟩;refine ⟨_, rfl, ?_⟩;(try simp only [errW_none, errW_some])))
     go_ret2
     exact ⟨z6_, z3_ HB.out⟩
   ·rw [if_neg c28] at H
    have c28b0 : (t262 == 3) = false := beq_eq_false_iff_ne.mpr c28
    have c28b1 : (t262 != 3) = true := bne_iff_ne.mpr c28
    by_cases c40 : a1_1 = true
    ·subst c40
     have H1 : ((shape_Fold.f a0 (IntKind.u64.wrap (-t261))).bind fun bt269 => (some (bt269.1, bt269.2))) = some (r1, r2) := by rw [if_pos rfl] at H;exact H
     clear H
     have H := H1
     clear H1
     replace H := Option.bind_eq_some_iff.mp H
     obtain ⟨⟨t269, t270⟩, A410, H⟩ := H
     replace H : (some (t269, t270)) = some (r1, r2) := H
     have A41 := am_ A410
     clear A410
     simp only [Option.some.injEq, Prod.mk.injEq] at H
     obtain ⟨rfl, rfl⟩ := H
     go_enter Try.func30, Try.ntmps30
     go_wp2_with (first | ((with_reducible refine gate_dst (N := 3) rfl ?_);refine box_event ?hg (N := 3) ?hd (cs := #[.int .i64 a1_0,.bool true,.int .i64 a1_2,.int .u64 a1_3,.int .u64 a1_4,.bool a1_5]) (t := 27) ?hr ?_;(case hd => rfl);(case hg => rfl);(case hr => first | (go_simp;done) | (go_simp;rfl));intro gb260 hg w42 hbox hb;have n0_ := am_ (below_step (z3_ HB.out) hb);have n1_ := am_ (hbox);have n2_ := am_ ((by rw [hg];exact (below_size (z3_ HB.out)) : w.heap.size ≤ gb260));have n3_ := am_ ((by rw [hg];exact (below_size (z3_ HB.out)) : w.heap.size ≤ gb260));clear HB;have HB := n0_;have BK260 := n1_;have GW260 := n2_;have GE260 := n3_;clear n0_ n1_ n2_ n3_;clear hb hbox hg;obtain ⟨hcz43_0, hcz43_1, hcz43_2, hcz43_3, hcz43_4, hcz43_5, hfz43_0⟩ := zc6_ BK260.out) | ((with_reducible refine gate_callee (f := 49) rfl ?_);refine goesL_ (some 12) rfl rfl Try.func49 (by kernel_rfl) rfl #[.int .i64 a0,.agg #[.int .i64 a1_0,.bool true,.int .i64 a1_2,.int .u64 a1_3,.int .u64 a1_4,.bool a1_5]] rfl z5_ ?_;(with_reducible refine (round_Cut.calls k a0 a1_0 true a1_2 a1_3 a1_4 a1_5 t261 t262 none _ A3.out).mono ?_);rintro e w44 ⟨rfl, hb⟩;refine ⟨_, rfl, ?_⟩;have n0_ := am_ (blk_below (g := gb260) (z1_ BK260.out) hb);have n1_ := am_ (below_step (z3_ HB.out) hb);clear BK260;clear HB;have BK260 := n0_;have HB := n1_;clear n0_ n1_;(try clear hb);(try simp only [errW_none, errW_some]);obtain ⟨hcz45_0, hcz45_1, hcz45_2, hcz45_3, hcz45_4, hcz45_5, hfz45_0⟩ := zc6_ BK260.out) | ((with_reducible refine gate_callee (f := 50) rfl ?_);refine goesL_ (some 35) rfl rfl Try.func50 (by kernel_rfl) rfl #[.int .i64 a0,.int .u64 (IntKind.u64.wrap (-t261))] rfl z5_ ?_;(with_reducible refine (shape_Fold.calls a0 (IntKind.u64.wrap (-t261)) t269 t270 _ A41.out).mono ?_);rintro e w' ⟨rfl, ⟨nd, rfl⟩⟩;refine ⟨_, rfl, ?_⟩;(try simp only [errW_none, errW_some])))
     go_ret2
     exact ⟨z6_, z3_ HB.out⟩
    ·replace c40 := Bool.eq_false_iff.mpr c40
     subst c40
     have H1 : ((shape_Fold.f a0 t261).bind fun bt271 => (some (bt271.1, bt271.2))) = some (r1, r2) := by rw [if_neg (show ¬ (false = true) by decide)] at H;exact H
     clear H
     have H := H1
     clear H1
     replace H := Option.bind_eq_some_iff.mp H
     obtain ⟨⟨t271, t272⟩, A460, H⟩ := H
     replace H : (some (t271, t272)) = some (r1, r2) := H
     have A46 := am_ A460
     clear A460
     simp only [Option.some.injEq, Prod.mk.injEq] at H
     obtain ⟨rfl, rfl⟩ := H
     go_enter Try.func30, Try.ntmps30
     go_wp2_with (first | ((with_reducible refine gate_dst (N := 3) rfl ?_);refine box_event ?hg (N := 3) ?hd (cs := #[.int .i64 a1_0,.bool false,.int .i64 a1_2,.int .u64 a1_3,.int .u64 a1_4,.bool a1_5]) (t := 27) ?hr ?_;(case hd => rfl);(case hg => rfl);(case hr => first | (go_simp;done) | (go_simp;rfl));intro gb260 hg w47 hbox hb;have n0_ := am_ (below_step (z3_ HB.out) hb);have n1_ := am_ (hbox);have n2_ := am_ ((by rw [hg];exact (below_size (z3_ HB.out)) : w.heap.size ≤ gb260));have n3_ := am_ ((by rw [hg];exact (below_size (z3_ HB.out)) : w.heap.size ≤ gb260));clear HB;have HB := n0_;have BK260 := n1_;have GW260 := n2_;have GE260 := n3_;clear n0_ n1_ n2_ n3_;clear hb hbox hg;obtain ⟨hcz48_0, hcz48_1, hcz48_2, hcz48_3, hcz48_4, hcz48_5, hfz48_0⟩ := zc6_ BK260.out) | ((with_reducible refine gate_callee (f := 49) rfl ?_);refine goesL_ (some 12) rfl rfl Try.func49 (by kernel_rfl) rfl #[.int .i64 a0,.agg #[.int .i64 a1_0,.bool false,.int .i64 a1_2,.int .u64 a1_3,.int .u64 a1_4,.bool a1_5]] rfl z5_ ?_;(with_reducible refine (round_Cut.calls k a0 a1_0 false a1_2 a1_3 a1_4 a1_5 t261 t262 none _ A3.out).mono ?_);rintro e w49 ⟨rfl, hb⟩;refine ⟨_, rfl, ?_⟩;have n0_ := am_ (blk_below (g := gb260) (z1_ BK260.out) hb);have n1_ := am_ (below_step (z3_ HB.out) hb);clear BK260;clear HB;have BK260 := n0_;have HB := n1_;clear n0_ n1_;(try clear hb);(try simp only [errW_none, errW_some]);obtain ⟨hcz50_0, hcz50_1, hcz50_2, hcz50_3, hcz50_4, hcz50_5, hfz50_0⟩ := zc6_ BK260.out) | ((with_reducible refine gate_callee (f := 50) rfl ?_);refine goesL_ (some 35) rfl rfl Try.func50 (by kernel_rfl) rfl #[.int .i64 a0,.int .u64 t261] rfl z5_ ?_;(with_reducible refine (shape_Fold.calls a0 t261 t271 t272 _ A46.out).mono ?_);rintro e w' ⟨rfl, ⟨nd, rfl⟩⟩;refine ⟨_, rfl, ?_⟩;(try simp only [errW_none, errW_some])))
     go_ret2
     exact ⟨z6_, z3_ HB.out⟩
 ·have H1 : (some (0, some q264)) = some (r1, r2) := by rw [if_neg (show ¬ (some q264).isNone = true by simp)] at H;exact H
  clear H
  have H := H1
  clear H1
  try simp only [errW_none, errW_some]
  simp only [Option.some.injEq, Prod.mk.injEq] at H
  obtain ⟨rfl, rfl⟩ := H
  go_enter Try.func30, Try.ntmps30
  go_wp2_with (first | ((with_reducible refine gate_dst (N := 3) rfl ?_);refine box_event ?hg (N := 3) ?hd (cs := #[.int .i64 a1_0,.bool a1_1,.int .i64 a1_2,.int .u64 a1_3,.int .u64 a1_4,.bool a1_5]) (t := 27) ?hr ?_;(case hd => rfl);(case hg => rfl);(case hr => first | (go_simp;done) | (go_simp;rfl));intro gb260 hg w51 hbox hb;have n0_ := am_ (below_step (z3_ HB.out) hb);have n1_ := am_ (hbox);have n2_ := am_ ((by rw [hg];exact (below_size (z3_ HB.out)) : w.heap.size ≤ gb260));have n3_ := am_ ((by rw [hg];exact (below_size (z3_ HB.out)) : w.heap.size ≤ gb260));clear HB;have HB := n0_;have BK260 := n1_;have GW260 := n2_;have GE260 := n3_;clear n0_ n1_ n2_ n3_;clear hb hbox hg;obtain ⟨hcz52_0, hcz52_1, hcz52_2, hcz52_3, hcz52_4, hcz52_5, hfz52_0⟩ := zc6_ BK260.out) | ((with_reducible refine gate_callee (f := 49) rfl ?_);refine goesL_ (some 12) rfl rfl Try.func49 (by kernel_rfl) rfl #[.int .i64 a0,.agg #[.int .i64 a1_0,.bool a1_1,.int .i64 a1_2,.int .u64 a1_3,.int .u64 a1_4,.bool a1_5]] rfl z5_ ?_;(with_reducible refine (round_Cut.calls k a0 a1_0 a1_1 a1_2 a1_3 a1_4 a1_5 t261 t262 (some q264) _ A3.out).mono ?_);rintro e w53 ⟨rfl, hb⟩;refine ⟨_, rfl, ?_⟩;have n0_ := am_ (blk_below (g := gb260) (z1_ BK260.out) hb);have n1_ := am_ (below_step (z3_ HB.out) hb);clear BK260;clear HB;have BK260 := n0_;have HB := n1_;clear n0_ n1_;(try clear hb);(try simp only [errW_none, errW_some])))
  go_ret2
  exact ⟨z6_, z3_ HB.out⟩
def prod_Mul.f (k : Nat) (a0 : Int) (a1 : Int) (a2 : Int) : Option (Int × Option Int) := (codec_Decode.f k a0 a1).bind fun bt281 => (if bt281.2.2.2.2.isNone = true then ((codec_Decode.f k a0 a2).bind fun bt288 => ((prod_Exact.f k bt281.1 bt281.2.1 bt281.2.2.1 bt281.2.2.2.1 bt288.1 bt288.2.1 bt288.2.2.1 bt288.2.2.2.1).bind fun bt294 => ((round_Round.f k a0 bt294.1 bt294.2.1 bt294.2.2.1 bt294.2.2.2.1 bt294.2.2.2.2.1 bt294.2.2.2.2.2.1).bind fun bt302 => (some (bt302.1, bt302.2))))) else (some (0, some (bt281.2.2.2.2.getD 0))))
theorem prod_Mul.mono : ∀ a0 a1 a2 k, LeO (prod_Mul.f k a0 a1 a2) (prod_Mul.f (k + 1) a0 a1 a2) := by
 intro a0 a1 a2 k
 unfold prod_Mul.f
 repeat' first
   | (with_reducible exact codec_Decode.mono _ _ _)
   | (with_reducible exact prod_Exact.mono _ _ _ _ _ _ _ _ _)
   | (with_reducible exact round_Round.mono _ _ _ _ _ _ _ _)
   | (with_reducible exact LeO.refl _)
   | (with_reducible exact LeO.none _)
   | (with_reducible refine LeO.ite ?_ ?_)
   | (with_reducible refine LeO.bind ?_ (fun _ => ?_))
   | exact codec_Decode.mono _ _ _
   | exact prod_Exact.mono _ _ _ _ _ _ _ _ _
   | exact round_Round.mono _ _ _ _ _ _ _ _
   | exact LeO.none _
   | refine LeO.ite ?_ ?_
   | refine LeO.bind ?_ (fun _ => ?_)
set_option maxHeartbeats 8000000 in
set_option maxRecDepth 100000 in
theorem prod_Mul.calls (k : Nat) (a0 : Int) (a1 : Int) (a2 : Int) (r1 : Int) (r2 : Option Int) (w : World) (h : prod_Mul.f k a0 a1 a2 = some (r1, r2)) :
  Calls Try.prog 12 #[.int .i64 a0,.int .u64 a1,.int .u64 a2] w fun e w' => e = .returned (.tuple #[.int .u64 r1, errW r2]) ∧ Below w.heap.size w w' := by
 have hu24 := Try.underlying24
 have hu27 := Try.underlying27
 have hu29 := Try.underlying29
 have hu42 := Try.underlying42
 have HB := am_ (Below.refl w.heap.size w)
 have H : ((codec_Decode.f k a0 a1).bind fun bt281 => (if bt281.2.2.2.2.isNone = true then ((codec_Decode.f k a0 a2).bind fun bt288 => ((prod_Exact.f k bt281.1 bt281.2.1 bt281.2.2.1 bt281.2.2.2.1 bt288.1 bt288.2.1 bt288.2.2.1 bt288.2.2.2.1).bind fun bt294 => ((round_Round.f k a0 bt294.1 bt294.2.1 bt294.2.2.1 bt294.2.2.2.1 bt294.2.2.2.2.1 bt294.2.2.2.2.2.1).bind fun bt302 => (some (bt302.1, bt302.2))))) else (some (0, some (bt281.2.2.2.2.getD 0))))) = some (r1, r2) := h
 clear h
 replace H := Option.bind_eq_some_iff.mp H
 obtain ⟨⟨t281, t282, t283, t284, t285⟩, A40, H⟩ := H
 replace H : (if t285.isNone = true then ((codec_Decode.f k a0 a2).bind fun bt288 => ((prod_Exact.f k t281 t282 t283 t284 bt288.1 bt288.2.1 bt288.2.2.1 bt288.2.2.2.1).bind fun bt294 => ((round_Round.f k a0 bt294.1 bt294.2.1 bt294.2.2.1 bt294.2.2.2.1 bt294.2.2.2.2.1 bt294.2.2.2.2.2.1).bind fun bt302 => (some (bt302.1, bt302.2))))) else (some (0, some (t285.getD 0)))) = some (r1, r2) := H
 have A4 := am_ A40
 clear A40
 rcases t285 with _ | q287
 ·have H1 : ((codec_Decode.f k a0 a2).bind fun bt288 => ((prod_Exact.f k t281 t282 t283 t284 bt288.1 bt288.2.1 bt288.2.2.1 bt288.2.2.2.1).bind fun bt294 => ((round_Round.f k a0 bt294.1 bt294.2.1 bt294.2.2.1 bt294.2.2.2.1 bt294.2.2.2.2.1 bt294.2.2.2.2.2.1).bind fun bt302 => (some (bt302.1, bt302.2))))) = some (r1, r2) := by rw [if_pos (show (none : Option Int).isNone = true by rfl)] at H;exact H
  clear H
  have H := H1
  clear H1
  try simp only [errW_none, errW_some]
  replace H := Option.bind_eq_some_iff.mp H
  obtain ⟨⟨t288, t289, t290, t291, t292⟩, A50, H⟩ := H
  replace H : ((prod_Exact.f k t281 t282 t283 t284 t288 t289 t290 t291).bind fun bt294 => ((round_Round.f k a0 bt294.1 bt294.2.1 bt294.2.2.1 bt294.2.2.2.1 bt294.2.2.2.2.1 bt294.2.2.2.2.2.1).bind fun bt302 => (some (bt302.1, bt302.2)))) = some (r1, r2) := H
  have A5 := am_ A50
  clear A50
  replace H := Option.bind_eq_some_iff.mp H
  obtain ⟨⟨t294, t295, t296, t297, t298, t299, t300⟩, A60, H⟩ := H
  replace H : ((round_Round.f k a0 t294 t295 t296 t297 t298 t299).bind fun bt302 => (some (bt302.1, bt302.2))) = some (r1, r2) := H
  have A6 := am_ A60
  clear A60
  replace H := Option.bind_eq_some_iff.mp H
  obtain ⟨⟨t302, t303⟩, A70, H⟩ := H
  replace H : (some (t302, t303)) = some (r1, r2) := H
  have A7 := am_ A70
  clear A70
  simp only [Option.some.injEq, Prod.mk.injEq] at H
  obtain ⟨rfl, rfl⟩ := H
  go_enter Try.func12, Try.ntmps12
  go_wp2_with (first | ((with_reducible refine gate_callee (f := 29) rfl ?_);refine goesL_ (some 17) rfl rfl Try.func29 (by kernel_rfl) rfl #[.int .i64 a0,.int .u64 a1] rfl z5_ ?_;(with_reducible refine (codec_Decode.calls k a0 a1 t281 t282 t283 t284 none _ A4.out).mono ?_);rintro e w8 ⟨rfl, hb⟩;refine ⟨_, rfl, ?_⟩;have n0_ := am_ (below_step (z3_ HB.out) hb);clear HB;have HB := n0_;clear n0_;(try clear hb);(try simp only [errW_none, errW_some])) | ((with_reducible refine gate_dst (N := 8) rfl ?_);refine box_event ?hg (N := 8) ?hd (cs := #[.int .i64 0,.bool false,.int .i64 0,.int .u64 0]) (t := 24) ?hr ?_;(case hd => rfl);(case hg => rfl);(case hr => first | (go_simp;done) | (go_simp;rfl));intro gb286 hg w9 hbox hb;have n0_ := am_ (below_step (z3_ HB.out) hb);have n1_ := am_ (hbox);have n2_ := am_ ((by rw [hg];exact (below_size (z3_ HB.out)) : w.heap.size ≤ gb286));have n3_ := am_ ((by rw [hg];exact (below_size (z3_ HB.out)) : w.heap.size ≤ gb286));clear HB;have HB := n0_;have BK286 := n1_;have GW286 := n2_;have GE286 := n3_;clear n0_ n1_ n2_ n3_;clear hb hbox hg;obtain ⟨hcz10_0, hcz10_1, hcz10_2, hcz10_3, hfz10_0⟩ := zc4_ BK286.out) | ((with_reducible refine gate_callee (f := 29) rfl ?_);refine goesL_ (some 26) rfl rfl Try.func29 (by kernel_rfl) rfl #[.int .i64 a0,.int .u64 a2] rfl z5_ ?_;(with_reducible refine (codec_Decode.calls k a0 a2 t288 t289 t290 t291 t292 _ A5.out).mono ?_);rintro e w11 ⟨rfl, hb⟩;refine ⟨_, rfl, ?_⟩;have n0_ := am_ (blk_below (g := gb286) (o := .cells #[.int .i64 t281,.bool t282,.int .i64 t283,.int .u64 t284] 24 (0, 0)) (by refine z2_ ?_;refine blk_put (cs := #[.int .i64 t281,.bool t282,.int .i64 t283,.int .u64 0]) ?_ 3 _ rfl;refine z2_ ?_;refine blk_put (cs := #[.int .i64 t281,.bool t282,.int .i64 0,.int .u64 0]) ?_ 2 _ rfl;refine z2_ ?_;refine blk_put (cs := #[.int .i64 t281,.bool false,.int .i64 0,.int .u64 0]) ?_ 1 _ rfl;refine z2_ ?_;refine blk_put (cs := #[.int .i64 0,.bool false,.int .i64 0,.int .u64 0]) ?_ 0 _ rfl;refine z2_ ?_;exact BK286.out) hb);have n1_ := am_ (below_step (z3_ HB.out) hb);clear BK286;clear HB;have BK286 := n0_;have HB := n1_;clear n0_ n1_;(try clear hb);(try simp only [errW_none, errW_some])) | ((with_reducible refine gate_dst (N := 10) rfl ?_);refine box_event ?hg (N := 10) ?hd (cs := #[.int .i64 0,.bool false,.int .i64 0,.int .u64 0]) (t := 24) ?hr ?_;(case hd => rfl);(case hg => rfl);(case hr => first | (go_simp;done) | (go_simp;rfl));intro gb293 hg w12 hbox hb;have n0_ := am_ (blk_below (g := gb286) (z1_ BK286.out) hb);have n1_ := am_ (below_step (z3_ HB.out) hb);have n2_ := am_ (hbox);have n3_ := am_ ((by rw [hg];exact (below_size (z3_ HB.out)) : w.heap.size ≤ gb293));have n4_ := am_ ((by rw [hg];exact (below_size (z3_ HB.out)) : w.heap.size ≤ gb293));have n5_ := am_ ((by rw [hg];exact Nat.ne_of_lt (blk_lt (g := gb286) (o := .cells #[.int .i64 t281,.bool t282,.int .i64 t283,.int .u64 t284] 24 (0, 0)) (z1_ BK286.out)) : gb286 ≠ gb293));have n6_ := am_ ((by rw [hg];exact Nat.ne_of_gt (blk_lt (g := gb286) (o := .cells #[.int .i64 t281,.bool t282,.int .i64 t283,.int .u64 t284] 24 (0, 0)) (z1_ BK286.out)) : gb293 ≠ gb286));clear BK286;clear HB;have BK286 := n0_;have HB := n1_;have BK293 := n2_;have GW293 := n3_;have GE293 := n4_;have NB286_293 := n5_;have NB293_286 := n6_;clear n0_ n1_ n2_ n3_ n4_ n5_ n6_;clear hb hbox hg;have hnb13 := NB293_286.out;have hnc13 := NB286_293.out;obtain ⟨hcz14_0, hcz14_1, hcz14_2, hcz14_3, hfz14_0⟩ := zc4_ BK293.out;obtain ⟨hcz15_0, hcz15_1, hcz15_2, hcz15_3, hfz15_0⟩ := zc4_ BK286.out) | ((with_reducible refine gate_callee (f := 9) rfl ?_);refine goesL_ (some 32) rfl rfl Try.func9 (by kernel_rfl) rfl #[.agg #[.int .i64 t281,.bool t282,.int .i64 t283,.int .u64 t284],.agg #[.int .i64 t288,.bool t289,.int .i64 t290,.int .u64 t291]] rfl z5_ ?_;(with_reducible refine (prod_Exact.calls k t281 t282 t283 t284 t288 t289 t290 t291 t294 t295 t296 t297 t298 t299 t300 _ A6.out).mono ?_);rintro e w16 ⟨rfl, hb⟩;refine ⟨_, rfl, ?_⟩;have n0_ := am_ (blk_below (g := gb286) (o := .cells #[.int .i64 t281,.bool t282,.int .i64 t283,.int .u64 t284] 24 (0, 0)) (by refine z2_ ?_;refine blk_far ?_ NB286_293.out _;refine z2_ ?_;refine blk_far ?_ NB286_293.out _;refine z2_ ?_;refine blk_far ?_ NB286_293.out _;refine z2_ ?_;refine blk_far ?_ NB286_293.out _;refine z2_ ?_;exact BK286.out) hb);have n1_ := am_ (blk_below (g := gb293) (o := .cells #[.int .i64 t288,.bool t289,.int .i64 t290,.int .u64 t291] 24 (0, 0)) (by refine z2_ ?_;refine blk_put (cs := #[.int .i64 t288,.bool t289,.int .i64 t290,.int .u64 0]) ?_ 3 _ rfl;refine z2_ ?_;refine blk_put (cs := #[.int .i64 t288,.bool t289,.int .i64 0,.int .u64 0]) ?_ 2 _ rfl;refine z2_ ?_;refine blk_put (cs := #[.int .i64 t288,.bool false,.int .i64 0,.int .u64 0]) ?_ 1 _ rfl;refine z2_ ?_;refine blk_put (cs := #[.int .i64 0,.bool false,.int .i64 0,.int .u64 0]) ?_ 0 _ rfl;refine z2_ ?_;exact BK293.out) hb);have n2_ := am_ (below_step (z3_ HB.out) hb);clear BK286;clear BK293;clear HB;have BK286 := n0_;have BK293 := n1_;have HB := n2_;clear n0_ n1_ n2_;(try clear hb);(try simp only [errW_none, errW_some])) | ((with_reducible refine gate_dst (N := 12) rfl ?_);refine box_event ?hg (N := 12) ?hd (cs := #[.int .i64 0,.bool false,.int .i64 0,.int .u64 0,.int .u64 0,.bool false]) (t := 27) ?hr ?_;(case hd => rfl);(case hg => rfl);(case hr => first | (go_simp;done) | (go_simp;rfl));intro gb301 hg w17 hbox hb;have n0_ := am_ (blk_below (g := gb286) (z1_ BK286.out) hb);have n1_ := am_ (blk_below (g := gb293) (z1_ BK293.out) hb);have n2_ := am_ (below_step (z3_ HB.out) hb);have n3_ := am_ (hbox);have n4_ := am_ ((by rw [hg];exact (below_size (z3_ HB.out)) : w.heap.size ≤ gb301));have n5_ := am_ ((by rw [hg];exact (below_size (z3_ HB.out)) : w.heap.size ≤ gb301));have n6_ := am_ ((by rw [hg];exact Nat.ne_of_lt (blk_lt (g := gb286) (o := .cells #[.int .i64 t281,.bool t282,.int .i64 t283,.int .u64 t284] 24 (0, 0)) (z1_ BK286.out)) : gb286 ≠ gb301));have n7_ := am_ ((by rw [hg];exact Nat.ne_of_gt (blk_lt (g := gb286) (o := .cells #[.int .i64 t281,.bool t282,.int .i64 t283,.int .u64 t284] 24 (0, 0)) (z1_ BK286.out)) : gb301 ≠ gb286));have n8_ := am_ ((by rw [hg];exact Nat.ne_of_lt (blk_lt (g := gb293) (o := .cells #[.int .i64 t288,.bool t289,.int .i64 t290,.int .u64 t291] 24 (0, 0)) (z1_ BK293.out)) : gb293 ≠ gb301));have n9_ := am_ ((by rw [hg];exact Nat.ne_of_gt (blk_lt (g := gb293) (o := .cells #[.int .i64 t288,.bool t289,.int .i64 t290,.int .u64 t291] 24 (0, 0)) (z1_ BK293.out)) : gb301 ≠ gb293));clear BK286;clear BK293;clear HB;have BK286 := n0_;have BK293 := n1_;have HB := n2_;have BK301 := n3_;have GW301 := n4_;have GE301 := n5_;have NB286_301 := n6_;have NB301_286 := n7_;have NB293_301 := n8_;have NB301_293 := n9_;clear n0_ n1_ n2_ n3_ n4_ n5_ n6_ n7_ n8_ n9_;clear hb hbox hg;have hnb18 := NB301_286.out;have hnc18 := NB286_301.out;have hnb19 := NB301_293.out;have hnc19 := NB293_301.out;obtain ⟨hcz20_0, hcz20_1, hcz20_2, hcz20_3, hcz20_4, hcz20_5, hfz20_0⟩ := zc6_ BK301.out) | ((with_reducible refine gate_callee (f := 30) rfl ?_);refine goesL_ (some 37) rfl rfl Try.func30 (by kernel_rfl) rfl #[.int .i64 a0,.agg #[.int .i64 t294,.bool t295,.int .i64 t296,.int .u64 t297,.int .u64 t298,.bool t299]] rfl z5_ ?_;(with_reducible refine (round_Round.calls k a0 t294 t295 t296 t297 t298 t299 t302 t303 _ A7.out).mono ?_);rintro e w21 ⟨rfl, hb⟩;refine ⟨_, rfl, ?_⟩;have n0_ := am_ (blk_below (g := gb286) (o := .cells #[.int .i64 t281,.bool t282,.int .i64 t283,.int .u64 t284] 24 (0, 0)) (by refine z2_ ?_;refine blk_far ?_ NB286_301.out _;refine z2_ ?_;refine blk_far ?_ NB286_301.out _;refine z2_ ?_;refine blk_far ?_ NB286_301.out _;refine z2_ ?_;refine blk_far ?_ NB286_301.out _;refine z2_ ?_;refine blk_far ?_ NB286_301.out _;refine z2_ ?_;refine blk_far ?_ NB286_301.out _;refine z2_ ?_;exact BK286.out) hb);have n1_ := am_ (blk_below (g := gb293) (o := .cells #[.int .i64 t288,.bool t289,.int .i64 t290,.int .u64 t291] 24 (0, 0)) (by refine z2_ ?_;refine blk_far ?_ NB293_301.out _;refine z2_ ?_;refine blk_far ?_ NB293_301.out _;refine z2_ ?_;refine blk_far ?_ NB293_301.out _;refine z2_ ?_;refine blk_far ?_ NB293_301.out _;refine z2_ ?_;refine blk_far ?_ NB293_301.out _;refine z2_ ?_;refine blk_far ?_ NB293_301.out _;refine z2_ ?_;exact BK293.out) hb);have n2_ := am_ (blk_below (g := gb301) (o := .cells #[.int .i64 t294,.bool t295,.int .i64 t296,.int .u64 t297,.int .u64 t298,.bool t299] 27 (0, 0)) (by refine z2_ ?_;refine blk_put (cs := #[.int .i64 t294,.bool t295,.int .i64 t296,.int .u64 t297,.int .u64 t298,.bool false]) ?_ 5 _ rfl;refine z2_ ?_;refine blk_put (cs := #[.int .i64 t294,.bool t295,.int .i64 t296,.int .u64 t297,.int .u64 0,.bool false]) ?_ 4 _ rfl;refine z2_ ?_;refine blk_put (cs := #[.int .i64 t294,.bool t295,.int .i64 t296,.int .u64 0,.int .u64 0,.bool false]) ?_ 3 _ rfl;refine z2_ ?_;refine blk_put (cs := #[.int .i64 t294,.bool t295,.int .i64 0,.int .u64 0,.int .u64 0,.bool false]) ?_ 2 _ rfl;refine z2_ ?_;refine blk_put (cs := #[.int .i64 t294,.bool false,.int .i64 0,.int .u64 0,.int .u64 0,.bool false]) ?_ 1 _ rfl;refine z2_ ?_;refine blk_put (cs := #[.int .i64 0,.bool false,.int .i64 0,.int .u64 0,.int .u64 0,.bool false]) ?_ 0 _ rfl;refine z2_ ?_;exact BK301.out) hb);have n3_ := am_ (below_step (z3_ HB.out) hb);clear BK286;clear BK293;clear BK301;clear HB;have BK286 := n0_;have BK293 := n1_;have BK301 := n2_;have HB := n3_;clear n0_ n1_ n2_ n3_;(try clear hb);(try simp only [errW_none, errW_some])))
  go_ret2
  exact ⟨z6_, z3_ HB.out⟩
 ·have H1 : (some (0, some q287)) = some (r1, r2) := by rw [if_neg (show ¬ (some q287).isNone = true by simp)] at H;exact H
  clear H
  have H := H1
  clear H1
  try simp only [errW_none, errW_some]
  simp only [Option.some.injEq, Prod.mk.injEq] at H
  obtain ⟨rfl, rfl⟩ := H
  go_enter Try.func12, Try.ntmps12
  go_wp2_with (first | ((with_reducible refine gate_callee (f := 29) rfl ?_);refine goesL_ (some 17) rfl rfl Try.func29 (by kernel_rfl) rfl #[.int .i64 a0,.int .u64 a1] rfl z5_ ?_;(with_reducible refine (codec_Decode.calls k a0 a1 t281 t282 t283 t284 (some q287) _ A4.out).mono ?_);rintro e w22 ⟨rfl, hb⟩;refine ⟨_, rfl, ?_⟩;have n0_ := am_ (below_step (z3_ HB.out) hb);clear HB;have HB := n0_;clear n0_;(try clear hb);(try simp only [errW_none, errW_some])) | ((with_reducible refine gate_dst (N := 8) rfl ?_);refine box_event ?hg (N := 8) ?hd (cs := #[.int .i64 0,.bool false,.int .i64 0,.int .u64 0]) (t := 24) ?hr ?_;(case hd => rfl);(case hg => rfl);(case hr => first | (go_simp;done) | (go_simp;rfl));intro gb286 hg w23 hbox hb;have n0_ := am_ (below_step (z3_ HB.out) hb);have n1_ := am_ (hbox);have n2_ := am_ ((by rw [hg];exact (below_size (z3_ HB.out)) : w.heap.size ≤ gb286));have n3_ := am_ ((by rw [hg];exact (below_size (z3_ HB.out)) : w.heap.size ≤ gb286));clear HB;have HB := n0_;have BK286 := n1_;have GW286 := n2_;have GE286 := n3_;clear n0_ n1_ n2_ n3_;clear hb hbox hg;obtain ⟨hcz24_0, hcz24_1, hcz24_2, hcz24_3, hfz24_0⟩ := zc4_ BK286.out))
  go_ret2
  exact ⟨z6_, z3_ HB.out⟩
def vernierlaw10_up.f (k : Nat)  : Option (Bool) := (prod_Mul.f k 8 72 72).bind fun bt304 => ((prod_Mul.f k 8 1 255).bind fun bt306 => (if bt304.2.isNone = true then (if bt306.2.isNone = true then (if bt304.1 = 80 then (some (bt306.1 == 255)) else (some false)) else (some false)) else (some false)))
theorem vernierlaw10_up.mono : ∀ k, LeO (vernierlaw10_up.f k ) (vernierlaw10_up.f (k + 1) ) := by
 intro  k
 unfold vernierlaw10_up.f
 repeat' first
   | (with_reducible exact prod_Mul.mono _ _ _ _)
   | (with_reducible exact LeO.refl _)
   | (with_reducible exact LeO.none _)
   | (with_reducible refine LeO.ite ?_ ?_)
   | (with_reducible refine LeO.bind ?_ (fun _ => ?_))
   | exact prod_Mul.mono _ _ _ _
   | exact LeO.none _
   | refine LeO.ite ?_ ?_
   | refine LeO.bind ?_ (fun _ => ?_)
set_option maxHeartbeats 8000000 in
set_option maxRecDepth 100000 in
theorem vernierlaw10_up.calls (k : Nat)  (r : Bool) (w : World) (h : vernierlaw10_up.f k  = some r) :
  Calls Try.prog 8 #[] w fun e w' => e = .returned (.bool r) ∧ Below w.heap.size w w' := by
 have hu29 := Try.underlying29
 have hu42 := Try.underlying42
 have HB := am_ (Below.refl w.heap.size w)
 have H : ((prod_Mul.f k 8 72 72).bind fun bt304 => ((prod_Mul.f k 8 1 255).bind fun bt306 => (if bt304.2.isNone = true then (if bt306.2.isNone = true then (if bt304.1 = 80 then (some (bt306.1 == 255)) else (some false)) else (some false)) else (some false)))) = some r := h
 clear h
 replace H := Option.bind_eq_some_iff.mp H
 obtain ⟨⟨t304, t305⟩, A10, H⟩ := H
 replace H : ((prod_Mul.f k 8 1 255).bind fun bt306 => (if t305.isNone = true then (if bt306.2.isNone = true then (if t304 = 80 then (some (bt306.1 == 255)) else (some false)) else (some false)) else (some false))) = some r := H
 have A1 := am_ A10
 clear A10
 replace H := Option.bind_eq_some_iff.mp H
 obtain ⟨⟨t306, t307⟩, A20, H⟩ := H
 replace H : (if t305.isNone = true then (if t307.isNone = true then (if t304 = 80 then (some (t306 == 255)) else (some false)) else (some false)) else (some false)) = some r := H
 have A2 := am_ A20
 clear A20
 rcases t305 with _ | q308
 ·have H1 : (if t307.isNone = true then (if t304 = 80 then (some (t306 == 255)) else (some false)) else (some false)) = some r := by rw [if_pos (show (none : Option Int).isNone = true by rfl)] at H;exact H
  clear H
  have H := H1
  clear H1
  try simp only [errW_none, errW_some]
  rcases t307 with _ | q309
  ·have H1 : (if t304 = 80 then (some (t306 == 255)) else (some false)) = some r := by rw [if_pos (show (none : Option Int).isNone = true by rfl)] at H;exact H
   clear H
   have H := H1
   clear H1
   try simp only [errW_none, errW_some]
   by_cases c3 : t304 = 80
   ·rw [if_pos c3] at H
    have c3b0 : (t304 == 80) = true := beq_iff_eq.mpr c3
    have c3b1 : (t304 != 80) = false := bne_eq_false_iff_eq.mpr c3
    clear c3
    obtain rfl := Option.some.inj H
    go_enter Try.func8, Try.ntmps8
    go_wp2_with (first | ((with_reducible refine gate_callee (f := 12) rfl ?_);refine goesL_ (some 6) rfl rfl Try.func12 (by kernel_rfl) rfl #[.int .i64 8,.int .u64 72,.int .u64 72] rfl z5_ ?_;(with_reducible refine (prod_Mul.calls k 8 72 72 t304 none _ A1.out).mono ?_);rintro e w4 ⟨rfl, hb⟩;refine ⟨_, rfl, ?_⟩;have n0_ := am_ (below_step (z3_ HB.out) hb);clear HB;have HB := n0_;clear n0_;(try clear hb);(try simp only [errW_none, errW_some])) | ((with_reducible refine gate_callee (f := 12) rfl ?_);refine goesL_ (some 10) rfl rfl Try.func12 (by kernel_rfl) rfl #[.int .i64 8,.int .u64 1,.int .u64 255] rfl z5_ ?_;(with_reducible refine (prod_Mul.calls k 8 1 255 t306 none _ A2.out).mono ?_);rintro e w5 ⟨rfl, hb⟩;refine ⟨_, rfl, ?_⟩;have n0_ := am_ (below_step (z3_ HB.out) hb);clear HB;have HB := n0_;clear n0_;(try clear hb);(try simp only [errW_none, errW_some])))
    go_ret
    exact ⟨z6_, z3_ HB.out⟩
   ·rw [if_neg c3] at H
    have c3b0 : (t304 == 80) = false := beq_eq_false_iff_ne.mpr c3
    have c3b1 : (t304 != 80) = true := bne_iff_ne.mpr c3
    obtain rfl := Option.some.inj H
    go_enter Try.func8, Try.ntmps8
    go_wp2_with (first | ((with_reducible refine gate_callee (f := 12) rfl ?_);refine goesL_ (some 6) rfl rfl Try.func12 (by kernel_rfl) rfl #[.int .i64 8,.int .u64 72,.int .u64 72] rfl z5_ ?_;(with_reducible refine (prod_Mul.calls k 8 72 72 t304 none _ A1.out).mono ?_);rintro e w6 ⟨rfl, hb⟩;refine ⟨_, rfl, ?_⟩;have n0_ := am_ (below_step (z3_ HB.out) hb);clear HB;have HB := n0_;clear n0_;(try clear hb);(try simp only [errW_none, errW_some])) | ((with_reducible refine gate_callee (f := 12) rfl ?_);refine goesL_ (some 10) rfl rfl Try.func12 (by kernel_rfl) rfl #[.int .i64 8,.int .u64 1,.int .u64 255] rfl z5_ ?_;(with_reducible refine (prod_Mul.calls k 8 1 255 t306 none _ A2.out).mono ?_);rintro e w7 ⟨rfl, hb⟩;refine ⟨_, rfl, ?_⟩;have n0_ := am_ (below_step (z3_ HB.out) hb);clear HB;have HB := n0_;clear n0_;(try clear hb);(try simp only [errW_none, errW_some])))
    go_ret
    exact ⟨z6_, z3_ HB.out⟩
  ·have H1 : (some false) = some r := by rw [if_neg (show ¬ (some q309).isNone = true by simp)] at H;exact H
   clear H
   have H := H1
   clear H1
   try simp only [errW_none, errW_some]
   obtain rfl := Option.some.inj H
   go_enter Try.func8, Try.ntmps8
   go_wp2_with (first | ((with_reducible refine gate_callee (f := 12) rfl ?_);refine goesL_ (some 6) rfl rfl Try.func12 (by kernel_rfl) rfl #[.int .i64 8,.int .u64 72,.int .u64 72] rfl z5_ ?_;(with_reducible refine (prod_Mul.calls k 8 72 72 t304 none _ A1.out).mono ?_);rintro e w8 ⟨rfl, hb⟩;refine ⟨_, rfl, ?_⟩;have n0_ := am_ (below_step (z3_ HB.out) hb);clear HB;have HB := n0_;clear n0_;(try clear hb);(try simp only [errW_none, errW_some])) | ((with_reducible refine gate_callee (f := 12) rfl ?_);refine goesL_ (some 10) rfl rfl Try.func12 (by kernel_rfl) rfl #[.int .i64 8,.int .u64 1,.int .u64 255] rfl z5_ ?_;(with_reducible refine (prod_Mul.calls k 8 1 255 t306 (some q309) _ A2.out).mono ?_);rintro e w9 ⟨rfl, hb⟩;refine ⟨_, rfl, ?_⟩;have n0_ := am_ (below_step (z3_ HB.out) hb);clear HB;have HB := n0_;clear n0_;(try clear hb);(try simp only [errW_none, errW_some])))
   go_ret
   exact ⟨z6_, z3_ HB.out⟩
 ·have H1 : (some false) = some r := by rw [if_neg (show ¬ (some q308).isNone = true by simp)] at H;exact H
  clear H
  have H := H1
  clear H1
  try simp only [errW_none, errW_some]
  obtain rfl := Option.some.inj H
  go_enter Try.func8, Try.ntmps8
  go_wp2_with (first | ((with_reducible refine gate_callee (f := 12) rfl ?_);refine goesL_ (some 6) rfl rfl Try.func12 (by kernel_rfl) rfl #[.int .i64 8,.int .u64 72,.int .u64 72] rfl z5_ ?_;(with_reducible refine (prod_Mul.calls k 8 72 72 t304 (some q308) _ A1.out).mono ?_);rintro e w10 ⟨rfl, hb⟩;refine ⟨_, rfl, ?_⟩;have n0_ := am_ (below_step (z3_ HB.out) hb);clear HB;have HB := n0_;clear n0_;(try clear hb);(try simp only [errW_none, errW_some])) | ((with_reducible refine gate_callee (f := 12) rfl ?_);refine goesL_ (some 10) rfl rfl Try.func12 (by kernel_rfl) rfl #[.int .i64 8,.int .u64 1,.int .u64 255] rfl z5_ ?_;(with_reducible refine (prod_Mul.calls k 8 1 255 t306 t307 _ A2.out).mono ?_);rintro e w11 ⟨rfl, hb⟩;refine ⟨_, rfl, ?_⟩;have n0_ := am_ (below_step (z3_ HB.out) hb);clear HB;have HB := n0_;clear n0_;(try clear hb);(try simp only [errW_none, errW_some])))
  go_ret
  exact ⟨z6_, z3_ HB.out⟩
end Go.Proofs.Ytebhpipfkomhjaa.PAll
namespace Go.Proofs.Ytebhpipfkomhjaa.PAll
open Go.RowKit Go.Proofs.YtebhpipfkomhjaaW.PrintWords Go.Proofs.YtebhpipfkomhjaaW.PrintLast Go.Proofs.YtebhpipfkomhjaaW.PrintMore
attribute [local go_sem] max2_int min2_int max_two min_two max_three min_three max_four min_four
set_option linter.unusedVariables false
set_option linter.unusedSimpArgs false
attribute [local go_sem high] eqEE29 neEE29 eqNE29 neNE29
def vernierlaw00_further.f (a0 : Option Int) : Option (Int) := if a0.isNone = true then (some (-1)) else (if (a0.getD 0) = 13 then (some 13) else (if (a0.getD 0) = 14 then (some 14) else (if (a0.getD 0) = 15 then (some 15) else (if (a0.getD 0) = 16 then (some 16) else (if (a0.getD 0) = 17 then (some 17) else (if (a0.getD 0) = 18 then (some 18) else (if (a0.getD 0) = 19 then (some 19) else (if (a0.getD 0) = 20 then (some 20) else (if (a0.getD 0) = 21 then (some 21) else (if (a0.getD 0) = 22 then (some 22) else (if (a0.getD 0) = 23 then (some 23) else (if (a0.getD 0) = 24 then (some 24) else (some (-1))))))))))))))
set_option maxHeartbeats 8000000 in
set_option maxRecDepth 100000 in
theorem vernierlaw00_further.calls (a0 : Option Int) (r : Int) (w : World) (h : vernierlaw00_further.f a0 = some r) :
  Calls Try.prog 28 #[errW a0] w fun e w' => e = .returned (.int .i64 r) ∧ Drawn0 w w' := by
 have hu29 := Try.underlying29
 have hu42 := Try.underlying42
 have H : (if a0.isNone = true then (some (-1)) else (if (a0.getD 0) = 13 then (some 13) else (if (a0.getD 0) = 14 then (some 14) else (if (a0.getD 0) = 15 then (some 15) else (if (a0.getD 0) = 16 then (some 16) else (if (a0.getD 0) = 17 then (some 17) else (if (a0.getD 0) = 18 then (some 18) else (if (a0.getD 0) = 19 then (some 19) else (if (a0.getD 0) = 20 then (some 20) else (if (a0.getD 0) = 21 then (some 21) else (if (a0.getD 0) = 22 then (some 22) else (if (a0.getD 0) = 23 then (some 23) else (if (a0.getD 0) = 24 then (some 24) else (some (-1))))))))))))))) = some r := h
 clear h
 rcases a0 with _ | q415
 ·have H1 : (some (-1)) = some r := by rw [if_pos (show (none : Option Int).isNone = true by rfl)] at H;exact H
  clear H
  have H := H1
  clear H1
  simp only [errW_none, errW_some]
  obtain rfl := Option.some.inj H
  go_enter Try.func28, Try.ntmps28
  go_wp2
  go_ret
  exact ⟨by first | rfl | (simp;done) | (simp [*];done), by repeat (first | exact Drawn0.refl _ | apply Drawn0.step)⟩
 ·have H1 : (if q415 = 13 then (some 13) else (if q415 = 14 then (some 14) else (if q415 = 15 then (some 15) else (if q415 = 16 then (some 16) else (if q415 = 17 then (some 17) else (if q415 = 18 then (some 18) else (if q415 = 19 then (some 19) else (if q415 = 20 then (some 20) else (if q415 = 21 then (some 21) else (if q415 = 22 then (some 22) else (if q415 = 23 then (some 23) else (if q415 = 24 then (some 24) else (some (-1)))))))))))))) = some r := by rw [if_neg (show ¬ (some q415).isNone = true by simp)] at H;exact H
  clear H
  have H := H1
  clear H1
  simp only [errW_none, errW_some]
  by_cases c2 : q415 = 13
  ·rw [if_pos c2] at H
   have c2b0 : (q415 == 13) = true := beq_iff_eq.mpr c2
   have c2b1 : (q415 != 13) = false := bne_eq_false_iff_eq.mpr c2
   clear c2
   obtain rfl := Option.some.inj H
   go_enter Try.func28, Try.ntmps28
   go_wp2
   go_ret
   exact ⟨by first | rfl | (simp;done) | (simp [*];done), by repeat (first | exact Drawn0.refl _ | apply Drawn0.step)⟩
  ·rw [if_neg c2] at H
   have c2b0 : (q415 == 13) = false := beq_eq_false_iff_ne.mpr c2
   have c2b1 : (q415 != 13) = true := bne_iff_ne.mpr c2
   by_cases c3 : q415 = 14
   ·rw [if_pos c3] at H
    have c3b0 : (q415 == 14) = true := beq_iff_eq.mpr c3
    have c3b1 : (q415 != 14) = false := bne_eq_false_iff_eq.mpr c3
    clear c3
    obtain rfl := Option.some.inj H
    go_enter Try.func28, Try.ntmps28
    go_wp2
    go_ret
    exact ⟨by first | rfl | (simp;done) | (simp [*];done), by repeat (first | exact Drawn0.refl _ | apply Drawn0.step)⟩
   ·rw [if_neg c3] at H
    have c3b0 : (q415 == 14) = false := beq_eq_false_iff_ne.mpr c3
    have c3b1 : (q415 != 14) = true := bne_iff_ne.mpr c3
    by_cases c4 : q415 = 15
    ·rw [if_pos c4] at H
     have c4b0 : (q415 == 15) = true := beq_iff_eq.mpr c4
     have c4b1 : (q415 != 15) = false := bne_eq_false_iff_eq.mpr c4
     clear c4
     obtain rfl := Option.some.inj H
     go_enter Try.func28, Try.ntmps28
     go_wp2
     go_ret
     exact ⟨by first | rfl | (simp;done) | (simp [*];done), by repeat (first | exact Drawn0.refl _ | apply Drawn0.step)⟩
    ·rw [if_neg c4] at H
     have c4b0 : (q415 == 15) = false := beq_eq_false_iff_ne.mpr c4
     have c4b1 : (q415 != 15) = true := bne_iff_ne.mpr c4
     by_cases c5 : q415 = 16
     ·rw [if_pos c5] at H
      have c5b0 : (q415 == 16) = true := beq_iff_eq.mpr c5
      have c5b1 : (q415 != 16) = false := bne_eq_false_iff_eq.mpr c5
      clear c5
      obtain rfl := Option.some.inj H
      go_enter Try.func28, Try.ntmps28
      go_wp2
      go_ret
      exact ⟨by first | rfl | (simp;done) | (simp [*];done), by repeat (first | exact Drawn0.refl _ | apply Drawn0.step)⟩
     ·rw [if_neg c5] at H
      have c5b0 : (q415 == 16) = false := beq_eq_false_iff_ne.mpr c5
      have c5b1 : (q415 != 16) = true := bne_iff_ne.mpr c5
      by_cases c6 : q415 = 17
      ·rw [if_pos c6] at H
       have c6b0 : (q415 == 17) = true := beq_iff_eq.mpr c6
       have c6b1 : (q415 != 17) = false := bne_eq_false_iff_eq.mpr c6
       clear c6
       obtain rfl := Option.some.inj H
       go_enter Try.func28, Try.ntmps28
       go_wp2
       go_ret
       exact ⟨by first | rfl | (simp;done) | (simp [*];done), by repeat (first | exact Drawn0.refl _ | apply Drawn0.step)⟩
      ·rw [if_neg c6] at H
       have c6b0 : (q415 == 17) = false := beq_eq_false_iff_ne.mpr c6
       have c6b1 : (q415 != 17) = true := bne_iff_ne.mpr c6
       by_cases c7 : q415 = 18
       ·rw [if_pos c7] at H
        have c7b0 : (q415 == 18) = true := beq_iff_eq.mpr c7
        have c7b1 : (q415 != 18) = false := bne_eq_false_iff_eq.mpr c7
        clear c7
        obtain rfl := Option.some.inj H
        go_enter Try.func28, Try.ntmps28
        go_wp2
        go_ret
        exact ⟨by first | rfl | (simp;done) | (simp [*];done), by repeat (first | exact Drawn0.refl _ | apply Drawn0.step)⟩
       ·rw [if_neg c7] at H
        have c7b0 : (q415 == 18) = false := beq_eq_false_iff_ne.mpr c7
        have c7b1 : (q415 != 18) = true := bne_iff_ne.mpr c7
        by_cases c8 : q415 = 19
        ·rw [if_pos c8] at H
         have c8b0 : (q415 == 19) = true := beq_iff_eq.mpr c8
         have c8b1 : (q415 != 19) = false := bne_eq_false_iff_eq.mpr c8
         clear c8
         obtain rfl := Option.some.inj H
         go_enter Try.func28, Try.ntmps28
         go_wp2
         go_ret
         exact ⟨by first | rfl | (simp;done) | (simp [*];done), by repeat (first | exact Drawn0.refl _ | apply Drawn0.step)⟩
        ·rw [if_neg c8] at H
         have c8b0 : (q415 == 19) = false := beq_eq_false_iff_ne.mpr c8
         have c8b1 : (q415 != 19) = true := bne_iff_ne.mpr c8
         by_cases c9 : q415 = 20
         ·rw [if_pos c9] at H
          have c9b0 : (q415 == 20) = true := beq_iff_eq.mpr c9
          have c9b1 : (q415 != 20) = false := bne_eq_false_iff_eq.mpr c9
          clear c9
          obtain rfl := Option.some.inj H
          go_enter Try.func28, Try.ntmps28
          go_wp2
          go_ret
          exact ⟨by first | rfl | (simp;done) | (simp [*];done), by repeat (first | exact Drawn0.refl _ | apply Drawn0.step)⟩
         ·rw [if_neg c9] at H
          have c9b0 : (q415 == 20) = false := beq_eq_false_iff_ne.mpr c9
          have c9b1 : (q415 != 20) = true := bne_iff_ne.mpr c9
          by_cases c10 : q415 = 21
          ·rw [if_pos c10] at H
           have c10b0 : (q415 == 21) = true := beq_iff_eq.mpr c10
           have c10b1 : (q415 != 21) = false := bne_eq_false_iff_eq.mpr c10
           clear c10
           obtain rfl := Option.some.inj H
           go_enter Try.func28, Try.ntmps28
           go_wp2
           go_ret
           exact ⟨by first | rfl | (simp;done) | (simp [*];done), by repeat (first | exact Drawn0.refl _ | apply Drawn0.step)⟩
          ·rw [if_neg c10] at H
           have c10b0 : (q415 == 21) = false := beq_eq_false_iff_ne.mpr c10
           have c10b1 : (q415 != 21) = true := bne_iff_ne.mpr c10
           by_cases c11 : q415 = 22
           ·rw [if_pos c11] at H
            have c11b0 : (q415 == 22) = true := beq_iff_eq.mpr c11
            have c11b1 : (q415 != 22) = false := bne_eq_false_iff_eq.mpr c11
            clear c11
            obtain rfl := Option.some.inj H
            go_enter Try.func28, Try.ntmps28
            go_wp2
            go_ret
            exact ⟨by first | rfl | (simp;done) | (simp [*];done), by repeat (first | exact Drawn0.refl _ | apply Drawn0.step)⟩
           ·rw [if_neg c11] at H
            have c11b0 : (q415 == 22) = false := beq_eq_false_iff_ne.mpr c11
            have c11b1 : (q415 != 22) = true := bne_iff_ne.mpr c11
            by_cases c12 : q415 = 23
            ·rw [if_pos c12] at H
             have c12b0 : (q415 == 23) = true := beq_iff_eq.mpr c12
             have c12b1 : (q415 != 23) = false := bne_eq_false_iff_eq.mpr c12
             clear c12
             obtain rfl := Option.some.inj H
             go_enter Try.func28, Try.ntmps28
             go_wp2
             go_ret
             exact ⟨by first | rfl | (simp;done) | (simp [*];done), by repeat (first | exact Drawn0.refl _ | apply Drawn0.step)⟩
            ·rw [if_neg c12] at H
             have c12b0 : (q415 == 23) = false := beq_eq_false_iff_ne.mpr c12
             have c12b1 : (q415 != 23) = true := bne_iff_ne.mpr c12
             by_cases c13 : q415 = 24
             ·rw [if_pos c13] at H
              have c13b0 : (q415 == 24) = true := beq_iff_eq.mpr c13
              have c13b1 : (q415 != 24) = false := bne_eq_false_iff_eq.mpr c13
              clear c13
              obtain rfl := Option.some.inj H
              go_enter Try.func28, Try.ntmps28
              go_wp2
              go_ret
              exact ⟨by first | rfl | (simp;done) | (simp [*];done), by repeat (first | exact Drawn0.refl _ | apply Drawn0.step)⟩
             ·rw [if_neg c13] at H
              have c13b0 : (q415 == 24) = false := beq_eq_false_iff_ne.mpr c13
              have c13b1 : (q415 != 24) = true := bne_iff_ne.mpr c13
              obtain rfl := Option.some.inj H
              go_enter Try.func28, Try.ntmps28
              go_wp2
              go_ret
              exact ⟨by first | rfl | (simp;done) | (simp [*];done), by repeat (first | exact Drawn0.refl _ | apply Drawn0.step)⟩
-- ERRCMP
end Go.Proofs.Ytebhpipfkomhjaa.PAll
namespace Go.Proofs.Ytebhpipfkomhjaa.PAll
open Go.RowKit Go.Proofs.YtebhpipfkomhjaaW.PrintWords Go.Proofs.YtebhpipfkomhjaaW.PrintLast Go.Proofs.YtebhpipfkomhjaaW.PrintMore
attribute [local go_sem] max2_int min2_int max_two min_two max_three min_three max_four min_four
set_option linter.unusedVariables false
set_option linter.unusedSimpArgs false
attribute [local go_sem high] eqEE29 neEE29 eqNE29 neNE29
def vernierlaw00_Code.f (a0 : Option Int) : Option (Int) := if a0.isNone = true then (some 0) else (if (a0.getD 0) = 1 then (some 1) else (if (a0.getD 0) = 2 then (some 2) else (if (a0.getD 0) = 3 then (some 3) else (if (a0.getD 0) = 4 then (some 4) else (if (a0.getD 0) = 5 then (some 5) else (if (a0.getD 0) = 6 then (some 6) else (if (a0.getD 0) = 7 then (some 7) else (if (a0.getD 0) = 8 then (some 8) else (if (a0.getD 0) = 9 then (some 9) else (if (a0.getD 0) = 10 then (some 10) else (if (a0.getD 0) = 11 then (some 11) else (if (a0.getD 0) = 12 then (some 12) else ((vernierlaw00_further.f (some (a0.getD 0))).bind fun t417 => (some t417))))))))))))))
set_option maxHeartbeats 8000000 in
set_option maxRecDepth 100000 in
theorem vernierlaw00_Code.calls (a0 : Option Int) (r : Int) (w : World) (h : vernierlaw00_Code.f a0 = some r) :
  Calls Try.prog 11 #[errW a0] w fun e w' => e = .returned (.int .i64 r) ∧ Drawn0 w w' := by
 have hu29 := Try.underlying29
 have hu42 := Try.underlying42
 have H : (if a0.isNone = true then (some 0) else (if (a0.getD 0) = 1 then (some 1) else (if (a0.getD 0) = 2 then (some 2) else (if (a0.getD 0) = 3 then (some 3) else (if (a0.getD 0) = 4 then (some 4) else (if (a0.getD 0) = 5 then (some 5) else (if (a0.getD 0) = 6 then (some 6) else (if (a0.getD 0) = 7 then (some 7) else (if (a0.getD 0) = 8 then (some 8) else (if (a0.getD 0) = 9 then (some 9) else (if (a0.getD 0) = 10 then (some 10) else (if (a0.getD 0) = 11 then (some 11) else (if (a0.getD 0) = 12 then (some 12) else ((vernierlaw00_further.f (some (a0.getD 0))).bind fun t417 => (some t417))))))))))))))) = some r := h
 clear h
 rcases a0 with _ | q416
 ·have H1 : (some 0) = some r := by rw [if_pos (show (none : Option Int).isNone = true by rfl)] at H;exact H
  clear H
  have H := H1
  clear H1
  simp only [errW_none, errW_some]
  obtain rfl := Option.some.inj H
  go_enter Try.func11, Try.ntmps11
  go_wp2
  go_ret
  exact ⟨by first | rfl | (simp;done) | (simp [*];done), by repeat (first | exact Drawn0.refl _ | apply Drawn0.step)⟩
 ·have H1 : (if q416 = 1 then (some 1) else (if q416 = 2 then (some 2) else (if q416 = 3 then (some 3) else (if q416 = 4 then (some 4) else (if q416 = 5 then (some 5) else (if q416 = 6 then (some 6) else (if q416 = 7 then (some 7) else (if q416 = 8 then (some 8) else (if q416 = 9 then (some 9) else (if q416 = 10 then (some 10) else (if q416 = 11 then (some 11) else (if q416 = 12 then (some 12) else ((vernierlaw00_further.f (some q416)).bind fun t417 => (some t417)))))))))))))) = some r := by rw [if_neg (show ¬ (some q416).isNone = true by simp)] at H;exact H
  clear H
  have H := H1
  clear H1
  simp only [errW_none, errW_some]
  by_cases c2 : q416 = 1
  ·rw [if_pos c2] at H
   have c2b0 : (q416 == 1) = true := beq_iff_eq.mpr c2
   have c2b1 : (q416 != 1) = false := bne_eq_false_iff_eq.mpr c2
   clear c2
   obtain rfl := Option.some.inj H
   go_enter Try.func11, Try.ntmps11
   go_wp2
   go_ret
   exact ⟨by first | rfl | (simp;done) | (simp [*];done), by repeat (first | exact Drawn0.refl _ | apply Drawn0.step)⟩
  ·rw [if_neg c2] at H
   have c2b0 : (q416 == 1) = false := beq_eq_false_iff_ne.mpr c2
   have c2b1 : (q416 != 1) = true := bne_iff_ne.mpr c2
   by_cases c3 : q416 = 2
   ·rw [if_pos c3] at H
    have c3b0 : (q416 == 2) = true := beq_iff_eq.mpr c3
    have c3b1 : (q416 != 2) = false := bne_eq_false_iff_eq.mpr c3
    clear c3
    obtain rfl := Option.some.inj H
    go_enter Try.func11, Try.ntmps11
    go_wp2
    go_ret
    exact ⟨by first | rfl | (simp;done) | (simp [*];done), by repeat (first | exact Drawn0.refl _ | apply Drawn0.step)⟩
   ·rw [if_neg c3] at H
    have c3b0 : (q416 == 2) = false := beq_eq_false_iff_ne.mpr c3
    have c3b1 : (q416 != 2) = true := bne_iff_ne.mpr c3
    by_cases c4 : q416 = 3
    ·rw [if_pos c4] at H
     have c4b0 : (q416 == 3) = true := beq_iff_eq.mpr c4
     have c4b1 : (q416 != 3) = false := bne_eq_false_iff_eq.mpr c4
     clear c4
     obtain rfl := Option.some.inj H
     go_enter Try.func11, Try.ntmps11
     go_wp2
     go_ret
     exact ⟨by first | rfl | (simp;done) | (simp [*];done), by repeat (first | exact Drawn0.refl _ | apply Drawn0.step)⟩
    ·rw [if_neg c4] at H
     have c4b0 : (q416 == 3) = false := beq_eq_false_iff_ne.mpr c4
     have c4b1 : (q416 != 3) = true := bne_iff_ne.mpr c4
     by_cases c5 : q416 = 4
     ·rw [if_pos c5] at H
      have c5b0 : (q416 == 4) = true := beq_iff_eq.mpr c5
      have c5b1 : (q416 != 4) = false := bne_eq_false_iff_eq.mpr c5
      clear c5
      obtain rfl := Option.some.inj H
      go_enter Try.func11, Try.ntmps11
      go_wp2
      go_ret
      exact ⟨by first | rfl | (simp;done) | (simp [*];done), by repeat (first | exact Drawn0.refl _ | apply Drawn0.step)⟩
     ·rw [if_neg c5] at H
      have c5b0 : (q416 == 4) = false := beq_eq_false_iff_ne.mpr c5
      have c5b1 : (q416 != 4) = true := bne_iff_ne.mpr c5
      by_cases c6 : q416 = 5
      ·rw [if_pos c6] at H
       have c6b0 : (q416 == 5) = true := beq_iff_eq.mpr c6
       have c6b1 : (q416 != 5) = false := bne_eq_false_iff_eq.mpr c6
       clear c6
       obtain rfl := Option.some.inj H
       go_enter Try.func11, Try.ntmps11
       go_wp2
       go_ret
       exact ⟨by first | rfl | (simp;done) | (simp [*];done), by repeat (first | exact Drawn0.refl _ | apply Drawn0.step)⟩
      ·rw [if_neg c6] at H
       have c6b0 : (q416 == 5) = false := beq_eq_false_iff_ne.mpr c6
       have c6b1 : (q416 != 5) = true := bne_iff_ne.mpr c6
       by_cases c7 : q416 = 6
       ·rw [if_pos c7] at H
        have c7b0 : (q416 == 6) = true := beq_iff_eq.mpr c7
        have c7b1 : (q416 != 6) = false := bne_eq_false_iff_eq.mpr c7
        clear c7
        obtain rfl := Option.some.inj H
        go_enter Try.func11, Try.ntmps11
        go_wp2
        go_ret
        exact ⟨by first | rfl | (simp;done) | (simp [*];done), by repeat (first | exact Drawn0.refl _ | apply Drawn0.step)⟩
       ·rw [if_neg c7] at H
        have c7b0 : (q416 == 6) = false := beq_eq_false_iff_ne.mpr c7
        have c7b1 : (q416 != 6) = true := bne_iff_ne.mpr c7
        by_cases c8 : q416 = 7
        ·rw [if_pos c8] at H
         have c8b0 : (q416 == 7) = true := beq_iff_eq.mpr c8
         have c8b1 : (q416 != 7) = false := bne_eq_false_iff_eq.mpr c8
         clear c8
         obtain rfl := Option.some.inj H
         go_enter Try.func11, Try.ntmps11
         go_wp2
         go_ret
         exact ⟨by first | rfl | (simp;done) | (simp [*];done), by repeat (first | exact Drawn0.refl _ | apply Drawn0.step)⟩
        ·rw [if_neg c8] at H
         have c8b0 : (q416 == 7) = false := beq_eq_false_iff_ne.mpr c8
         have c8b1 : (q416 != 7) = true := bne_iff_ne.mpr c8
         by_cases c9 : q416 = 8
         ·rw [if_pos c9] at H
          have c9b0 : (q416 == 8) = true := beq_iff_eq.mpr c9
          have c9b1 : (q416 != 8) = false := bne_eq_false_iff_eq.mpr c9
          clear c9
          obtain rfl := Option.some.inj H
          go_enter Try.func11, Try.ntmps11
          go_wp2
          go_ret
          exact ⟨by first | rfl | (simp;done) | (simp [*];done), by repeat (first | exact Drawn0.refl _ | apply Drawn0.step)⟩
         ·rw [if_neg c9] at H
          have c9b0 : (q416 == 8) = false := beq_eq_false_iff_ne.mpr c9
          have c9b1 : (q416 != 8) = true := bne_iff_ne.mpr c9
          by_cases c10 : q416 = 9
          ·rw [if_pos c10] at H
           have c10b0 : (q416 == 9) = true := beq_iff_eq.mpr c10
           have c10b1 : (q416 != 9) = false := bne_eq_false_iff_eq.mpr c10
           clear c10
           obtain rfl := Option.some.inj H
           go_enter Try.func11, Try.ntmps11
           go_wp2
           go_ret
           exact ⟨by first | rfl | (simp;done) | (simp [*];done), by repeat (first | exact Drawn0.refl _ | apply Drawn0.step)⟩
          ·rw [if_neg c10] at H
           have c10b0 : (q416 == 9) = false := beq_eq_false_iff_ne.mpr c10
           have c10b1 : (q416 != 9) = true := bne_iff_ne.mpr c10
           by_cases c11 : q416 = 10
           ·rw [if_pos c11] at H
            have c11b0 : (q416 == 10) = true := beq_iff_eq.mpr c11
            have c11b1 : (q416 != 10) = false := bne_eq_false_iff_eq.mpr c11
            clear c11
            obtain rfl := Option.some.inj H
            go_enter Try.func11, Try.ntmps11
            go_wp2
            go_ret
            exact ⟨by first | rfl | (simp;done) | (simp [*];done), by repeat (first | exact Drawn0.refl _ | apply Drawn0.step)⟩
           ·rw [if_neg c11] at H
            have c11b0 : (q416 == 10) = false := beq_eq_false_iff_ne.mpr c11
            have c11b1 : (q416 != 10) = true := bne_iff_ne.mpr c11
            by_cases c12 : q416 = 11
            ·rw [if_pos c12] at H
             have c12b0 : (q416 == 11) = true := beq_iff_eq.mpr c12
             have c12b1 : (q416 != 11) = false := bne_eq_false_iff_eq.mpr c12
             clear c12
             obtain rfl := Option.some.inj H
             go_enter Try.func11, Try.ntmps11
             go_wp2
             go_ret
             exact ⟨by first | rfl | (simp;done) | (simp [*];done), by repeat (first | exact Drawn0.refl _ | apply Drawn0.step)⟩
            ·rw [if_neg c12] at H
             have c12b0 : (q416 == 11) = false := beq_eq_false_iff_ne.mpr c12
             have c12b1 : (q416 != 11) = true := bne_iff_ne.mpr c12
             by_cases c13 : q416 = 12
             ·rw [if_pos c13] at H
              have c13b0 : (q416 == 12) = true := beq_iff_eq.mpr c13
              have c13b1 : (q416 != 12) = false := bne_eq_false_iff_eq.mpr c13
              clear c13
              obtain rfl := Option.some.inj H
              go_enter Try.func11, Try.ntmps11
              go_wp2
              go_ret
              exact ⟨by first | rfl | (simp;done) | (simp [*];done), by repeat (first | exact Drawn0.refl _ | apply Drawn0.step)⟩
             ·rw [if_neg c13] at H
              have c13b0 : (q416 == 12) = false := beq_eq_false_iff_ne.mpr c13
              have c13b1 : (q416 != 12) = true := bne_iff_ne.mpr c13
              replace H := Option.bind_eq_some_iff.mp H
              obtain ⟨t417, A140, H⟩ := H
              replace H : (some t417) = some r := H
              have A14 := am_ A140
              clear A140
              obtain rfl := Option.some.inj H
              have CA14 := fun W => vernierlaw00_further.calls (some q416) t417 W A14.out
              try simp only [errW_none, errW_some] at CA14
              go_enter Try.func11, Try.ntmps11
              go_wp2_with (first | (go_at_call 28;(with_reducible refine (CA14 _).mono ?_);rintro e w' ⟨rfl, ⟨nd, rfl⟩⟩))
              go_ret
              exact ⟨by first | rfl | (simp;done) | (simp [*];done), by repeat (first | exact Drawn0.refl _ | apply Drawn0.step)⟩
-- ERRCMP
end Go.Proofs.Ytebhpipfkomhjaa.PAll
namespace Go.Proofs.Ytebhpipfkomhjaa.PAll
open Go.RowKit Go.Proofs.YtebhpipfkomhjaaW.PrintWords Go.Proofs.YtebhpipfkomhjaaW.PrintLast Go.Proofs.YtebhpipfkomhjaaW.PrintMore
attribute [local go_sem] max2_int min2_int max_two min_two max_three min_three max_four min_four
set_option linter.unusedVariables false
set_option linter.unusedSimpArgs false
def vernierref05_Is.f (a0 : Int) : Option (Bool) := if a0 = 8 then (some true) else (if a0 = 16 then (some true) else (if a0 = 32 then (some true) else (some (a0 == 64))))
set_option maxHeartbeats 8000000 in
set_option maxRecDepth 100000 in
theorem vernierref05_Is.calls (a0 : Int) (r : Bool) (w : World) (h : vernierref05_Is.f a0 = some r) :
  Calls Try.prog 14 #[.int .i64 a0] w fun e w' => e = .returned (.bool r) ∧ Drawn0 w w' := by
 have H : (if a0 = 8 then (some true) else (if a0 = 16 then (some true) else (if a0 = 32 then (some true) else (some (a0 == 64))))) = some r := h
 clear h
 by_cases c2 : a0 = 8
 ·rw [if_pos c2] at H
  have c2b0 : (a0 == 8) = true := beq_iff_eq.mpr c2
  have c2b1 : (a0 != 8) = false := bne_eq_false_iff_eq.mpr c2
  clear c2
  obtain rfl := Option.some.inj H
  go_enter Try.func14, Try.ntmps14
  go_wp2
  go_ret
  exact ⟨by first | rfl | (simp;done) | (simp [*];done), by repeat (first | exact Drawn0.refl _ | apply Drawn0.step)⟩
 ·rw [if_neg c2] at H
  have c2b0 : (a0 == 8) = false := beq_eq_false_iff_ne.mpr c2
  have c2b1 : (a0 != 8) = true := bne_iff_ne.mpr c2
  by_cases c3 : a0 = 16
  ·rw [if_pos c3] at H
   have c3b0 : (a0 == 16) = true := beq_iff_eq.mpr c3
   have c3b1 : (a0 != 16) = false := bne_eq_false_iff_eq.mpr c3
   clear c3
   obtain rfl := Option.some.inj H
   go_enter Try.func14, Try.ntmps14
   go_wp2
   go_ret
   exact ⟨by first | rfl | (simp;done) | (simp [*];done), by repeat (first | exact Drawn0.refl _ | apply Drawn0.step)⟩
  ·rw [if_neg c3] at H
   have c3b0 : (a0 == 16) = false := beq_eq_false_iff_ne.mpr c3
   have c3b1 : (a0 != 16) = true := bne_iff_ne.mpr c3
   by_cases c4 : a0 = 32
   ·rw [if_pos c4] at H
    have c4b0 : (a0 == 32) = true := beq_iff_eq.mpr c4
    have c4b1 : (a0 != 32) = false := bne_eq_false_iff_eq.mpr c4
    clear c4
    obtain rfl := Option.some.inj H
    go_enter Try.func14, Try.ntmps14
    go_wp2
    go_ret
    exact ⟨by first | rfl | (simp;done) | (simp [*];done), by repeat (first | exact Drawn0.refl _ | apply Drawn0.step)⟩
   ·rw [if_neg c4] at H
    have c4b0 : (a0 == 32) = false := beq_eq_false_iff_ne.mpr c4
    have c4b1 : (a0 != 32) = true := bne_iff_ne.mpr c4
    obtain rfl := Option.some.inj H
    go_enter Try.func14, Try.ntmps14
    go_wp2
    go_ret
    exact ⟨by first | rfl | (simp;done) | (simp [*];done), by repeat (first | exact Drawn0.refl _ | apply Drawn0.step)⟩
theorem eqA24 (d : Nat) (w : World) (x0 y0 : Int) (x1 y1 : Bool) (x2 y2 : Int) (x3 y3 : Int) :
  (Op.equalIn (d + 2) 24 (.agg #[.int .i64 x0,.bool x1,.int .i64 x2,.int .u64 x3]) (.agg #[.int .i64 y0,.bool y1,.int .i64 y2,.int .u64 y3])).run Try.prog w = .ok (x0 == y0 && (x1 == y1 && (x2 == y2 && (x3 == y3)))) w := by
 refine eqA_of Try.underlying24 (by kernel_rfl) ?_
 refine eqf_cons (by rfl) (by go_simp;rfl) (by go_simp;rfl) (by go_simp) ?_
 refine eqf_cons (by rfl) (by go_simp;rfl) (by go_simp;rfl) (by go_simp) ?_
 refine eqf_cons (by rfl) (by go_simp;rfl) (by go_simp;rfl) (by go_simp) ?_
 exact eqf_last (by rfl) (by go_simp;rfl) (by go_simp;rfl) (by go_simp)
end Go.Proofs.Ytebhpipfkomhjaa.PAll
